/- merged: RwQ RwN RwD -/
import Derived.Test.YtkinkgbmlhiakaaGreatDoorNb28
import Derived.Test.YtkinkgbmlhiakaaGreatDoorNb13
import Derived.Test.YtkinkgbmlhiakaaGreatDoorNb04
import Derived.IntWalk
import Derived.Lib.Strings
namespace Go.Proofs.YtkinkgbmlhiakaaGreatDoor
section
open Go Go.RowKit
structure RV where
 v : Vl
 n : Nat
 ok : Bool
def noV : RV := ⟨⟨0, ⟨#[]⟩⟩, 0, false⟩
def rdO (s : ByteArray) (a : Nat) : RV := if s.size < a + 8 then noV else ⟨⟨(rdBE 0 ((s.data.toList.drop a).take 8) : Int) - 9223372036854775808, ⟨#[]⟩⟩, a + 8, true⟩
def rdI (s : ByteArray) (a : Nat) : RV := if (rdU 0 (s.data.toList.drop a)).e = 0 then ⟨⟨unzz (rdU 0 (s.data.toList.drop a)).v, ⟨#[]⟩⟩, a + (rdU 0 (s.data.toList.drop a)).n, true⟩ else noV
def rdZ (s : ByteArray) (a : Nat) : RV := if Lib.indexByte (s.data.toList.drop a) 0 < 0 then noV else ⟨⟨0, s.extract a (a + (Lib.indexByte (s.data.toList.drop a) 0).toNat)⟩, a + (Lib.indexByte (s.data.toList.drop a) 0).toNat + 1, true⟩
def rdX (s : ByteArray) (a : Nat) : RV := if (rdT s a).e = 0 then ⟨⟨0, (rdT s a).t⟩, (rdT s a).n, true⟩ else noV
def qCa (k : Int) (s : ByteArray) (a : Nat) : RV := if k = 0 then rdO s a else rdZ s a
def qCp (k : Int) (s : ByteArray) (a : Nat) : RV := if k = 0 then rdI s a else rdX s a
theorem qNo : ∀ (l r : List UInt8), (0 : UInt8) ∉ l -> Lib.indexByte (l ++ 0 :: r) 0 = (l.length : Int)
 | [], r => fun _ => by simp [Lib.indexByte]
 | b :: l, r => fun h => by
  have hb : b ≠ 0 := fun e => h (by simp [e])
  have ih := qNo l r (fun e => h (by simp [e]))
  have e : (b == 0) = false := by simpa using hb
  rw [List.cons_append, Lib.indexByte, e]; simp only [Bool.false_eq_true, if_false, ih]; have e2 : ((l.length : Int) == -1) = false := by rw [beq_eq_false_iff_ne]; omega
  rw [e2]; simp
theorem jGa {s : ByteArray} (h : qHc s = true) : (0 : UInt8) ∉ s.data.toList := by
 intro hm; unfold qHc at h; rw [List.contains_iff_mem.2 hm] at h; cases h
theorem qKg {s t : ByteArray} {a : Nat} {r : List UInt8} (h : s.data.toList.drop a = t.data.toList ++ r) : s.extract a (a + t.data.toList.length) = t := by
 apply qMe; rw [ByteArray.data_extract]; simp only [Array.toList_extract]; rw [List.extract_eq_take_drop, h]; rw [show a + t.data.toList.length - a = t.data.toList.length by omega, List.take_left]
theorem qRd {s : ByteArray} {a : Nat} {l : List UInt8} (h : s.data.toList.drop a = l) (h0 : 0 < l.length) : a + l.length = s.size := by
 have := congrArg List.length h; rw [List.length_drop, Array.length_toList] at this; have : s.data.size = s.size := rfl; omega
theorem qZp {s : ByteArray} {a : Nat} {n : Int} {r : List UInt8} (h : s.data.toList.drop a = ordL n ++ r) (h0 : -9223372036854775808 <= n) (h1 : n <= 9223372036854775807) : rdO s a = ⟨⟨n, ⟨#[]⟩⟩, a + 8, true⟩ := by
 have hl : (ordL n).length = 8 := qDi 8 _; have hs := qRd h (by rw [List.length_append]; omega)
 rw [List.length_append, hl] at hs; have hb := qZs 8 (ordN n) 0; rw [Nat.mod_eq_of_lt (qZx h1), Nat.zero_mul, Nat.zero_add] at hb; unfold rdO; rw [if_neg (by omega), h, List.take_left' hl]
 unfold ordL; rw [hb]; have : ((ordN n : Nat) : Int) - 9223372036854775808 = n := by unfold ordN; omega
 rw [this]
theorem jJz {s : ByteArray} {a : Nat} {n : Int} {r : List UInt8} (h : s.data.toList.drop a = intL n ++ r) (h0 : -9223372036854775808 <= n) (h1 : n <= 9223372036854775807) : rdI s a = ⟨⟨n, ⟨#[]⟩⟩, a + (intL n).length, true⟩ := by
 have hr := jGk h (by have := jGv h0 h1; have e : qFf = 18446744073709551616 := (by decide); omega)
 unfold rdI; rw [hr]; simp only [if_true, jGz]; rfl
theorem jJt {s t : ByteArray} {a : Nat} {r : List UInt8} (h : s.data.toList.drop a = t.data.toList ++ [0] ++ r) (hb : qHc t = true) : rdZ s a = ⟨⟨0, t⟩, a + (t.data.toList.length + 1), true⟩ := by
 rw [List.append_assoc, List.singleton_append] at h; have hi := qNo t.data.toList r (jGa hb); unfold rdZ; rw [h, hi, if_neg (by omega), Int.toNat_natCast, qKg h, Nat.add_assoc]
theorem jJv {s t : ByteArray} {a : Nat} {r : List UInt8} (h : s.data.toList.drop a = qCy t ++ r) (ht : t.size <= 140737488351232) : rdX s a = ⟨⟨0, t⟩, a + (qCy t).length, true⟩ := by
 have hl : t.data.toList.length = t.size := by rw [Array.length_toList]; rfl
 have h' := h; unfold qCy at h'; rw [List.append_assoc] at h'; have hr := jGk h' (by have e : qFf = 18446744073709551616 := (by decide); omega)
 have hd := qJw h'; have hs := qRd h' (by rw [List.length_append]; have := qEt t.size; omega)
 rw [List.length_append, List.length_append, hl] at hs; have he := qKg hd; rw [hl] at he; have hT : rdT s a = ⟨t, a + (uvar t.size).length + t.size, 0⟩ := by
  unfold rdT rtOf; rw [hr]; simp only [if_true]; rw [if_neg (by omega), he]
 unfold rdX; rw [hT]; simp only [if_true, qCy, List.length_append, hl, Nat.add_assoc]
def qEq (keys : Nat) (ks vs : ByteArray) : Nat -> List Int -> Nat -> Nat -> Option (List Vl)
 | _, [], _, _ => some []
 | i, k :: r, a, b =>
  if i < keys then (if (qCa k ks a).ok then (qEq keys ks vs (i + 1) r (qCa k ks a).n b).map ((qCa k ks a).v :: ·) else none)
  else (if (qCp k vs b).ok then (qEq keys ks vs (i + 1) r a (qCp k vs b).n).map ((qCp k vs b).v :: ·) else none)
theorem qPz {v : Vl} (h : qCu 0 v = true) : v = ⟨v.n, ⟨#[]⟩⟩ := by
 obtain ⟨n, s⟩ := v; unfold qCu at h; rw [if_pos rfl, ByteArray.toList_eq, List.isEmpty_iff] at h; have : s = ⟨#[]⟩ := qMe (by rw [h])
 rw [this]
theorem qMw {k : Int} {v : Vl} (hk : k ≠ 0) (h : qCu k v = true) : v = ⟨0, v.s⟩ := by
 obtain ⟨n, s⟩ := v; unfold qCu at h; rw [if_neg hk, beq_iff_eq] at h; simp only at h; rw [h]
theorem qYk {k : Int} {s : ByteArray} {a : Nat} {v : Vl} {r : List UInt8} (h : s.data.toList.drop a = qEc k v ++ r) (hv : v.Ok) (ht : qCu k v = true) (hb : qHc v.s = true) : qCa k s a = ⟨v, a + (qEc k v).length, true⟩ := by
 unfold qEc qQz at h ⊢; unfold qCa; by_cases hk : k = 0
 ·subst hk; rw [if_pos rfl] at h ⊢; rw [if_pos rfl, qZp h hv.n0 hv.n1, <- qPz ht]; rw [show (ordL v.n).length = 8 from qDi 8 _]
 ·rw [if_neg hk] at h ⊢; rw [if_neg hk, jJt h hb, <- qMw hk ht]; simp
theorem qYj {k : Int} {s : ByteArray} {a : Nat} {v : Vl} {r : List UInt8} (h : s.data.toList.drop a = qJi k v ++ r) (hv : v.Ok) (ht : qCu k v = true) : qCp k s a = ⟨v, a + (qJi k v).length, true⟩ := by
 unfold qJi at h ⊢; unfold qCp; by_cases hk : k = 0
 ·subst hk; rw [if_pos rfl] at h ⊢; rw [if_pos rfl, jJz h hv.n0 hv.n1, <- qPz ht]
 ·rw [if_neg hk] at h ⊢; rw [if_neg hk, jJv h hv.s, <- qMw hk ht]
theorem qUa (keys : Nat) (ks vs : ByteArray) : ∀ (cols : List Int) (r : List Vl) (i a b : Nat), r.length = cols.length →
  (∀ v ∈ r, v.Ok) -> (∀ (j : Nat) c v, cols[j]? = some c -> r[j]? = some v -> qCu c v = true) -> (∀ (j : Nat) v, i + j < keys -> r[j]? = some v -> qHc v.s = true) →
  ks.data.toList.drop a = ((cols.zip r).take (keys - i)).flatMap (fun p => qEc p.1 p.2) -> vs.data.toList.drop b = ((cols.zip r).drop (keys - i)).flatMap (fun p => qJi p.1 p.2) →
  qEq keys ks vs i cols a b = some r
 | [], [] => fun i a b _ _ _ _ _ _ => rfl
 | [], v :: r => fun i a b h => by simp at h
 | c :: cols, [] => fun i a b h => by simp at h
 | c :: cols, v :: r => fun i a b hl hv ht hb hk hs => by
  have h1 : qCu c v = true := ht 0 c v rfl rfl; have h2 : v.Ok := hv v (by simp)
  have ih := fun a b => qUa keys ks vs cols r (i + 1) a b (by simpa using hl) (fun x hx => hv x (by simp [hx])) (fun j c' v' hc hv' => ht (j + 1) c' v' hc hv') (fun j v' hj hv' => hb (j + 1) v' (by omega) hv')
  rw [qEq]; by_cases hi : i < keys
  ·rw [if_pos hi]; obtain ⟨m, hm⟩ : ∃ m, keys - i = m + 1 := ⟨keys - i - 1, by omega⟩
   have hm' : keys - (i + 1) = m := by omega
   rw [hm, List.zip_cons_cons, List.take_succ_cons, List.flatMap_cons] at hk; rw [hm, List.zip_cons_cons, List.drop_succ_cons] at hs; rw [hm'] at ih; have hu := qYk hk h2 h1 (hb 0 v (by omega) rfl)
   have hd := qJw hk; rw [hu]; simp only [if_true]; rw [ih _ _ hd hs]; rfl
  ·rw [if_neg hi]; have hm : keys - i = 0 := by omega
   have hm' : keys - (i + 1) = 0 := by omega
   rw [hm, List.take_zero] at hk; rw [hm, List.drop_zero, List.zip_cons_cons, List.flatMap_cons] at hs; rw [hm', List.take_zero, List.drop_zero] at ih; have hu := qYj hs h2 h1; have hd := qJw hs; rw [hu]; simp only [if_true]; rw [ih _ _ hk hd]; rfl
theorem qWm {name : Int} {cols : List Int} {keys idx : Int} {r : List Vl} {p : PX} (hv : ∀ v ∈ r, v.Ok) (h : qBx name cols keys idx r = some p) : qEq keys.toNat (ba p.k) (ba p.v) 0 cols 2 0 = some r := by
 obtain ⟨hg, _, rfl⟩ := qGe h; refine qUa keys.toNat _ _ cols r 0 2 0 hg.len hv hg.typed (fun j v hj hr => hg.bare j v (.inl (by omega)) hr) ?_ ?_
 ·rw [qBt]; rfl
 ·rw [qBt]; unfold pxOf qWn valL; rw [List.take_of_length_le (by rw [List.length_zip, hg.len]; omega)]
  rfl
end
section
open Go Go.RowKit
def riV (at' : Nat) (x : RU) : Value := if x.e = 0 then .tuple #[.int .i64 (unzz x.v), .int .i64 ((at' : Int) + (x.n : Int)), .int .i64 0] else .tuple #[.int .i64 0, .int .i64 0, .int .i64 (x.e : Int)]
theorem jGw {h b : Int} (h0 : 0 <= h) (h1 : h < 9223372036854775808) (hb : b = 0 \/ b = 1) : bits .xor .i64 h (-b) = if b = 1 then -h - 1 else h := by
 obtain ⟨n, rfl⟩ := Int.eq_ofNat_of_zero_le h0; have hn : n < 18446744073709551616 := by omega
 have e1 : (BitVec.ofInt 64 (n : Int)).toNat = n := by
  rw [BitVec.ofInt_natCast, BitVec.toNat_ofNat]; exact Nat.mod_eq_of_lt hn
 rcases hb with rfl | rfl
 ·show IntKind.i64.wrap ((BitVec.ofInt 64 (n : Int) ^^^ BitVec.ofInt 64 (-0)).toNat : Int) = _; rw [BitVec.toNat_xor, e1, show (BitVec.ofInt 64 (-0)).toNat = 0 from rfl, Nat.xor_zero, IntKind.wrap_i64, if_neg (by decide)]
  omega
 ·show IntKind.i64.wrap ((BitVec.ofInt 64 (n : Int) ^^^ BitVec.ofInt 64 (-1)).toNat : Int) = _; rw [BitVec.toNat_xor, e1, show (BitVec.ofInt 64 (-1)).toNat = 18446744073709551615 from rfl, qTl hn, IntKind.wrap_i64, if_pos rfl]
  omega
theorem jJa {v : Nat} (h : v < 18446744073709551616) : bits .and .u64 (v : Int) 1 = ((v % 2 : Nat) : Int) := by
 have := bits_mask .u64 64 (by decide) (fun n h0 h1 => by rw [IntKind.wrap_u64]; omega) 1 (by decide) (v : Int) (by omega) (by omega)
 rw [show (1 : Int) = 2 ^ 1 - 1 from rfl, this]
 omega
set_option maxRecDepth 100000
theorem qSc (s : ByteArray) (at' : Nat) (w : World) (hs : s.size <= maxLen) : Calls Tryz.prog 93 #[.string s, .int .i64 (at' : Int)] w fun e w' => e = .returned (riV at' (rdU 0 (s.data.toList.drop at'))) /\ w = w' := by
 have HU := hid (qEv s at' w hs); obtain ⟨_, _, _, h4⟩ := qGc (s.data.toList.drop at') 0; have h5 := h4 (by omega)
 rw [Nat.pow_zero, Nat.mul_one, show qFf = 18446744073709551616 by decide] at h5
 clear h4; generalize rdU 0 (s.data.toList.drop at') = x at *; obtain ⟨v, n, er⟩ := x; simp only at h5; by_cases he : er = 0
 ·subst he; have hv : ruV at' ⟨v, n, 0⟩ = .tuple #[.int .u64 (v : Int), .int .i64 ((at' : Int) + (n : Int)), .int .i64 0] := rfl; rw [hv] at HU; have HX : Hid (bits .xor .i64 ((v : Int) / 2) (-((v % 2 : Nat) : Int)) = unzz v) := hid (by
   rw [jGw (by omega) (by omega) (by omega)]
   unfold unzz; split <;> split <;> omega)
  have HA := hid (jJa h5); go_enter Tryz.func93, Tryz.ntmps93
  go_wp2_with fail
  refine HU.out.mono ?_; rintro e w' ⟨rfl, rfl⟩; go_wp2_with fail
  rw [HA.out, show wrap64 (-wrap64 ((v % 2 : Nat) : Int)) = -((v % 2 : Nat) : Int) by unfold wrap64; omega, HX.out]
  exact bodyPost_ret (v := .tuple #[.int .i64 (unzz v), .int .i64 ((at' : Int) + (n : Int)), .int .i64 0]) (by simp [results, Tryz.results93, go_sem]) rfl ⟨rfl, rfl⟩
 ·have hv : ruV at' ⟨v, n, er⟩ = .tuple #[.int .u64 0, .int .i64 0, .int .i64 (er : Int)] := by unfold ruV; rw [if_neg he]
  rw [hv] at HU; have HA : Hid (riV at' ⟨v, n, er⟩ = .tuple #[.int .i64 0, .int .i64 0, .int .i64 (er : Int)]) := hid (by unfold riV; rw [if_neg he])
  have hne : ((er : Int) != 0) = true := by rw [bne_iff_ne]; omega
  rw [HA.out]; clear HA hv; go_enter Tryz.func93, Tryz.ntmps93
  go_wp2_with fail
  refine HU.out.mono ?_; rintro e w' ⟨rfl, rfl⟩; go_wp2_with fail
  exact bodyPost_ret (v := .tuple #[.int .i64 0, .int .i64 0, .int .i64 (er : Int)]) (by simp [results, Tryz.results93, go_sem]) rfl ⟨rfl, rfl⟩
theorem qZr : ∀ (l : List UInt8) (a : Nat), rdBE a l < (a + 1) * 256 ^ l.length
 | [], a => by simp [rdBE]
 | b :: r, a => by
  have h := qZr r (a * 256 + b.toNat); have hb : b.toNat < 256 := b.toNat_lt; rw [rdBE, List.length_cons, Nat.pow_succ, Nat.mul_comm (256 ^ r.length) 256, <- Nat.mul_assoc]; exact Nat.lt_of_lt_of_le h (Nat.mul_le_mul_right _ (by omega))
theorem qQk : ∀ (l : List UInt8) (a : Nat) (b : UInt8), rdBE a (l ++ [b]) = rdBE a l * 256 + b.toNat
 | [], a, b => rfl
 | c :: r, a, b => by rw [List.cons_append, rdBE, rdBE, qQk r]
theorem qZq {l : List UInt8} {k : Nat} {b : UInt8} (h : l[k]? = some b) : rdBE 0 (l.take (k + 1)) = rdBE 0 (l.take k) * 256 + b.toNat := by
 obtain ⟨hk, rfl⟩ := List.getElem?_eq_some_iff.1 h; rw [List.take_succ_eq_append_getElem hk, qQk]
theorem qJg (l : List UInt8) (k : Nat) : rdBE 0 (l.take k) < 256 ^ k := by
 have h := qZr (l.take k) 0; rw [Nat.zero_add, Nat.one_mul] at h; exact Nat.lt_of_lt_of_le h (Nat.pow_le_pow_right (by decide) (by rw [List.length_take]; omega))
theorem jHp {u b : Nat} (hu : u < 72057594037927936) (hb : b < 256) : bits .or .u64 (IntKind.u64.wrap ((u : Int) * 256)) (b : Int) = ((u * 256 + b : Nat) : Int) := by
 rw [show IntKind.u64.wrap ((u : Int) * 256) = (u : Int) * 256 by rw [IntKind.wrap_u64]; omega]
 rw [bits_join .u64 64 (by decide) (fun n h0 h1 => by rw [IntKind.wrap_u64]; omega) 8 _ _ (by omega) (by omega) (by omega) (by omega) (by omega) (by omega)]
 omega
theorem jDi {u : Nat} (hu : u < 18446744073709551616) : wrap64 (bits .xor .u64 (u : Int) 9223372036854775808) = (u : Int) - 9223372036854775808 := by
 rw [show (9223372036854775808 : Int) = ((9223372036854775808 : Nat) : Int) from rfl, bits_xor_u64_nat _ _ hu (by decide)]
 unfold wrap64; by_cases h : u < 9223372036854775808
 ·rw [qRq h]; omega
 ·obtain ⟨l, rfl⟩ : ∃ l, u = 9223372036854775808 + l := ⟨u - 9223372036854775808, by omega⟩
  rw [qTk (by omega)]; omega
def roV (s : ByteArray) (at' : Nat) : Value := if s.size < at' + 8 then .tuple #[.int .i64 0, .int .i64 0, .int .i64 20] else .tuple #[.int .i64 ((rdBE 0 ((s.data.toList.drop at').take 8) : Int) - 9223372036854775808), .int .i64 ((at' : Int) + 8), .int .i64 0]
theorem jBo {s : ByteArray} {at' k : Nat} (h : at' + k < s.size) : (s.data.toList.drop at')[k]? = some s[at' + k] := by
 rw [List.getElem?_drop, List.getElem?_eq_getElem (by simpa using h)]
 rfl
theorem qSb (s : ByteArray) (at' : Nat) (w : World) (hs : s.size <= maxLen) (ha : at' <= s.size) : Calls Tryz.prog 91 #[.string s, .int .i64 (at' : Int)] w fun e w' => e = .returned (roV s at') /\ w = w' := by
 unfold roV; unfold maxLen at hs; have d1 : decide ((at' : Int) < 0) = false := by rw [decide_eq_false_iff_not]; omega
 have d2 : decide (s.size < at') = false := by rw [decide_eq_false_iff_not]; omega
 by_cases h8 : s.size < at' + 8
 ·have d0 : decide ((s.size : Int) - (at' : Int) < 8) = true := by rw [decide_eq_true_iff]; omega
  rw [if_pos h8]; go_enter Tryz.func91, Tryz.ntmps91
  go_wp2
  exact bodyPost_ret (v := .tuple #[.int .i64 0, .int .i64 0, .int .i64 20]) (by simp [results, Tryz.results91, go_sem]) rfl ⟨rfl, rfl⟩
 ·have d0 : decide ((s.size : Int) - (at' : Int) < 8) = false := by rw [decide_eq_false_iff_not]; omega
  rw [if_neg h8]; go_enter Tryz.func91, Tryz.ntmps91
  go_wp2
  go_loop [7, 24] (fun u c => ∃ k : Nat, k <= 8 /\ c = .int .i64 (k : Int) /\ u = .int .u64 ((rdBE 0 ((s.data.toList.drop at').take k) : Nat) : Int)) (fun _ c => 8 - (intOf c).toNat)
  case atStart => exact ⟨0, by omega, rfl, rfl⟩
  case round =>
   obtain ⟨k, hk, rfl, rfl⟩ := hrel; by_cases hlt : k < 8
   ·have HT := hid (qZq (jBo (s := s) (at' := at') (k := k) (by omega)))
    have hb : s[at' + k].toNat < 256 := UInt8.toNat_lt _; have HO := hid (jHp (u := rdBE 0 ((s.data.toList.drop at').take k)) (b := s[at' + k].toNat) (Nat.lt_of_lt_of_le (qJg _ k) (Nat.le_trans (Nat.pow_le_pow_right (by decide) (show k <= 7 by omega)) (by decide))) hb)
    have hin : at' + k < s.size := by omega
    have HU8 := hid (qLc hb); clear hb; go_wp2
    go_round
    case rel => exact ⟨k + 1, by omega, by go_num, by rw [HU8.out, HO.out, HT.out]⟩
    case measure => simp [intOf]; omega
   ·have hke : k = 8 := by omega
    subst hke; have HB := hid (jDi (u := rdBE 0 ((s.data.toList.drop at').take 8)) (Nat.lt_of_lt_of_le (qJg _ 8) (by decide)))
    go_wp2
    rw [HB.out]; exact bodyPost_ret (v := .tuple #[.int .i64 ((rdBE 0 ((s.data.toList.drop at').take 8) : Int) - 9223372036854775808), .int .i64 ((at' : Int) + 8), .int .i64 0]) (by simp [results, Tryz.results91, go_sem]) rfl ⟨rfl, rfl⟩
end
section
open Go Go.RowKit
theorem qPe {α : Type} (f : α -> List UInt8) (M : Nat) : ∀ l : List α, (∀ x ∈ l, (f x).length <= M) -> (l.flatMap f).length <= l.length * M
 | [], _ => by simp
 | x :: l, h => by
  have h1 := h x (by simp)
  have h2 := qPe f M l (fun y hy => h y (by simp [hy]))
  rw [List.flatMap_cons, List.length_append, List.length_cons, Nat.add_mul]; omega
theorem jFo {k : Int} {v : Vl} {B : Nat} (h : v.s.size <= B) : (qEc k v).length <= B + 20 := by
 have hl : v.s.data.toList.length = v.s.size := by rw [Array.length_toList]; rfl
 have h8 : (ordL v.n).length = 8 := qDi 8 _; unfold qEc qQz; split
 ·omega
 ·rw [List.length_append, List.length_singleton]; omega
theorem jEb {k : Int} {v : Vl} {B : Nat} (hv : v.Ok) (h : v.s.size <= B) : (qJi k v).length <= B + 20 := by
 have h10 := qUu hv.n0 hv.n1; have ht := qFh (s := v.s) (by have := hv.s; omega)
 unfold qJi; split <;> omega
theorem qHk {cols : List Int} {r : List Vl} (hc : cols.length <= 4194304) (hv : ∀ v ∈ r, v.Ok) (hb : ∀ v ∈ r, v.s.size <= 4194304) :
  (∀ k, (qDs cols r k).length <= 1152921504606846976) /\ ∀ j k, (valL cols r j k).length <= 1152921504606846976 := by
 have hz : (cols.zip r).length <= cols.length := by rw [List.length_zip]; omega
 refine ⟨fun k => ?_, fun j k => ?_⟩
 ·have h := qPe (fun p : Int × Vl => qEc p.1 p.2) 4194324 ((cols.zip r).take k) (fun p hp => jFo (hb _ (List.of_mem_zip (List.mem_of_mem_take hp)).2))
  have hl : ((cols.zip r).take k).length <= 4194304 := by rw [List.length_take]; omega
  have := Nat.mul_le_mul_right 4194324 hl; unfold qDs; omega
 ·have h := qPe (fun p : Int × Vl => qJi p.1 p.2) 4194324 (((cols.zip r).take k).drop j) (fun p hp => jEb (hv _ (List.of_mem_zip (List.mem_of_mem_take (List.mem_of_mem_drop hp))).2) (hb _ (List.of_mem_zip (List.mem_of_mem_take (List.mem_of_mem_drop hp))).2))
  have hl : (((cols.zip r).take k).drop j).length <= 4194304 := by rw [List.length_drop, List.length_take]; omega
  have := Nat.mul_le_mul_right 4194324 hl; unfold valL; omega
def qEs (name : Int) (cols : List Int) (keys idx : Int) (ks vs : ByteArray) (r : List Vl) : Prop :=
 qEq keys.toNat ks vs 0 cols 2 0 = some r /\ ∃ p, qBx name cols keys idx r = some p /\ ba p.k = ks /\ ba p.v = vs
theorem qVf {name : Int} {cols : List Int} {keys idx : Int} {r : List Vl} {p : PX} (hv : ∀ v ∈ r, v.Ok) (h : qBx name cols keys idx r = some p) : qEs name cols keys idx (ba p.k) (ba p.v) r :=
 ⟨qWm hv h, p, h, rfl, rfl⟩
theorem jBs {name : Int} {cols : List Int} {keys idx : Int} {ks vs : ByteArray} {r r' : List Vl} (h : qEs name cols keys idx ks vs r) (h' : qEs name cols keys idx ks vs r') : r' = r := by
 have := h.1.symm.trans h'.1; cases this
 rfl
theorem jIp {name : Int} {cols : List Int} {keys idx : Int} {ks vs : ByteArray} {r : List Vl} (h : qEs name cols keys idx ks vs r) : qJt name cols keys idx = true := by
 obtain ⟨p, hp, _⟩ := h.2; exact (qGe hp).1.fit
theorem qXg {name : Int} {cols : List Int} {keys idx : Int} {ks vs : ByteArray} {r : List Vl} (h : qEs name cols keys idx ks vs r) : Lib.hasPrefix ks.data.toList (qAg name.toNat 0) = true := by
 obtain ⟨p, hp, hk, _⟩ := h.2; rw [<- hk, qBt, (qGe hp).2.2]; unfold pxOf qFu; simp only; unfold Lib.hasPrefix; rw [List.isPrefixOf_iff_prefix]; exact List.prefix_append _ _
theorem qWo {s : ByteArray} {n : Nat} {b : UInt8} (h : Lib.hasPrefix s.data.toList (qAg n b) = true) : 2 <= s.size := by
 unfold Lib.hasPrefix at h; rw [List.isPrefixOf_iff_prefix] at h; exact h.length_le
theorem qIu : (⟨#[]⟩ : ByteArray).size <= 140737488351232 := by decide
theorem qXw : (-9223372036854775808 : Int) <= 0 := by decide
theorem qXx : (0 : Int) <= 9223372036854775807 := by decide
theorem qLk : noV.v.Ok /\ noV.v.s.size = 0 := ⟨⟨by decide, by decide, by decide⟩, rfl⟩
theorem jJx (s : ByteArray) (a : Nat) : (rdO s a).v.Ok /\ (rdO s a).v.s.size = 0 /\ ((rdO s a).ok = true -> (rdO s a).n <= s.size) := by
 unfold rdO; split
 ·exact ⟨qLk.1, qLk.2, fun h => by cases h⟩
 ·have h := qJg (s.data.toList.drop a) 8; rw [show (256 : Nat) ^ 8 = 18446744073709551616 by decide] at h
  exact ⟨⟨by simp only; omega, by simp only; omega, qIu⟩, rfl, fun _ => by simp only; omega⟩
theorem jJy (s : ByteArray) (a : Nat) : (rdI s a).v.Ok /\ (rdI s a).v.s.size = 0 := by
 unfold rdI; split
 ·next h =>
  obtain ⟨_, _, _, h4⟩ := qGc (s.data.toList.drop a) 0; have h5 := h4 (by omega)
  rw [Nat.pow_zero, Nat.mul_one, show qFf = 18446744073709551616 by decide] at h5
  refine ⟨⟨?_, ?_, qIu⟩, rfl⟩
  ·simp only; unfold unzz; split <;> omega
  ·simp only; unfold unzz; split <;> omega
 ·exact qLk
theorem jJs (s : ByteArray) (a : Nat) (hs : s.size <= 140737488351232) : (rdZ s a).v.Ok /\ (rdZ s a).v.s.size <= s.size /\ ((rdZ s a).ok = true -> a <= s.size -> (rdZ s a).n <= s.size) := by
 unfold rdZ; split
 ·exact ⟨qLk.1, by rw [qLk.2]; omega, fun h => by cases h⟩
 ·next h =>
  have hx : (s.extract a (a + (Lib.indexByte (s.data.toList.drop a) 0).toNat)).size <= s.size := by rw [ByteArray.size_extract]; omega
  refine ⟨⟨qXw, qXx, by simp only; omega⟩, hx, fun _ ha => ?_⟩
  obtain ⟨m, hm⟩ := Int.eq_ofNat_of_zero_le (show 0 <= Lib.indexByte (s.data.toList.drop a) 0 by omega)
  have h1 := (List.getElem?_eq_some_iff.1 (Lib.indexByte_some hm).1).1; rw [List.length_drop] at h1; have h2 : s.data.toList.length = s.size := rfl; simp only; omega
theorem jJu (s : ByteArray) (a : Nat) (hs : s.size <= 140737488351232) : (rdX s a).v.Ok /\ (rdX s a).v.s.size <= s.size := by
 have ht : (rdT s a).t.size <= s.size := by
  unfold rdT rtOf; split
  ·split
   ·show 0 <= _; omega
   ·simp only; rw [ByteArray.size_extract]; omega
  ·show 0 <= _; omega
 unfold rdX; split
 ·exact ⟨⟨qXw, qXx, by simp only; omega⟩, ht⟩
 ·exact ⟨qLk.1, by rw [qLk.2]; omega⟩
theorem qPy (k : Int) (s : ByteArray) (a : Nat) (hs : s.size <= 140737488351232) : (qCa k s a).v.Ok /\ (qCa k s a).v.s.size <= s.size /\ ((qCa k s a).ok = true -> a <= s.size -> (qCa k s a).n <= s.size) := by
 unfold qCa; split
 ·obtain ⟨h1, h2, h3⟩ := jJx s a; exact ⟨h1, by omega, fun h _ => h3 h⟩
 ·exact jJs s a hs
theorem qPx (k : Int) (s : ByteArray) (a : Nat) (hs : s.size <= 140737488351232) : (qCp k s a).v.Ok /\ (qCp k s a).v.s.size <= s.size := by
 unfold qCp; split
 ·obtain ⟨h1, h2⟩ := jJy s a; exact ⟨h1, by omega⟩
 ·exact jJu s a hs
theorem qOj {keys : Nat} {ks vs : ByteArray} {B : Nat} (hk : ks.size <= B) (hv : vs.size <= B) (hB : B <= 140737488351232) : ∀ (cols : List Int) (i a b : Nat) (r : List Vl), qEq keys ks vs i cols a b = some r -> r.length = cols.length /\ ∀ v ∈ r, v.Ok /\ v.s.size <= B
 | [], i, a, b, r => fun h => by
  cases h
  exact ⟨rfl, fun v hv => by cases hv⟩
 | c :: cols, i, a, b, r => fun h => by
  rw [qEq] at h; by_cases hi : i < keys
  ·rw [if_pos hi] at h; split at h
   ·cases hr : qEq keys ks vs (i + 1) cols (qCa c ks a).n b with
    | none => rw [hr] at h; cases h
    | some q =>
     rw [hr] at h; cases h
     obtain ⟨h1, h2⟩ := qOj hk hv hB cols _ _ _ _ hr; refine ⟨by simp [h1], fun v hm => ?_⟩
     rcases List.mem_cons.1 hm with rfl | hm
     ·have := qPy c ks a (by omega)
      exact ⟨this.1, by omega⟩
     ·exact h2 v hm
   ·cases h
  ·rw [if_neg hi] at h; split at h
   ·cases hr : qEq keys ks vs (i + 1) cols a (qCp c vs b).n with
    | none => rw [hr] at h; cases h
    | some q =>
     rw [hr] at h; cases h
     obtain ⟨h1, h2⟩ := qOj hk hv hB cols _ _ _ _ hr; refine ⟨by simp [h1], fun v hm => ?_⟩
     rcases List.mem_cons.1 hm with rfl | hm
     ·have := qPx c vs b (by omega)
      exact ⟨this.1, by omega⟩
     ·exact h2 v hm
   ·cases h
theorem qZo {keys : Nat} {ks vs : ByteArray} {i a b : Nat} {c : Int} {cols : List Int} {done : List Vl} {X : Option (List Vl)} (h : X = (qEq keys ks vs i (c :: cols) a b).map (done ++ ·)) (hi : i < keys) :
  ((qCa c ks a).ok = true -> X = (qEq keys ks vs (i + 1) cols (qCa c ks a).n b).map ((done ++ [(qCa c ks a).v]) ++ ·)) /\ ((qCa c ks a).ok = false -> X = none) := by
 rw [h, qEq, if_pos hi]; refine ⟨fun ho => ?_, fun ho => ?_⟩
 ·rw [if_pos ho]; cases qEq keys ks vs (i + 1) cols (qCa c ks a).n b with
  | none => rfl
  | some q => simp
 ·rw [ho]; rfl
theorem qZn {keys : Nat} {ks vs : ByteArray} {i a b : Nat} {c : Int} {cols : List Int} {done : List Vl} {X : Option (List Vl)} (h : X = (qEq keys ks vs i (c :: cols) a b).map (done ++ ·)) (hi : ¬ i < keys) :
  ((qCp c vs b).ok = true -> X = (qEq keys ks vs (i + 1) cols a (qCp c vs b).n).map ((done ++ [(qCp c vs b).v]) ++ ·)) /\ ((qCp c vs b).ok = false -> X = none) := by
 rw [h, qEq, if_neg hi]; refine ⟨fun ho => ?_, fun ho => ?_⟩
 ·rw [if_pos ho]; cases qEq keys ks vs (i + 1) cols a (qCp c vs b).n with
  | none => rfl
  | some q => simp
 ·rw [ho]; rfl
end
end Go.Proofs.YtkinkgbmlhiakaaGreatDoor
