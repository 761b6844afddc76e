/- merged: RwQ RwN RwD -/
import Derived.Test.YtkinkgbmlhiakaaGreatDoorNd14
import Derived.Test.YtkinkgbmlhiakaaGreatDoorNd04
import Derived.IntWalk
import Derived.Lib.Strings
namespace Go.Proofs.YtkinkgbmlhiakaaGreatDoor
section
open Go Go.RowKit
structure RV where
 v : Vl
 n : Nat
 ok : Bool
def noV : RV := ⟨⟨0, ⟨#[]⟩⟩, 0, false⟩
def rdO (s : ByteArray) (a : Nat) : RV := if s.size < a + 8 then noV else ⟨⟨(rdBE 0 ((s.data.toList.drop a).take 8) : Int) - 9223372036854775808, ⟨#[]⟩⟩, a + 8, true⟩
def rdI (s : ByteArray) (a : Nat) : RV := if (rdU 0 (s.data.toList.drop a)).e = 0 then ⟨⟨unzz (rdU 0 (s.data.toList.drop a)).v, ⟨#[]⟩⟩, a + (rdU 0 (s.data.toList.drop a)).n, true⟩ else noV
def rdZ (s : ByteArray) (a : Nat) : RV := if Lib.indexByte (s.data.toList.drop a) 0 < 0 then noV else ⟨⟨0, s.extract a (a + (Lib.indexByte (s.data.toList.drop a) 0).toNat)⟩, a + (Lib.indexByte (s.data.toList.drop a) 0).toNat + 1, true⟩
def rdX (s : ByteArray) (a : Nat) : RV := if (rdT s a).e = 0 then ⟨⟨0, (rdT s a).t⟩, (rdT s a).n, true⟩ else noV
def qCc (k : Int) (s : ByteArray) (a : Nat) : RV := if k = 0 then rdO s a else rdZ s a
def qCu (k : Int) (s : ByteArray) (a : Nat) : RV := if k = 0 then rdI s a else rdX s a
theorem qOg : ∀ (l r : List UInt8), (0 : UInt8) ∉ l -> Lib.indexByte (l ++ 0 :: r) 0 = (l.length : Int)
 | [], r => fun _ => by simp [Lib.indexByte]
 | b :: l, r => fun h => by
  have hb : b ≠ 0 := fun e => h (by simp [e])
  have ih := qOg l r (fun e => h (by simp [e]))
  have e : (b == 0) = false := by simpa using hb
  rw [List.cons_append, Lib.indexByte, e]; simp only [Bool.false_eq_true, if_false, ih]; have e2 : ((l.length : Int) == -1) = false := by rw [beq_eq_false_iff_ne]; omega
  rw [e2]; simp
theorem qEq {s : ByteArray} (h : qDp s = true) : (0 : UInt8) ∉ s.data.toList := by
 intro hm; unfold qDp at h; rw [List.contains_iff_mem.2 hm] at h; cases h
theorem qLd {s t : ByteArray} {a : Nat} {r : List UInt8} (h : s.data.toList.drop a = t.data.toList ++ r) : s.extract a (a + t.data.toList.length) = t := by
 apply qMw; rw [ByteArray.data_extract]; simp only [Array.toList_extract]; rw [List.extract_eq_take_drop, h]; rw [show a + t.data.toList.length - a = t.data.toList.length by omega, List.take_left]
theorem qSb {s : ByteArray} {a : Nat} {l : List UInt8} (h : s.data.toList.drop a = l) (h0 : 0 < l.length) : a + l.length = s.size := by
 have := congrArg List.length h; rw [List.length_drop, Array.length_toList] at this; have : s.data.size = s.size := rfl; omega
theorem jAv {s : ByteArray} {a : Nat} {n : Int} {r : List UInt8} (h : s.data.toList.drop a = ordL n ++ r) (h0 : -9223372036854775808 <= n) (h1 : n <= 9223372036854775807) : rdO s a = ⟨⟨n, ⟨#[]⟩⟩, a + 8, true⟩ := by
 have hl : (ordL n).length = 8 := qDz 8 _; have hs := qSb h (by rw [List.length_append]; omega)
 rw [List.length_append, hl] at hs; have hb := jAy 8 (ordN n) 0; rw [Nat.mod_eq_of_lt (jBe h1), Nat.zero_mul, Nat.zero_add] at hb; unfold rdO; rw [if_neg (by omega), h, List.take_left' hl]
 unfold ordL; rw [hb]; have : ((ordN n : Nat) : Int) - 9223372036854775808 = n := by unfold ordN; omega
 rw [this]
theorem jLm {s : ByteArray} {a : Nat} {n : Int} {r : List UInt8} (h : s.data.toList.drop a = intL n ++ r) (h0 : -9223372036854775808 <= n) (h1 : n <= 9223372036854775807) : rdI s a = ⟨⟨n, ⟨#[]⟩⟩, a + (intL n).length, true⟩ := by
 have hr := jIb h (by have := jIl h0 h1; have e : qFo = 18446744073709551616 := (by decide); omega)
 unfold rdI; rw [hr]; simp only [if_true, jIo]; rfl
theorem jLg {s t : ByteArray} {a : Nat} {r : List UInt8} (h : s.data.toList.drop a = t.data.toList ++ [0] ++ r) (hb : qDp t = true) : rdZ s a = ⟨⟨0, t⟩, a + (t.data.toList.length + 1), true⟩ := by
 rw [List.append_assoc, List.singleton_append] at h; have hi := qOg t.data.toList r (qEq hb); unfold rdZ; rw [h, hi, if_neg (by omega), Int.toNat_natCast, qLd h, Nat.add_assoc]
theorem jLi {s t : ByteArray} {a : Nat} {r : List UInt8} (h : s.data.toList.drop a = qCq t ++ r) (ht : t.size <= 140737488351232) : rdX s a = ⟨⟨0, t⟩, a + (qCq t).length, true⟩ := by
 have hl : t.data.toList.length = t.size := by rw [Array.length_toList]; rfl
 have h' := h; unfold qCq at h'; rw [List.append_assoc] at h'; have hr := jIb h' (by have e : qFo = 18446744073709551616 := (by decide); omega)
 have hd := qKs h'; have hs := qSb h' (by rw [List.length_append]; have := qFe t.size; omega)
 rw [List.length_append, List.length_append, hl] at hs; have he := qLd hd; rw [hl] at he; have hT : rdT s a = ⟨t, a + (uvar t.size).length + t.size, 0⟩ := by
  unfold rdT rtOf; rw [hr]; simp only [if_true]; rw [if_neg (by omega), he]
 unfold rdX; rw [hT]; simp only [if_true, qCq, List.length_append, hl, Nat.add_assoc]
def qFc (keys : Nat) (ks vs : ByteArray) : Nat -> List Int -> Nat -> Nat -> Option (List Vl)
 | _, [], _, _ => some []
 | i, k :: r, a, b =>
  if i < keys then (if (qCc k ks a).ok then (qFc keys ks vs (i + 1) r (qCc k ks a).n b).map ((qCc k ks a).v :: ·) else none)
  else (if (qCu k vs b).ok then (qFc keys ks vs (i + 1) r a (qCu k vs b).n).map ((qCu k vs b).v :: ·) else none)
theorem qQv {v : Vl} (h : qDe 0 v = true) : v = ⟨v.n, ⟨#[]⟩⟩ := by
 obtain ⟨n, s⟩ := v; unfold qDe at h; rw [if_pos rfl, ByteArray.toList_eq, List.isEmpty_iff] at h; have : s = ⟨#[]⟩ := qMw (by rw [h])
 rw [this]
theorem qNp {k : Int} {v : Vl} (hk : k ≠ 0) (h : qDe k v = true) : v = ⟨0, v.s⟩ := by
 obtain ⟨n, s⟩ := v; unfold qDe at h; rw [if_neg hk, beq_iff_eq] at h; simp only at h; rw [h]
theorem qZr {k : Int} {s : ByteArray} {a : Nat} {v : Vl} {r : List UInt8} (h : s.data.toList.drop a = qDn k v ++ r) (hv : v.Ok) (ht : qDe k v = true) (hb : qDp v.s = true) : qCc k s a = ⟨v, a + (qDn k v).length, true⟩ := by
 unfold qDn qRw at h ⊢; unfold qCc; by_cases hk : k = 0
 ·subst hk; rw [if_pos rfl] at h ⊢; rw [if_pos rfl, jAv h hv.n0 hv.n1, <- qQv ht]; rw [show (ordL v.n).length = 8 from qDz 8 _]
 ·rw [if_neg hk] at h ⊢; rw [if_neg hk, jLg h hb, <- qNp hk ht]; simp
theorem qZq {k : Int} {s : ByteArray} {a : Nat} {v : Vl} {r : List UInt8} (h : s.data.toList.drop a = qKf k v ++ r) (hv : v.Ok) (ht : qDe k v = true) : qCu k s a = ⟨v, a + (qKf k v).length, true⟩ := by
 unfold qKf at h ⊢; unfold qCu; by_cases hk : k = 0
 ·subst hk; rw [if_pos rfl] at h ⊢; rw [if_pos rfl, jLm h hv.n0 hv.n1, <- qQv ht]
 ·rw [if_neg hk] at h ⊢; rw [if_neg hk, jLi h hv.s, <- qNp hk ht]
theorem qVd (keys : Nat) (ks vs : ByteArray) : ∀ (cols : List Int) (r : List Vl) (i a b : Nat), r.length = cols.length →
  (∀ v ∈ r, v.Ok) -> (∀ (j : Nat) c v, cols[j]? = some c -> r[j]? = some v -> qDe c v = true) -> (∀ (j : Nat) v, i + j < keys -> r[j]? = some v -> qDp v.s = true) →
  ks.data.toList.drop a = ((cols.zip r).take (keys - i)).flatMap (fun p => qDn p.1 p.2) -> vs.data.toList.drop b = ((cols.zip r).drop (keys - i)).flatMap (fun p => qKf p.1 p.2) →
  qFc keys ks vs i cols a b = some r
 | [], [] => fun i a b _ _ _ _ _ _ => rfl
 | [], v :: r => fun i a b h => by simp at h
 | c :: cols, [] => fun i a b h => by simp at h
 | c :: cols, v :: r => fun i a b hl hv ht hb hk hs => by
  have h1 : qDe c v = true := ht 0 c v rfl rfl; have h2 : v.Ok := hv v (by simp)
  have ih := fun a b => qVd keys ks vs cols r (i + 1) a b (by simpa using hl) (fun x hx => hv x (by simp [hx])) (fun j c' v' hc hv' => ht (j + 1) c' v' hc hv') (fun j v' hj hv' => hb (j + 1) v' (by omega) hv')
  rw [qFc]; by_cases hi : i < keys
  ·rw [if_pos hi]; obtain ⟨m, hm⟩ : ∃ m, keys - i = m + 1 := ⟨keys - i - 1, by omega⟩
   have hm' : keys - (i + 1) = m := by omega
   rw [hm, List.zip_cons_cons, List.take_succ_cons, List.flatMap_cons] at hk; rw [hm, List.zip_cons_cons, List.drop_succ_cons] at hs; rw [hm'] at ih; have hu := qZr hk h2 h1 (hb 0 v (by omega) rfl)
   have hd := qKs hk; rw [hu]; simp only [if_true]; rw [ih _ _ hd hs]; rfl
  ·rw [if_neg hi]; have hm : keys - i = 0 := by omega
   have hm' : keys - (i + 1) = 0 := by omega
   rw [hm, List.take_zero] at hk; rw [hm, List.drop_zero, List.zip_cons_cons, List.flatMap_cons] at hs; rw [hm', List.take_zero, List.drop_zero] at ih; have hu := qZq hs h2 h1; have hd := qKs hs; rw [hu]; simp only [if_true]; rw [ih _ _ hk hd]; rfl
theorem qXw {name : Int} {cols : List Int} {keys idx : Int} {r : List Vl} {p : PX} (hv : ∀ v ∈ r, v.Ok) (h : qBt name cols keys idx r = some p) : qFc keys.toNat (ba p.k) (ba p.v) 0 cols 2 0 = some r := by
 obtain ⟨hg, _, rfl⟩ := qGr h; refine qVd keys.toNat _ _ cols r 0 2 0 hg.len hv hg.typed (fun j v hj hr => hg.bare j v (.inl (by omega)) hr) ?_ ?_
 ·rw [qBk]; rfl
 ·rw [qBk]; unfold pxOf qXx valL; rw [List.take_of_length_le (by rw [List.length_zip, hg.len]; omega)]
  rfl
end
section
open Go Go.RowKit
def riV (at' : Nat) (x : RU) : Value := if x.e = 0 then .tuple #[.int .i64 (unzz x.v), .int .i64 ((at' : Int) + (x.n : Int)), .int .i64 0] else .tuple #[.int .i64 0, .int .i64 0, .int .i64 (x.e : Int)]
theorem jIm {h b : Int} (h0 : 0 <= h) (h1 : h < 9223372036854775808) (hb : b = 0 \/ b = 1) : bits .xor .i64 h (-b) = if b = 1 then -h - 1 else h := by
 obtain ⟨n, rfl⟩ := Int.eq_ofNat_of_zero_le h0; have hn : n < 18446744073709551616 := by omega
 have e1 : (BitVec.ofInt 64 (n : Int)).toNat = n := by
  rw [BitVec.ofInt_natCast, BitVec.toNat_ofNat]; exact Nat.mod_eq_of_lt hn
 rcases hb with rfl | rfl
 ·show IntKind.i64.wrap ((BitVec.ofInt 64 (n : Int) ^^^ BitVec.ofInt 64 (-0)).toNat : Int) = _; rw [BitVec.toNat_xor, e1, show (BitVec.ofInt 64 (-0)).toNat = 0 from rfl, Nat.xor_zero, IntKind.wrap_i64, if_neg (by decide)]
  omega
 ·show IntKind.i64.wrap ((BitVec.ofInt 64 (n : Int) ^^^ BitVec.ofInt 64 (-1)).toNat : Int) = _; rw [BitVec.toNat_xor, e1, show (BitVec.ofInt 64 (-1)).toNat = 18446744073709551615 from rfl, qUo hn, IntKind.wrap_i64, if_pos rfl]
  omega
theorem jKq {v : Nat} (h : v < 18446744073709551616) : bits .and .u64 (v : Int) 1 = ((v % 2 : Nat) : Int) := by
 have := bits_mask .u64 64 (by decide) (fun n h0 h1 => by rw [IntKind.wrap_u64]; omega) 1 (by decide) (v : Int) (by omega) (by omega)
 rw [show (1 : Int) = 2 ^ 1 - 1 from rfl, this]
 omega
set_option maxRecDepth 100000
theorem qTb (s : ByteArray) (at' : Nat) (w : World) (hs : s.size <= maxLen) : Calls Tryz.prog 93 #[.string s, .int .i64 (at' : Int)] w fun e w' => e = .returned (riV at' (rdU 0 (s.data.toList.drop at'))) /\ w = w' := by
 have HU := hid (qFg s at' w hs); obtain ⟨_, _, _, h4⟩ := qGo (s.data.toList.drop at') 0; have h5 := h4 (by omega)
 rw [Nat.pow_zero, Nat.mul_one, show qFo = 18446744073709551616 by decide] at h5
 clear h4; generalize rdU 0 (s.data.toList.drop at') = x at *; obtain ⟨v, n, er⟩ := x; simp only at h5; by_cases he : er = 0
 ·subst he; have hv : ruV at' ⟨v, n, 0⟩ = .tuple #[.int .u64 (v : Int), .int .i64 ((at' : Int) + (n : Int)), .int .i64 0] := rfl; rw [hv] at HU; have HX : Hid (bits .xor .i64 ((v : Int) / 2) (-((v % 2 : Nat) : Int)) = unzz v) := hid (by
   rw [jIm (by omega) (by omega) (by omega)]
   unfold unzz; split <;> split <;> omega)
  have HA := hid (jKq h5); go_enter Tryz.func93, Tryz.ntmps93
  go_wp2_with fail
  refine HU.out.mono ?_; rintro e w' ⟨rfl, rfl⟩; go_wp2_with fail
  rw [HA.out, show wrap64 (-wrap64 ((v % 2 : Nat) : Int)) = -((v % 2 : Nat) : Int) by unfold wrap64; omega, HX.out]
  exact bodyPost_ret (v := .tuple #[.int .i64 (unzz v), .int .i64 ((at' : Int) + (n : Int)), .int .i64 0]) (by simp [results, Tryz.results93, go_sem]) rfl ⟨rfl, rfl⟩
 ·have hv : ruV at' ⟨v, n, er⟩ = .tuple #[.int .u64 0, .int .i64 0, .int .i64 (er : Int)] := by unfold ruV; rw [if_neg he]
  rw [hv] at HU; have HA : Hid (riV at' ⟨v, n, er⟩ = .tuple #[.int .i64 0, .int .i64 0, .int .i64 (er : Int)]) := hid (by unfold riV; rw [if_neg he])
  have hne : ((er : Int) != 0) = true := by rw [bne_iff_ne]; omega
  rw [HA.out]; clear HA hv; go_enter Tryz.func93, Tryz.ntmps93
  go_wp2_with fail
  refine HU.out.mono ?_; rintro e w' ⟨rfl, rfl⟩; go_wp2_with fail
  exact bodyPost_ret (v := .tuple #[.int .i64 0, .int .i64 0, .int .i64 (er : Int)]) (by simp [results, Tryz.results93, go_sem]) rfl ⟨rfl, rfl⟩
theorem jAx : ∀ (l : List UInt8) (a : Nat), rdBE a l < (a + 1) * 256 ^ l.length
 | [], a => by simp [rdBE]
 | b :: r, a => by
  have h := jAx r (a * 256 + b.toNat); have hb : b.toNat < 256 := b.toNat_lt; rw [rdBE, List.length_cons, Nat.pow_succ, Nat.mul_comm (256 ^ r.length) 256, <- Nat.mul_assoc]; exact Nat.lt_of_lt_of_le h (Nat.mul_le_mul_right _ (by omega))
theorem qRi : ∀ (l : List UInt8) (a : Nat) (b : UInt8), rdBE a (l ++ [b]) = rdBE a l * 256 + b.toNat
 | [], a, b => rfl
 | c :: r, a, b => by rw [List.cons_append, rdBE, rdBE, qRi r]
theorem jAw {l : List UInt8} {k : Nat} {b : UInt8} (h : l[k]? = some b) : rdBE 0 (l.take (k + 1)) = rdBE 0 (l.take k) * 256 + b.toNat := by
 obtain ⟨hk, rfl⟩ := List.getElem?_eq_some_iff.1 h; rw [List.take_succ_eq_append_getElem hk, qRi]
theorem qKd (l : List UInt8) (k : Nat) : rdBE 0 (l.take k) < 256 ^ k := by
 have h := jAx (l.take k) 0; rw [Nat.zero_add, Nat.one_mul] at h; exact Nat.lt_of_lt_of_le h (Nat.pow_le_pow_right (by decide) (by rw [List.length_take]; omega))
theorem jJb {u b : Nat} (hu : u < 72057594037927936) (hb : b < 256) : bits .or .u64 (IntKind.u64.wrap ((u : Int) * 256)) (b : Int) = ((u * 256 + b : Nat) : Int) := by
 rw [show IntKind.u64.wrap ((u : Int) * 256) = (u : Int) * 256 by rw [IntKind.wrap_u64]; omega]
 rw [bits_join .u64 64 (by decide) (fun n h0 h1 => by rw [IntKind.wrap_u64]; omega) 8 _ _ (by omega) (by omega) (by omega) (by omega) (by omega) (by omega)]
 omega
theorem jEs {u : Nat} (hu : u < 18446744073709551616) : wrap64 (bits .xor .u64 (u : Int) 9223372036854775808) = (u : Int) - 9223372036854775808 := by
 rw [show (9223372036854775808 : Int) = ((9223372036854775808 : Nat) : Int) from rfl, bits_xor_u64_nat _ _ hu (by decide)]
 unfold wrap64; by_cases h : u < 9223372036854775808
 ·rw [qSo h]; omega
 ·obtain ⟨l, rfl⟩ : ∃ l, u = 9223372036854775808 + l := ⟨u - 9223372036854775808, by omega⟩
  rw [qUn (by omega)]; omega
def roV (s : ByteArray) (at' : Nat) : Value := if s.size < at' + 8 then .tuple #[.int .i64 0, .int .i64 0, .int .i64 20] else .tuple #[.int .i64 ((rdBE 0 ((s.data.toList.drop at').take 8) : Int) - 9223372036854775808), .int .i64 ((at' : Int) + 8), .int .i64 0]
theorem jCz {s : ByteArray} {at' k : Nat} (h : at' + k < s.size) : (s.data.toList.drop at')[k]? = some s[at' + k] := by
 rw [List.getElem?_drop, List.getElem?_eq_getElem (by simpa using h)]
 rfl
theorem qTa (s : ByteArray) (at' : Nat) (w : World) (hs : s.size <= maxLen) (ha : at' <= s.size) : Calls Tryz.prog 91 #[.string s, .int .i64 (at' : Int)] w fun e w' => e = .returned (roV s at') /\ w = w' := by
 unfold roV; unfold maxLen at hs; have d1 : decide ((at' : Int) < 0) = false := by rw [decide_eq_false_iff_not]; omega
 have d2 : decide (s.size < at') = false := by rw [decide_eq_false_iff_not]; omega
 by_cases h8 : s.size < at' + 8
 ·have d0 : decide ((s.size : Int) - (at' : Int) < 8) = true := by rw [decide_eq_true_iff]; omega
  rw [if_pos h8]; go_enter Tryz.func91, Tryz.ntmps91
  go_wp2
  exact bodyPost_ret (v := .tuple #[.int .i64 0, .int .i64 0, .int .i64 20]) (by simp [results, Tryz.results91, go_sem]) rfl ⟨rfl, rfl⟩
 ·have d0 : decide ((s.size : Int) - (at' : Int) < 8) = false := by rw [decide_eq_false_iff_not]; omega
  rw [if_neg h8]; go_enter Tryz.func91, Tryz.ntmps91
  go_wp2
  go_loop [7, 24] (fun u c => ∃ k : Nat, k <= 8 /\ c = .int .i64 (k : Int) /\ u = .int .u64 ((rdBE 0 ((s.data.toList.drop at').take k) : Nat) : Int)) (fun _ c => 8 - (intOf c).toNat)
  case atStart => exact ⟨0, by omega, rfl, rfl⟩
  case round =>
   obtain ⟨k, hk, rfl, rfl⟩ := hrel; by_cases hlt : k < 8
   ·have HT := hid (jAw (jCz (s := s) (at' := at') (k := k) (by omega)))
    have hb : s[at' + k].toNat < 256 := UInt8.toNat_lt _; have HO := hid (jJb (u := rdBE 0 ((s.data.toList.drop at').take k)) (b := s[at' + k].toNat) (Nat.lt_of_lt_of_le (qKd _ k) (Nat.le_trans (Nat.pow_le_pow_right (by decide) (show k <= 7 by omega)) (by decide))) hb)
    have hin : at' + k < s.size := by omega
    have HU8 := hid (qLx hb); clear hb; go_wp2
    go_round
    case rel => exact ⟨k + 1, by omega, by go_num, by rw [HU8.out, HO.out, HT.out]⟩
    case measure => simp [intOf]; omega
   ·have hke : k = 8 := by omega
    subst hke; have HB := hid (jEs (u := rdBE 0 ((s.data.toList.drop at').take 8)) (Nat.lt_of_lt_of_le (qKd _ 8) (by decide)))
    go_wp2
    rw [HB.out]; exact bodyPost_ret (v := .tuple #[.int .i64 ((rdBE 0 ((s.data.toList.drop at').take 8) : Int) - 9223372036854775808), .int .i64 ((at' : Int) + 8), .int .i64 0]) (by simp [results, Tryz.results91, go_sem]) rfl ⟨rfl, rfl⟩
end
section
open Go Go.RowKit
theorem qQc {α : Type} (f : α -> List UInt8) (M : Nat) : ∀ l : List α, (∀ x ∈ l, (f x).length <= M) -> (l.flatMap f).length <= l.length * M
 | [], _ => by simp
 | x :: l, h => by
  have h1 := h x (by simp)
  have h2 := qQc f M l (fun y hy => h y (by simp [hy]))
  rw [List.flatMap_cons, List.length_append, List.length_cons, Nat.add_mul]; omega
theorem jHf {k : Int} {v : Vl} {B : Nat} (h : v.s.size <= B) : (qDn k v).length <= B + 20 := by
 have hl : v.s.data.toList.length = v.s.size := by rw [Array.length_toList]; rfl
 have h8 : (ordL v.n).length = 8 := qDz 8 _; unfold qDn qRw; split
 ·omega
 ·rw [List.length_append, List.length_singleton]; omega
theorem jFn {k : Int} {v : Vl} {B : Nat} (hv : v.Ok) (h : v.s.size <= B) : (qKf k v).length <= B + 20 := by
 have h10 := qWb hv.n0 hv.n1; have ht := qEt (s := v.s) (by have := hv.s; omega)
 unfold qKf; split <;> omega
theorem qGb {cols : List Int} {r : List Vl} (hc : cols.length <= 4194304) (hv : ∀ v ∈ r, v.Ok) (hb : ∀ v ∈ r, v.s.size <= 4194304) :
  (∀ k, (qEb cols r k).length <= 1152921504606846976) /\ ∀ j k, (valL cols r j k).length <= 1152921504606846976 := by
 have hz : (cols.zip r).length <= cols.length := by rw [List.length_zip]; omega
 refine ⟨fun k => ?_, fun j k => ?_⟩
 ·have h := qQc (fun p : Int × Vl => qDn p.1 p.2) 4194324 ((cols.zip r).take k) (fun p hp => jHf (hb _ (List.of_mem_zip (List.mem_of_mem_take hp)).2))
  have hl : ((cols.zip r).take k).length <= 4194304 := by rw [List.length_take]; omega
  have := Nat.mul_le_mul_right 4194324 hl; unfold qEb; omega
 ·have h := qQc (fun p : Int × Vl => qKf p.1 p.2) 4194324 (((cols.zip r).take k).drop j) (fun p hp => jFn (hv _ (List.of_mem_zip (List.mem_of_mem_take (List.mem_of_mem_drop hp))).2) (hb _ (List.of_mem_zip (List.mem_of_mem_take (List.mem_of_mem_drop hp))).2))
  have hl : (((cols.zip r).take k).drop j).length <= 4194304 := by rw [List.length_drop, List.length_take]; omega
  have := Nat.mul_le_mul_right 4194324 hl; unfold valL; omega
def qEr (name : Int) (cols : List Int) (keys idx : Int) (ks vs : ByteArray) (r : List Vl) : Prop :=
 qFc keys.toNat ks vs 0 cols 2 0 = some r /\ ∃ p, qBt name cols keys idx r = some p /\ ba p.k = ks /\ ba p.v = vs
theorem qWm {name : Int} {cols : List Int} {keys idx : Int} {r : List Vl} {p : PX} (hv : ∀ v ∈ r, v.Ok) (h : qBt name cols keys idx r = some p) : qEr name cols keys idx (ba p.k) (ba p.v) r :=
 ⟨qXw hv h, p, h, rfl, rfl⟩
theorem qQg {name : Int} {cols : List Int} {keys idx : Int} {ks vs : ByteArray} {r r' : List Vl} (h : qEr name cols keys idx ks vs r) (h' : qEr name cols keys idx ks vs r') : r' = r := by
 have := h.1.symm.trans h'.1; cases this
 rfl
theorem jKf {name : Int} {cols : List Int} {keys idx : Int} {ks vs : ByteArray} {r : List Vl} (h : qEr name cols keys idx ks vs r) : qJj name cols keys idx = true := by
 obtain ⟨p, hp, _⟩ := h.2; exact (qGr hp).1.fit
theorem qYq {name : Int} {cols : List Int} {keys idx : Int} {ks vs : ByteArray} {r : List Vl} (h : qEr name cols keys idx ks vs r) : Lib.hasPrefix ks.data.toList (qAe name.toNat 0) = true := by
 obtain ⟨p, hp, hk, _⟩ := h.2; rw [<- hk, qBk, (qGr hp).2.2]; unfold pxOf qGe; simp only; unfold Lib.hasPrefix; rw [List.isPrefixOf_iff_prefix]; exact List.prefix_append _ _
theorem qXy {s : ByteArray} {n : Nat} {b : UInt8} (h : Lib.hasPrefix s.data.toList (qAe n b) = true) : 2 <= s.size := by
 unfold Lib.hasPrefix at h; rw [List.isPrefixOf_iff_prefix] at h; exact h.length_le
theorem qGz : (⟨#[]⟩ : ByteArray).size <= 140737488351232 := by decide
theorem qJz : (-9223372036854775808 : Int) <= 0 := by decide
theorem qKa : (0 : Int) <= 9223372036854775807 := by decide
theorem qMd : noV.v.Ok /\ noV.v.s.size = 0 := ⟨⟨by decide, by decide, by decide⟩, rfl⟩
theorem jLk (s : ByteArray) (a : Nat) : (rdO s a).v.Ok /\ (rdO s a).v.s.size = 0 /\ ((rdO s a).ok = true -> (rdO s a).n <= s.size) := by
 unfold rdO; split
 ·exact ⟨qMd.1, qMd.2, fun h => by cases h⟩
 ·have h := qKd (s.data.toList.drop a) 8; rw [show (256 : Nat) ^ 8 = 18446744073709551616 by decide] at h
  exact ⟨⟨by simp only; omega, by simp only; omega, qGz⟩, rfl, fun _ => by simp only; omega⟩
theorem jLl (s : ByteArray) (a : Nat) : (rdI s a).v.Ok /\ (rdI s a).v.s.size = 0 := by
 unfold rdI; split
 ·next h =>
  obtain ⟨_, _, _, h4⟩ := qGo (s.data.toList.drop a) 0; have h5 := h4 (by omega)
  rw [Nat.pow_zero, Nat.mul_one, show qFo = 18446744073709551616 by decide] at h5
  refine ⟨⟨?_, ?_, qGz⟩, rfl⟩
  ·simp only; unfold unzz; split <;> omega
  ·simp only; unfold unzz; split <;> omega
 ·exact qMd
theorem jLf (s : ByteArray) (a : Nat) (hs : s.size <= 140737488351232) : (rdZ s a).v.Ok /\ (rdZ s a).v.s.size <= s.size /\ ((rdZ s a).ok = true -> a <= s.size -> (rdZ s a).n <= s.size) := by
 unfold rdZ; split
 ·exact ⟨qMd.1, by rw [qMd.2]; omega, fun h => by cases h⟩
 ·next h =>
  have hx : (s.extract a (a + (Lib.indexByte (s.data.toList.drop a) 0).toNat)).size <= s.size := by rw [ByteArray.size_extract]; omega
  refine ⟨⟨qJz, qKa, by simp only; omega⟩, hx, fun _ ha => ?_⟩
  obtain ⟨m, hm⟩ := Int.eq_ofNat_of_zero_le (show 0 <= Lib.indexByte (s.data.toList.drop a) 0 by omega)
  have h1 := (List.getElem?_eq_some_iff.1 (Lib.indexByte_some hm).1).1; rw [List.length_drop] at h1; have h2 : s.data.toList.length = s.size := rfl; simp only; omega
theorem jLh (s : ByteArray) (a : Nat) (hs : s.size <= 140737488351232) : (rdX s a).v.Ok /\ (rdX s a).v.s.size <= s.size := by
 have ht : (rdT s a).t.size <= s.size := by
  unfold rdT rtOf; split
  ·split
   ·show 0 <= _; omega
   ·simp only; rw [ByteArray.size_extract]; omega
  ·show 0 <= _; omega
 unfold rdX; split
 ·exact ⟨⟨qJz, qKa, by simp only; omega⟩, ht⟩
 ·exact ⟨qMd.1, by rw [qMd.2]; omega⟩
theorem qQu (k : Int) (s : ByteArray) (a : Nat) (hs : s.size <= 140737488351232) : (qCc k s a).v.Ok /\ (qCc k s a).v.s.size <= s.size /\ ((qCc k s a).ok = true -> a <= s.size -> (qCc k s a).n <= s.size) := by
 unfold qCc; split
 ·obtain ⟨h1, h2, h3⟩ := jLk s a; exact ⟨h1, by omega, fun h _ => h3 h⟩
 ·exact jLf s a hs
theorem qQt (k : Int) (s : ByteArray) (a : Nat) (hs : s.size <= 140737488351232) : (qCu k s a).v.Ok /\ (qCu k s a).v.s.size <= s.size := by
 unfold qCu; split
 ·obtain ⟨h1, h2⟩ := jLl s a; exact ⟨h1, by omega⟩
 ·exact jLh s a hs
theorem qPd {keys : Nat} {ks vs : ByteArray} {B : Nat} (hk : ks.size <= B) (hv : vs.size <= B) (hB : B <= 140737488351232) : ∀ (cols : List Int) (i a b : Nat) (r : List Vl), qFc keys ks vs i cols a b = some r -> r.length = cols.length /\ ∀ v ∈ r, v.Ok /\ v.s.size <= B
 | [], i, a, b, r => fun h => by
  cases h
  exact ⟨rfl, fun v hv => by cases hv⟩
 | c :: cols, i, a, b, r => fun h => by
  rw [qFc] at h; by_cases hi : i < keys
  ·rw [if_pos hi] at h; split at h
   ·cases hr : qFc keys ks vs (i + 1) cols (qCc c ks a).n b with
    | none => rw [hr] at h; cases h
    | some q =>
     rw [hr] at h; cases h
     obtain ⟨h1, h2⟩ := qPd hk hv hB cols _ _ _ _ hr; refine ⟨by simp [h1], fun v hm => ?_⟩
     rcases List.mem_cons.1 hm with rfl | hm
     ·have := qQu c ks a (by omega)
      exact ⟨this.1, by omega⟩
     ·exact h2 v hm
   ·cases h
  ·rw [if_neg hi] at h; split at h
   ·cases hr : qFc keys ks vs (i + 1) cols a (qCu c vs b).n with
    | none => rw [hr] at h; cases h
    | some q =>
     rw [hr] at h; cases h
     obtain ⟨h1, h2⟩ := qPd hk hv hB cols _ _ _ _ hr; refine ⟨by simp [h1], fun v hm => ?_⟩
     rcases List.mem_cons.1 hm with rfl | hm
     ·have := qQt c vs b (by omega)
      exact ⟨this.1, by omega⟩
     ·exact h2 v hm
   ·cases h
theorem jAu {keys : Nat} {ks vs : ByteArray} {i a b : Nat} {c : Int} {cols : List Int} {done : List Vl} {X : Option (List Vl)} (h : X = (qFc keys ks vs i (c :: cols) a b).map (done ++ ·)) (hi : i < keys) :
  ((qCc c ks a).ok = true -> X = (qFc keys ks vs (i + 1) cols (qCc c ks a).n b).map ((done ++ [(qCc c ks a).v]) ++ ·)) /\ ((qCc c ks a).ok = false -> X = none) := by
 rw [h, qFc, if_pos hi]; refine ⟨fun ho => ?_, fun ho => ?_⟩
 ·rw [if_pos ho]; cases qFc keys ks vs (i + 1) cols (qCc c ks a).n b with
  | none => rfl
  | some q => simp
 ·rw [ho]; rfl
theorem jAt {keys : Nat} {ks vs : ByteArray} {i a b : Nat} {c : Int} {cols : List Int} {done : List Vl} {X : Option (List Vl)} (h : X = (qFc keys ks vs i (c :: cols) a b).map (done ++ ·)) (hi : ¬ i < keys) :
  ((qCu c vs b).ok = true -> X = (qFc keys ks vs (i + 1) cols a (qCu c vs b).n).map ((done ++ [(qCu c vs b).v]) ++ ·)) /\ ((qCu c vs b).ok = false -> X = none) := by
 rw [h, qFc, if_neg hi]; refine ⟨fun ho => ?_, fun ho => ?_⟩
 ·rw [if_pos ho]; cases qFc keys ks vs (i + 1) cols a (qCu c vs b).n with
  | none => rfl
  | some q => simp
 ·rw [ho]; rfl
end
end Go.Proofs.YtkinkgbmlhiakaaGreatDoor
