/- merged: RwN RwD -/
import Derived.Test.YtkinkgbmlhiakaaGreatDoorNc04
import Derived.Test.YtkinkgbmlhiakaaGreatDoorNc13
import Derived.IntWalk
import Derived.Test.YtkinkgbmlhiakaaGreatDoorNc14
import Derived.Lib.Strings
namespace Go.Proofs.YtkinkgbmlhiakaaGreatDoor
section
open Go Go.RowKit
def riV (at' : Nat) (x : RU) : Value := if x.e = 0 then .tuple #[.int .i64 (unzz x.v), .int .i64 ((at' : Int) + (x.n : Int)), .int .i64 0] else .tuple #[.int .i64 0, .int .i64 0, .int .i64 (x.e : Int)]
theorem jGk {h b : Int} (h0 : 0 <= h) (h1 : h < 9223372036854775808) (hb : b = 0 \/ b = 1) : bits .xor .i64 h (-b) = if b = 1 then -h - 1 else h := by
 obtain ⟨n, rfl⟩ := Int.eq_ofNat_of_zero_le h0; have hn : n < 18446744073709551616 := by omega
 have e1 : (BitVec.ofInt 64 (n : Int)).toNat = n := by
  rw [BitVec.ofInt_natCast, BitVec.toNat_ofNat]; exact Nat.mod_eq_of_lt hn
 rcases hb with rfl | rfl
 ·show IntKind.i64.wrap ((BitVec.ofInt 64 (n : Int) ^^^ BitVec.ofInt 64 (-0)).toNat : Int) = _; rw [BitVec.toNat_xor, e1, show (BitVec.ofInt 64 (-0)).toNat = 0 from rfl, Nat.xor_zero, IntKind.wrap_i64, if_neg (by decide)]
  omega
 ·show IntKind.i64.wrap ((BitVec.ofInt 64 (n : Int) ^^^ BitVec.ofInt 64 (-1)).toNat : Int) = _; rw [BitVec.toNat_xor, e1, show (BitVec.ofInt 64 (-1)).toNat = 18446744073709551615 from rfl, qSt hn, IntKind.wrap_i64, if_pos rfl]
  omega
theorem jIj {v : Nat} (h : v < 18446744073709551616) : bits .and .u64 (v : Int) 1 = ((v % 2 : Nat) : Int) := by
 have := bits_mask .u64 64 (by decide) (fun n h0 h1 => by rw [IntKind.wrap_u64]; omega) 1 (by decide) (v : Int) (by omega) (by omega)
 rw [show (1 : Int) = 2 ^ 1 - 1 from rfl, this]
 omega
set_option maxRecDepth 100000
theorem qRj (s : ByteArray) (at' : Nat) (w : World) (hs : s.size <= maxLen) : Calls Tryz.prog 93 #[.string s, .int .i64 (at' : Int)] w fun e w' => e = .returned (riV at' (rdU 0 (s.data.toList.drop at'))) /\ w = w' := by
 have HU := hid (qEx s at' w hs); obtain ⟨_, _, _, h4⟩ := qGd (s.data.toList.drop at') 0; have h5 := h4 (by omega)
 rw [Nat.pow_zero, Nat.mul_one, show qFg = 18446744073709551616 by decide] at h5
 clear h4; generalize rdU 0 (s.data.toList.drop at') = x at *; obtain ⟨v, n, er⟩ := x; simp only at h5; by_cases he : er = 0
 ·subst he; have hv : ruV at' ⟨v, n, 0⟩ = .tuple #[.int .u64 (v : Int), .int .i64 ((at' : Int) + (n : Int)), .int .i64 0] := rfl; rw [hv] at HU; have HX : Hid (bits .xor .i64 ((v : Int) / 2) (-((v % 2 : Nat) : Int)) = unzz v) := hid (by
   rw [jGk (by omega) (by omega) (by omega)]
   unfold unzz; split <;> split <;> omega)
  have HA := hid (jIj h5); go_enter Tryz.func93, Tryz.ntmps93
  go_wp2_with fail
  refine HU.out.mono ?_; rintro e w' ⟨rfl, rfl⟩; go_wp2_with fail
  rw [HA.out, show wrap64 (-wrap64 ((v % 2 : Nat) : Int)) = -((v % 2 : Nat) : Int) by unfold wrap64; omega, HX.out]
  exact bodyPost_ret (v := .tuple #[.int .i64 (unzz v), .int .i64 ((at' : Int) + (n : Int)), .int .i64 0]) (by simp [results, Tryz.results93, go_sem]) rfl ⟨rfl, rfl⟩
 ·have hv : ruV at' ⟨v, n, er⟩ = .tuple #[.int .u64 0, .int .i64 0, .int .i64 (er : Int)] := by unfold ruV; rw [if_neg he]
  rw [hv] at HU; have HA : Hid (riV at' ⟨v, n, er⟩ = .tuple #[.int .i64 0, .int .i64 0, .int .i64 (er : Int)]) := hid (by unfold riV; rw [if_neg he])
  have hne : ((er : Int) != 0) = true := by rw [bne_iff_ne]; omega
  rw [HA.out]; clear HA hv; go_enter Tryz.func93, Tryz.ntmps93
  go_wp2_with fail
  refine HU.out.mono ?_; rintro e w' ⟨rfl, rfl⟩; go_wp2_with fail
  exact bodyPost_ret (v := .tuple #[.int .i64 0, .int .i64 0, .int .i64 (er : Int)]) (by simp [results, Tryz.results93, go_sem]) rfl ⟨rfl, rfl⟩
theorem qYp : ∀ (l : List UInt8) (a : Nat), rdBE a l < (a + 1) * 256 ^ l.length
 | [], a => by simp [rdBE]
 | b :: r, a => by
  have h := qYp r (a * 256 + b.toNat); have hb : b.toNat < 256 := b.toNat_lt; rw [rdBE, List.length_cons, Nat.pow_succ, Nat.mul_comm (256 ^ r.length) 256, <- Nat.mul_assoc]; exact Nat.lt_of_lt_of_le h (Nat.mul_le_mul_right _ (by omega))
theorem qPu : ∀ (l : List UInt8) (a : Nat) (b : UInt8), rdBE a (l ++ [b]) = rdBE a l * 256 + b.toNat
 | [], a, b => rfl
 | c :: r, a, b => by rw [List.cons_append, rdBE, rdBE, qPu r]
theorem qYo {l : List UInt8} {k : Nat} {b : UInt8} (h : l[k]? = some b) : rdBE 0 (l.take (k + 1)) = rdBE 0 (l.take k) * 256 + b.toNat := by
 obtain ⟨hk, rfl⟩ := List.getElem?_eq_some_iff.1 h; rw [List.take_succ_eq_append_getElem hk, qPu]
theorem qJc (l : List UInt8) (k : Nat) : rdBE 0 (l.take k) < 256 ^ k := by
 have h := qYp (l.take k) 0; rw [Nat.zero_add, Nat.one_mul] at h; exact Nat.lt_of_lt_of_le h (Nat.pow_le_pow_right (by decide) (by rw [List.length_take]; omega))
theorem jHa {u b : Nat} (hu : u < 72057594037927936) (hb : b < 256) : bits .or .u64 (IntKind.u64.wrap ((u : Int) * 256)) (b : Int) = ((u * 256 + b : Nat) : Int) := by
 rw [show IntKind.u64.wrap ((u : Int) * 256) = (u : Int) * 256 by rw [IntKind.wrap_u64]; omega]
 rw [bits_join .u64 64 (by decide) (fun n h0 h1 => by rw [IntKind.wrap_u64]; omega) 8 _ _ (by omega) (by omega) (by omega) (by omega) (by omega) (by omega)]
 omega
theorem jCm {u : Nat} (hu : u < 18446744073709551616) : wrap64 (bits .xor .u64 (u : Int) 9223372036854775808) = (u : Int) - 9223372036854775808 := by
 rw [show (9223372036854775808 : Int) = ((9223372036854775808 : Nat) : Int) from rfl, bits_xor_u64_nat _ _ hu (by decide)]
 unfold wrap64; by_cases h : u < 9223372036854775808
 ·rw [qQx h]; omega
 ·obtain ⟨l, rfl⟩ : ∃ l, u = 9223372036854775808 + l := ⟨u - 9223372036854775808, by omega⟩
  rw [qSs (by omega)]; omega
def roV (s : ByteArray) (at' : Nat) : Value := if s.size < at' + 8 then .tuple #[.int .i64 0, .int .i64 0, .int .i64 20] else .tuple #[.int .i64 ((rdBE 0 ((s.data.toList.drop at').take 8) : Int) - 9223372036854775808), .int .i64 ((at' : Int) + 8), .int .i64 0]
theorem jAt {s : ByteArray} {at' k : Nat} (h : at' + k < s.size) : (s.data.toList.drop at')[k]? = some s[at' + k] := by
 rw [List.getElem?_drop, List.getElem?_eq_getElem (by simpa using h)]
 rfl
theorem qRi (s : ByteArray) (at' : Nat) (w : World) (hs : s.size <= maxLen) (ha : at' <= s.size) : Calls Tryz.prog 91 #[.string s, .int .i64 (at' : Int)] w fun e w' => e = .returned (roV s at') /\ w = w' := by
 unfold roV; unfold maxLen at hs; have d1 : decide ((at' : Int) < 0) = false := by rw [decide_eq_false_iff_not]; omega
 have d2 : decide (s.size < at') = false := by rw [decide_eq_false_iff_not]; omega
 by_cases h8 : s.size < at' + 8
 ·have d0 : decide ((s.size : Int) - (at' : Int) < 8) = true := by rw [decide_eq_true_iff]; omega
  rw [if_pos h8]; go_enter Tryz.func91, Tryz.ntmps91
  go_wp2
  exact bodyPost_ret (v := .tuple #[.int .i64 0, .int .i64 0, .int .i64 20]) (by simp [results, Tryz.results91, go_sem]) rfl ⟨rfl, rfl⟩
 ·have d0 : decide ((s.size : Int) - (at' : Int) < 8) = false := by rw [decide_eq_false_iff_not]; omega
  rw [if_neg h8]; go_enter Tryz.func91, Tryz.ntmps91
  go_wp2
  go_loop [7, 24] (fun u c => ∃ k : Nat, k <= 8 /\ c = .int .i64 (k : Int) /\ u = .int .u64 ((rdBE 0 ((s.data.toList.drop at').take k) : Nat) : Int)) (fun _ c => 8 - (intOf c).toNat)
  case atStart => exact ⟨0, by omega, rfl, rfl⟩
  case round =>
   obtain ⟨k, hk, rfl, rfl⟩ := hrel; by_cases hlt : k < 8
   ·have HT := hid (qYo (jAt (s := s) (at' := at') (k := k) (by omega)))
    have hb : s[at' + k].toNat < 256 := UInt8.toNat_lt _; have HO := hid (jHa (u := rdBE 0 ((s.data.toList.drop at').take k)) (b := s[at' + k].toNat) (Nat.lt_of_lt_of_le (qJc _ k) (Nat.le_trans (Nat.pow_le_pow_right (by decide) (show k <= 7 by omega)) (by decide))) hb)
    have hin : at' + k < s.size := by omega
    have HU8 := hid (qKx hb); clear hb; go_wp2
    go_round
    case rel => exact ⟨k + 1, by omega, by go_num, by rw [HU8.out, HO.out, HT.out]⟩
    case measure => simp [intOf]; omega
   ·have hke : k = 8 := by omega
    subst hke; have HB := hid (jCm (u := rdBE 0 ((s.data.toList.drop at').take 8)) (Nat.lt_of_lt_of_le (qJc _ 8) (by decide)))
    go_wp2
    rw [HB.out]; exact bodyPost_ret (v := .tuple #[.int .i64 ((rdBE 0 ((s.data.toList.drop at').take 8) : Int) - 9223372036854775808), .int .i64 ((at' : Int) + 8), .int .i64 0]) (by simp [results, Tryz.results91, go_sem]) rfl ⟨rfl, rfl⟩
end
section
open Go Go.RowKit
theorem qOn {α : Type} (f : α -> List UInt8) (M : Nat) : ∀ l : List α, (∀ x ∈ l, (f x).length <= M) -> (l.flatMap f).length <= l.length * M
 | [], _ => by simp
 | x :: l, h => by
  have h1 := h x (by simp)
  have h2 := qOn f M l (fun y hy => h y (by simp [hy]))
  rw [List.flatMap_cons, List.length_append, List.length_cons, Nat.add_mul]; omega
theorem jEz {k : Int} {v : Vl} {B : Nat} (h : v.s.size <= B) : (qCe k v).length <= B + 20 := by
 have hl : v.s.data.toList.length = v.s.size := by rw [Array.length_toList]; rfl
 have h8 : (ordL v.n).length = 8 := qDu 8 _; unfold qCe qQh; split
 ·omega
 ·rw [List.length_append, List.length_singleton]; omega
theorem jDg {k : Int} {v : Vl} {B : Nat} (hv : v.Ok) (h : v.s.size <= B) : (qKg k v).length <= B + 20 := by
 have h10 := jEk hv.n0 hv.n1; have ht := qFh (s := v.s) (by have := hv.s; omega)
 unfold qKg; split <;> omega
theorem qFu {cols : List Int} {r : List Vl} (hc : cols.length <= 4194304) (hv : ∀ v ∈ r, v.Ok) (hb : ∀ v ∈ r, v.s.size <= 4194304) :
  (∀ k, (qEf cols r k).length <= 1152921504606846976) /\ ∀ j k, (valL cols r j k).length <= 1152921504606846976 := by
 have hz : (cols.zip r).length <= cols.length := by rw [List.length_zip]; omega
 refine ⟨fun k => ?_, fun j k => ?_⟩
 ·have h := qOn (fun p : Int × Vl => qCe p.1 p.2) 4194324 ((cols.zip r).take k) (fun p hp => jEz (hb _ (List.of_mem_zip (List.mem_of_mem_take hp)).2))
  have hl : ((cols.zip r).take k).length <= 4194304 := by rw [List.length_take]; omega
  have := Nat.mul_le_mul_right 4194324 hl; unfold qEf; omega
 ·have h := qOn (fun p : Int × Vl => qKg p.1 p.2) 4194324 (((cols.zip r).take k).drop j) (fun p hp => jDg (hv _ (List.of_mem_zip (List.mem_of_mem_take (List.mem_of_mem_drop hp))).2) (hb _ (List.of_mem_zip (List.mem_of_mem_take (List.mem_of_mem_drop hp))).2))
  have hl : (((cols.zip r).take k).drop j).length <= 4194304 := by rw [List.length_drop, List.length_take]; omega
  have := Nat.mul_le_mul_right 4194324 hl; unfold valL; omega
def qEs (name : Int) (cols : List Int) (keys idx : Int) (ks vs : ByteArray) (r : List Vl) : Prop :=
 qEu keys.toNat ks vs 0 cols 2 0 = some r /\ ∃ p, qDn name cols keys idx r = some p /\ ba p.k = ks /\ ba p.v = vs
theorem jFj {name : Int} {cols : List Int} {keys idx : Int} {r : List Vl} {p : PX} (hv : ∀ v ∈ r, v.Ok) (h : qDn name cols keys idx r = some p) : qEs name cols keys idx (ba p.k) (ba p.v) r :=
 ⟨qVp hv h, p, h, rfl, rfl⟩
theorem jAx {name : Int} {cols : List Int} {keys idx : Int} {ks vs : ByteArray} {r r' : List Vl} (h : qEs name cols keys idx ks vs r) (h' : qEs name cols keys idx ks vs r') : r' = r := by
 have := h.1.symm.trans h'.1; cases this
 rfl
theorem jHy {name : Int} {cols : List Int} {keys idx : Int} {ks vs : ByteArray} {r : List Vl} (h : qEs name cols keys idx ks vs r) : qDw name cols keys idx = true := by
 obtain ⟨p, hp, _⟩ := h.2; exact (qIe hp).1.fit
theorem qWh {name : Int} {cols : List Int} {keys idx : Int} {ks vs : ByteArray} {r : List Vl} (h : qEs name cols keys idx ks vs r) : Lib.hasPrefix ks.data.toList (qAj name.toNat 0) = true := by
 obtain ⟨p, hp, hk, _⟩ := h.2; rw [<- hk, qDs, (qIe hp).2.2]; unfold pxOf qHc; simp only; unfold Lib.hasPrefix; rw [List.isPrefixOf_iff_prefix]; exact List.prefix_append _ _
theorem qVq {s : ByteArray} {n : Nat} {b : UInt8} (h : Lib.hasPrefix s.data.toList (qAj n b) = true) : 2 <= s.size := by
 unfold Lib.hasPrefix at h; rw [List.isPrefixOf_iff_prefix] at h; exact h.length_le
theorem qQk : (⟨#[]⟩ : ByteArray).size <= 140737488351232 := by decide
theorem qWx : (-9223372036854775808 : Int) <= 0 := by decide
theorem qWy : (0 : Int) <= 9223372036854775807 := by decide
theorem qLd : noV.v.Ok /\ noV.v.s.size = 0 := ⟨⟨by decide, by decide, by decide⟩, rfl⟩
theorem jJe (s : ByteArray) (a : Nat) : (rdO s a).v.Ok /\ (rdO s a).v.s.size = 0 /\ ((rdO s a).ok = true -> (rdO s a).n <= s.size) := by
 unfold rdO; split
 ·exact ⟨qLd.1, qLd.2, fun h => by cases h⟩
 ·have h := qJc (s.data.toList.drop a) 8; rw [show (256 : Nat) ^ 8 = 18446744073709551616 by decide] at h
  exact ⟨⟨by simp only; omega, by simp only; omega, qQk⟩, rfl, fun _ => by simp only; omega⟩
theorem jJf (s : ByteArray) (a : Nat) : (rdI s a).v.Ok /\ (rdI s a).v.s.size = 0 := by
 unfold rdI; split
 ·next h =>
  obtain ⟨_, _, _, h4⟩ := qGd (s.data.toList.drop a) 0; have h5 := h4 (by omega)
  rw [Nat.pow_zero, Nat.mul_one, show qFg = 18446744073709551616 by decide] at h5
  refine ⟨⟨?_, ?_, qQk⟩, rfl⟩
  ·simp only; unfold unzz; split <;> omega
  ·simp only; unfold unzz; split <;> omega
 ·exact qLd
theorem jIz (s : ByteArray) (a : Nat) (hs : s.size <= 140737488351232) : (rdZ s a).v.Ok /\ (rdZ s a).v.s.size <= s.size /\ ((rdZ s a).ok = true -> a <= s.size -> (rdZ s a).n <= s.size) := by
 unfold rdZ; split
 ·exact ⟨qLd.1, by rw [qLd.2]; omega, fun h => by cases h⟩
 ·next h =>
  have hx : (s.extract a (a + (Lib.indexByte (s.data.toList.drop a) 0).toNat)).size <= s.size := by rw [ByteArray.size_extract]; omega
  refine ⟨⟨qWx, qWy, by simp only; omega⟩, hx, fun _ ha => ?_⟩
  obtain ⟨m, hm⟩ := Int.eq_ofNat_of_zero_le (show 0 <= Lib.indexByte (s.data.toList.drop a) 0 by omega)
  have h1 := (List.getElem?_eq_some_iff.1 (Lib.indexByte_some hm).1).1; rw [List.length_drop] at h1; have h2 : s.data.toList.length = s.size := rfl; simp only; omega
theorem jJb (s : ByteArray) (a : Nat) (hs : s.size <= 140737488351232) : (rdX s a).v.Ok /\ (rdX s a).v.s.size <= s.size := by
 have ht : (rdT s a).t.size <= s.size := by
  unfold rdT rtOf; split
  ·split
   ·show 0 <= _; omega
   ·simp only; rw [ByteArray.size_extract]; omega
  ·show 0 <= _; omega
 unfold rdX; split
 ·exact ⟨⟨qWx, qWy, by simp only; omega⟩, ht⟩
 ·exact ⟨qLd.1, by rw [qLd.2]; omega⟩
theorem qPh (k : Int) (s : ByteArray) (a : Nat) (hs : s.size <= 140737488351232) : (qBy k s a).v.Ok /\ (qBy k s a).v.s.size <= s.size /\ ((qBy k s a).ok = true -> a <= s.size -> (qBy k s a).n <= s.size) := by
 unfold qBy; split
 ·obtain ⟨h1, h2, h3⟩ := jJe s a; exact ⟨h1, by omega, fun h _ => h3 h⟩
 ·exact jIz s a hs
theorem qPg (k : Int) (s : ByteArray) (a : Nat) (hs : s.size <= 140737488351232) : (qCo k s a).v.Ok /\ (qCo k s a).v.s.size <= s.size := by
 unfold qCo; split
 ·obtain ⟨h1, h2⟩ := jJf s a; exact ⟨h1, by omega⟩
 ·exact jJb s a hs
theorem qNv {keys : Nat} {ks vs : ByteArray} {B : Nat} (hk : ks.size <= B) (hv : vs.size <= B) (hB : B <= 140737488351232) : ∀ (cols : List Int) (i a b : Nat) (r : List Vl), qEu keys ks vs i cols a b = some r -> r.length = cols.length /\ ∀ v ∈ r, v.Ok /\ v.s.size <= B
 | [], i, a, b, r => fun h => by
  cases h
  exact ⟨rfl, fun v hv => by cases hv⟩
 | c :: cols, i, a, b, r => fun h => by
  rw [qEu] at h; by_cases hi : i < keys
  ·rw [if_pos hi] at h; split at h
   ·cases hr : qEu keys ks vs (i + 1) cols (qBy c ks a).n b with
    | none => rw [hr] at h; cases h
    | some q =>
     rw [hr] at h; cases h
     obtain ⟨h1, h2⟩ := qNv hk hv hB cols _ _ _ _ hr; refine ⟨by simp [h1], fun v hm => ?_⟩
     rcases List.mem_cons.1 hm with rfl | hm
     ·have := qPh c ks a (by omega)
      exact ⟨this.1, by omega⟩
     ·exact h2 v hm
   ·cases h
  ·rw [if_neg hi] at h; split at h
   ·cases hr : qEu keys ks vs (i + 1) cols a (qCo c vs b).n with
    | none => rw [hr] at h; cases h
    | some q =>
     rw [hr] at h; cases h
     obtain ⟨h1, h2⟩ := qNv hk hv hB cols _ _ _ _ hr; refine ⟨by simp [h1], fun v hm => ?_⟩
     rcases List.mem_cons.1 hm with rfl | hm
     ·have := qPg c vs b (by omega)
      exact ⟨this.1, by omega⟩
     ·exact h2 v hm
   ·cases h
theorem qYm {keys : Nat} {ks vs : ByteArray} {i a b : Nat} {c : Int} {cols : List Int} {done : List Vl} {X : Option (List Vl)} (h : X = (qEu keys ks vs i (c :: cols) a b).map (done ++ ·)) (hi : i < keys) :
  ((qBy c ks a).ok = true -> X = (qEu keys ks vs (i + 1) cols (qBy c ks a).n b).map ((done ++ [(qBy c ks a).v]) ++ ·)) /\ ((qBy c ks a).ok = false -> X = none) := by
 rw [h, qEu, if_pos hi]; refine ⟨fun ho => ?_, fun ho => ?_⟩
 ·rw [if_pos ho]; cases qEu keys ks vs (i + 1) cols (qBy c ks a).n b with
  | none => rfl
  | some q => simp
 ·rw [ho]; rfl
theorem qYl {keys : Nat} {ks vs : ByteArray} {i a b : Nat} {c : Int} {cols : List Int} {done : List Vl} {X : Option (List Vl)} (h : X = (qEu keys ks vs i (c :: cols) a b).map (done ++ ·)) (hi : ¬ i < keys) :
  ((qCo c vs b).ok = true -> X = (qEu keys ks vs (i + 1) cols a (qCo c vs b).n).map ((done ++ [(qCo c vs b).v]) ++ ·)) /\ ((qCo c vs b).ok = false -> X = none) := by
 rw [h, qEu, if_neg hi]; refine ⟨fun ho => ?_, fun ho => ?_⟩
 ·rw [if_pos ho]; cases qEu keys ks vs (i + 1) cols a (qCo c vs b).n with
  | none => rfl
  | some q => simp
 ·rw [ho]; rfl
end
end Go.Proofs.YtkinkgbmlhiakaaGreatDoor
