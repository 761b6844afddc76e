/- Rows, plain: what Decode answers -/
import Derived.Test.YtoclecpedhbokaaRwQ
import Derived.Test.YtoclecpedhbokaaRwN
import Derived.Lib.Strings
namespace Go.Proofs.Ytoclecpedhbokaa
open Go Go.RowKit

theorem flat_le {α : Type} (f : α → List UInt8) (M : Nat) : ∀ l : List α, (∀ x ∈ l, (f x).length ≤ M) → (l.flatMap f).length ≤ l.length * M
  | [], _ => by simp
  | x :: l, h => by
    have h1 := h x (by simp)
    have h2 := flat_le f M l (fun y hy => h y (by simp [hy]))
    rw [List.flatMap_cons, List.length_append, List.length_cons, Nat.add_mul]
    omega

theorem form_len {k : Int} {v : Vl} {B : Nat} (h : v.s.size ≤ B) : (formV k v).length ≤ B + 20 := by
  have hl : v.s.data.toList.length = v.s.size := by rw [Array.length_toList]; rfl
  have h8 : (ordL v.n).length = 8 := be_len 8 _
  unfold formV formL
  split
  · omega
  · rw [List.length_append, List.length_singleton]; omega
theorem pack_len {k : Int} {v : Vl} {B : Nat} (hv : v.Ok) (h : v.s.size ≤ B) : (packV k v).length ≤ B + 20 := by
  have h10 := intL_len hv.n0 hv.n1
  have ht := textL_len (s := v.s) (by have := hv.s; omega)
  unfold packV
  split <;> omega

/-- The sizes stay small where all is small. -/
theorem sizes_small {cols : List Int} {r : List Vl} (hc : cols.length ≤ 4194304) (hv : ∀ v ∈ r, v.Ok) (hb : ∀ v ∈ r, v.s.size ≤ 4194304) :
    (∀ k, (keysL cols r k).length ≤ 1152921504606846976) ∧ ∀ j k, (valL cols r j k).length ≤ 1152921504606846976 := by
  have hz : (cols.zip r).length ≤ cols.length := by rw [List.length_zip]; omega
  refine ⟨fun k => ?_, fun j k => ?_⟩
  · have h := flat_le (fun p : Int × Vl => formV p.1 p.2) 4194324 ((cols.zip r).take k) (fun p hp => form_len (hb _ (List.of_mem_zip (List.mem_of_mem_take hp)).2))
    have hl : ((cols.zip r).take k).length ≤ 4194304 := by rw [List.length_take]; omega
    have := Nat.mul_le_mul_right 4194324 hl
    unfold keysL
    omega
  · have h := flat_le (fun p : Int × Vl => packV p.1 p.2) 4194324 (((cols.zip r).take k).drop j) (fun p hp => pack_len (hv _ (List.of_mem_zip (List.mem_of_mem_take (List.mem_of_mem_drop hp))).2) (hb _ (List.of_mem_zip (List.mem_of_mem_take (List.mem_of_mem_drop hp))).2))
    have hl : (((cols.zip r).take k).drop j).length ≤ 4194304 := by rw [List.length_drop, List.length_take]; omega
    have := Nat.mul_le_mul_right 4194324 hl
    unfold valL
    omega

/-- The row that is read, where the pair is its own. -/
def DecOk (name : Int) (cols : List Int) (keys idx : Int) (ks vs : ByteArray) (r : List Vl) : Prop :=
  readR keys.toNat ks vs 0 cols 2 0 = some r ∧ ∃ p, pairO name cols keys idx r = some p ∧ ba p.k = ks ∧ ba p.v = vs

/-- A row's own pair is read back. -/
theorem dec_pair {name : Int} {cols : List Int} {keys idx : Int} {r : List Vl} {p : PX} (hv : ∀ v ∈ r, v.Ok) (h : pairO name cols keys idx r = some p) : DecOk name cols keys idx (ba p.k) (ba p.v) r :=
  ⟨readR_pair hv h, p, h, rfl, rfl⟩
theorem dec_one {name : Int} {cols : List Int} {keys idx : Int} {ks vs : ByteArray} {r r' : List Vl} (h : DecOk name cols keys idx ks vs r) (h' : DecOk name cols keys idx ks vs r') : r' = r := by
  have := h.1.symm.trans h'.1
  cases this
  rfl
theorem dec_fit {name : Int} {cols : List Int} {keys idx : Int} {ks vs : ByteArray} {r : List Vl} (h : DecOk name cols keys idx ks vs r) : fitB name cols keys idx = true := by
  obtain ⟨p, hp, _⟩ := h.2
  exact (pairO_inv hp).1.fit
theorem dec_prefix {name : Int} {cols : List Int} {keys idx : Int} {ks vs : ByteArray} {r : List Vl} (h : DecOk name cols keys idx ks vs r) : Lib.hasPrefix ks.data.toList (headL name.toNat 0) = true := by
  obtain ⟨p, hp, hk, _⟩ := h.2
  rw [← hk, ba_data, (pairO_inv hp).2.2]
  unfold pxOf pkeyL
  simp only
  unfold Lib.hasPrefix
  rw [List.isPrefixOf_iff_prefix]
  exact List.prefix_append _ _

theorem prefix_two {s : ByteArray} {n : Nat} {b : UInt8} (h : Lib.hasPrefix s.data.toList (headL n b) = true) : 2 ≤ s.size := by
  unfold Lib.hasPrefix at h
  rw [List.isPrefixOf_iff_prefix] at h
  exact h.length_le

theorem emp_small : (⟨#[]⟩ : ByteArray).size ≤ 140737488351232 := by decide
theorem zero_lo : (-9223372036854775808 : Int) ≤ 0 := by decide
theorem zero_hi : (0 : Int) ≤ 9223372036854775807 := by decide
theorem noV_ok : noV.v.Ok ∧ noV.v.s.size = 0 := ⟨⟨by decide, by decide, by decide⟩, rfl⟩
theorem rdO_ok (s : ByteArray) (a : Nat) : (rdO s a).v.Ok ∧ (rdO s a).v.s.size = 0 ∧ ((rdO s a).ok = true → (rdO s a).n ≤ s.size) := by
  unfold rdO
  split
  · exact ⟨noV_ok.1, noV_ok.2, fun h => by cases h⟩
  · have h := rdBE_small (s.data.toList.drop a) 8
    rw [show (256 : Nat) ^ 8 = 18446744073709551616 by decide] at h
    exact ⟨⟨by simp only; omega, by simp only; omega, emp_small⟩, rfl, fun _ => by simp only; omega⟩
theorem rdI_ok (s : ByteArray) (a : Nat) : (rdI s a).v.Ok ∧ (rdI s a).v.s.size = 0 := by
  unfold rdI
  split
  · next h =>
    obtain ⟨_, _, _, h4⟩ := rdU_bound (s.data.toList.drop a) 0
    have h5 := h4 (by omega)
    rw [Nat.pow_zero, Nat.mul_one, show two64 = 18446744073709551616 by decide] at h5
    refine ⟨⟨?_, ?_, emp_small⟩, rfl⟩
    · simp only; unfold unzz; split <;> omega
    · simp only; unfold unzz; split <;> omega
  · exact noV_ok
theorem rdZ_ok (s : ByteArray) (a : Nat) (hs : s.size ≤ 140737488351232) : (rdZ s a).v.Ok ∧ (rdZ s a).v.s.size ≤ s.size ∧ ((rdZ s a).ok = true → a ≤ s.size → (rdZ s a).n ≤ s.size) := by
  unfold rdZ
  split
  · exact ⟨noV_ok.1, by rw [noV_ok.2]; omega, fun h => by cases h⟩
  · next h =>
    have hx : (s.extract a (a + (Lib.indexByte (s.data.toList.drop a) 0).toNat)).size ≤ s.size := by rw [ByteArray.size_extract]; omega
    refine ⟨⟨zero_lo, zero_hi, by simp only; omega⟩, hx, fun _ ha => ?_⟩
    obtain ⟨m, hm⟩ := Int.eq_ofNat_of_zero_le (show 0 ≤ Lib.indexByte (s.data.toList.drop a) 0 by omega)
    have h1 := (List.getElem?_eq_some_iff.1 (Lib.indexByte_some hm).1).1
    rw [List.length_drop] at h1
    have h2 : s.data.toList.length = s.size := rfl
    simp only
    omega
theorem rdX_ok (s : ByteArray) (a : Nat) (hs : s.size ≤ 140737488351232) : (rdX s a).v.Ok ∧ (rdX s a).v.s.size ≤ s.size := by
  have ht : (rdT s a).t.size ≤ s.size := by
    unfold rdT rtOf
    split
    · split
      · show 0 ≤ _; omega
      · simp only; rw [ByteArray.size_extract]; omega
    · show 0 ≤ _; omega
  unfold rdX
  split
  · exact ⟨⟨zero_lo, zero_hi, by simp only; omega⟩, ht⟩
  · exact ⟨noV_ok.1, by rw [noV_ok.2]; omega⟩
theorem unform_ok (k : Int) (s : ByteArray) (a : Nat) (hs : s.size ≤ 140737488351232) : (unformV k s a).v.Ok ∧ (unformV k s a).v.s.size ≤ s.size ∧ ((unformV k s a).ok = true → a ≤ s.size → (unformV k s a).n ≤ s.size) := by
  unfold unformV
  split
  · obtain ⟨h1, h2, h3⟩ := rdO_ok s a
    exact ⟨h1, by omega, fun h _ => h3 h⟩
  · exact rdZ_ok s a hs
theorem unpack_ok (k : Int) (s : ByteArray) (a : Nat) (hs : s.size ≤ 140737488351232) : (unpackV k s a).v.Ok ∧ (unpackV k s a).v.s.size ≤ s.size := by
  unfold unpackV
  split
  · obtain ⟨h1, h2⟩ := rdI_ok s a
    exact ⟨h1, by omega⟩
  · exact rdX_ok s a hs

theorem readR_ok {keys : Nat} {ks vs : ByteArray} {B : Nat} (hk : ks.size ≤ B) (hv : vs.size ≤ B) (hB : B ≤ 140737488351232) : ∀ (cols : List Int) (i a b : Nat) (r : List Vl), readR keys ks vs i cols a b = some r → r.length = cols.length ∧ ∀ v ∈ r, v.Ok ∧ v.s.size ≤ B
  | [], i, a, b, r => fun h => by
    cases h
    exact ⟨rfl, fun v hv => by cases hv⟩
  | c :: cols, i, a, b, r => fun h => by
    rw [readR] at h
    by_cases hi : i < keys
    · rw [if_pos hi] at h
      split at h
      · cases hr : readR keys ks vs (i + 1) cols (unformV c ks a).n b with
        | none => rw [hr] at h; cases h
        | some q =>
          rw [hr] at h
          cases h
          obtain ⟨h1, h2⟩ := readR_ok hk hv hB cols _ _ _ _ hr
          refine ⟨by simp [h1], fun v hm => ?_⟩
          rcases List.mem_cons.1 hm with rfl | hm
          · have := unform_ok c ks a (by omega)
            exact ⟨this.1, by omega⟩
          · exact h2 v hm
      · cases h
    · rw [if_neg hi] at h
      split at h
      · cases hr : readR keys ks vs (i + 1) cols a (unpackV c vs b).n with
        | none => rw [hr] at h; cases h
        | some q =>
          rw [hr] at h
          cases h
          obtain ⟨h1, h2⟩ := readR_ok hk hv hB cols _ _ _ _ hr
          refine ⟨by simp [h1], fun v hm => ?_⟩
          rcases List.mem_cons.1 hm with rfl | hm
          · have := unpack_ok c vs b (by omega)
            exact ⟨this.1, by omega⟩
          · exact h2 v hm
      · cases h

/-- One column more is read. -/
theorem readR_key {keys : Nat} {ks vs : ByteArray} {i a b : Nat} {c : Int} {cols : List Int} {done : List Vl} {X : Option (List Vl)} (h : X = (readR keys ks vs i (c :: cols) a b).map (done ++ ·)) (hi : i < keys) :
    ((unformV c ks a).ok = true → X = (readR keys ks vs (i + 1) cols (unformV c ks a).n b).map ((done ++ [(unformV c ks a).v]) ++ ·)) ∧ ((unformV c ks a).ok = false → X = none) := by
  rw [h, readR, if_pos hi]
  refine ⟨fun ho => ?_, fun ho => ?_⟩
  · rw [if_pos ho]
    cases readR keys ks vs (i + 1) cols (unformV c ks a).n b with
    | none => rfl
    | some q => simp
  · rw [ho]; rfl
theorem readR_val {keys : Nat} {ks vs : ByteArray} {i a b : Nat} {c : Int} {cols : List Int} {done : List Vl} {X : Option (List Vl)} (h : X = (readR keys ks vs i (c :: cols) a b).map (done ++ ·)) (hi : ¬ i < keys) :
    ((unpackV c vs b).ok = true → X = (readR keys ks vs (i + 1) cols a (unpackV c vs b).n).map ((done ++ [(unpackV c vs b).v]) ++ ·)) ∧ ((unpackV c vs b).ok = false → X = none) := by
  rw [h, readR, if_neg hi]
  refine ⟨fun ho => ?_, fun ho => ?_⟩
  · rw [if_pos ho]
    cases readR keys ks vs (i + 1) cols a (unpackV c vs b).n with
    | none => rfl
    | some q => simp
  · rw [ho]; rfl

end Go.Proofs.Ytoclecpedhbokaa
