/- Rows, plain: the pair of a row (or its refusal), and the pair that is left where sizes are too great -/
import Derived.Test.YtoclecpedhbokaaRwZ
namespace Go.Proofs.Ytoclecpedhbokaa
open Go Go.RowKit

/-- The form of a value in a column that is no key. -/
def packV (k : Int) (v : Vl) : List UInt8 := if k = 0 then intL v.n else textL v.s
/-- The forms of the columns from keys on, up to j. -/
def valL (cols : List Int) (r : List Vl) (keys j : Nat) : List UInt8 := (((cols.zip r).take j).drop keys).flatMap fun p => packV p.1 p.2

theorem valL_low (cols : List Int) (r : List Vl) {keys j : Nat} (h : j ≤ keys) : valL cols r keys j = [] := by
  unfold valL
  rw [List.drop_of_length_le (by rw [List.length_take]; omega)]
  rfl
theorem valL_succ {cols : List Int} {r : List Vl} {keys k : Nat} {c : Int} {v : Vl} (h : keys ≤ k) (hc : cols[k]? = some c) (hv : r[k]? = some v) : valL cols r keys (k + 1) = valL cols r keys k ++ packV c v := by
  unfold valL
  have h' : (cols.zip r)[k]? = some (c, v) := by rw [List.getElem?_zip_eq_some]; exact ⟨hc, hv⟩
  have hl := (List.getElem?_eq_some_iff.1 h').1
  rw [List.take_succ_eq_append_getElem hl, List.drop_append_of_le_length (by rw [List.length_take]; omega), List.flatMap_append, (List.getElem?_eq_some_iff.1 h').2]
  simp

/-- Is it a value of such a column? -/
def typedV (k : Int) (v : Vl) : Bool := if k = 0 then v.s.toList.isEmpty else (v.n == 0)

theorem bare_empty {s : ByteArray} (h : s.toList.isEmpty = true) : bareP s = true := by
  unfold bareP
  rw [ByteArray.toList_eq, List.isEmpty_iff] at h
  rw [h]; rfl

theorem fits_typed {k : Int} {v : Vl} (h : typedV k v = true) : fitsV k v = bareP v.s := by
  unfold typedV at h
  unfold fitsV
  by_cases hk : k = 0
  · rw [if_pos hk] at h ⊢
    rw [h, bare_empty h]
  · rw [if_neg hk] at h ⊢
    rw [h, Bool.true_and]

/-- The row is one of the table's. -/
structure Good (name : Int) (cols : List Int) (keys idx : Int) (r : List Vl) : Prop where
  fit : fitB name cols keys idx = true
  len : r.length = cols.length
  typed : ∀ (j : Nat) c v, cols[j]? = some c → r[j]? = some v → typedV c v = true
  bare : ∀ (j : Nat) v, ((j : Int) < keys ∨ (j : Int) = idx) → r[j]? = some v → bareP v.s = true

def idxL (cols : List Int) (r : List Vl) (idx : Int) : List UInt8 := formV (cols.getD idx.toNat 0) (r.getD idx.toNat ⟨0, ⟨#[]⟩⟩)
def pkeyL (name : Int) (cols : List Int) (keys : Int) (r : List Vl) : List UInt8 := headL name.toNat 0 ++ keysL cols r keys.toNat
def pvalL (cols : List Int) (keys : Int) (r : List Vl) : List UInt8 := valL cols r keys.toNat cols.length
def pxL (name : Int) (cols : List Int) (keys idx : Int) (r : List Vl) : List UInt8 := if 0 ≤ idx then headL name.toNat 1 ++ idxL cols r idx ++ keysL cols r keys.toNat else []

structure PX where
  k : List UInt8
  v : List UInt8
  x : List UInt8

def SizeOk (p : PX) : Prop := p.k.length ≤ 48 ∧ p.x.length ≤ 48 ∧ p.v.length ≤ 200
instance (p : PX) : Decidable (SizeOk p) := inferInstanceAs (Decidable (_ ∧ _ ∧ _))
def pxOf (name : Int) (cols : List Int) (keys idx : Int) (r : List Vl) : PX := ⟨pkeyL name cols keys r, pvalL cols keys r, pxL name cols keys idx r⟩
/-- The row's pair and the index's key, or none. -/
noncomputable def pairO (name : Int) (cols : List Int) (keys idx : Int) (r : List Vl) : Option PX :=
  open Classical in if Good name cols keys idx r ∧ SizeOk (pxOf name cols keys idx r) then some (pxOf name cols keys idx r) else none

theorem pairO_none {name : Int} {cols : List Int} {keys idx : Int} {r : List Vl} (h : ¬ Good name cols keys idx r) : pairO name cols keys idx r = none := by
  unfold pairO; rw [if_neg (fun h' => h h'.1)]
theorem pairO_size {name : Int} {cols : List Int} {keys idx : Int} {r : List Vl} (h : ¬ SizeOk (pxOf name cols keys idx r)) : pairO name cols keys idx r = none := by
  unfold pairO; rw [if_neg (fun h' => h h'.2)]
theorem pairO_some {name : Int} {cols : List Int} {keys idx : Int} {r : List Vl} (h : Good name cols keys idx r) (h2 : SizeOk (pxOf name cols keys idx r)) : pairO name cols keys idx r = some (pxOf name cols keys idx r) := by
  unfold pairO; rw [if_pos ⟨h, h2⟩]
theorem pairO_inv {name : Int} {cols : List Int} {keys idx : Int} {r : List Vl} {p : PX} (h : pairO name cols keys idx r = some p) : Good name cols keys idx r ∧ SizeOk p ∧ p = pxOf name cols keys idx r := by
  unfold pairO at h
  split at h
  · next h' => cases h; exact ⟨h'.1, h'.2, rfl⟩
  · cases h

/-- What a fit table has. -/
theorem fitB_inv {name : Int} {cols : List Int} {keys idx : Int} (h : fitB name cols keys idx = true) : (∀ k ∈ cols, kindP k) ∧ 97 ≤ name ∧ name ≤ 122 ∧ 1 ≤ keys ∧ keys ≤ (cols.length : Int) ∧ -1 ≤ idx ∧ idx < (cols.length : Int) := by
  unfold fitB at h
  split at h
  · next hk =>
    refine ⟨hk, ?_⟩
    unfold fitC at h
    simp only [Bool.and_eq_true, decide_eq_true_eq] at h
    exact h
  · cases h

end Go.Proofs.Ytoclecpedhbokaa
