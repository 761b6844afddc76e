/- Values, and what of a row stands in a key -/
import Derived.Test.YtoclecpedhbokaaRwG
import Derived.Test.YtoclecpedhbokaaRwK
namespace Go.Proofs.Ytoclecpedhbokaa
open Go Go.RowKit

structure Vl where
  n : Int
  s : ByteArray
def Vl.cs (v : Vl) : List Value := [.int .i64 v.n, .string v.s]
theorem vl_len (v : Vl) : v.cs.length = 2 := rfl
structure Vl.Ok (v : Vl) : Prop where
  n0 : -9223372036854775808 ≤ v.n
  n1 : v.n ≤ 9223372036854775807
  s : v.s.size ≤ 140737488351232

/-- May the value stand in a key of a column of kind k? -/
def fitsV (k : Int) (v : Vl) : Bool := if k = 0 then v.s.toList.isEmpty else (v.n == 0 && bareP v.s)
/-- Its key form. -/
def formV (k : Int) (v : Vl) : List UInt8 := formL k v.n v.s

theorem form_any (k : Int) (v : Vl) (w : World) (hv : v.Ok) :
    Calls Try.prog 32 #[.int .i64 k, .agg #[.int .i64 v.n, .string v.s]] w fun e w' => e = .returned (.tuple #[.string (ba (formV k v)), .bool (fitsV k v)]) ∧ Mod (fun _ => False) w w' := by
  unfold formV formL fitsV
  by_cases hk : k = 0
  · subst hk
    rw [if_pos rfl, if_pos rfl]
    exact form_int v.n v.s w hv.n0 hv.n1
  · rw [if_neg hk, if_neg hk]
    exact form_text k v.n v.s w hk hv.s

theorem rformV_any (k : Int) (v : Vl) (w : World) (hv : v.Ok) :
    Calls Try.prog 20 #[.int .i64 k, .agg #[.int .i64 v.n, .string v.s]] w fun e w' => e = .returned (.string (ba (formV k v))) ∧ Mod (fun _ => False) w w' :=
  rform_any k v.n v.s w hv.n0 hv.n1 hv.s

/-- The forms of the first k columns. -/
def keysL (cols : List Int) (r : List Vl) (k : Nat) : List UInt8 := ((cols.zip r).take k).flatMap fun p => formV p.1 p.2
theorem keysL_zero (cols : List Int) (r : List Vl) : keysL cols r 0 = [] := rfl
theorem keysL_succ {cols : List Int} {r : List Vl} {k : Nat} {c : Int} {v : Vl} (hc : cols[k]? = some c) (hv : r[k]? = some v) : keysL cols r (k + 1) = keysL cols r k ++ formV c v := by
  unfold keysL
  have h : (cols.zip r)[k]? = some (c, v) := by rw [List.getElem?_zip_eq_some]; exact ⟨hc, hv⟩
  have hl := (List.getElem?_eq_some_iff.1 h).1
  rw [List.take_succ_eq_append_getElem hl, List.flatMap_append, (List.getElem?_eq_some_iff.1 h).2]
  simp

end Go.Proofs.Ytoclecpedhbokaa
