/- Blocks of two cells -/
import Derived.Test.YtoclecpedhbokaaRwA
namespace Go.Proofs.Ytoclecpedhbokaa
open Go Go.RowKit

theorem row2 {V : World} {b : Nat} {v0 v1 : Value} {T : TypeId} (h : V.heap[b]? = some (.cells #[v0, v1] T (0, 0))) : V.cell? ⟨b, 0, none⟩ = some v0 ∧ V.cell? ⟨b, 1, none⟩ = some v1 ∧ V.frozen? ⟨b, 0, none⟩ = false ∧ V.frozen? ⟨b, 1, none⟩ = false :=
  ⟨by rw [cell_of_row _ _ _ _ _ _ h]; rfl, by rw [cell_of_row _ _ _ _ _ _ h]; rfl, frozen_of_row _ _ 0 _ _ h, frozen_of_row _ _ 1 _ _ h⟩

/-- A store of two cells into a block of the call's own. -/
theorem val2 {w W : World} (hm : Mod (fun _ => False) w W) {b : Nat} (hb : w.heap.size ≤ b) {v0 v1 : Value} {T : TypeId} (h : W.heap[b]? = some (.cells #[v0, v1] T (0, 0))) (a c : Value) :
    ((W.setCell ⟨b, 0, none⟩ a).setCell ⟨b, 1, none⟩ c).cell? ⟨b, 0, none⟩ = some a ∧ ((W.setCell ⟨b, 0, none⟩ a).setCell ⟨b, 1, none⟩ c).cell? ⟨b, 1, none⟩ = some c ∧ Mod (fun _ => False) w ((W.setCell ⟨b, 0, none⟩ a).setCell ⟨b, 1, none⟩ c) := by
  have r := row2 (set2 (set2 h a).1 c).2
  exact ⟨r.1, r.2.1, (hm.setCell (fun h => by simp only at h; omega) _).setCell (fun h => by simp only at h; omega) _⟩

end Go.Proofs.Ytoclecpedhbokaa
