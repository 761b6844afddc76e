/- New of the disk -/
import Derived.Test.YtbfdmglmolkloaaGreatDoorDiskR
import Derived.Laws.OwnMore
namespace Go.Proofs.YtbfdmglmolkloaaGreatDoor
open Go Go.RowKit

def newD (n : Int) : Dsk := { secs := List.replicate (max 0 (min n 16384)).toNat ⟨#[]⟩, writes := 0, high := 0, left := 0, off := false }

theorem info_str : (Tryz.prog.info? 9).map (fun i => (i.zero, i.size, i.bytes)) = some (some (.string ⟨#[]⟩), 1, 16) := by kernel_rfl

theorem new_any {w : World} (n : Int) : Calls Tryz.prog 4 #[.int .i64 n] w fun e w' => ∃ b sa, e = .returned (.pointer (some ⟨b, 0, none⟩)) ∧ w.heap.size ≤ b ∧ (∀ k, blk sa k → w.heap.size ≤ k) ∧ DiskAt w' b sa (newD n) ∧ Mod (fun _ => False) w w' := by
  obtain ⟨i0, hi, hz0, hz1, hz2⟩ := info_parts info_str
  obtain ⟨x, hx⟩ : ∃ x, max 0 (min n 16384) = x := ⟨_, rfl⟩
  have b1 : 0 ≤ x := by omega
  have b2 : x ≤ 16384 := by omega
  have hmk := fun W : World => run_makeSlice (P := Tryz.prog) W 39 9 i0 (.string ⟨#[]⟩) Tryz.underlying39 hi hz0 .i64 .i64 x x b1 (Int.le_refl _) (by rw [hz1]; omega) (by rw [hz2]; omega) (by omega)
  rw [hz1] at hmk
  go_enter Tryz.func4, Tryz.ntmps4
  go_wp2
  go_ret
  have e1 : (max 0 (min n 16384)).toNat = x.toNat := by rw [hx]
  refine ⟨w.heap.size + 1, some ⟨w.heap.size, 0, none⟩, rfl, by omega, ?_, ⟨x.toNat, ⟨#[]⟩, false, ⟨?_, fun h => by cases h⟩, ?_, ?_⟩, (Mod.refl _ w).alloc _ |>.alloc _⟩
  · rintro k ⟨a, ha, rfl⟩
    cases ha
    exact Nat.le_refl _
  · show ((w.heap.push _).push _)[w.heap.size + 1]? = _
    rw [Array.getElem?_push, if_pos (by simp)]
    simp [newD, e1, u32]
  · refine ⟨by simp [newD], by simp [newD, e1], ?_, .inr ⟨w.heap.size, 0, madeCells #[Value.string ⟨#[]⟩] x.toNat, rfl, ?_, ?_, ?_⟩⟩
    · unfold maxLen; omega
    · show ((w.heap.push _).push _)[w.heap.size]? = _
      rw [Array.getElem?_push, if_neg (by simp), Array.getElem?_push, if_pos rfl]
    · rw [size_madeCells]; omega
    · rw [toList_madeCells_one]; simp [newD, e1]
  · rintro ⟨a, ha, hb⟩
    cases ha
    simp at hb

end Go.Proofs.YtbfdmglmolkloaaGreatDoor
