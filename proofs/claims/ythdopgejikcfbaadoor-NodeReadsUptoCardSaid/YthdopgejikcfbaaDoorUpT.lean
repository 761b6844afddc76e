/- Opening a text of a small bulk -/
import Derived.Test.YthdopgejikcfbaaDoorRows
import Derived.Test.YthdopgejikcfbaaDoorMem
import Derived.Test.YthdopgejikcfbaaDoorOpen1
namespace Go.Proofs.YthdopgejikcfbaaDoor
open Go Go.RowKit

section
variable {H : Type} {enc : TypeId × Value → H} {w : World} {base : Nat} {spare : Nat → Bool} {held : Bool}

theorem bulk_one (d : DataW H) : 1 ≤ Rows.uptoBulk d := by
  cases d with
  | lit l => cases l <;> simp [Rows.uptoBulk]
  | _ => simp [Rows.uptoBulk]

theorem bulk_mem {d : DataW H} {l : List (DataW H)} (h : d ∈ l) : Rows.uptoBulk d ≤ Rows.uptoBulkAll l := by
  induction l with
  | nil => cases h
  | cons x r ih =>
    simp only [Rows.uptoBulkAll]
    rcases List.mem_cons.1 h with rfl | e
    · omega
    · have := ih e; omega

theorem bulk_len (l : List (DataW H)) : l.length ≤ Rows.uptoBulkAll l := by
  induction l with
  | nil => simp [Rows.uptoBulkAll]
  | cons x r ih => have := bulk_one x; simp only [Rows.uptoBulkAll, List.length_cons]; omega

theorem bulk_all {l : List (DataW H)} (hk : Rows.uptoSmall H l = true) : ∀ d ∈ l, Rows.uptoBulk d ≤ 1048576 := fun d hd => by
  have h1 : Rows.uptoBulkAll l ≤ 1048576 := of_decide_eq_true hk
  exact Nat.le_trans (bulk_mem hd) h1

theorem small_text {n : Nat} {cs : List Value} {y : DataW H × List MemPlace} (h : DataW.trod enc Tryd.prog w base spare held n 9 cs = some y) (hfit : Rows.uptoBulk y.1 ≤ 1048576) : ∃ s : ByteArray, cs = [.string s] ∧ s.size ≤ 1048576 := by
  obtain ⟨s, hcs, hx, _⟩ := DataW.trod_string Tryd.underlying9 h
  refine ⟨s, hcs, ?_⟩
  rw [hx] at hfit
  simp only [Rows.uptoBulk] at hfit
  have e : s.data.toList.length = s.size := by rw [Array.length_toList]; rfl
  omega

theorem open_text {r : Reach} {b0 : Nat} {v : Value} {d : DataW H} {ps : List MemPlace} (hval : Value.okWide Tryd.prog w r b0 9 v) (hd : DataW.Trod enc Tryd.prog w base spare held 9 v d ps) (hb : Rows.uptoBulk d ≤ 1048576) :
    ∃ s : ByteArray, v = .string s ∧ s.size ≤ 1048576 := by
  obtain ⟨s, rfl⟩ := WideShapes.okWide_string Tryd.underlying9 hval
  obtain ⟨fuel, hf⟩ := hd
  obtain ⟨s', e, z⟩ := small_text hf hb
  simp only [Value.cells] at e
  cases e
  exact ⟨s, rfl, z⟩

end
end Go.Proofs.YthdopgejikcfbaaDoor
