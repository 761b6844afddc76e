/- A bus in memory of the call's own -/
import Derived.Test.YtppemlofjbblfaaBusQ
namespace Go.Proofs.Ytppemlofjbblfaa
open Go Go.RowKit

/-- A bus with these letters, in memory of the call's own. -/
def BSt (W w : World) (b : Nat) (ls : List Let) (next : Int) : Prop :=
  ∃ sa cap, BusAt 58 28 w b sa cap ls next ∧ (∀ k, busF b sa k → W.heap.size ≤ k) ∧ Mod (fun k => W.heap.size ≤ k) W w

theorem BSt.ext {W w w' : World} {b : Nat} {ls : List Let} {next : Int} (h : BSt W w b ls next) (hm : Mod (fun _ => False) w w') : BSt W w' b ls next := by
  obtain ⟨sa, cap, h1, h2, h3⟩ := h
  exact ⟨sa, cap, h1.mod hm (fun _ _ h => h), h2, h3.then hm (fun _ _ h => h.elim)⟩

/-- Memory of the call's own that is not the bus's may be written. -/
theorem BSt.mod {S : Nat → Prop} {W w w' : World} {b : Nat} {ls : List Let} {next : Int} (h : BSt W w b ls next) (hm : Mod S w w') (hS : ∀ k, S k → W.heap.size ≤ k) (hd : ∀ sa cap, BusAt 58 28 w b sa cap ls next → ∀ k, busF b sa k → ¬ S k) : BSt W w' b ls next := by
  obtain ⟨sa, cap, h1, h2, h3⟩ := h
  exact ⟨sa, cap, h1.mod hm (hd sa cap h1), h2, h3.then hm (fun k _ h => hS k h)⟩

theorem BSt.opened {W w : World} {b : Nat} {ls : List Let} {next : Int} (h : BSt W w b ls next) : ∃ sa cap, BusAt 58 28 w b sa cap ls next ∧ ∀ (w' : World) (ls' : List Let) (n' : Int), BusStep 58 28 w w' b sa ls' n' → BSt W w' b ls' n' := by
  obtain ⟨sa, cap, h1, h2, h3⟩ := h
  refine ⟨sa, cap, h1, fun w' ls' n' hs => ?_⟩
  obtain ⟨sa', cap', hat, hm, hb⟩ := hs
  have hw := h3.size
  refine ⟨sa', cap', hat, fun k hk => ?_, h3.then hm (fun k _ h => h2 k h)⟩
  rcases hk with rfl | hk
  · exact h2 _ (Or.inl rfl)
  · rcases hb k hk with h | h
    · exact h2 k (Or.inr h)
    · omega

theorem BSt.kept {W w : World} {b : Nat} {ls : List Let} {next : Int} (h : BSt W w b ls next) : Mod (fun k => W.heap.size ≤ k) W w := by
  obtain ⟨_, _, _, _, h3⟩ := h
  exact h3

/-- Of a fit list each number is from 1 on and below the next one. -/
theorem okAt {next : Int} : ∀ {ls : List Let} {last : Int} {i : Nat} {x : Let}, okList next last ls = true → ls[i]? = some x → last < x.id ∧ x.id < next := by
  intro ls
  induction ls with
  | nil => intro last i x _ h; simp at h
  | cons l r ih =>
    intro last i x h hx
    simp only [okList, Bool.and_eq_true, decide_eq_true_eq] at h
    cases i with
    | zero => simp at hx; subst hx; exact ⟨h.1, h.2.1⟩
    | succ i => have := ih h.2.2 (by simpa using hx); exact ⟨by omega, this.2⟩

end Go.Proofs.Ytppemlofjbblfaa
