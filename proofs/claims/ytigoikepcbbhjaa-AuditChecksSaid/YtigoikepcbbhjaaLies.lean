/- Slices that lie in memory (for a seat without nodes). No program is named. -/
import Derived.Test.YtigoikepcbbhjaaOpen2
namespace Go.Proofs.Ytigoikepcbbhjaa
open Go Go.RowKit

theorem Lies.mod {α : Type} {S : Nat → Prop} {w w' : World} {size : Nat} {f : α → List Value} {a : Option Addr} {ls : List α} (h : Lies w size f a ls) (hm : Mod S w w') (hs : 0 < ls.length → ∀ k, blk a k → ¬ S k) : Lies w' size f a ls := by
  rcases Nat.eq_zero_or_pos ls.length with h0 | h0
  · have e : ls = [] := List.eq_nil_of_length_eq_zero h0
    subst e
    exact ⟨⟨by simp, fun _ => rfl, fun a _ j u hu => by simp at hu⟩, fun h => by simp at h, fun _ h => by simp at h⟩
  · exact ⟨h.src.mod hm (hs h0), h.spot, fun k h0 hk => Nat.lt_of_lt_of_le (h.lt k h0 hk) hm.size⟩

theorem Lies.ext {α : Type} {w w' : World} {size : Nat} {f : α → List Value} {a : Option Addr} {ls : List α} (h : Lies w size f a ls) (hm : Mod (fun _ => False) w w') : Lies w' size f a ls := h.mod hm (fun _ _ _ h => h)

/-- Old blocks are as they were. -/
theorem Lies.old {α : Type} {S : Nat → Prop} {w w' : World} {size : Nat} {f : α → List Value} {a : Option Addr} {ls : List α} (h : Lies w size f a ls) (hm : Mod S w w') (hs : ∀ k, S k → w.heap.size ≤ k) : Lies w' size f a ls :=
  h.mod hm (fun h0 k hk hsk => by have := h.lt k h0 hk; have := hs k hsk; omega)

theorem Lies.some {α : Type} {w : World} {size : Nat} {f : α → List Value} {a : Option Addr} {ls : List α} (h : Lies w size f a ls) (h0 : 0 < ls.length) : ∃ g off, a = .some ⟨g, off, none⟩ := by
  cases a with
  | none => have := h.src.2.1 rfl; omega
  | some a =>
    obtain ⟨g, off, sp⟩ := a
    have := h.spot h0 _ rfl
    simp only at this
    subst this
    exact ⟨g, off, rfl⟩

/-- A cell of an element. -/
theorem Lies.cell {α : Type} {w : World} {g off size : Nat} {f : α → List Value} {ls : List α} (h : Lies w size f (.some ⟨g, off, none⟩) ls) (hf : ∀ x, (f x).length = size) {i : Nat} {x : α} (hi : ls[i]? = .some x) {j : Nat} {u : Value} (hu : (f x)[j]? = .some u) : w.cell? ⟨g, off + i * size + j, none⟩ = .some u := by
  have hj : j < size := by have := (List.getElem?_eq_some_iff.1 hu).1; rwa [hf] at this
  have := h.src.2.2 _ rfl (i * size + j) u (by rw [flat_get hf ls i j hj, hi]; exact hu)
  rw [Addr.add_lit, ← Nat.add_assoc] at this
  exact this

theorem lies_nil {α : Type} (w : World) (size : Nat) (f : α → List Value) (a : Option Addr) : Lies w size f a ([] : List α) :=
  ⟨⟨by simp, fun _ => rfl, fun a _ j u hu => by simp at hu⟩, fun h => by simp at h, fun _ h => by simp at h⟩

theorem lies_new {α : Type} {w : World} {b size : Nat} {t : TypeId} {f : α → List Value} {ls : List α} (hf : ∀ x, (f x).length = size) (h : w.heap[b]? = some (.cells (ls.flatMap f).toArray t (0, 0))) : Lies w size f (some ⟨b, 0, none⟩) ls :=
  ⟨src_new h (flat_length hf ls), fun _ x hx => by cases hx; rfl, fun k _ hk => by rw [blk_some] at hk; subst hk; exact lt_of_heap h⟩

theorem Own.lies {α : Type} {w : World} {t : TypeId} {size cap : Nat} {f : α → List Value} {a : Option Addr} {ls : List α} (h : Own w t size a ls.length cap (ls.flatMap f)) : Lies w size f a ls := by
  refine ⟨h.src, fun _ x hx => ?_, fun k _ hk => h.lt k hk⟩
  rcases h.2.2.2 with ⟨hs, _⟩ | ⟨g, off, cur, hs, _⟩
  · rw [hx] at hs; cases hs
  · rw [hx] at hs; cases hs; rfl

end Go.Proofs.Ytigoikepcbbhjaa
