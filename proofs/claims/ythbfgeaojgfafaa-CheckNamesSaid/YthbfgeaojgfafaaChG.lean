/- A definition that grows step by step -/
import Derived.Test.YthbfgeaojgfafaaChW
import Derived.Test.YthbfgeaojgfafaaChOpn
namespace Go.Proofs.Ythbfgeaojgfafaa
open Go Go.RowKit

theorem infoStp : (Try.prog.info? 31).map (fun i => (i.zero, i.size, i.bytes)) = some (some (.agg #[.string ByteArray.empty, .string ByteArray.empty, .string ByteArray.empty, .string ByteArray.empty, .bool false, .int .i64 0, .int .i64 0, .int .i64 0, .slice none 0 0]), 9, 120) := by kernel_rfl
theorem infoStr : (Try.prog.info? 9).map (fun i => (i.zero, i.size, i.bytes)) = some (some (.string ⟨#[]⟩), 1, 16) := by kernel_rfl

theorem Stp.one (s : Stp) : ∀ u ∈ s.cs, u.oneCell' = true := by
  intro u hu
  simp only [Stp.cs, List.mem_cons, List.not_mem_nil, or_false] at hu
  rcases hu with rfl | rfl | rfl | rfl | rfl | rfl | rfl | rfl | rfl <;> rfl

theorem StpOk.keep {S : Nat → Prop} {w w' : World} {s : Stp} (h : StpOk w s) (hm : Mod S w w') (hs : 0 < s.after.length → ∀ k, blk s.aa k → ¬ S k) : StpOk w' s := by
  by_cases h0 : 0 < s.after.length
  · exact ⟨h.src.mod hm (hs h0), h.spot, fun k h0 hk => Nat.lt_of_lt_of_le (h.lt k h0 hk) hm.size, h.bnd⟩
  · exact stpOk_nil _ (List.eq_nil_of_length_eq_zero (by omega))

/-- The variable that holds the growing definition. -/
structure Grow (W w : World) (tb : Nat) (nm : ByteArray) (tt : List Stp) (sa : Option Addr) (cap : Nat) : Prop where
  box : w.heap[tb]? = some (.cells #[.string nm, .slice sa tt.length cap] 28 (0, 0))
  own : Own w 31 9 sa tt.length cap (tt.flatMap Stp.cs)
  ne : ¬ blk sa tb
  lo : W.heap.size ≤ tb
  los : ∀ k, blk sa k → W.heap.size ≤ k
  mod : Mod (fun _ => False) W w
  all : ∀ t ∈ tt, StpOk w t ∧ (0 < t.after.length → ∀ k, blk t.aa k → ¬ blk sa k ∧ k ≠ tb)

section
variable {W w : World} {tb : Nat} {nm : ByteArray} {tt : List Stp} {sa : Option Addr} {cap : Nat}

theorem Grow.cells (h : Grow W w tb nm tt sa cap) : w.cell? ⟨tb, 0, none⟩ = some (.string nm) ∧ w.cell? ⟨tb, 1, none⟩ = some (.slice sa tt.length cap) := cells2 h.box

theorem Grow.ext {w' : World} (h : Grow W w tb nm tt sa cap) (hm : Mod (fun _ => False) w w') : Grow W w' tb nm tt sa cap :=
  ⟨(hm.block tb (lt_of_heap h.box) (fun h => h)).trans h.box, h.own.mod hm (fun _ _ h => h), h.ne, h.lo, h.los, h.mod.trans hm, fun t ht => ⟨(h.all t ht).1.keep hm (fun _ _ _ h => h), (h.all t ht).2⟩⟩

theorem Grow.def (h : Grow W w tb nm tt sa cap) (hb : tt.length ≤ 2199023255552) : DefAt w sa tt := by
  refine ⟨h.own.src, fun h0 x hx => ?_, fun k _ hk => h.own.lt k hk, fun t ht => (h.all t ht).1, hb⟩
  rcases h.own.2.2.2 with ⟨h1, _⟩ | ⟨g, off, cur, h1, _⟩
  · rw [h1] at hx; cases hx
  · rw [h1] at hx; cases hx; rfl

/-- One step more: behind append, ahead of the store. -/
theorem Grow.late (h : Grow W w tb nm tt sa cap) {W0 w1 : World} (h0 : Mod (fun _ => False) w W0) (hm1 : Mod (blk sa) W0 w1) : w1.cell? ⟨tb, 1, none⟩ = some (.slice sa tt.length cap) ∧ w1.frozen? ⟨tb, 1, none⟩ = false := by
  have e0 := (h0.block tb (lt_of_heap h.box) (fun h => h)).trans h.box
  have e1 := (hm1.block tb (lt_of_heap e0) h.ne).trans e0
  exact ⟨(cells2 e1).2, frozen_of_row _ _ _ _ _ e1⟩

theorem Grow.grown (h : Grow W w tb nm tt sa cap) {W0 w1 : World} (h0 : Mod (fun _ => False) w W0) (hm1 : Mod (blk sa) W0 w1) {s : Stp} {sa' : Option Addr} {cap' : Nat} (hown1 : Own w1 31 9 sa' (tt.length + 1) cap' (tt.flatMap Stp.cs ++ s.cs)) (hb1 : ∀ k, blk sa' k → blk sa k ∨ W0.heap.size ≤ k) (hs : StpOk w s) (hsb : 0 < s.after.length → ∀ k, blk s.aa k → ¬ blk sa k ∧ k ≠ tb) :
    Grow W (w1.setCell ⟨tb, 1, none⟩ (.slice sa' (tt.length + 1) cap')) tb nm (tt ++ [s]) sa' cap' := by
  have e0 := (h0.block tb (lt_of_heap h.box) (fun h => h)).trans h.box
  have e1 := (hm1.block tb (lt_of_heap e0) h.ne).trans e0
  have hl : (tt ++ [s]).length = tt.length + 1 := by simp
  have hs0 := h0.size
  have htb := lt_of_heap h.box
  have hne : ¬ blk sa' tb := fun hk => by
    rcases hb1 tb hk with h1 | h1
    · exact h.ne h1
    · omega
  have hmt : Mod (fun k => k = tb) w1 (w1.setCell ⟨tb, 1, none⟩ (.slice sa' (tt.length + 1) cap')) := Mod.setCell (S := fun k => k = tb) (Mod.refl _ _) (fun _ => rfl) _
  have hsz := h.mod.size
  have hMw : Mod (fun k => blk sa k ∨ k = tb) w (w1.setCell ⟨tb, 1, none⟩ (.slice sa' (tt.length + 1) cap')) := ((h0.mono fun _ _ h => h.elim).trans (hm1.mono fun _ _ h => .inl h)).trans (hmt.mono fun _ _ h => .inr h)
  refine ⟨?_, ?_, hne, h.lo, fun k hk => ?_, h.mod.then hMw (fun i hi hk => ?_), fun t ht => ?_⟩
  · rw [hl]; exact heap_setCell_same w1 tb 1 _ 28 _ e1
  · rw [hl, List.flatMap_append]
    have : List.flatMap Stp.cs [s] = s.cs := by simp
    rw [this]
    exact hown1.mod hmt (fun k hk e => hne (e ▸ hk))
  · rcases hb1 k hk with h1 | h1
    · exact h.los k h1
    · omega
  · rcases hk with h1 | h1
    · have := h.los i h1; omega
    · have := h.lo; omega
  · have key : ∀ u : Stp, StpOk w u → (0 < u.after.length → ∀ k, blk u.aa k → ¬ blk sa k ∧ k ≠ tb) → StpOk (w1.setCell ⟨tb, 1, none⟩ (.slice sa' (tt.length + 1) cap')) u ∧ (0 < u.after.length → ∀ k, blk u.aa k → ¬ blk sa' k ∧ k ≠ tb) := fun u hu hk => by
      refine ⟨hu.keep hMw (fun h0 k hb h => ?_), fun h0 k hb => ⟨fun h => ?_, (hk h0 k hb).2⟩⟩
      · rcases h with h | h
        · exact (hk h0 k hb).1 h
        · exact (hk h0 k hb).2 h
      · rcases hb1 k h with h1 | h1
        · exact (hk h0 k hb).1 h1
        · have := hu.lt k h0 hb; omega
    rcases List.mem_append.1 ht with ht | ht
    · exact key t (h.all t ht).1 (h.all t ht).2
    · simp at ht
      subst ht
      exact key t hs hsb
end

end Go.Proofs.Ythbfgeaojgfafaa
