/- Flow: a definition that is made of steps one by one -/
import Derived.Test.YtmkbbclbkpofoaaDoorFlV
namespace Go.Proofs.YtmkbbclbkpofoaaDoor
open Go Go.RowKit

theorem infoRStp : (Tryd.prog.info? 53).map (fun i => (i.zero, i.size, i.bytes)) = some (some (.agg #[.string ByteArray.empty, .string ByteArray.empty, .string ByteArray.empty, .string ByteArray.empty, .bool false, .int .i64 0, .int .i64 0, .int .i64 0, .slice none 0 0]), 9, 120) := by kernel_rfl

/-- A definition that grows, as it lies (of whichever types). -/
structure TAt (TD TS : TypeId) (W : World) (B D : Nat) (d : Df) (sa : Option Addr) (cap : Nat) (ss : List SA) : Prop where
  box : W.heap[D]? = some (.cells #[.string d.name, .slice sa d.steps.length cap] TD (0, 0))
  map : ss.map SA.s = d.steps
  own : Own W TS 9 sa d.steps.length cap (ss.flatMap SA.cs)
  ne : ¬ blk sa D
  all : ∀ x ∈ ss, Lies W 1 strI x.aa x.s.after ∧ x.s.after.length ≤ 4096 ∧ (0 < x.s.after.length → ∀ k, blk x.aa k → ¬ blk sa k ∧ k ≠ D)
  len : d.steps.length ≤ 8
  lo : ∀ k, k = D ∨ blk sa k → B ≤ k

section
variable {TD TS : TypeId} {W W' : World} {B D cap : Nat} {d : Df} {sa : Option Addr} {ss : List SA}

theorem TAt.mod {S : Nat → Prop} (h : TAt TD TS W B D d sa cap ss) (hm : Mod S W W') (hs : ∀ k, dset D sa ss k → ¬ S k) : TAt TD TS W' B D d sa cap ss :=
  ⟨(hm.block D (lt_of_heap h.box) (hs D (.inl rfl))).trans h.box, h.map, h.own.mod hm (fun k hk => hs k (.inr (.inl hk))), h.ne, fun x hx => ⟨(h.all x hx).1.mod hm (fun h0 k hk => hs k (.inr (.inr ⟨x, hx, h0, hk⟩))), (h.all x hx).2⟩, h.len, h.lo⟩
theorem TAt.ext (h : TAt TD TS W B D d sa cap ss) (hm : Mod (fun _ => False) W W') : TAt TD TS W' B D d sa cap ss := h.mod hm (fun _ _ h => h)
theorem TAt.lies (h : TAt TD TS W B D d sa cap ss) : DefLies W d sa ss :=
  ⟨h.map, Own.lies (by have := h.map; rw [show ss.length = d.steps.length by rw [← this, List.length_map]]; exact h.own), fun x hx => ⟨(h.all x hx).1, (h.all x hx).2.1⟩, h.len⟩

/-- One step more. -/
theorem TAt.grown (h : TAt TD TS W B D d sa cap ss) {w1 : World} (hB : B ≤ W.heap.size) (hm1 : Mod (blk sa) W w1) {s : Sp} {aa sa' : Option Addr} {ac cap' : Nat} (hl : d.steps.length < 8) (hown : Own w1 TS 9 sa' (d.steps.length + 1) cap' (ss.flatMap SA.cs ++ SA.cs ⟨s, aa, ac⟩)) (hb : ∀ k, blk sa' k → blk sa k ∨ W.heap.size ≤ k)
    (ha : Lies W 1 strI aa s.after) (hla : s.after.length ≤ 4096) (hna : 0 < s.after.length → ∀ k, blk aa k → ¬ blk sa k ∧ k ≠ D) :
    TAt TD TS (w1.setCell ⟨D, 1, none⟩ (.slice sa' (d.steps.length + 1) cap')) B D ⟨d.name, d.steps ++ [s]⟩ sa' cap' (ss ++ [⟨s, aa, ac⟩]) := by
  have hD := lt_of_heap h.box
  have e1 := (hm1.block D hD h.ne).trans h.box
  have hne : ¬ blk sa' D := fun hk => by
    rcases hb D hk with h1 | h1
    · exact h.ne h1
    · omega
  have hmt : Mod (fun k => k = D) w1 (w1.setCell ⟨D, 1, none⟩ (.slice sa' (d.steps.length + 1) cap')) := Mod.setCell (S := fun k => k = D) (Mod.refl _ _) (fun _ => rfl) _
  have hlen : (d.steps ++ [s]).length = d.steps.length + 1 := by simp
  refine ⟨?_, by rw [List.map_append, h.map]; rfl, ?_, hne, fun x hx => ?_, by simp only; omega, fun k hk => ?_⟩
  · rw [hlen]; exact heap_setCell_same w1 D 1 _ TD _ e1
  · simp only
    rw [hlen, List.flatMap_append]
    have : List.flatMap SA.cs [(⟨s, aa, ac⟩ : SA)] = SA.cs ⟨s, aa, ac⟩ := by simp
    rw [this]
    exact hown.mod hmt (fun k hk e => hne (e ▸ hk))
  · have key : Lies W 1 strI x.aa x.s.after ∧ x.s.after.length ≤ 4096 ∧ (0 < x.s.after.length → ∀ k, blk x.aa k → ¬ blk sa k ∧ k ≠ D) := by
      rcases List.mem_append.1 hx with h1 | h1
      · exact h.all x h1
      · rw [List.mem_singleton] at h1
        subst h1
        exact ⟨ha, hla, hna⟩
    refine ⟨(key.1.mod hm1 (fun h0 k hk => (key.2.2 h0 k hk).1)).mod hmt (fun h0 k hk e => (key.2.2 h0 k hk).2 e), key.2.1, fun h0 k hk => ⟨fun hk2 => ?_, (key.2.2 h0 k hk).2⟩⟩
    have h2 := key.1.lt k h0 hk
    rcases hb k hk2 with h1 | h1
    · exact (key.2.2 h0 k hk).1 h1
    · omega
  · rcases hk with rfl | hk
    · exact h.lo _ (.inl rfl)
    · rcases hb k hk with h1 | h1
      · exact h.lo k (.inr h1)
      · omega
end

/-- Both cells of a block are laid. -/
theorem put2 {W : World} {b : Nat} {v0 v1 : Value} {T : TypeId} (h : W.heap[b]? = some (.cells #[v0, v1] T (0, 0))) (u v : Value) :
    ((W.setCell ⟨b, 0, none⟩ u).setCell ⟨b, 1, none⟩ v).cell? ⟨b, 0, none⟩ = some u ∧ ((W.setCell ⟨b, 0, none⟩ u).setCell ⟨b, 1, none⟩ v).cell? ⟨b, 1, none⟩ = some v ∧ Mod (fun k => k = b) W ((W.setCell ⟨b, 0, none⟩ u).setCell ⟨b, 1, none⟩ v) := by
  have d1 : (W.setCell ⟨b, 0, none⟩ u).heap[b]? = some (.cells #[u, v1] T (0, 0)) := heap_setCell_same W b 0 _ T _ h
  have d2 : ((W.setCell ⟨b, 0, none⟩ u).setCell ⟨b, 1, none⟩ v).heap[b]? = some (.cells #[u, v] T (0, 0)) := heap_setCell_same _ b 1 _ T _ d1
  exact ⟨(row2 d2).1, (row2 d2).2.1, Mod.setCell (S := fun k => k = b) (Mod.setCell (S := fun k => k = b) (Mod.refl _ _) (fun _ => rfl) _) (fun _ => rfl) _⟩

theorem strI_one (s : ByteArray) : ∀ u ∈ strI s, u.oneCell' = true := by
  intro u hu
  simp only [strI, List.mem_singleton] at hu
  subst hu
  rfl

end Go.Proofs.YtmkbbclbkpofoaaDoor
