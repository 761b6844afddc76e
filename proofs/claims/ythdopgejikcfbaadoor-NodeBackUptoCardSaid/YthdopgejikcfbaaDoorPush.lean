/- An append to a list of a node that stands in a box -/
import Derived.Test.YthdopgejikcfbaaDoorHas
namespace Go.Proofs.YthdopgejikcfbaaDoor
open Go Go.RowKit

def Bx (w : World) (b : Nat) (m : Nd) : Prop := w.heap[b]? = some (.cells #[.bool m.leaf, .slice m.ka m.keys.length m.kc, .slice m.va m.values.length m.vc, .slice m.ia m.kids.length m.ic] 25 (0, 0))
theorem Bx.cells {w : World} {b : Nat} {m : Nd} (h : Bx w b m) : w.cell? ⟨b, 0, none⟩ = some (.bool m.leaf) ∧ w.cell? ⟨b, 1, none⟩ = some (.slice m.ka m.keys.length m.kc) ∧ w.cell? ⟨b, 2, none⟩ = some (.slice m.va m.values.length m.vc) ∧ w.cell? ⟨b, 3, none⟩ = some (.slice m.ia m.kids.length m.ic) := cells4 h
theorem Bx.lt {w : World} {b : Nat} {m : Nd} (h : Bx w b m) : b < w.heap.size := lt_of_heap h
theorem Bx.mod {w w' : World} {b : Nat} {m : Nd} {S : Nat → Prop} (h : Bx w b m) (hm : Mod S w w') (hs : ¬ S b) : Bx w' b m := (hm.block b h.lt hs).trans h
theorem Bx.new (w : World) (m : Nd) : Bx (w.alloc (.cells #[.bool m.leaf, .slice m.ka m.keys.length m.kc, .slice m.va m.values.length m.vc, .slice m.ia m.kids.length m.ic] 25)) w.heap.size m := heap_alloc_new _ _

/-- A node in the box B, in memory of its own from L on. -/
structure Hold (w : World) (L B : Nat) (m : Nd) : Prop where
  box : Bx w B m
  gd : Gd w m
  bs : ∀ b, m.bs b → L ≤ b ∧ b ≠ B
  lb : L ≤ B

theorem Hold.ext {w w' : World} {L B : Nat} {m : Nd} (h : Hold w L B m) (hm : Mod (fun _ => False) w w') : Hold w' L B m :=
  ⟨h.box.mod hm (fun h => h), h.gd.ext hm (fun _ _ h => h), h.bs, h.lb⟩

theorem Hold.key {w w5 : World} {L B : Nat} {m : Nd} {x : ByteArray} {a' : Option Addr} {c' : Nat} (h : Hold w L B m)
    (ho : Own w5 9 1 a' (m.keys.length + 1) c' (m.keys.flatMap scs ++ [.string x])) (hm : Mod (blk m.ka) (w.alloc (.cells #[.string x] 9)) w5) (hb : ∀ k, blk a' k → blk m.ka k ∨ (w.alloc (.cells #[.string x] 9)).heap.size ≤ k) :
    Hold (w5.setCell ⟨B, 1, none⟩ (.slice a' (m.keys.length + 1) c')) L B { m with keys := m.keys ++ [x], ka := a', kc := c' } ∧ Mod (fun k => L ≤ k) w (w5.setCell ⟨B, 1, none⟩ (.slice a' (m.keys.length + 1) c')) := by
  have hlen : (m.keys ++ [x]).length = m.keys.length + 1 := by simp
  have hsz : (w.alloc (.cells #[.string x] 9)).heap.size = w.heap.size + 1 := by simp
  have hlB := h.box.lt
  have hlb := h.lb
  have M0 : Mod (blk m.ka) w w5 := ((Mod.refl _ w).alloc _).trans hm
  have hxB : ¬ blk m.ka B := fun hk => (h.bs B (.inl hk)).2 rfl
  have hbx5 : Bx w5 B m := h.box.mod M0 hxB
  have hb' : ∀ k, blk a' k → L ≤ k ∧ k ≠ B ∧ (blk m.ka k ∨ w.heap.size ≤ k) := fun k hk => by
    rcases hb k hk with hk | hk
    · have := h.bs k (.inl hk); exact ⟨this.1, this.2, .inl hk⟩
    · exact ⟨by omega, by omega, .inr (by omega)⟩
  have MB : Mod (fun k => k = B) w5 (w5.setCell ⟨B, 1, none⟩ (.slice a' (m.keys.length + 1) c')) := Mod.setCell (S := fun k => k = B) (Mod.refl _ _) (fun _ => rfl) _
  have M6 : Mod (fun k => L ≤ k) w (w5.setCell ⟨B, 1, none⟩ (.slice a' (m.keys.length + 1) c')) := (M0.mono (T := fun k => L ≤ k) (fun k _ hk => (h.bs k (.inl hk)).1)).then MB (fun i _ e => by subst e; exact hlb)
  refine ⟨⟨?_, ⟨?_, ?_, ?_, ?_, ?_, ?_⟩, (fun b hk => by rcases hk with hk | hk | hk; exact ⟨(hb' b hk).1, (hb' b hk).2.1⟩; exact h.bs b (.inr (.inl hk)); exact h.bs b (.inr (.inr hk))), hlb⟩, M6⟩
  · have := (set4 hbx5 (.slice a' (m.keys.length + 1) c')).2.1
    show (w5.setCell ⟨B, 1, none⟩ (.slice a' (m.keys.length + 1) c')).heap[B]? = _
    rw [this]
    simp only [hlen]
  · exact (by have := ho.mod MB (fun k hk e => (hb' k hk).2.1 e); rw [← hlen] at this; simpa using this)
  · exact ((h.gd.v.mod M0 (fun k hk hk2 => h.gd.kv k hk2 hk)).mod MB (fun k hk e => (h.bs k (.inr (.inl hk))).2 e))
  · exact ((h.gd.i.mod M0 (fun k hk hk2 => h.gd.ki k hk2 hk)).mod MB (fun k hk e => (h.bs k (.inr (.inr hk))).2 e))
  · exact (fun b h1 h2 => by rcases (hb' b h1).2.2 with h3 | h3; exact h.gd.kv b h3 h2; have := h.gd.v.lt b h2; omega)
  · exact (fun b h1 h2 => by rcases (hb' b h1).2.2 with h3 | h3; exact h.gd.ki b h3 h2; have := h.gd.i.lt b h2; omega)
  · exact (h.gd.vi)

theorem Hold.value {w w5 : World} {L B : Nat} {m : Nd} {x : ByteArray} {a' : Option Addr} {c' : Nat} (h : Hold w L B m)
    (ho : Own w5 9 1 a' (m.values.length + 1) c' (m.values.flatMap scs ++ [.string x])) (hm : Mod (blk m.va) (w.alloc (.cells #[.string x] 9)) w5) (hb : ∀ k, blk a' k → blk m.va k ∨ (w.alloc (.cells #[.string x] 9)).heap.size ≤ k) :
    Hold (w5.setCell ⟨B, 2, none⟩ (.slice a' (m.values.length + 1) c')) L B { m with values := m.values ++ [x], va := a', vc := c' } ∧ Mod (fun k => L ≤ k) w (w5.setCell ⟨B, 2, none⟩ (.slice a' (m.values.length + 1) c')) := by
  have hlen : (m.values ++ [x]).length = m.values.length + 1 := by simp
  have hsz : (w.alloc (.cells #[.string x] 9)).heap.size = w.heap.size + 1 := by simp
  have hlB := h.box.lt
  have hlb := h.lb
  have M0 : Mod (blk m.va) w w5 := ((Mod.refl _ w).alloc _).trans hm
  have hxB : ¬ blk m.va B := fun hk => (h.bs B (.inr (.inl hk))).2 rfl
  have hbx5 : Bx w5 B m := h.box.mod M0 hxB
  have hb' : ∀ k, blk a' k → L ≤ k ∧ k ≠ B ∧ (blk m.va k ∨ w.heap.size ≤ k) := fun k hk => by
    rcases hb k hk with hk | hk
    · have := h.bs k (.inr (.inl hk)); exact ⟨this.1, this.2, .inl hk⟩
    · exact ⟨by omega, by omega, .inr (by omega)⟩
  have MB : Mod (fun k => k = B) w5 (w5.setCell ⟨B, 2, none⟩ (.slice a' (m.values.length + 1) c')) := Mod.setCell (S := fun k => k = B) (Mod.refl _ _) (fun _ => rfl) _
  have M6 : Mod (fun k => L ≤ k) w (w5.setCell ⟨B, 2, none⟩ (.slice a' (m.values.length + 1) c')) := (M0.mono (T := fun k => L ≤ k) (fun k _ hk => (h.bs k (.inr (.inl hk))).1)).then MB (fun i _ e => by subst e; exact hlb)
  refine ⟨⟨?_, ⟨?_, ?_, ?_, ?_, ?_, ?_⟩, (fun b hk => by rcases hk with hk | hk | hk; exact h.bs b (.inl hk); exact ⟨(hb' b hk).1, (hb' b hk).2.1⟩; exact h.bs b (.inr (.inr hk))), hlb⟩, M6⟩
  · have := (set4 hbx5 (.slice a' (m.values.length + 1) c')).2.2.1
    show (w5.setCell ⟨B, 2, none⟩ (.slice a' (m.values.length + 1) c')).heap[B]? = _
    rw [this]
    simp only [hlen]
  · exact ((h.gd.k.mod M0 (fun k hk hk2 => h.gd.kv k hk hk2)).mod MB (fun k hk e => (h.bs k (.inl hk)).2 e))
  · exact (by have := ho.mod MB (fun k hk e => (hb' k hk).2.1 e); rw [← hlen] at this; simpa using this)
  · exact ((h.gd.i.mod M0 (fun k hk hk2 => h.gd.vi k hk2 hk)).mod MB (fun k hk e => (h.bs k (.inr (.inr hk))).2 e))
  · exact (fun b h1 h2 => by rcases (hb' b h2).2.2 with h3 | h3; exact h.gd.kv b h1 h3; have := h.gd.k.lt b h1; omega)
  · exact (h.gd.ki)
  · exact (fun b h1 h2 => by rcases (hb' b h1).2.2 with h3 | h3; exact h.gd.vi b h3 h2; have := h.gd.i.lt b h2; omega)

theorem Hold.kid {w w5 : World} {L B : Nat} {m : Nd} {x : Int} {a' : Option Addr} {c' : Nat} (h : Hold w L B m)
    (ho : Own w5 3 1 a' (m.kids.length + 1) c' (m.kids.flatMap ics ++ [.int .i64 x])) (hm : Mod (blk m.ia) (w.alloc (.cells #[.int .i64 x] 3)) w5) (hb : ∀ k, blk a' k → blk m.ia k ∨ (w.alloc (.cells #[.int .i64 x] 3)).heap.size ≤ k) :
    Hold (w5.setCell ⟨B, 3, none⟩ (.slice a' (m.kids.length + 1) c')) L B { m with kids := m.kids ++ [x], ia := a', ic := c' } ∧ Mod (fun k => L ≤ k) w (w5.setCell ⟨B, 3, none⟩ (.slice a' (m.kids.length + 1) c')) := by
  have hlen : (m.kids ++ [x]).length = m.kids.length + 1 := by simp
  have hsz : (w.alloc (.cells #[.int .i64 x] 3)).heap.size = w.heap.size + 1 := by simp
  have hlB := h.box.lt
  have hlb := h.lb
  have M0 : Mod (blk m.ia) w w5 := ((Mod.refl _ w).alloc _).trans hm
  have hxB : ¬ blk m.ia B := fun hk => (h.bs B (.inr (.inr hk))).2 rfl
  have hbx5 : Bx w5 B m := h.box.mod M0 hxB
  have hb' : ∀ k, blk a' k → L ≤ k ∧ k ≠ B ∧ (blk m.ia k ∨ w.heap.size ≤ k) := fun k hk => by
    rcases hb k hk with hk | hk
    · have := h.bs k (.inr (.inr hk)); exact ⟨this.1, this.2, .inl hk⟩
    · exact ⟨by omega, by omega, .inr (by omega)⟩
  have MB : Mod (fun k => k = B) w5 (w5.setCell ⟨B, 3, none⟩ (.slice a' (m.kids.length + 1) c')) := Mod.setCell (S := fun k => k = B) (Mod.refl _ _) (fun _ => rfl) _
  have M6 : Mod (fun k => L ≤ k) w (w5.setCell ⟨B, 3, none⟩ (.slice a' (m.kids.length + 1) c')) := (M0.mono (T := fun k => L ≤ k) (fun k _ hk => (h.bs k (.inr (.inr hk))).1)).then MB (fun i _ e => by subst e; exact hlb)
  refine ⟨⟨?_, ⟨?_, ?_, ?_, ?_, ?_, ?_⟩, (fun b hk => by rcases hk with hk | hk | hk; exact h.bs b (.inl hk); exact h.bs b (.inr (.inl hk)); exact ⟨(hb' b hk).1, (hb' b hk).2.1⟩), hlb⟩, M6⟩
  · have := (set4 hbx5 (.slice a' (m.kids.length + 1) c')).2.2.2
    show (w5.setCell ⟨B, 3, none⟩ (.slice a' (m.kids.length + 1) c')).heap[B]? = _
    rw [this]
    simp only [hlen]
  · exact ((h.gd.k.mod M0 (fun k hk hk2 => h.gd.ki k hk hk2)).mod MB (fun k hk e => (h.bs k (.inl hk)).2 e))
  · exact ((h.gd.v.mod M0 (fun k hk hk2 => h.gd.vi k hk hk2)).mod MB (fun k hk e => (h.bs k (.inr (.inl hk))).2 e))
  · exact (by have := ho.mod MB (fun k hk e => (hb' k hk).2.1 e); rw [← hlen] at this; simpa using this)
  · exact (h.gd.kv)
  · exact (fun b h1 h2 => by rcases (hb' b h2).2.2 with h3 | h3; exact h.gd.ki b h1 h3; have := h.gd.k.lt b h1; omega)
  · exact (fun b h1 h2 => by rcases (hb' b h2).2.2 with h3 | h3; exact h.gd.vi b h1 h3; have := h.gd.v.lt b h1; omega)

end Go.Proofs.YthdopgejikcfbaaDoor

