/- Plain: letters, and what a bus does with them. No program here. -/
import Derived.Test.YtppemlofjbblfaaMem
namespace Go.Proofs.Ytppemlofjbblfaa
open Go Go.RowKit

structure Let where
  id : Int
  to : Int
  order : Int
  step : Int
  tr : Int
  kind : Int
  code : Int
  verb : ByteArray

def Let.cs (l : Let) : List Value := [.int .i64 l.id, .int .i64 l.to, .int .i64 l.order, .int .i64 l.step, .int .i64 l.tr, .int .i64 l.kind, .int .i64 l.code, .string l.verb]
def Let.zero : Let := ⟨0, 0, 0, 0, 0, 0, 0, ByteArray.empty⟩

theorem Let.len (l : Let) : l.cs.length = 8 := rfl
theorem Let.one (l : Let) : ∀ u ∈ l.cs, u.oneCell' = true := by simp [Let.cs, Value.oneCell']

/-- A bus in memory: its two fields, and its letters in a block of their own. -/
def BusAt (T E : TypeId) (w : World) (b : Nat) (sa : Option Addr) (cap : Nat) (ls : List Let) (next : Int) : Prop :=
  w.heap[b]? = some (.cells #[.slice sa ls.length cap, .int .i64 next] T (0, 0)) ∧ Own w E 8 sa ls.length cap (ls.flatMap Let.cs) ∧ ¬ blk sa b

def busF (b : Nat) (sa : Option Addr) (k : Nat) : Prop := k = b ∨ blk sa k

/-- From w to w' nothing but this bus has changed; it has these letters now. -/
def BusStep (T E : TypeId) (w w' : World) (b : Nat) (sa : Option Addr) (ls' : List Let) (next' : Int) : Prop :=
  ∃ sa' cap', BusAt T E w' b sa' cap' ls' next' ∧ Mod (busF b sa) w w' ∧ (∀ k, blk sa' k → blk sa k ∨ w.heap.size ≤ k)

theorem BusAt.cells {T E : TypeId} {w : World} {b : Nat} {sa : Option Addr} {cap : Nat} {ls : List Let} {next : Int} (h : BusAt T E w b sa cap ls next) :
    w.cell? ⟨b, 0, none⟩ = some (.slice sa ls.length cap) ∧ w.cell? ⟨b, 1, none⟩ = some (.int .i64 next) ∧ w.frozen? ⟨b, 0, none⟩ = false ∧ w.frozen? ⟨b, 1, none⟩ = false :=
  ⟨by rw [cell_of_row _ _ _ _ _ _ h.1]; rfl, by rw [cell_of_row _ _ _ _ _ _ h.1]; rfl, frozen_of_row w b 0 _ _ h.1, frozen_of_row w b 1 _ _ h.1⟩

theorem BusAt.lt {T E : TypeId} {w : World} {b : Nat} {sa : Option Addr} {cap : Nat} {ls : List Let} {next : Int} (h : BusAt T E w b sa cap ls next) : ∀ k, busF b sa k → k < w.heap.size := by
  rintro k (rfl | hk)
  · exact lt_of_heap h.1
  · exact h.2.1.lt k hk

theorem BusAt.mod {S : Nat → Prop} {T E : TypeId} {w w' : World} {b : Nat} {sa : Option Addr} {cap : Nat} {ls : List Let} {next : Int} (h : BusAt T E w b sa cap ls next) (hm : Mod S w w') (hs : ∀ k, busF b sa k → ¬ S k) : BusAt T E w' b sa cap ls next :=
  ⟨(hm.block b (lt_of_heap h.1) (hs b (Or.inl rfl))).trans h.1, h.2.1.mod hm (fun k hk => hs k (Or.inr hk)), h.2.2⟩

/-- How a bus stands behind a change of its letters and, ahead of it, perhaps, of its number. -/
theorem bus_appended_at {T E : TypeId} {w W w1 : World} {b len cap cap' : Nat} {sa sa' : Option Addr} {next : Int} {ls' : List Let}
    (hWm : Mod (fun k => k = b) w W) (hWb : W.heap[b]? = some (.cells #[.slice sa len cap, .int .i64 next] T (0, 0))) (hne : ¬ blk sa b)
    (hm1 : Mod (blk sa) W w1) (hown1 : Own w1 E 8 sa' ls'.length cap' (ls'.flatMap Let.cs)) (hb1 : ∀ k, blk sa' k → blk sa k ∨ W.heap.size ≤ k) :
    BusAt T E (w1.setCell ⟨b, 0, none⟩ (.slice sa' ls'.length cap')) b sa' cap' ls' next ∧ Mod (busF b sa) w (w1.setCell ⟨b, 0, none⟩ (.slice sa' ls'.length cap')) ∧ (∀ k, blk sa' k → blk sa k ∨ w.heap.size ≤ k) := by
  have hne' : ¬ blk sa' b := fun h => by
    rcases hb1 b h with h | h
    · exact hne h
    · have := lt_of_heap hWb; omega
  refine ⟨⟨?_, ?_, hne'⟩, ?_, ?_⟩
  · rw [heap_setCell_same w1 b 0 _ T _ ((hm1.block b (lt_of_heap hWb) hne).trans hWb)]
    rfl
  · exact hown1.mod (S := fun k => k = b) ((Mod.refl _ _).setCell (by simp) _) (fun k hk => by rintro rfl; exact hne' hk)
  · refine Mod.setCell ((hWm.mono (fun k _ h => Or.inl h)).then (hm1.mono fun k _ h => Or.inr h) fun k _ h => h) (by intro; exact Or.inl rfl) _
  · intro k hk
    rcases hb1 k hk with h | h
    · exact Or.inl h
    · exact Or.inr (by have := hWm.size; omega)

theorem bus_appended {T E : TypeId} {w W w1 : World} {b len cap cap' : Nat} {sa sa' : Option Addr} {next : Int} {ls' : List Let}
    (hWm : Mod (fun k => k = b) w W) (hWb : W.heap[b]? = some (.cells #[.slice sa len cap, .int .i64 next] T (0, 0))) (hne : ¬ blk sa b)
    (hm1 : Mod (blk sa) W w1) (hown1 : Own w1 E 8 sa' ls'.length cap' (ls'.flatMap Let.cs)) (hb1 : ∀ k, blk sa' k → blk sa k ∨ W.heap.size ≤ k) :
    BusStep T E w (w1.setCell ⟨b, 0, none⟩ (.slice sa' ls'.length cap')) b sa ls' next := ⟨sa', cap', bus_appended_at hWm hWb hne hm1 hown1 hb1⟩

end Go.Proofs.Ytppemlofjbblfaa
