/- A node that grows (for a seat without with) -/
import Derived.Test.YthdopgejikcfbaaDoorNode
namespace Go.Proofs.YthdopgejikcfbaaDoor
open Go Go.RowKit

theorem infoStr : (Tryd.prog.info? 9).map (fun i => (i.zero, i.size, i.bytes)) = some (some (.string ByteArray.empty), 1, 16) := by kernel_rfl
theorem infoInt : (Tryd.prog.info? 3).map (fun i => (i.zero, i.size, i.bytes)) = some (some (.int .i64 0), 1, 8) := by kernel_rfl

abbrev scs (x : ByteArray) : List Value := [.string x]
abbrev ics (x : Int) : List Value := [.int .i64 x]

/-- A node that grows. -/
structure Gd (w : World) (n : Nd) : Prop where
  k : Own w 9 1 n.ka n.keys.length n.kc (n.keys.flatMap scs)
  v : Own w 9 1 n.va n.values.length n.vc (n.values.flatMap scs)
  i : Own w 3 1 n.ia n.kids.length n.ic (n.kids.flatMap ics)
  kv : ∀ b, blk n.ka b → ¬ blk n.va b
  ki : ∀ b, blk n.ka b → ¬ blk n.ia b
  vi : ∀ b, blk n.va b → ¬ blk n.ia b

def Nd.bs (n : Nd) (b : Nat) : Prop := blk n.ka b ∨ blk n.va b ∨ blk n.ia b
def Nd.val (n : Nd) : Value := .agg #[.bool n.leaf, .slice n.ka n.keys.length n.kc, .slice n.va n.values.length n.vc, .slice n.ia n.kids.length n.ic]

theorem Gd.ext {w w' : World} {n : Nd} (h : Gd w n) {S : Nat → Prop} (hm : Mod S w w') (hs : ∀ b, n.bs b → ¬ S b) : Gd w' n :=
  ⟨h.k.mod hm (fun b hb => hs b (.inl hb)), h.v.mod hm (fun b hb => hs b (.inr (.inl hb))), h.i.mod hm (fun b hb => hs b (.inr (.inr hb))), h.kv, h.ki, h.vi⟩

theorem Gd.lt {w : World} {n : Nd} (h : Gd w n) {b : Nat} (hb : n.bs b) : b < w.heap.size := by
  rcases hb with hb | hb | hb
  · exact h.k.lt b hb
  · exact h.v.lt b hb
  · exact h.i.lt b hb

theorem set4 {w : World} {b : Nat} {v0 v1 v2 v3 : Value} {t : TypeId} (h : w.heap[b]? = some (.cells #[v0, v1, v2, v3] t (0, 0))) (u : Value) :
    (w.setCell ⟨b, 0, none⟩ u).heap[b]? = some (.cells #[u, v1, v2, v3] t (0, 0)) ∧ (w.setCell ⟨b, 1, none⟩ u).heap[b]? = some (.cells #[v0, u, v2, v3] t (0, 0)) ∧ (w.setCell ⟨b, 2, none⟩ u).heap[b]? = some (.cells #[v0, v1, u, v3] t (0, 0)) ∧ (w.setCell ⟨b, 3, none⟩ u).heap[b]? = some (.cells #[v0, v1, v2, u] t (0, 0)) :=
  ⟨heap_setCell_same w b 0 _ t u h, heap_setCell_same w b 1 _ t u h, heap_setCell_same w b 2 _ t u h, heap_setCell_same w b 3 _ t u h⟩


end Go.Proofs.YthdopgejikcfbaaDoor
