/- Send of the bus, and of the document's -/
import Derived.Test.YtppemlofjbblfaaProg
import Derived.Test.YtppemlofjbblfaaBusP
namespace Go.Proofs.Ytppemlofjbblfaa
open Go Go.RowKit
theorem infoLetS : (Try.prog.info? 28).map (fun i => (i.zero, i.size, i.bytes)) = some (some (.agg #[.int .i64 0, .int .i64 0, .int .i64 0, .int .i64 0, .int .i64 0, .int .i64 0, .int .i64 0, .string ByteArray.empty]), 8, 72) := by kernel_rfl

/-- The world at the append of Send: facts on it. -/
theorem send_world {T E : TypeId} {b : Nat} {sa : Option Addr} {cap : Nat} {next : Int} {w : World} {ls : List Let} (hbus : BusAt T E w b sa cap ls next) (C : List Value) (hC : C.length = 8) (c0 : Value) (hc0 : C[0]? = some c0) (m : Int) (W : World)
    (hW : W = (((w.setCell ⟨b, 1, none⟩ (.int .i64 m)).alloc (.cells C.toArray E)).alloc (.cells C.toArray E)).drew) :
    W.heap[b]? = some (.cells #[.slice sa ls.length cap, .int .i64 m] T (0, 0)) ∧ Mod (fun k => k = b) w W ∧ Own W E 8 sa ls.length cap (ls.flatMap Let.cs) ∧ Src W 8 (some ⟨w.heap.size + 1, 0, none⟩) 1 C ∧
    (∀ w1, Mod (blk sa) W w1 → w1.cell? ⟨b, 0, none⟩ = some (.slice sa ls.length cap) ∧ w1.frozen? ⟨b, 0, none⟩ = false ∧ w1.cell? ⟨w.heap.size, 0, none⟩ = some c0) := by
  obtain ⟨hb, hown, hne⟩ := hbus
  have hbl := lt_of_heap hb
  have hWb : W.heap[b]? = some (.cells #[.slice sa ls.length cap, .int .i64 m] T (0, 0)) := by
    rw [hW, heap_drew, Below.heap_alloc _ _ _ (by simp; omega), Below.heap_alloc _ _ _ (by simpa using hbl), heap_setCell_same w b 1 _ T _ hb]
    rfl
  have hW0 : W.heap[w.heap.size]? = some (.cells C.toArray E) := by
    rw [hW, heap_drew, Below.heap_alloc _ _ _ (by simp)]
    have := heap_alloc_new (w.setCell ⟨b, 1, none⟩ (.int .i64 m)) (.cells C.toArray E)
    simpa using this
  have hW1 : W.heap[w.heap.size + 1]? = some (.cells C.toArray E) := by
    rw [hW, heap_drew]
    have := heap_alloc_new ((w.setCell ⟨b, 1, none⟩ (.int .i64 m)).alloc (.cells C.toArray E)) (.cells C.toArray E)
    simpa using this
  have hWm : Mod (fun k => k = b) w W := by
    rw [hW]; exact ((((Mod.refl _ w).setCell (by simp) _).alloc _).alloc _).drew
  refine ⟨hWb, hWm, hown.mod hWm (fun k hk => by rintro rfl; exact hne hk), src_new hW1 (by rw [hC]), ?_⟩
  intro w1 hm
  have e1 := (hm.block b (lt_of_heap hWb) hne).trans hWb
  have e2 := (hm.block w.heap.size (lt_of_heap hW0) (fun h => by have := hown.lt _ h; omega)).trans hW0
  exact ⟨by rw [cell_of_row _ _ _ _ _ _ e1]; rfl, frozen_of_row _ _ _ _ _ e1, by rw [cell_of_row _ _ _ _ _ _ e2]; simpa using hc0⟩

set_option maxRecDepth 100000 in
theorem send_ok (b : Nat) (sa : Option Addr) (cap : Nat) (next : Int) (w : World) (ls : List Let) (a0 a1 a2 a3 a4 a5 a6 : Int) (s : ByteArray)
    (hbus : BusAt 58 28 w b sa cap ls next) (hl : ls.length < 4096) (hn : 0 ≤ next) (hn2 : next < 4611686018427387904) :
    Calls Try.prog 11 #[.pointer (some ⟨b, 0, none⟩), .agg #[.int .i64 a0, .int .i64 a1, .int .i64 a2, .int .i64 a3, .int .i64 a4, .int .i64 a5, .int .i64 a6, .string s]] w fun e w' => e = .returned (.tuple #[.int .i64 next, .int .i64 0]) ∧
      BusStep 58 28 w w' b sa (ls ++ [⟨next, a1, a2, a3, a4, a5, a6, s⟩]) (next + 1) := by
  obtain ⟨i0, hi, hz0, hz1, hz2⟩ := info_parts infoLetS
  obtain ⟨h0, h1, f0, f1⟩ := hbus.cells
  have hbl : b < w.heap.size := hbus.lt b (Or.inl rfl)
  obtain ⟨hWb, hWm, hWown, hWsrc, hlate⟩ := send_world hbus [.int .i64 next, .int .i64 a1, .int .i64 a2, .int .i64 a3, .int .i64 a4, .int .i64 a5, .int .i64 a6, .string s] rfl _ rfl (next + 1) _ rfl
  have Hown := hid hWown
  have Hsrc := hid hWsrc
  have Hlate := hid hlate
  have Hone := hid (Let.one ⟨next, a1, a2, a3, a4, a5, a6, s⟩)
  have HWm := hid hWm
  have HWb := hid hWb
  have Hne := hid hbus.2.2
  clear hWown hWsrc hlate hWm hWb hbus
  generalize hL : ls.length = len at *
  have Hlen := hid hL
  clear hL
  go_enter Try.func11, Try.ntmps11
  go_wp2
  go_region_law (refine step_append_Own rfl (.tmp 32) (.tmp 34) 35 rfl 28 i0 _ 8 72 Try.underlying35 hi hz0 hz1 hz2 rfl sa len cap _ (by simp [Act.eval]) Hown.out (some ⟨w.heap.size + 1, 0, none⟩) 1 1 _ (by simp [Act.eval]) Hsrc.out Hone.out (by unfold maxLen; omega) (by omega) ?_; intro sa' cap' w1 hown1 hm1 hb1 hn1 hr1; obtain ⟨k0, k1, k2⟩ := Hlate.out w1 hm1; have Hm1 := hid hm1; have Hown1 := hid hown1; have Hb1 := hid hb1; clear hm1 hown1 hb1 hn1 hr1)
  all_goals
    go_wp2
    go_ret2
    refine ⟨rfl, ?_⟩
    have el : (ls ++ [(⟨next, a1, a2, a3, a4, a5, a6, s⟩ : Let)]).length = len + 1 := by simp [Hlen.out]
    have := bus_appended (T := 58) (E := 28) (ls' := ls ++ [⟨next, a1, a2, a3, a4, a5, a6, s⟩]) (len := len) HWm.out HWb.out Hne.out Hm1.out (by rw [el, List.flatMap_append]; exact Hown1.out) Hb1.out
    rw [el] at this
    exact this

set_option maxRecDepth 100000 in
theorem send_full (b : Nat) (sa : Option Addr) (cap : Nat) (next : Int) (w : World) (ls : List Let) (a0 a1 a2 a3 a4 a5 a6 : Int) (s : ByteArray)
    (hbus : BusAt 58 28 w b sa cap ls next) (hl : 4096 ≤ ls.length) :
    Calls Try.prog 11 #[.pointer (some ⟨b, 0, none⟩), .agg #[.int .i64 a0, .int .i64 a1, .int .i64 a2, .int .i64 a3, .int .i64 a4, .int .i64 a5, .int .i64 a6, .string s]] w fun e w' => e = .returned (.tuple #[.int .i64 0, .int .i64 72]) ∧
      Mod (fun _ => False) w w' := by
  obtain ⟨h0, h1, f0, f1⟩ := hbus.cells
  have hbl : b < w.heap.size := hbus.lt b (Or.inl rfl)
  clear hbus
  generalize hL : ls.length = len at *
  clear hL
  go_enter Try.func11, Try.ntmps11
  go_wp2
  go_ret2
  exact ⟨rfl, (Mod.refl _ _).alloc _⟩

theorem infoRLetS : (Try.prog.info? 50).map (fun i => (i.zero, i.size, i.bytes)) = some (some (.agg #[.int .i64 0, .int .i64 0, .int .i64 0, .int .i64 0, .int .i64 0, .int .i64 0, .int .i64 0, .string ByteArray.empty]), 8, 72) := by kernel_rfl

set_option maxRecDepth 100000 in
theorem rsend_ok (b : Nat) (sa : Option Addr) (cap : Nat) (next : Int) (w : World) (ls : List Let) (a0 a1 a2 a3 a4 a5 a6 : Int) (s : ByteArray)
    (hbus : BusAt 47 50 w b sa cap ls next) (hl : ls.length < 4096) (hn : 0 ≤ next) (hn2 : next < 4611686018427387904) :
    Calls Try.prog 25 #[.pointer (some ⟨b, 0, none⟩), .agg #[.int .i64 a0, .int .i64 a1, .int .i64 a2, .int .i64 a3, .int .i64 a4, .int .i64 a5, .int .i64 a6, .string s]] w fun e w' => e = .returned (.tuple #[.int .i64 next, .int .i64 0]) ∧
      BusStep 47 50 w w' b sa (ls ++ [⟨next, a1, a2, a3, a4, a5, a6, s⟩]) (next + 1) := by
  obtain ⟨i0, hi, hz0, hz1, hz2⟩ := info_parts infoRLetS
  obtain ⟨h0, h1, f0, f1⟩ := hbus.cells
  have hbl : b < w.heap.size := hbus.lt b (Or.inl rfl)
  obtain ⟨hWb, hWm, hWown, hWsrc, hlate⟩ := send_world hbus [.int .i64 next, .int .i64 a1, .int .i64 a2, .int .i64 a3, .int .i64 a4, .int .i64 a5, .int .i64 a6, .string s] rfl _ rfl (next + 1) _ rfl
  have Hown := hid hWown
  have Hsrc := hid hWsrc
  have Hlate := hid hlate
  have Hone := hid (Let.one ⟨next, a1, a2, a3, a4, a5, a6, s⟩)
  have HWm := hid hWm
  have HWb := hid hWb
  have Hne := hid hbus.2.2
  clear hWown hWsrc hlate hWm hWb hbus
  generalize hL : ls.length = len at *
  have Hlen := hid hL
  clear hL
  go_enter Try.func25, Try.ntmps25
  go_wp2
  go_region_law (refine step_append_Own rfl (.tmp 29) (.tmp 31) 45 rfl 50 i0 _ 8 72 Try.underlying45 hi hz0 hz1 hz2 rfl sa len cap _ (by simp [Act.eval]) Hown.out (some ⟨w.heap.size + 1, 0, none⟩) 1 1 _ (by simp [Act.eval]) Hsrc.out Hone.out (by unfold maxLen; omega) (by omega) ?_; intro sa' cap' w1 hown1 hm1 hb1 hn1 hr1; obtain ⟨k0, k1, k2⟩ := Hlate.out w1 hm1; have Hm1 := hid hm1; have Hown1 := hid hown1; have Hb1 := hid hb1; clear hm1 hown1 hb1 hn1 hr1)
  all_goals
    go_wp2
    go_ret2
    refine ⟨rfl, ?_⟩
    have el : (ls ++ [(⟨next, a1, a2, a3, a4, a5, a6, s⟩ : Let)]).length = len + 1 := by simp [Hlen.out]
    have := bus_appended (T := 47) (E := 50) (ls' := ls ++ [⟨next, a1, a2, a3, a4, a5, a6, s⟩]) (len := len) HWm.out HWb.out Hne.out Hm1.out (by rw [el, List.flatMap_append]; exact Hown1.out) Hb1.out
    rw [el] at this
    exact this

set_option maxRecDepth 100000 in
theorem rsend_full (b : Nat) (sa : Option Addr) (cap : Nat) (next : Int) (w : World) (ls : List Let) (a0 a1 a2 a3 a4 a5 a6 : Int) (s : ByteArray)
    (hbus : BusAt 47 50 w b sa cap ls next) (hl : 4096 ≤ ls.length) :
    Calls Try.prog 25 #[.pointer (some ⟨b, 0, none⟩), .agg #[.int .i64 a0, .int .i64 a1, .int .i64 a2, .int .i64 a3, .int .i64 a4, .int .i64 a5, .int .i64 a6, .string s]] w fun e w' => e = .returned (.tuple #[.int .i64 0, .int .i64 72]) ∧
      Mod (fun _ => False) w w' := by
  obtain ⟨h0, h1, f0, f1⟩ := hbus.cells
  have hbl : b < w.heap.size := hbus.lt b (Or.inl rfl)
  clear hbus
  generalize hL : ls.length = len at *
  clear hL
  go_enter Try.func25, Try.ntmps25
  go_wp2
  go_ret2
  exact ⟨rfl, (Mod.refl _ _).alloc _⟩

end Go.Proofs.Ytppemlofjbblfaa
