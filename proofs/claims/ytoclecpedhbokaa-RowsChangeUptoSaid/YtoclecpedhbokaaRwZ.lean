/- The document's Form -/
import Derived.Test.YtoclecpedhbokaaRwY
namespace Go.Proofs.Ytoclecpedhbokaa
open Go Go.RowKit

/-- The bytes ahead of a key. -/
def headL (name : Nat) (b : UInt8) : List UInt8 := [UInt8.ofNat name, b]

set_option maxRecDepth 100000 in
set_option maxHeartbeats 2000000 in
theorem rformT_any {w : World} {ca : Option Addr} {cols : List Int} (name idx : Nat) (keys : Int) (cc : Nat) (c : Int) (v : Vl) (hl : Lies w 1 oneI ca cols) (hc : cols[idx]? = some c) (hn : cols.length ≤ 140737488351232) (hv : v.Ok) (hname : name < 256) (hsz : (formV c v).length ≤ 2305843009213693952) :
    Calls Try.prog 23 #[.agg #[.int .u8 (name : Int), .slice ca cols.length cc, .int .i64 keys, .int .i64 (idx : Int)], .agg #[.int .i64 v.n, .string v.s]] w fun e w' => e = .returned (.string (ba (headL name 1 ++ formV c v))) ∧ Mod (fun _ => False) w w' := by
  have hlt := (List.getElem?_eq_some_iff.1 hc).1
  have hma : Mod (fun _ => False) w ((w.alloc (.cells #[.int .u8 (name : Int), .slice ca cols.length cc, .int .i64 keys, .int .i64 (idx : Int)] 37)).alloc (.cells #[.int .i64 v.n, .string v.s] 63)) := ((Mod.refl _ _).alloc _).alloc _
  have HM := hid hma
  have hlc := hl.ext hma
  obtain ⟨g, off, rfl⟩ := hlc.some (by omega)
  have q0 := hlc.cell oneI_len hc (j := 0) rfl
  rw [Nat.add_zero, Nat.mul_one] at q0
  have HF := hid (fun x : World => rformV_any c v x hv)
  have HQ := hid q0
  have hA : ((w.alloc (.cells #[.int .u8 (name : Int), .slice (some ⟨g, off, none⟩) cols.length cc, .int .i64 keys, .int .i64 (idx : Int)] 37)).alloc (.cells #[.int .i64 v.n, .string v.s] 63)).heap[w.heap.size]? = some (.cells #[.int .u8 (name : Int), .slice (some ⟨g, off, none⟩) cols.length cc, .int .i64 keys, .int .i64 (idx : Int)] 37 (0, 0)) := ((Mod.refl (fun _ => False) _).alloc _).block _ (lt_of_heap (heap_alloc_new _ _)) (fun h => h) |>.trans (heap_alloc_new _ _)
  have hB : ((w.alloc (.cells #[.int .u8 (name : Int), .slice (some ⟨g, off, none⟩) cols.length cc, .int .i64 keys, .int .i64 (idx : Int)] 37)).alloc (.cells #[.int .i64 v.n, .string v.s] 63)).heap[w.heap.size + 1]? = some (.cells #[.int .i64 v.n, .string v.s] 63 (0, 0)) := by
    have := heap_alloc_new (w.alloc (.cells #[.int .u8 (name : Int), .slice (some ⟨g, off, none⟩) cols.length cc, .int .i64 keys, .int .i64 (idx : Int)] 37)) (.cells #[.int .i64 v.n, .string v.s] 63)
    rwa [show (w.alloc (.cells #[.int .u8 (name : Int), .slice (some ⟨g, off, none⟩) cols.length cc, .int .i64 keys, .int .i64 (idx : Int)] 37)).heap.size = w.heap.size + 1 from Array.size_push _] at this
  have HA := hid hA
  have HB := hid hB
  clear hma hlc hl hc q0 hA hB
  go_enter Try.func23, Try.ntmps23
  go_wp2_with fail
  generalize (w.alloc (.cells #[.int .u8 (name : Int), .slice (some ⟨g, off, none⟩) cols.length cc, .int .i64 keys, .int .i64 (idx : Int)] 37)).alloc (.cells #[.int .i64 v.n, .string v.s] 63) = C at *
  have q0 : C.cell? ⟨g, off + idx, none⟩ = some (.int .i64 c) := HQ.out
  have g0 := fun x : Ext C => x.cell q0
  have g1 : ∀ x : Ext C, x.val.cell? ⟨w.heap.size, 0, none⟩ = some (.int .u8 (name : Int)) := fun x => by rw [cell_of_row _ _ _ _ _ _ (x.heap HA.out)]; rfl
  have g2 : ∀ x : Ext C, x.val.cell? ⟨w.heap.size, 1, none⟩ = some (.slice (some ⟨g, off, none⟩) cols.length cc) := fun x => by rw [cell_of_row _ _ _ _ _ _ (x.heap HA.out)]; rfl
  have g3 : ∀ x : Ext C, x.val.cell? ⟨w.heap.size, 3, none⟩ = some (.int .i64 (idx : Int)) := fun x => by rw [cell_of_row _ _ _ _ _ _ (x.heap HA.out)]; rfl
  have g4 : ∀ x : Ext C, x.val.cell? ⟨w.heap.size + 1, 0, none⟩ = some (.int .i64 v.n) := fun x => by rw [cell_of_row _ _ _ _ _ _ (x.heap HB.out)]; rfl
  have g5 : ∀ x : Ext C, x.val.cell? ⟨w.heap.size + 1, 1, none⟩ = some (.string v.s) := fun x => by rw [cell_of_row _ _ _ _ _ _ (x.heap HB.out)]; rfl
  have HK := hid (fun x : Ext C => HF.out x.val)
  clear q0
  refine wp_region_ext (by kernel_rfl) (by kernel_rfl) ?_
  repeat (go_big_quiet_step ((go_at_call 20; exact ext_call (HK.out _))))
  refine wpQuiet_nil ?_
  rintro _ ⟨x, rfl⟩
  have c1 := g1 x
  have hcv : (convert 68 9 (.slice (some ⟨x.val.heap.size, 0, none⟩) 2 2)).run Try.prog (x.val.alloc (.cells #[.int .u8 (name : Int), .int .u8 1] 5)) = .ok (.string (ba (headL name 1))) (x.val.alloc (.cells #[.int .u8 (name : Int), .int .u8 1] 5)) :=
    run_convert_bytes_back (P := Try.prog) _ 68 9 5 ⟨x.val.heap.size, 0, none⟩ 2 (headL name 1) Try.underlying68 Try.underlying5 Try.underlying9 (fun j hj => by
      rw [Addr.add_lit, cell_of_row _ _ _ _ _ _ (heap_alloc_new _ _)]
      have : j = 0 ∨ j = 1 := by simp [headL] at hj; omega
      rcases this with rfl | rfl
      · simp [headL]; omega
      · simp [headL])
  have s0 : (ba (headL name 1)).size = 2 := by rw [ba_size]; rfl
  have s1 : (ba (formV c v)).size ≤ 2305843009213693952 := by rw [ba_size]; exact hsz
  have HM2 := hid ((HM.out.trans x.mod).alloc (.cells #[.int .u8 (name : Int), .int .u8 1] 5))
  clear g0 g1 g2 g3 g4 g5 hsz
  go_wp2_with fail
  go_ret
  rw [← ba_append]
  exact ⟨rfl, HM2.out⟩

end Go.Proofs.Ytoclecpedhbokaa
