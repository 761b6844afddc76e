/- Flow: what Parse defers -/
import Derived.Test.YtmkbbclbkpofoaaDoorFlR
import Derived.Defers
import Derived.Recover
namespace Go.Proofs.YtmkbbclbkpofoaaDoor
open Go Go.RowKit

theorem assert_nil (W : World) : (Instr.typeAssert .nilIface 20 25 true).run Tryd.prog W = .ok (.tuple #[.int .i64 0, .bool false]) W := by kernel_rfl
theorem assert_err (W : World) (n : Int) : (Instr.typeAssert (.iface 25 (.int .i64 n)) 20 25 true).run Tryd.prog W = .ok (.tuple #[.int .i64 n, .bool true]) W := by kernel_rfl

set_option maxRecDepth 100000 in
set_option maxHeartbeats 2000000 in
theorem catch_idle (D E : Nat) (w : World) : CallsD Tryd.prog 16 #[.pointer (some ⟨D, 0, none⟩), .pointer (some ⟨E, 0, none⟩)] .returning w fun e u' w' => e = .returned (.tuple #[]) ∧ u' = .returning ∧ w' = w := by
  refine callsD_of_wpS Tryd.func16 rfl fun c₀ cs hu => ?_
  apply wpS_seq
  apply wpS_region
  simp [wpOpsS, go_sem, recoverD, hu, Tryd.ntmps16, Exit.thenS, assert_nil]
  apply wpS_seq
  apply wpS_region
  simp [wpOpsS, go_sem, Exit.thenS]
  refine wpS_cond (t := false) (by simp [Act.eval]) ?_
  simp only [Bool.false_eq_true, if_false]
  refine wpS_of_wp (wp_skip ?_)
  cases c₀
  simp_all [bodyPostS, results, Tryd.results16]

set_option maxRecDepth 100000 in
set_option maxHeartbeats 2000000 in
theorem catch_fault {D E : Nat} {w : World} {v0 v1 v2 : Value} (n : Int) (hD : w.heap[D]? = some (.cells #[v0, v1] 24 (0, 0))) (hE : w.heap[E]? = some (.cells #[v2] 25 (0, 0))) (hne : D ≠ E) :
    CallsD Tryd.prog 16 #[.pointer (some ⟨D, 0, none⟩), .pointer (some ⟨E, 0, none⟩)] (.panicking [{ v := .iface 25 (.int .i64 n), recovered := false }]) w fun e u' w' =>
      e = .returned (.tuple #[]) ∧ u' = .panicking [{ v := .iface 25 (.int .i64 n), recovered := true }] ∧ w' = (((w.setCell ⟨D, 0, none⟩ (.string ⟨#[]⟩)).setCell ⟨D, 1, none⟩ (.slice none 0 0)).setCell ⟨E, 0, none⟩ (.int .i64 n)) := by
  obtain ⟨a0, a1, f0, f1⟩ := row2 hD
  obtain ⟨b0, g0⟩ := row1 hE
  refine callsD_of_wpS Tryd.func16 rfl fun c₀ cs hu => ?_
  apply wpS_seq
  apply wpS_region
  simp [wpOpsS, go_sem, recoverD, hu, Tryd.ntmps16, Exit.thenS, assert_err]
  apply wpS_seq
  apply wpS_region
  simp [wpOpsS, go_sem, Exit.thenS]
  refine wpS_cond (t := true) (by simp [Act.eval]) ?_
  simp only [if_true]
  apply wpS_region
  simp [wpOpsS, go_sem, a0, a1, f0, f1, b0, g0, bodyPostS, results, Tryd.results16]

end Go.Proofs.YtmkbbclbkpofoaaDoor
