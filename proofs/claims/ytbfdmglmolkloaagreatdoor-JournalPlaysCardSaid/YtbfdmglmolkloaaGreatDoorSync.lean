/- Atomics and the lock, one goroutine. (The lock's parts are turned from the kit's worked Lazy example.) -/
import Derived.Test.YtbfdmglmolkloaaGreatDoorProg
import Derived.Test.YtbfdmglmolkloaaGreatDoorMem
import Derived.Defers
import Derived.Laws.Pointers
import Derived.Laws.LoneSync
import Derived.RegionTactic
import Derived.RegionCalls
namespace Go.Proofs.YtbfdmglmolkloaaGreatDoor
open Go Go.RowKit

theorem i64_load {w : World} {b o : Nat} {v : Int} (h : w.cell? ⟨b, o, none⟩ = some (.int .i64 v)) : Calls Tryz.prog 34 #[.pointer (some ⟨b, o, none⟩)] w fun e w' => e = .returned (.int .i64 v) ∧ w = w' := by
  have hl := run_call_load (P := Tryz.prog) Tryz.func49 (by kernel_rfl) (by kernel_rfl) (by kernel_rfl) .i64 (by kernel_rfl) h
  go_enter Tryz.func34, Tryz.ntmps34
  go_wp2
  go_ret
  exact ⟨rfl, rfl⟩

theorem i64_store {w : World} {b o : Nat} {u : Value} (v : Int) (h : w.cell? ⟨b, o, none⟩ = some u) (hz : w.frozen? ⟨b, o, none⟩ = false) : Calls Tryz.prog 37 #[.pointer (some ⟨b, o, none⟩), .int .i64 v] w fun e w' => e = .returned (.tuple #[]) ∧ w' = w.setCell ⟨b, o, none⟩ (.int .i64 v) := by
  have hst := run_call_store (P := Tryz.prog) Tryz.func52 (by kernel_rfl) (by kernel_rfl) (by kernel_rfl) (by kernel_rfl) (k := .i64) (y := v) h hz
  go_enter Tryz.func37, Tryz.ntmps37
  go_wp2
  go_end0
  exact ⟨rfl, rfl⟩

theorem i64_add {w : World} {b o : Nat} {v : Int} (y : Int) (h : w.cell? ⟨b, o, none⟩ = some (.int .i64 v)) (hz : w.frozen? ⟨b, o, none⟩ = false) (h1 : -9223372036854775808 ≤ v + y) (h2 : v + y ≤ 9223372036854775807) : Calls Tryz.prog 41 #[.pointer (some ⟨b, o, none⟩), .int .i64 y] w fun e w' => e = .returned (.int .i64 (v + y)) ∧ w' = w.setCell ⟨b, o, none⟩ (.int .i64 (v + y)) := by
  have e : IntKind.i64.wrap (v + y) = v + y := IntWalk.i64_in _ (by omega)
  have hadd := run_call_add (P := Tryz.prog) Tryz.func58 (by kernel_rfl) (by kernel_rfl) (by kernel_rfl) .i64 (by kernel_rfl) (y := y) (s := v + y) h hz (by show Result.ok (Value.int .i64 (IntKind.i64.wrap (v + y))) w = _; rw [e])
  clear e
  go_enter Tryz.func41, Tryz.ntmps41
  go_wp2
  go_ret
  exact ⟨rfl, rfl⟩

theorem bool_load_t {w : World} {b o : Nat} (h : w.cell? ⟨b, o, none⟩ = some (.int .u32 1)) : Calls Tryz.prog 43 #[.pointer (some ⟨b, o, none⟩)] w fun e w' => e = .returned (.bool true) ∧ w = w' := by
  have hl := run_call_load (P := Tryz.prog) Tryz.func59 (by kernel_rfl) (by kernel_rfl) (by kernel_rfl) .u32 (by kernel_rfl) h
  go_enter Tryz.func43, Tryz.ntmps43
  go_wp2
  go_ret
  exact ⟨rfl, rfl⟩

theorem bool_load_f {w : World} {b o : Nat} (h : w.cell? ⟨b, o, none⟩ = some (.int .u32 0)) : Calls Tryz.prog 43 #[.pointer (some ⟨b, o, none⟩)] w fun e w' => e = .returned (.bool false) ∧ w = w' := by
  have hl := run_call_load (P := Tryz.prog) Tryz.func59 (by kernel_rfl) (by kernel_rfl) (by kernel_rfl) .u32 (by kernel_rfl) h
  go_enter Tryz.func43, Tryz.ntmps43
  go_wp2
  go_ret
  exact ⟨rfl, rfl⟩

def u32 (b : Bool) : Int := if b then 1 else 0

theorem bool_load {w : World} {b o : Nat} (v : Bool) (h : w.cell? ⟨b, o, none⟩ = some (.int .u32 (u32 v))) : Calls Tryz.prog 43 #[.pointer (some ⟨b, o, none⟩)] w fun e w' => e = .returned (.bool v) ∧ w = w' := by
  cases v
  · exact bool_load_f h
  · exact bool_load_t h

theorem bool_store {w : World} {b o : Nat} {u : Value} (v : Bool) (h : w.cell? ⟨b, o, none⟩ = some u) (hz : w.frozen? ⟨b, o, none⟩ = false) : Calls Tryz.prog 38 #[.pointer (some ⟨b, o, none⟩), .bool v] w fun e w' => e = .returned (.tuple #[]) ∧ w' = (w.setCell ⟨b, o, none⟩ (.int .u32 (u32 v))).drew := by
  have hc' : w.drew.cell? ⟨b, o, none⟩ = some u := h
  have hz' : w.drew.frozen? ⟨b, o, none⟩ = false := hz
  have hst := run_call_store (P := Tryz.prog) Tryz.func53 (by kernel_rfl) (by kernel_rfl) (by kernel_rfl) (by kernel_rfl) (k := .u32) (y := u32 v) hc' hz'
  cases v
  · simp only [u32, Bool.false_eq_true, if_false] at hst ⊢
    go_enter Tryz.func38, Tryz.ntmps38
    go_wp2
    go_region_calls
    all_goals (go_end0; exact ⟨rfl, rfl⟩)
  · simp only [u32, if_true] at hst ⊢
    go_enter Tryz.func38, Tryz.ntmps38
    go_wp2
    go_region_calls
    all_goals (go_end0; exact ⟨rfl, rfl⟩)

theorem r_disable (w : World) : (callFunc 95 #[]).run Tryz.prog w = .ok (.value (.tuple #[])) w := run_call_mark0 Tryz.func95 (by kernel_rfl) (by kernel_rfl) (by kernel_rfl) .disable (by kernel_rfl) w
theorem r_enable (w : World) : (callFunc 97 #[]).run Tryz.prog w = .ok (.value (.tuple #[])) w := run_call_mark0 Tryz.func97 (by kernel_rfl) (by kernel_rfl) (by kernel_rfl) .enable (by kernel_rfl) w
theorem r_acquire (a : Addr) (w : World) : (callFunc 98 #[.pointer (some a)]).run Tryz.prog w = .ok (.value (.tuple #[])) w := run_call_marked Tryz.func98 (by kernel_rfl) (by kernel_rfl) (by kernel_rfl) .acquire (by kernel_rfl) a w
theorem r_relm (a : Addr) (w : World) : (callFunc 100 #[.pointer (some a)]).run Tryz.prog w = .ok (.value (.tuple #[])) w := run_call_marked Tryz.func100 (by kernel_rfl) (by kernel_rfl) (by kernel_rfl) .releaseMerge (by kernel_rfl) a w

theorem store_deferred (a : Addr) (x : Value) (u : FrameMode) (w : World) (hc : w.cell? a = some x) (hz : w.frozen? a = false) :
    CallsD Tryz.prog 38 #[.pointer (some a), .bool true] u w fun e u' w' => u' = u ∧ (e = .returned (.tuple #[]) ∧ w' = w.drew.setCell a (.int .u32 1)) := by
  have hc' : w.drew.cell? a = some x := by go_simp
  have hz' : w.drew.frozen? a = false := by go_simp
  have hst := run_call_store (P := Tryz.prog) Tryz.func53 (by kernel_rfl) (by kernel_rfl) (by kernel_rfl) (by kernel_rfl) (k := .u32) (y := 1) hc' hz'
  go_enter_d Tryz.func38, Tryz.ntmps38
  go_wp2
  go_region_calls
  all_goals (go_end0; exact ⟨rfl, rfl⟩)

end Go.Proofs.YtbfdmglmolkloaaGreatDoor
