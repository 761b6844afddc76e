/- The program's Table.fit (printed by genfit2.py) -/
import Derived.Test.YtoclecpedhbokaaRwH
namespace Go.Proofs.Ytoclecpedhbokaa
open Go Go.RowKit

theorem fitB_and (name : Int) (cols : List Int) (keys idx : Int) : fitB name cols keys idx = (fitC name cols.length keys idx && decide (∀ k ∈ cols, kindP k)) := by
  unfold fitB
  by_cases h : ∀ k ∈ cols, kindP k
  · rw [if_pos h, decide_eq_true h, Bool.and_true]
  · rw [if_neg h, decide_eq_false h, Bool.and_false]

set_option maxRecDepth 100000 in
set_option maxHeartbeats 2000000 in
theorem fit_any {w : World} {ca : Option Addr} {cols : List Int} (name keys idx : Int) (cc : Nat) (hl : Lies w 1 oneI ca cols) (hn : cols.length ≤ 140737488351232) :
    Calls Try.prog 25 #[.agg #[.int .u8 name, .slice ca cols.length cc, .int .i64 keys, .int .i64 idx]] w fun e w' => e = .returned (.bool (fitB name cols keys idx)) ∧ Mod (fun _ => False) w w' := by
  have hma : Mod (fun _ => False) w (w.alloc (.cells #[.int .u8 name, .slice ca cols.length cc, .int .i64 keys, .int .i64 idx] 24)) := (Mod.refl _ _).alloc _
  have HM := hid hma
  have HC := hid (con_any cc (hl.ext hma) hn)
  have HF := hid (fitB_and name cols keys idx)
  clear hma hl
  by_cases h0 : 97 ≤ name
  case neg =>
    have d0 : decide (97 ≤ name) = false := by simpa using h0
    have HV : Hid (fitC name cols.length keys idx = false) := hid (by simp [fitC, *])
    clear h0
    go_enter Try.func25, Try.ntmps25
    go_wp2_with fail
    go_ret
    rw [HF.out, HV.out]
    exact ⟨rfl, HM.out⟩
  have d0 : decide (97 ≤ name) = true := by simpa using h0
  by_cases h1 : name ≤ 122
  case neg =>
    have d1 : decide (name ≤ 122) = false := by simpa using h1
    have HV : Hid (fitC name cols.length keys idx = false) := hid (by simp [fitC, *])
    clear h0 h1
    go_enter Try.func25, Try.ntmps25
    go_wp2_with fail
    go_ret
    rw [HF.out, HV.out]
    exact ⟨rfl, HM.out⟩
  have d1 : decide (name ≤ 122) = true := by simpa using h1
  by_cases h2 : 1 ≤ keys
  case neg =>
    have d2 : decide (1 ≤ keys) = false := by simpa using h2
    have HV : Hid (fitC name cols.length keys idx = false) := hid (by simp [fitC, *])
    clear h0 h1 h2
    go_enter Try.func25, Try.ntmps25
    go_wp2_with fail
    go_ret
    rw [HF.out, HV.out]
    exact ⟨rfl, HM.out⟩
  have d2 : decide (1 ≤ keys) = true := by simpa using h2
  by_cases h3 : keys ≤ (cols.length : Int)
  case neg =>
    have d3 : decide (keys ≤ (cols.length : Int)) = false := by simpa using h3
    have HV : Hid (fitC name cols.length keys idx = false) := hid (by simp [fitC, *])
    clear h0 h1 h2 h3
    go_enter Try.func25, Try.ntmps25
    go_wp2_with fail
    go_ret
    rw [HF.out, HV.out]
    exact ⟨rfl, HM.out⟩
  have d3 : decide (keys ≤ (cols.length : Int)) = true := by simpa using h3
  by_cases h4 : -1 ≤ idx
  case neg =>
    have d4 : decide (-1 ≤ idx) = false := by simpa using h4
    have HV : Hid (fitC name cols.length keys idx = false) := hid (by simp [fitC, *])
    clear h0 h1 h2 h3 h4
    go_enter Try.func25, Try.ntmps25
    go_wp2_with fail
    go_ret
    rw [HF.out, HV.out]
    exact ⟨rfl, HM.out⟩
  have d4 : decide (-1 ≤ idx) = true := by simpa using h4
  by_cases h5 : idx < (cols.length : Int)
  case neg =>
    have d5 : decide (idx < (cols.length : Int)) = false := by simpa using h5
    have HV : Hid (fitC name cols.length keys idx = false) := hid (by simp [fitC, *])
    clear h0 h1 h2 h3 h4 h5
    go_enter Try.func25, Try.ntmps25
    go_wp2_with fail
    go_ret
    rw [HF.out, HV.out]
    exact ⟨rfl, HM.out⟩
  have d5 : decide (idx < (cols.length : Int)) = true := by simpa using h5
  have HV : Hid (fitC name cols.length keys idx = true) := hid (by simp [fitC, *])
  clear h0 h1 h2 h3 h4 h5
  have HD : Hid (decide (¬ ∀ k ∈ cols, kindP k) = !decide (∀ k ∈ cols, kindP k)) := hid decide_not
  rw [HD.out] at HC
  generalize decide (∀ k ∈ cols, kindP k) = z at *
  go_enter Try.func25, Try.ntmps25
  go_wp2_with fail
  refine HC.out.mono ?_
  rintro e w1 ⟨rfl, rfl⟩
  go_wp2_with fail
  go_ret
  rw [HF.out, HV.out]
  exact ⟨by cases z <;> rfl, HM.out⟩

end Go.Proofs.Ytoclecpedhbokaa
