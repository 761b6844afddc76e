/- Kinds that may not be: slices.ContainsFunc at the law's function -/
import Derived.Test.YtoclecpedhbokaaRwT
namespace Go.Proofs.Ytoclecpedhbokaa
open Go Go.RowKit

set_option maxRecDepth 100000 in
theorem clo_any (k : Int) (w : World) : Calls Try.prog 36 #[.int .i64 k] w fun e w' => e = .returned (.bool (decide (¬ kindP k))) ∧ w = w' := by
  by_cases h0 : k < 0
  · have d0 : decide (k < 0) = true := by simpa using h0
    have HV : Hid (decide (¬ kindP k) = true) := hid (decide_eq_true (by unfold kindP; omega))
    clear h0
    go_enter Try.func36, Try.ntmps36
    go_wp2
    go_ret
    rw [HV.out]
    exact ⟨rfl, rfl⟩
  · have d0 : decide (k < 0) = false := by simpa using h0
    by_cases h1 : 1 < k
    · have d1 : decide (1 < k) = true := by simpa using h1
      have HV : Hid (decide (¬ kindP k) = true) := hid (decide_eq_true (by unfold kindP; omega))
      clear h0 h1
      go_enter Try.func36, Try.ntmps36
      go_wp2
      go_ret
      rw [HV.out]
      exact ⟨rfl, rfl⟩
    · have d1 : decide (1 < k) = false := by simpa using h1
      have HV : Hid (decide (¬ kindP k) = false) := hid (decide_eq_false (by unfold kindP; omega))
      clear h0 h1
      go_enter Try.func36, Try.ntmps36
      go_wp2
      go_ret
      rw [HV.out]
      exact ⟨rfl, rfl⟩

set_option maxRecDepth 100000 in
theorem idx_any {w : World} {ca : Option Addr} {cols : List Int} (cc : Nat) (hl : Lies w 1 oneI ca cols) (hn : cols.length ≤ 140737488351232) :
    Calls Try.prog 45 #[.slice ca cols.length cc, .func (.func 36) #[] #[]] w fun e w' => (∃ r : Int, e = .returned (.int .i64 r) ∧ (0 ≤ r ↔ ¬ ∀ k ∈ cols, kindP k)) ∧ w = w' := by
  have HL := hid hl
  clear hl
  go_enter Try.func45, Try.ntmps45
  go_wp2
  go_loop [8] (fun c => ∃ k : Nat, k ≤ cols.length ∧ c = .int .i64 k ∧ ∀ j x, j < k → cols[j]? = some x → kindP x) (fun c => cols.length - (intOf c).toNat)
  case atStart => exact ⟨0, Nat.zero_le _, rfl, fun j x h => by omega⟩
  case round =>
    obtain ⟨k, hk, rfl, hb⟩ := hrel
    have HB := hid hb
    clear hb
    by_cases hlt : k < cols.length
    · obtain ⟨x, hx⟩ : ∃ x, cols[k]? = some x := ⟨_, List.getElem?_eq_getElem hlt⟩
      have HX := hid hx
      obtain ⟨g, off, rfl⟩ := HL.out.some (by omega)
      have q0 := HL.out.cell oneI_len hx (j := 0) rfl
      rw [Nat.add_zero, Nat.mul_one] at q0
      have HC := hid (clo_any x w)
      clear hx
      by_cases hx1 : kindP x
      · rw [decide_eq_false (fun h => h hx1)] at HC
        have HK := hid hx1
        clear hx1
        go_wp2_with fail
        refine HC.out.mono ?_
        rintro e w1 ⟨rfl, rfl⟩
        go_wp2_with fail
        go_round
        case rel =>
          refine ⟨k + 1, by omega, by go_num, fun j y hj hy => ?_⟩
          by_cases hjk : j = k
          · subst hjk
            rw [HX.out] at hy
            cases hy
            exact HK.out
          · exact HB.out j y (by omega) hy
        case measure => simp [intOf]; omega
      · rw [decide_eq_true hx1] at HC
        have HK := hid hx1
        clear hx1
        go_wp2_with fail
        refine HC.out.mono ?_
        rintro e w1 ⟨rfl, rfl⟩
        go_wp2_with fail
        go_ret
        exact ⟨⟨_, rfl, ⟨fun _ h => HK.out (h x (List.mem_of_getElem? HX.out)), fun _ => by omega⟩⟩, rfl⟩
    · have hke : k = cols.length := by omega
      subst hke
      go_wp2_with fail
      go_ret
      have HAll : Hid (∀ x ∈ cols, kindP x) := hid (fun x hx => by
        obtain ⟨i, hi⟩ := List.getElem?_of_mem hx
        exact HB.out i x (List.getElem?_eq_some_iff.1 hi).1 hi)
      refine ⟨⟨_, rfl, ⟨fun h => by omega, fun h => ?_⟩⟩, rfl⟩
      obtain ⟨x, hx, hk⟩ : ∃ x, x ∈ cols ∧ ¬ kindP x := by simpa using h
      exact absurd (HAll.out x hx) hk

set_option maxRecDepth 100000 in
theorem con_any {w : World} {ca : Option Addr} {cols : List Int} (cc : Nat) (hl : Lies w 1 oneI ca cols) (hn : cols.length ≤ 140737488351232) :
    Calls Try.prog 35 #[.slice ca cols.length cc, .func (.func 36) #[] #[]] w fun e w' => e = .returned (.bool (decide (¬ ∀ k ∈ cols, kindP k))) ∧ w = w' := by
  have HI := hid (idx_any cc hl hn)
  clear hl
  go_enter Try.func35, Try.ntmps35
  go_wp2_with fail
  refine HI.out.mono ?_
  rintro e w1 ⟨⟨r, rfl, hr⟩, rfl⟩
  have HV : Hid (decide (0 ≤ r) = decide (¬ ∀ k ∈ cols, kindP k)) := hid (decide_eq_decide.2 hr)
  clear hr
  go_wp2_with fail
  go_ret
  rw [HV.out]
  exact ⟨rfl, rfl⟩

end Go.Proofs.Ytoclecpedhbokaa
