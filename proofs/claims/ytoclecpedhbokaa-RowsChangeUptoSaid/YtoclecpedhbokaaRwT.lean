/- The document's FitTable (printed by genfit.py) -/
import Derived.Test.YtoclecpedhbokaaRwF
import Derived.Test.YtoclecpedhbokaaLies
namespace Go.Proofs.Ytoclecpedhbokaa
open Go Go.RowKit

/-- May the table be? -/
def fitC (name : Int) (n : Nat) (keys idx : Int) : Bool := decide (97 ≤ name) && (decide (name ≤ 122) && (decide (1 ≤ keys) && (decide (keys ≤ (n : Int)) && (decide (-1 ≤ idx) && decide (idx < (n : Int))))))
def kindP (k : Int) : Prop := k = 0 ∨ k = 1
instance (k : Int) : Decidable (kindP k) := inferInstanceAs (Decidable (k = 0 ∨ k = 1))
noncomputable def fitB (name : Int) (cols : List Int) (keys idx : Int) : Bool := open Classical in if ∀ k ∈ cols, kindP k then fitC name cols.length keys idx else false
def oneI (k : Int) : List Value := [.int .i64 k]
theorem oneI_len (k : Int) : (oneI k).length = 1 := rfl

set_option maxRecDepth 100000 in
set_option maxHeartbeats 2000000 in
theorem rfit_any {w : World} {ca : Option Addr} {cols : List Int} (name keys idx : Int) (cc : Nat) (hl : Lies w 1 oneI ca cols) (hn : cols.length ≤ 140737488351232) :
    Calls Try.prog 18 #[.agg #[.int .u8 name, .slice ca cols.length cc, .int .i64 keys, .int .i64 idx]] w fun e w' => e = .returned (.bool (fitB name cols keys idx)) ∧ Mod (fun _ => False) w w' := by
  have hma : Mod (fun _ => False) w (w.alloc (.cells #[.int .u8 name, .slice ca cols.length cc, .int .i64 keys, .int .i64 idx] 37)) := (Mod.refl _ _).alloc _
  have HM := hid hma
  have HL := hid (hl.ext hma)
  clear hma hl
  go_enter Try.func18, Try.ntmps18
  go_wp2_with fail
  go_loop [3] (fun c => ∃ k : Nat, k ≤ cols.length ∧ c = .int .i64 k ∧ ∀ j x, j < k → cols[j]? = some x → kindP x) (fun c => cols.length - (intOf c).toNat)
  case atStart => exact ⟨0, Nat.zero_le _, rfl, fun j x h => by omega⟩
  case round =>
    obtain ⟨k, hk, rfl, hb⟩ := hrel
    have HB := hid hb
    clear hb
    by_cases hlt : k < cols.length
    · obtain ⟨x, hx⟩ : ∃ x, cols[k]? = some x := ⟨_, List.getElem?_eq_getElem hlt⟩
      have HX := hid hx
      obtain ⟨g, off, rfl⟩ := HL.out.some (by omega)
      have q0 := HL.out.cell oneI_len hx (j := 0) rfl
      rw [Nat.add_zero, Nat.mul_one] at q0
      clear hx
      by_cases h0 : x = 0
      · have e0 : (x != 0) = false := by simpa using h0
        have HK : Hid (kindP x) := hid (.inl h0)
        clear h0
        go_wp2_with fail
        go_round
        case rel =>
          refine ⟨k + 1, by omega, by go_num, fun j y hj hy => ?_⟩
          by_cases hjk : j = k
          · subst hjk
            rw [HX.out] at hy
            cases hy
            exact HK.out
          · exact HB.out j y (by omega) hy
        case measure => simp [intOf]; omega
      · have e0 : (x != 0) = true := by simpa using h0
        by_cases h1 : x = 1
        · have e1 : (x != 1) = false := by simpa using h1
          have HK : Hid (kindP x) := hid (.inr h1)
          clear h0 h1
          go_wp2_with fail
          go_round
          case rel =>
            refine ⟨k + 1, by omega, by go_num, fun j y hj hy => ?_⟩
            by_cases hjk : j = k
            · subst hjk
              rw [HX.out] at hy
              cases hy
              exact HK.out
            · exact HB.out j y (by omega) hy
          case measure => simp [intOf]; omega
        · have e1 : (x != 1) = true := by simpa using h1
          have HF : Hid (fitB name cols keys idx = false) := hid (by
            unfold fitB
            rw [if_neg (fun h => (h x (List.mem_of_getElem? HX.out)).elim h0 h1)])
          clear h0 h1
          go_wp2_with fail
          go_ret
          rw [HF.out]
          exact ⟨rfl, HM.out⟩
    · have hke : k = cols.length := by omega
      subst hke
      have HF : Hid (fitB name cols keys idx = fitC name cols.length keys idx) := hid (by
        unfold fitB
        rw [if_pos (fun x hx => by
          obtain ⟨i, hi⟩ := List.getElem?_of_mem hx
          exact HB.out i x (List.getElem?_eq_some_iff.1 hi).1 hi)])
      by_cases h0 : 97 ≤ name
      case neg =>
        have d0 : decide (97 ≤ name) = false := by simpa using h0
        have HV : Hid (fitC name cols.length keys idx = false) := hid (by simp [fitC, *])
        clear h0
        go_wp2_with fail
        go_ret
        rw [HF.out, HV.out]
        exact ⟨rfl, HM.out⟩
      have d0 : decide (97 ≤ name) = true := by simpa using h0
      by_cases h1 : name ≤ 122
      case neg =>
        have d1 : decide (name ≤ 122) = false := by simpa using h1
        have HV : Hid (fitC name cols.length keys idx = false) := hid (by simp [fitC, *])
        clear h0 h1
        go_wp2_with fail
        go_ret
        rw [HF.out, HV.out]
        exact ⟨rfl, HM.out⟩
      have d1 : decide (name ≤ 122) = true := by simpa using h1
      by_cases h2 : 1 ≤ keys
      case neg =>
        have d2 : decide (1 ≤ keys) = false := by simpa using h2
        have HV : Hid (fitC name cols.length keys idx = false) := hid (by simp [fitC, *])
        clear h0 h1 h2
        go_wp2_with fail
        go_ret
        rw [HF.out, HV.out]
        exact ⟨rfl, HM.out⟩
      have d2 : decide (1 ≤ keys) = true := by simpa using h2
      by_cases h3 : keys ≤ (cols.length : Int)
      case neg =>
        have d3 : decide (keys ≤ (cols.length : Int)) = false := by simpa using h3
        have HV : Hid (fitC name cols.length keys idx = false) := hid (by simp [fitC, *])
        clear h0 h1 h2 h3
        go_wp2_with fail
        go_ret
        rw [HF.out, HV.out]
        exact ⟨rfl, HM.out⟩
      have d3 : decide (keys ≤ (cols.length : Int)) = true := by simpa using h3
      by_cases h4 : -1 ≤ idx
      case neg =>
        have d4 : decide (-1 ≤ idx) = false := by simpa using h4
        have HV : Hid (fitC name cols.length keys idx = false) := hid (by simp [fitC, *])
        clear h0 h1 h2 h3 h4
        go_wp2_with fail
        go_ret
        rw [HF.out, HV.out]
        exact ⟨rfl, HM.out⟩
      have d4 : decide (-1 ≤ idx) = true := by simpa using h4
      by_cases h5 : idx < (cols.length : Int)
      case neg =>
        have d5 : decide (idx < (cols.length : Int)) = false := by simpa using h5
        have HV : Hid (fitC name cols.length keys idx = false) := hid (by simp [fitC, *])
        clear h0 h1 h2 h3 h4 h5
        go_wp2_with fail
        go_ret
        rw [HF.out, HV.out]
        exact ⟨rfl, HM.out⟩
      have d5 : decide (idx < (cols.length : Int)) = true := by simpa using h5
      have HV : Hid (fitC name cols.length keys idx = true) := hid (by simp [fitC, *])
      clear h0 h1 h2 h3 h4 h5
      go_wp2_with fail
      go_ret
      rw [HF.out, HV.out]
      exact ⟨rfl, HM.out⟩

end Go.Proofs.Ytoclecpedhbokaa
