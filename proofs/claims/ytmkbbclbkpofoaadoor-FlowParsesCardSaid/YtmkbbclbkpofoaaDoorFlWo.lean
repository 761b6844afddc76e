/- Flow: the document's IsWord -/
import Derived.Test.YtmkbbclbkpofoaaDoorFlW
namespace Go.Proofs.YtmkbbclbkpofoaaDoor
open Go Go.RowKit

theorem word_rest {l : List UInt8} {j : Nat} {b : UInt8} (h : l[j]? = some b) (hb : restB b = false) : wordL l = false := by
  have : l.all restB = false := by
    rw [List.all_eq_false]
    exact ⟨b, List.mem_of_getElem? h, by rw [hb]; exact Bool.false_ne_true⟩
  unfold wordL
  rw [this]
  simp

set_option maxRecDepth 100000 in
set_option maxHeartbeats 4000000 in
theorem rword_any (s : ByteArray) (w : World) (hs : s.size ≤ 140737488351232) : Calls Tryd.prog 15 #[.string s] w fun e w' => e = .returned (.bool (wordS s)) ∧ w = w' := by
  have hlen : s.data.toList.length = s.size := by simp
  by_cases h1 : s.size < 1
  · have e1 : (s.size : Int) < 1 := by omega
    have HV : Hid (wordS s = false) := hid (by
      unfold wordS
      have : s.data.toList = [] := List.eq_nil_of_length_eq_zero (by omega)
      rw [this]
      rfl)
    go_enter Tryd.func15, Tryd.ntmps15
    go_wp2
    go_ret
    rw [HV.out]
    exact ⟨rfl, rfl⟩
  · have e1 : ¬ (s.size : Int) < 1 := by omega
    by_cases h2 : 12 < s.size
    · have e2 : (12 : Int) < (s.size : Int) := by omega
      have HV : Hid (wordS s = false) := hid (by
        unfold wordS wordL
        have : decide (s.data.toList.length ≤ 12) = false := decide_eq_false (by omega)
        rw [this, Bool.and_false])
      go_enter Tryd.func15, Tryd.ntmps15
      go_wp2
      go_ret
      rw [HV.out]
      exact ⟨rfl, rfl⟩
    · have e2 : ¬ (12 : Int) < (s.size : Int) := by omega
      have h0 : 0 < s.size := by omega
      have HG0 := hid (get_list s 0 h0)
      have HLow : Hid (lowB s[0] = false → wordS s = false) := hid (fun h => word_bad HG0.out (by unfold charB; rw [if_pos rfl]; exact h))
      have HLw : Hid (lowB s[0] = (decide (97 ≤ s[0].toNat) && decide (s[0].toNat ≤ 122))) := hid rfl
      by_cases h3 : s[0].toNat < 97
      · have e3 : (s[0].toNat : Int) < 97 := by omega
        have HV := hid (HLow.out (by rw [HLw.out, decide_eq_false (by omega), Bool.false_and]))
        go_enter Tryd.func15, Tryd.ntmps15
        go_wp2
        go_ret
        rw [HV.out]
        exact ⟨rfl, rfl⟩
      · have e3 : ¬ (s[0].toNat : Int) < 97 := by omega
        by_cases h4 : 122 < s[0].toNat
        · have e4 : (122 : Int) < (s[0].toNat : Int) := by omega
          have HV := hid (HLow.out (by rw [HLw.out, decide_eq_false (by omega : ¬ s[0].toNat ≤ 122), Bool.and_false]))
          go_enter Tryd.func15, Tryd.ntmps15
          go_wp2
          go_ret
          rw [HV.out]
          exact ⟨rfl, rfl⟩
        · have e4 : ¬ (122 : Int) < (s[0].toNat : Int) := by omega
          have HL0 : Hid (lowB s[0] = true) := hid (by rw [HLw.out, decide_eq_true (by omega : 97 ≤ s[0].toNat), decide_eq_true (by omega : s[0].toNat ≤ 122)]; rfl)
          go_enter Tryd.func15, Tryd.ntmps15
          go_upto_region 4 with fail
          clear e1 e3 e4
          go_loop [3] (fun c => ∃ k : Nat, k ≤ s.size ∧ c = .int .i64 k ∧ ∀ j, j < k → ∀ b, s.data.toList[j]? = some b → restB b = true) (fun c => s.size - (intOf c).toNat)
          case atStart => exact ⟨0, Nat.zero_le _, rfl, fun j h => by omega⟩
          case round =>
            obtain ⟨k, hk, rfl, hb⟩ := hrel
            have HB := hid hb
            clear hb
            by_cases hlt : k < s.size
            · have HG := hid (get_list s k hlt)
              have HR : Hid (restB s[k] = true → ∀ j, j < k + 1 → ∀ b, s.data.toList[j]? = some b → restB b = true) := hid (fun hc j hj b hb => by
                by_cases hjk : j = k
                · subst hjk
                  rw [HG.out] at hb
                  cases hb
                  exact hc
                · exact HB.out j (by omega) b hb)
              have HF : Hid (restB s[k] = false → wordS s = false) := hid (fun hc => word_rest HG.out hc)
              have HC : Hid (restB s[k] = ((decide (97 ≤ s[k].toNat) && decide (s[k].toNat ≤ 122)) || (decide (48 ≤ s[k].toNat) && decide (s[k].toNat ≤ 57)) || decide (s[k].toNat = 45))) := hid rfl
              by_cases g1 : s[k].toNat < 48
              · have q1 : ¬ (97 : Int) ≤ (s[k].toNat : Int) := by omega
                have q2 : ¬ (48 : Int) ≤ (s[k].toNat : Int) := by omega
                by_cases g2 : s[k].toNat = 45
                · have q3 : ((s[k].toNat : Int) == 45) = true := by simp; omega
                  have HX := hid (HR.out (by rw [HC.out]; simp; omega))
                  go_wp2
                  go_round
                  case rel => exact ⟨k + 1, by omega, by go_num, HX.out⟩
                  case measure => simp [intOf]; omega
                · have q3 : ((s[k].toNat : Int) == 45) = false := by simp; omega
                  have HX := hid (HF.out (by rw [HC.out]; simp; omega))
                  go_wp2
                  go_ret
                  rw [HX.out]
                  exact ⟨rfl, rfl⟩
              · have q3 : ((s[k].toNat : Int) == 45) = false := by simp; omega
                by_cases g2 : s[k].toNat ≤ 57
                · have q1 : ¬ (97 : Int) ≤ (s[k].toNat : Int) := by omega
                  have q2 : (48 : Int) ≤ (s[k].toNat : Int) := by omega
                  have q4 : (s[k].toNat : Int) ≤ 57 := by omega
                  have HX := hid (HR.out (by rw [HC.out]; simp; omega))
                  go_wp2
                  go_round
                  case rel => exact ⟨k + 1, by omega, by go_num, HX.out⟩
                  case measure => simp [intOf]; omega
                · have q2 : (48 : Int) ≤ (s[k].toNat : Int) := by omega
                  have q4 : ¬ (s[k].toNat : Int) ≤ 57 := by omega
                  by_cases g3 : s[k].toNat < 97
                  · have q1 : ¬ (97 : Int) ≤ (s[k].toNat : Int) := by omega
                    have HX := hid (HF.out (by rw [HC.out]; simp; omega))
                    go_wp2
                    go_ret
                    rw [HX.out]
                    exact ⟨rfl, rfl⟩
                  · have q1 : (97 : Int) ≤ (s[k].toNat : Int) := by omega
                    by_cases g4 : s[k].toNat ≤ 122
                    · have q5 : (s[k].toNat : Int) ≤ 122 := by omega
                      have HX := hid (HR.out (by rw [HC.out]; simp; omega))
                      go_wp2
                      go_round
                      case rel => exact ⟨k + 1, by omega, by go_num, HX.out⟩
                      case measure => simp [intOf]; omega
                    · have q5 : ¬ (s[k].toNat : Int) ≤ 122 := by omega
                      have HX := hid (HF.out (by rw [HC.out]; simp; omega))
                      go_wp2
                      go_ret
                      rw [HX.out]
                      exact ⟨rfl, rfl⟩
            · have hke : k = s.size := by omega
              subst hke
              have HV : Hid (wordS s = true) := hid (by
                have ha : s.data.toList.all restB = true := by
                  rw [List.all_eq_true]
                  intro b hb
                  obtain ⟨j, hj⟩ := List.getElem?_of_mem hb
                  exact HB.out j (by have := (List.getElem?_eq_some_iff.1 hj).1; omega) b hj
                have hh : s.data.toList.head?.any lowB = true := by
                  rw [List.head?_eq_getElem?, HG0.out]
                  exact HL0.out
                unfold wordS wordL
                rw [ha, hh, decide_eq_true (by omega : s.data.toList.length ≤ 12)]
                rfl)
              go_wp2
              go_ret
              rw [HV.out]
              exact ⟨rfl, rfl⟩

end Go.Proofs.YtmkbbclbkpofoaaDoor
