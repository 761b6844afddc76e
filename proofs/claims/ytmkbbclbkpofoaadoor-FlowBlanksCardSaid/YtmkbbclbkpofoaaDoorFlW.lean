/- Flow: IsWord, must, the closure of key -/
import Derived.Test.YtmkbbclbkpofoaaDoorProg
import Derived.Test.YtmkbbclbkpofoaaDoorFlL
import Derived.Test.YtmkbbclbkpofoaaDoorLies
import Derived.Deep.DeepCutAuto
import Derived.WalkSmall
namespace Go.Proofs.YtmkbbclbkpofoaaDoor
open Go Go.RowKit

theorem get_list (s : ByteArray) (k : Nat) (h : k < s.size) : s.data.toList[k]? = some s[k] := by
  rw [List.getElem?_eq_getElem (by simpa using h)]
  rfl

theorem word_all {l : List UInt8} (h : ∀ (j : Nat) b, l[j]? = some b → charB j b = true) : wordL l = (!l.isEmpty && decide (l.length ≤ 12)) := by
  cases l with
  | nil => rfl
  | cons c t =>
    have h0 := h 0 c rfl
    unfold charB at h0
    rw [if_pos rfl] at h0
    have ha : (c :: t).all restB = true := by
      rw [List.all_eq_true]
      intro b hb
      obtain ⟨j, hj⟩ := List.getElem?_of_mem hb
      have := h j b hj
      unfold charB at this
      split at this
      · unfold restB; rw [this]; rfl
      · exact this
    unfold wordL
    rw [ha]
    simp [h0]
theorem word_bad {l : List UInt8} {j : Nat} {b : UInt8} (h : l[j]? = some b) (hb : charB j b = false) : wordL l = false := by
  unfold charB at hb
  split at hb
  · next h0 =>
    subst h0
    cases l with
    | nil => cases h
    | cons c t =>
      cases h
      unfold wordL
      simp [hb]
  · have : l.all restB = false := by
      rw [List.all_eq_false]
      exact ⟨b, List.mem_of_getElem? h, by rw [hb]; exact Bool.false_ne_true⟩
    unfold wordL
    rw [this]
    simp

set_option maxRecDepth 100000 in
set_option maxHeartbeats 2000000 in
theorem isword_any (s : ByteArray) (w : World) (hs : s.size ≤ 140737488351232) : Calls Tryd.prog 14 #[.string s] w fun e w' => e = .returned (.bool (wordS s)) ∧ w = w' := by
  go_enter Tryd.func14, Tryd.ntmps14
  go_wp2
  go_loop [3] (fun c => ∃ k : Nat, k ≤ s.size ∧ c = .int .i64 k ∧ ∀ j, j < k → ∀ b, s.data.toList[j]? = some b → charB j b = true) (fun c => s.size - (intOf c).toNat)
  case atStart => exact ⟨0, Nat.zero_le _, rfl, fun j h => by omega⟩
  case round =>
    obtain ⟨k, hk, rfl, hb⟩ := hrel
    have HB := hid hb
    clear hb
    by_cases hlt : k < s.size
    · have HG := hid (get_list s k hlt)
      have HR : Hid (charB k s[k] = true → ∀ j, j < k + 1 → ∀ b, s.data.toList[j]? = some b → charB j b = true) := hid (fun hc j hj b hb => by
        by_cases hjk : j = k
        · subst hjk
          rw [HG.out] at hb
          cases hb
          exact hc
        · exact HB.out j (by omega) b hb)
      have HF : Hid (charB k s[k] = false → wordS s = false) := hid (fun hc => word_bad HG.out hc)
      have HC : Hid (charB k s[k] = (if k = 0 then (decide (97 ≤ s[k].toNat) && decide (s[k].toNat ≤ 122)) else ((decide (97 ≤ s[k].toNat) && decide (s[k].toNat ≤ 122)) || (decide (48 ≤ s[k].toNat) && decide (s[k].toNat ≤ 57)) || decide (s[k].toNat = 45)))) := hid rfl
      by_cases h1 : 48 ≤ s[k].toNat ∧ s[k].toNat ≤ 57
      · by_cases h0 : 0 < k
        · have e1 : (48 : Int) ≤ (s[k].toNat : Int) := by omega
          have e2 : (s[k].toNat : Int) ≤ 57 := by omega
          have HX := hid (HR.out (by rw [HC.out]; split <;> simp <;> omega))
          go_wp2
          go_round
          case rel => exact ⟨k + 1, by omega, by go_num, HX.out⟩
          case measure => simp [intOf]; omega
        · have e0 : ¬ 0 < (k : Int) := by omega
          have e1 : (48 : Int) ≤ (s[k].toNat : Int) := by omega
          have e2 : (s[k].toNat : Int) ≤ 57 := by omega
          have HX := hid (HF.out (by rw [HC.out]; split <;> simp <;> omega))
          go_wp2
          go_ret
          rw [HX.out]
          exact ⟨rfl, rfl⟩
      · by_cases h2 : s[k].toNat = 45
        · by_cases h0 : 0 < k
          · have e1 : ¬ (48 : Int) ≤ (s[k].toNat : Int) := by omega
            have e3 : ((s[k].toNat : Int) == 45) = true := by simp; omega
            have HX := hid (HR.out (by rw [HC.out]; split <;> simp <;> omega))
            go_wp2
            go_round
            case rel => exact ⟨k + 1, by omega, by go_num, HX.out⟩
            case measure => simp [intOf]; omega
          · have e0 : ¬ 0 < (k : Int) := by omega
            have e1 : ¬ (48 : Int) ≤ (s[k].toNat : Int) := by omega
            have e3 : ((s[k].toNat : Int) == 45) = true := by simp; omega
            have HX := hid (HF.out (by rw [HC.out]; split <;> simp <;> omega))
            go_wp2
            go_ret
            rw [HX.out]
            exact ⟨rfl, rfl⟩
        · by_cases h3 : s[k].toNat < 48
          · have e1 : ¬ (48 : Int) ≤ (s[k].toNat : Int) := by omega
            have e3 : ((s[k].toNat : Int) == 45) = false := by simp; omega
            have e4 : (s[k].toNat : Int) < 97 := by omega
            have HX := hid (HF.out (by rw [HC.out]; split <;> simp <;> omega))
            go_wp2
            go_ret
            rw [HX.out]
            exact ⟨rfl, rfl⟩
          · by_cases h4 : s[k].toNat < 97
            · have e1 : (48 : Int) ≤ (s[k].toNat : Int) := by omega
              have e2 : ¬ (s[k].toNat : Int) ≤ 57 := by omega
              have e3 : ((s[k].toNat : Int) == 45) = false := by simp; omega
              have e4 : (s[k].toNat : Int) < 97 := by omega
              have HX := hid (HF.out (by rw [HC.out]; split <;> simp <;> omega))
              go_wp2
              go_ret
              rw [HX.out]
              exact ⟨rfl, rfl⟩
            · by_cases h5 : 122 < s[k].toNat
              · have e1 : (48 : Int) ≤ (s[k].toNat : Int) := by omega
                have e2 : ¬ (s[k].toNat : Int) ≤ 57 := by omega
                have e3 : ((s[k].toNat : Int) == 45) = false := by simp; omega
                have e4 : ¬ (s[k].toNat : Int) < 97 := by omega
                have e5 : (122 : Int) < (s[k].toNat : Int) := by omega
                have HX := hid (HF.out (by rw [HC.out]; split <;> simp <;> omega))
                go_wp2
                go_ret
                rw [HX.out]
                exact ⟨rfl, rfl⟩
              · have e1 : (48 : Int) ≤ (s[k].toNat : Int) := by omega
                have e2 : ¬ (s[k].toNat : Int) ≤ 57 := by omega
                have e3 : ((s[k].toNat : Int) == 45) = false := by simp; omega
                have e4 : ¬ (s[k].toNat : Int) < 97 := by omega
                have e5 : ¬ (122 : Int) < (s[k].toNat : Int) := by omega
                have HX := hid (HR.out (by rw [HC.out]; split <;> simp <;> omega))
                go_wp2
                go_round
                case rel => exact ⟨k + 1, by omega, by go_num, HX.out⟩
                case measure => simp [intOf]; omega
    · have hke : k = s.size := by omega
      subst hke
      have HA := hid (word_all (l := s.data.toList) (fun j b hj => HB.out j (by have := (List.getElem?_eq_some_iff.1 hj).1; simpa using this) b hj))
      have HE : Hid (wordS s = (!s.toList.isEmpty && decide (s.size ≤ 12))) := hid (by
        unfold wordS
        rw [HA.out, ByteArray.toList_eq]
        rfl)
      cases he : s.toList.isEmpty with
      | true =>
        go_wp2
        go_ret
        rw [HE.out, he]
        exact ⟨rfl, rfl⟩
      | false =>
        by_cases h12 : s.size ≤ 12
        · have e1 : (s.size : Int) ≤ 12 := by omega
          go_wp2
          go_ret
          rw [HE.out, he, decide_eq_true h12]
          exact ⟨rfl, rfl⟩
        · have e1 : ¬ (s.size : Int) ≤ 12 := by omega
          go_wp2
          go_ret
          rw [HE.out, he, decide_eq_false h12]
          exact ⟨rfl, rfl⟩

set_option maxRecDepth 100000 in
theorem must_ok (l : Value) (e : Int) (w : World) : Calls Tryd.prog 26 #[l, .bool true, .int .i64 e] w fun e' w' => e' = .returned (.tuple #[]) ∧ w = w' := by
  go_enter Tryd.func26, Tryd.ntmps26
  go_wp2
  go_end0
  exact ⟨rfl, rfl⟩

/-- A fault of a line: the panic that Parse takes up. -/
def fault (n : Int) : Ending := .panicked [{ v := .iface 25 (.int .i64 n), recovered := false }]

set_option maxRecDepth 100000 in
theorem must_bad (l : Value) (e : Int) (w : World) : Calls Tryd.prog 26 #[l, .bool false, .int .i64 e] w fun e' w' => e' = fault e ∧ w = w' := by
  go_enter Tryd.func26, Tryd.ntmps26
  go_wp2
  exact ⟨rfl, rfl, rfl⟩

theorem key1_any (s k : ByteArray) (p : Addr) (w : World) (h : w.cell? p = some (.string k)) : Calls Tryd.prog 51 #[.string s, .pointer (some p)] w fun e w' => e = .returned (.bool (s.toList == k.toList)) ∧ w = w' := by
  go_enter Tryd.func51, Tryd.ntmps51
  go_wp2
  go_ret
  exact ⟨rfl, rfl⟩

end Go.Proofs.YtmkbbclbkpofoaaDoor
