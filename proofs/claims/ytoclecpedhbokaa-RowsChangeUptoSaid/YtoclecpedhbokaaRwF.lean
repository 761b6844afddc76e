/- The document's bare and form -/
import Derived.Test.YtoclecpedhbokaaRwO
namespace Go.Proofs.Ytoclecpedhbokaa
open Go Go.RowKit

/-- The key form of a value in a column of kind k. -/
def formL (k n : Int) (s : ByteArray) : List UInt8 := if k = 0 then ordL n else s.data.toList ++ [0]

set_option maxRecDepth 100000 in
theorem rform_any (k n : Int) (s : ByteArray) (w : World) (h0 : -9223372036854775808 ≤ n) (h1 : n ≤ 9223372036854775807) (hs : s.size ≤ 140737488351232) :
    Calls Try.prog 20 #[.int .i64 k, .agg #[.int .i64 n, .string s]] w fun e w' => e = .returned (.string (ba (formL k n s))) ∧ Mod (fun _ => False) w w' := by
  have HM : Hid (Mod (fun _ => False) w (w.alloc (.cells #[.int .i64 n, .string s] 63))) := hid ((Mod.refl _ _).alloc _)
  by_cases hk : k = 0
  · have e0 : (k == 0) = true := by simpa using hk
    have HO := hid (fun v => rordered_any n v h0 h1)
    have HF : Hid (formL k n s = ordL n) := hid (by unfold formL; rw [if_pos hk])
    clear hk
    go_enter Try.func20, Try.ntmps20
    go_wp2_with fail
    refine (HO.out _).mono ?_
    rintro e w1 ⟨rfl, hm⟩
    have HM1 := hid (HM.out.trans hm)
    clear hm
    go_wp2_with fail
    go_ret
    rw [HF.out]
    exact ⟨rfl, HM1.out⟩
  · have e0 : (k == 0) = false := by simpa using hk
    have HF : Hid (formL k n s = s.data.toList ++ [0]) := hid (by unfold formL; rw [if_neg hk])
    clear hk
    go_enter Try.func20, Try.ntmps20
    go_wp2_with fail
    go_ret
    rw [HF.out, ← ba_append, ba_list]
    exact ⟨rfl, HM.out⟩

def bareP (s : ByteArray) : Bool := !s.data.toList.contains 0

theorem get_list (s : ByteArray) (k : Nat) (h : k < s.size) : s.data.toList[k]? = some s[k] := by
  rw [Array.getElem?_toList, Array.getElem?_eq_getElem h]; rfl

set_option maxRecDepth 100000 in
theorem rbare_any (s : ByteArray) (w : World) (hs : s.size ≤ 140737488351232) : Calls Try.prog 19 #[.string s] w fun e w' => e = .returned (.bool (bareP s)) ∧ w = w' := by
  go_enter Try.func19, Try.ntmps19
  go_wp2
  go_loop [3] (fun c => ∃ k : Nat, k ≤ s.size ∧ c = .int .i64 k ∧ ∀ j, j < k → s.data.toList[j]? ≠ some 0) (fun c => s.size - (intOf c).toNat)
  case atStart => exact ⟨0, Nat.zero_le _, rfl, fun j h => by omega⟩
  case round =>
    obtain ⟨k, hk, rfl, hb⟩ := hrel
    have HB := hid hb
    clear hb
    by_cases hlt : k < s.size
    · have HG := hid (get_list s k hlt)
      by_cases hz : s[k] = 0
      · have HP : Hid (bareP s = false) := hid (by
          unfold bareP
          rw [hz] at HG
          have : s.data.toList.contains 0 = true := by rw [List.contains_iff_mem]; exact List.mem_of_getElem? HG.out
          rw [this]; rfl)
        have e1 : ((s[k].toNat : Int) == 0) = true := by rw [hz]; rfl
        clear hz
        go_wp2
        go_ret
        rw [HP.out]
        exact ⟨rfl, rfl⟩
      · have e1 : ((s[k].toNat : Int) == 0) = false := by
          have : s[k].toNat ≠ 0 := fun h => hz (UInt8.toNat_inj.1 h)
          simp; omega
        have HZ := hid hz
        clear hz
        go_wp2
        go_round
        case rel =>
          refine ⟨k + 1, by omega, by go_num, fun j hj => ?_⟩
          by_cases hjk : j = k
          · subst hjk
            rw [HG.out]
            exact fun h => HZ.out (Option.some.inj h)
          · exact HB.out j (by omega)
        case measure => simp [intOf]; omega
    · have hke : k = s.size := by omega
      subst hke
      have HP : Hid (bareP s = true) := hid (by
        unfold bareP
        have : s.data.toList.contains 0 = false := by
          rw [← Bool.not_eq_true, List.contains_iff_mem]
          intro hm
          obtain ⟨i, hi⟩ := List.getElem?_of_mem hm
          have hl := (List.getElem?_eq_some_iff.1 hi).1
          rw [Array.length_toList] at hl
          exact HB.out i hl hi
        rw [this]; rfl)
      go_wp2
      go_ret
      rw [HP.out]
      exact ⟨rfl, rfl⟩

end Go.Proofs.Ytoclecpedhbokaa
