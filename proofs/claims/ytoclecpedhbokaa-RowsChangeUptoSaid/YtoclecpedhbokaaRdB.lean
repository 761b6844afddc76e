/- What is written as a number is read back, plain -/
import Derived.Test.YtoclecpedhbokaaRdL
namespace Go.Proofs.Ytoclecpedhbokaa
open Go Go.RowKit

theorem rdU_uvar (r : List UInt8) : ∀ (k n i : Nat), n ≤ k → n * 128 ^ i < two64 → (0 < i → 0 < n) → rdU i (uvar n ++ r) = ⟨n, (uvar n).length, 0⟩ := by
  intro k
  induction k with
  | zero =>
    intro n i hk hn h0
    obtain rfl : n = 0 := by omega
    have hi : i = 0 := by omega
    subst hi
    rw [uvar_small (by omega), List.singleton_append, rdU_end (by omega) (by omega) (by omega) (by decide)]
    rfl
  | succ k ih =>
    intro n i hk hn h0
    have hi9 : i ≤ 9 ∧ (i = 9 → n ≤ 1) ∧ (128 ≤ n → i < 9) := by
      have t9 : two64 = 2 * 128 ^ 9 := by decide
      rw [t9] at hn
      by_cases hz : n = 0
      · subst hz; have : i = 0 := by omega
        subst this; omega
      · have hle : i ≤ 9 := by
          rcases Nat.lt_or_ge 9 i with h | h
          · have h1 : 128 ^ 10 ≤ 128 ^ i := Nat.pow_le_pow_right (by omega) h
            have h2 : 1 * 128 ^ 10 ≤ n * 128 ^ i := Nat.mul_le_mul (by omega) h1
            have h3 : 2 * 128 ^ 9 < 1 * 128 ^ 10 := by decide
            omega
          · exact h
        refine ⟨hle, fun h => ?_, fun h => ?_⟩
        · subst h
          have := Nat.lt_of_mul_lt_mul_right hn
          omega
        · rcases Nat.lt_or_ge i 9 with h2 | h2
          · exact h2
          · have : i = 9 := by omega
            subst this
            have := Nat.lt_of_mul_lt_mul_right hn
            omega
    by_cases hlt : n ≤ 127
    · rw [uvar_small hlt, List.singleton_append]
      have e := ofNat_mod n (by omega)
      rw [rdU_end (by rw [e]; rintro ⟨h1, h2⟩; have := hi9.2.1 h1; omega) (by rw [e]; rintro ⟨h1, h2⟩; have := h0 h1; omega) hi9.1 (by rw [e]; omega), e]
      rfl
    · rw [uvar_big hlt, List.cons_append]
      have e := ofNat_mod (n % 128 + 128) (by omega)
      have hd : n / 128 * 128 ^ (i + 1) < two64 := by
        rw [Nat.pow_succ]
        refine Nat.lt_of_le_of_lt ?_ hn
        rw [Nat.mul_comm (128 ^ i), ← Nat.mul_assoc]
        exact Nat.mul_le_mul_right _ (Nat.div_mul_le_self n 128)
      have ihn := ih (n / 128) (i + 1) (by omega) hd (fun _ => by omega)
      rw [rdU_more (hi9.2.2 (by omega)) (by rw [e]; omega), ihn, e]
      simp only [if_true, List.length_cons]
      rw [RU.mk.injEq]
      exact ⟨by omega, rfl, rfl⟩

theorem rdU_at {s : ByteArray} {a n : Nat} {r : List UInt8} (h : s.data.toList.drop a = uvar n ++ r) (hn : n < two64) : rdU 0 (s.data.toList.drop a) = ⟨n, (uvar n).length, 0⟩ := by
  rw [h]
  exact rdU_uvar r n n 0 (Nat.le_refl _) (by rw [Nat.pow_zero, Nat.mul_one]; exact hn) (fun h => by omega)

theorem drop_after {s : ByteArray} {a : Nat} {p r : List UInt8} (h : s.data.toList.drop a = p ++ r) : s.data.toList.drop (a + p.length) = r := by
  rw [← List.drop_drop, h, List.drop_left]

end Go.Proofs.Ytoclecpedhbokaa
