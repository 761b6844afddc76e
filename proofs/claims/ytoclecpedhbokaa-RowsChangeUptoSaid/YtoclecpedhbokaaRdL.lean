/- Reading a number, plain -/
import Derived.Test.YtoclecpedhbokaaPackL
namespace Go.Proofs.Ytoclecpedhbokaa

/-- What reading a number gives: its value, how many bytes it takes, the error. -/
structure RU where
  v : Nat
  n : Nat
  e : Nat

def rdU : Nat → List UInt8 → RU
  | _, [] => ⟨0, 0, 20⟩
  | i, b :: r => if (i = 9 ∧ 1 < b.toNat) ∨ (0 < i ∧ b.toNat = 0) ∨ 9 < i then ⟨0, 0, 21⟩ else if b.toNat < 128 then ⟨b.toNat, 1, 0⟩ else if (rdU (i + 1) r).e = 0 then ⟨b.toNat - 128 + 128 * (rdU (i + 1) r).v, (rdU (i + 1) r).n + 1, 0⟩ else ⟨0, 0, (rdU (i + 1) r).e⟩

/-- What was read is put ahead. -/
def ahead (v i : Nat) (x : RU) : RU := if x.e = 0 then ⟨v + 128 ^ i * x.v, i + x.n, 0⟩ else ⟨0, 0, x.e⟩

theorem rdU_nil (i : Nat) : rdU i [] = ⟨0, 0, 20⟩ := by simp [rdU]
theorem rdU_bad {i : Nat} {b : UInt8} {r : List UInt8} (h : (i = 9 ∧ 1 < b.toNat) ∨ (0 < i ∧ b.toNat = 0)) : rdU i (b :: r) = ⟨0, 0, 21⟩ := by
  rw [rdU, if_pos]
  rcases h with h | h
  · exact .inl h
  · exact .inr (.inl h)
theorem rdU_end {i : Nat} {b : UInt8} {r : List UInt8} (h1 : ¬ (i = 9 ∧ 1 < b.toNat)) (h2 : ¬ (0 < i ∧ b.toNat = 0)) (h3 : i ≤ 9) (h4 : b.toNat < 128) : rdU i (b :: r) = ⟨b.toNat, 1, 0⟩ := by
  rw [rdU, if_neg (by rintro (h | h | h); exact h1 h; exact h2 h; omega), if_pos h4]
theorem rdU_more {i : Nat} {b : UInt8} {r : List UInt8} (h3 : i < 9) (h4 : ¬ b.toNat < 128) : rdU i (b :: r) = if (rdU (i + 1) r).e = 0 then ⟨b.toNat - 128 + 128 * (rdU (i + 1) r).v, (rdU (i + 1) r).n + 1, 0⟩ else ⟨0, 0, (rdU (i + 1) r).e⟩ := by
  rw [rdU, if_neg (by rintro (h | h | h) <;> omega), if_neg h4]

theorem ahead_zero (x : RU) (h : x.e ≠ 0 → x = ⟨0, 0, x.e⟩) : ahead 0 0 x = x := by
  unfold ahead
  split
  · next h0 => cases x; simp at h0 ⊢; exact h0.symm
  · next h0 => exact (h h0).symm

theorem rdU_form : ∀ (i : Nat) (l : List UInt8), (rdU i l).e ≠ 0 → rdU i l = ⟨0, 0, (rdU i l).e⟩
  | i, [] => by simp [rdU]
  | i, b :: r => by
    rw [rdU]
    split
    · simp
    · split
      · simp
      · split <;> simp

theorem ahead_more {v i : Nat} {b : UInt8} {r : List UInt8} (h3 : i < 9) (h4 : ¬ b.toNat < 128) : ahead v i (rdU i (b :: r)) = ahead (v + 128 ^ i * (b.toNat - 128)) (i + 1) (rdU (i + 1) r) := by
  rw [rdU_more h3 h4]
  unfold ahead
  by_cases h : (rdU (i + 1) r).e = 0
  · simp only [h, if_true]
    rw [RU.mk.injEq]
    refine ⟨?_, by omega, rfl⟩
    rw [Nat.mul_add, Nat.pow_succ, Nat.mul_assoc]; omega
  · simp only [h, if_false]

def two64 : Nat := 2 ^ 64
theorem two64_pos : 0 < two64 := Nat.two_pow_pos 64

theorem rdU_bound : ∀ (l : List UInt8) (i : Nat), (rdU i l).n ≤ l.length ∧ ((rdU i l).e = 0 → 1 ≤ (rdU i l).n) ∧ ((rdU i l).e = 0 ∨ (rdU i l).e = 20 ∨ (rdU i l).e = 21) ∧ (i ≤ 9 → (rdU i l).v * 128 ^ i < two64)
  | [], i => by
    rw [rdU_nil]
    refine ⟨Nat.le_refl _, fun h => by simp at h, .inr (.inl rfl), fun _ => ?_⟩
    rw [Nat.zero_mul]
    exact Nat.two_pow_pos 64
  | b :: r, i => by
    obtain ⟨h1, h2, h3, h4⟩ := rdU_bound r (i + 1)
    rw [rdU]
    have hb := b.toNat_lt
    split
    · exact ⟨by simp, fun h => by simp at h, .inr (.inr rfl), fun _ => by rw [Nat.zero_mul]; exact two64_pos⟩
    · next hc =>
      have hi : i ≤ 9 := by omega
      split
      · next hlt =>
        refine ⟨by simp, by simp, by simp, fun _ => ?_⟩
        by_cases h9 : i = 9
        · subst h9
          have : b.toNat ≤ 1 := by omega
          show b.toNat * 128 ^ 9 < two64
          have : two64 = 2 * 128 ^ 9 := by decide
          rw [this]
          exact Nat.mul_lt_mul_of_pos_right (by omega) (Nat.pow_pos (by omega))
        · have : 128 ^ i ≤ 128 ^ 8 := Nat.pow_le_pow_right (by omega) (by omega)
          show b.toNat * 128 ^ i < two64
          have h7 : b.toNat * 128 ^ i ≤ 127 * 128 ^ 8 := Nat.mul_le_mul (by omega) this
          have h8 : 127 * 128 ^ 8 < two64 := by decide
          omega
      · next hge =>
        split
        · next he =>
          have h9 : i < 9 := by
            rcases Nat.lt_or_ge i 9 with h | h
            · exact h
            · have : i = 9 := by omega
              omega
          refine ⟨by simp; omega, by simp, by simp, fun _ => ?_⟩
          show (b.toNat - 128 + 128 * (rdU (i + 1) r).v) * 128 ^ i < two64
          have h5 := h4 (by omega)
          rw [Nat.pow_succ] at h5
          have hp : (0 : Nat) < 128 ^ i := Nat.pow_pos (by omega)
          have h6 : (b.toNat - 128 + 128 * (rdU (i + 1) r).v) * 128 ^ i < (128 * ((rdU (i + 1) r).v + 1)) * 128 ^ i := Nat.mul_lt_mul_of_pos_right (by omega) hp
          have h7 : (rdU (i + 1) r).v * (128 ^ i * 128) + 128 ^ i * 128 ≤ two64 := by
            have d : 128 ^ i * 128 ∣ two64 := by
              unfold two64
              rw [← Nat.pow_succ, show (128 : Nat) = 2 ^ 7 from rfl, ← Nat.pow_mul]
              exact Nat.pow_dvd_pow 2 (by omega)
            obtain ⟨q, hq⟩ := d
            rw [hq] at h5 ⊢
            rw [Nat.mul_comm] at h5
            have h8 := Nat.lt_of_mul_lt_mul_left h5
            rw [← Nat.succ_mul, Nat.mul_comm]
            exact Nat.mul_le_mul_left _ h8
          have h8 : (128 * ((rdU (i + 1) r).v + 1)) * 128 ^ i = (rdU (i + 1) r).v * (128 ^ i * 128) + 128 ^ i * 128 := by
            rw [Nat.mul_comm 128, Nat.mul_assoc, Nat.mul_comm 128, Nat.add_mul, Nat.one_mul]
          omega
        · next he =>
          refine ⟨by simp, fun h => absurd h he, ?_, fun _ => by rw [Nat.zero_mul]; exact two64_pos⟩
          rcases h3 with h | h | h
          · exact absurd h he
          · exact .inr (.inl h)
          · exact .inr (.inr h)

end Go.Proofs.Ytoclecpedhbokaa
