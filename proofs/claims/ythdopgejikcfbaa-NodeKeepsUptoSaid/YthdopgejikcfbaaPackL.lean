/- Plain laws of the one form of a number. No program is named. -/
import Derived.WalkKit
namespace Go.Proofs.Ythdopgejikcfbaa
open Go Go.RowKit

/-- The one form of a number: seven bits a byte, the lowest first, 128 more where a byte follows. -/
def uvar (n : Nat) : List UInt8 :=
  if n ≤ 127 then [UInt8.ofNat n] else UInt8.ofNat (n % 128 + 128) :: uvar (n / 128)
termination_by n
decreasing_by omega

theorem uvar_small {n : Nat} (h : n ≤ 127) : uvar n = [UInt8.ofNat n] := by rw [uvar, if_pos h]
theorem uvar_big {n : Nat} (h : ¬ n ≤ 127) : uvar n = UInt8.ofNat (n % 128 + 128) :: uvar (n / 128) := by rw [uvar, if_neg h]

theorem uvar_len_pos (n : Nat) : 0 < (uvar n).length := by
  rw [uvar]
  split <;> simp

theorem uvar_len : ∀ (k n : Nat), n < 128 ^ (k + 1) → (uvar n).length ≤ k + 1
  | 0, n, h => by rw [uvar_small (by simpa using Nat.lt_succ_iff.1 h)]; simp
  | k + 1, n, h => by
    by_cases hn : n ≤ 127
    · rw [uvar_small hn]; simp
    · rw [uvar_big hn, List.length_cons]
      have : n / 128 < 128 ^ (k + 1) := by
        rw [Nat.div_lt_iff_lt_mul (by decide)]
        rw [Nat.pow_succ] at h
        exact h
      have := uvar_len k (n / 128) this
      omega

theorem uvar_len10 {n : Nat} (h : n < 18446744073709551616) : (uvar n).length ≤ 10 := by
  have : n < 128 ^ (9 + 1) := Nat.lt_of_lt_of_le h (by decide)
  exact uvar_len 9 n this

theorem ofNat_mod (n : Nat) (h : n < 256) : (UInt8.ofNat n).toNat = n := by
  rw [UInt8.toNat_ofNat']; exact Nat.mod_eq_of_lt h

theorem uvar_ne_nil (n : Nat) : uvar n ≠ [] := by
  intro h
  have := uvar_len_pos n
  rw [h] at this
  simp at this

end Go.Proofs.Ythdopgejikcfbaa
