/- Rows, plain: bits of numbers that are packed -/
import Derived.Test.YtoclecpedhbokaaRwL
import Derived.Test.YtoclecpedhbokaaMem
import Derived.Laws.Bits64
import Derived.Laws.Bits64b
namespace Go.Proofs.Ytoclecpedhbokaa
open Go Go.RowKit

theorem xor_ones {a : Nat} (h : a < 18446744073709551616) : a ^^^ 18446744073709551615 = 18446744073709551615 - a := by
  have := congrArg BitVec.toNat (BitVec.xor_allOnes (x := BitVec.ofNat 64 a))
  rw [BitVec.toNat_xor, BitVec.toNat_not, BitVec.toNat_allOnes, BitVec.toNat_ofNat, Nat.mod_eq_of_lt h] at this
  exact this

theorem xor_top {l : Nat} (h : l < 9223372036854775808) : l ^^^ 9223372036854775808 = 9223372036854775808 + l := by
  rw [show (9223372036854775808 : Nat) = 2 ^ 63 from rfl] at h ⊢
  have e := Nat.two_pow_add_eq_or_of_lt h 1
  rw [Nat.mul_one] at e
  rw [e, Nat.or_comm]
  apply Nat.eq_of_testBit_eq
  intro i
  rw [Nat.testBit_xor, Nat.testBit_or]
  by_cases hi : i = 63
  · subst hi
    rw [Nat.testBit_lt_two_pow h]
    simp
  · rw [Nat.testBit_two_pow_of_ne (by omega)]
    simp

theorem xor_top2 {l : Nat} (h : l < 9223372036854775808) : (9223372036854775808 + l) ^^^ 9223372036854775808 = l := by
  rw [← xor_top h, Nat.xor_assoc, Nat.xor_self, Nat.xor_zero]

/-- What Int packs. -/
theorem int_bits {v : Int} (h0 : -9223372036854775808 ≤ v) (h1 : v ≤ 9223372036854775807) (a b : Int) (ha : a = (v * 2) % 18446744073709551616) (hb : b = if 0 ≤ v then 0 else 18446744073709551615) :
    bits .xor .u64 a b = (zz v : Int) := by
  obtain ⟨n, hn⟩ : ∃ n : Nat, a = (n : Int) := ⟨a.toNat, by omega⟩
  have hl : n < 18446744073709551616 := by omega
  unfold zz
  by_cases h : 0 ≤ v
  · rw [if_pos h] at hb
    rw [if_pos h, hn, hb, show (0 : Int) = ((0 : Nat) : Int) from rfl, bits_xor_u64_nat _ _ hl (by decide), Nat.xor_zero]
    omega
  · rw [if_neg h] at hb
    rw [if_neg h, hn, hb, show (18446744073709551615 : Int) = ((18446744073709551615 : Nat) : Int) from rfl, bits_xor_u64_nat _ _ hl (by decide), xor_ones hl]
    omega

/-- What Ordered packs. -/
theorem ord_bits {v : Int} (h0 : -9223372036854775808 ≤ v) (h1 : v ≤ 9223372036854775807) (a : Int) (ha : a = v % 18446744073709551616) :
    bits .xor .u64 a 9223372036854775808 = (ordN v : Int) := by
  obtain ⟨n, hn⟩ : ∃ n : Nat, a = (n : Int) := ⟨a.toNat, by omega⟩
  have hl : n < 18446744073709551616 := by omega
  rw [hn, show (9223372036854775808 : Int) = ((9223372036854775808 : Nat) : Int) from rfl, bits_xor_u64_nat _ _ hl (by decide)]
  unfold ordN
  by_cases h : 0 ≤ v
  · rw [xor_top (by omega)]
    omega
  · obtain ⟨l, hl2⟩ : ∃ l, n = 9223372036854775808 + l := ⟨n - 9223372036854775808, by omega⟩
    rw [hl2, xor_top2 (by omega)]
    omega

end Go.Proofs.Ytoclecpedhbokaa
