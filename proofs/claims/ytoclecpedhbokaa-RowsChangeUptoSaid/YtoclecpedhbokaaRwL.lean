/- Rows, plain: ordered numbers, texts in keys, pairs -/
import Derived.Test.YtoclecpedhbokaaPackL
import Derived.Test.YtoclecpedhbokaaRdB
namespace Go.Proofs.Ytoclecpedhbokaa
open Go Go.RowKit

/-- k bytes of a number, the greatest first. -/
def be : Nat → Nat → List UInt8
  | 0, _ => []
  | k + 1, u => UInt8.ofNat (u / 256 ^ k % 256) :: be k u

theorem be_len : ∀ k u, (be k u).length = k
  | 0, _ => rfl
  | k + 1, u => by rw [be, List.length_cons, be_len k u]

theorem be_get : ∀ (k u i : Nat), i < k → (be k u)[i]? = some (UInt8.ofNat (u / 256 ^ (k - 1 - i) % 256))
  | 0, _, _ => fun h => by omega
  | k + 1, u, 0 => fun _ => by rw [be, List.getElem?_cons_zero, show k + 1 - 1 - 0 = k by omega]
  | k + 1, u, i + 1 => fun h => by rw [be, List.getElem?_cons_succ, be_get k u i (by omega), show k + 1 - 1 - (i + 1) = k - 1 - i by omega]

theorem be_mod : ∀ (k u : Nat), be k (u % 256 ^ k) = be k u
  | 0, _ => rfl
  | k + 1, u => by
    have h1 : u % 256 ^ (k + 1) / 256 ^ k % 256 = u / 256 ^ k % 256 := by
      rw [Nat.pow_succ, Nat.mod_mul_right_div_self, Nat.mod_mod]
    have h2 : be k (u % 256 ^ (k + 1)) = be k u := by
      rw [← be_mod k (u % 256 ^ (k + 1)), ← be_mod k u, Nat.pow_succ, Nat.mod_mul_right_mod]
    rw [be, be, h1, h2]

/-- Numbers stand in their order. -/
theorem be_lt : ∀ (k u v : Nat), u < 256 ^ k → v < 256 ^ k → ∀ x y : List UInt8, be k u ++ x < be k v ++ y ↔ u < v ∨ (u = v ∧ x < y)
  | 0, u, v => fun h1 h2 x y => by
    have e1 : u = 0 := by simpa using h1
    have e2 : v = 0 := by simpa using h2
    subst e1 e2
    simp [be]
  | k + 1, u, v => fun h1 h2 x y => by
    rw [be, be, List.cons_append, List.cons_append, List.cons_lt_cons_iff, ← be_mod k u, ← be_mod k v,
      be_lt k (u % 256 ^ k) (v % 256 ^ k) (Nat.mod_lt _ (Nat.pow_pos (by decide))) (Nat.mod_lt _ (Nat.pow_pos (by decide)))]
    have p : 0 < 256 ^ k := Nat.pow_pos (by decide)
    have q1 : u / 256 ^ k < 256 := Nat.div_lt_of_lt_mul (by rw [Nat.pow_succ] at h1; exact h1)
    have q2 : v / 256 ^ k < 256 := Nat.div_lt_of_lt_mul (by rw [Nat.pow_succ] at h2; exact h2)
    rw [Nat.mod_eq_of_lt q1, Nat.mod_eq_of_lt q2]
    have l1 : UInt8.ofNat (u / 256 ^ k) < UInt8.ofNat (v / 256 ^ k) ↔ u / 256 ^ k < v / 256 ^ k := by
      rw [UInt8.lt_iff_toNat_lt, ofNat_mod _ q1, ofNat_mod _ q2]
    have l2 : UInt8.ofNat (u / 256 ^ k) = UInt8.ofNat (v / 256 ^ k) ↔ u / 256 ^ k = v / 256 ^ k := by
      constructor
      · intro h
        have := congrArg UInt8.toNat h
        rwa [ofNat_mod _ q1, ofNat_mod _ q2] at this
      · intro h; rw [h]
    rw [l1, l2]
    have d1 := Nat.div_add_mod u (256 ^ k)
    have d2 := Nat.div_add_mod v (256 ^ k)
    have m1 := Nat.mod_lt u p
    have m2 := Nat.mod_lt v p
    generalize u / 256 ^ k = a at *
    generalize v / 256 ^ k = b at *
    generalize u % 256 ^ k = c at *
    generalize v % 256 ^ k = d at *
    generalize 256 ^ k = N at *
    constructor
    · rintro (h | ⟨rfl, h | ⟨rfl, h⟩⟩)
      · left
        have : N * (a + 1) ≤ N * b := Nat.mul_le_mul_left N h
        rw [Nat.mul_add] at this
        omega
      · left; omega
      · right; exact ⟨by omega, h⟩
    · rintro (h | ⟨h, h'⟩)
      · rcases Nat.lt_trichotomy a b with e | e | e
        · exact .inl e
        · subst e; exact .inr ⟨rfl, .inl (by omega)⟩
        · have : N * (b + 1) ≤ N * a := Nat.mul_le_mul_left N e
          rw [Nat.mul_add] at this
          omega
      · rcases Nat.lt_trichotomy a b with e | e | e
        · have : N * (a + 1) ≤ N * b := Nat.mul_le_mul_left N e
          rw [Nat.mul_add] at this
          omega
        · subst e; exact .inr ⟨rfl, .inr ⟨by omega, h'⟩⟩
        · have : N * (b + 1) ≤ N * a := Nat.mul_le_mul_left N e
          rw [Nat.mul_add] at this
          omega

/-- What the bytes say. -/
def rdBE : Nat → List UInt8 → Nat
  | a, [] => a
  | a, b :: r => rdBE (a * 256 + b.toNat) r

theorem rdBE_be : ∀ (k u a : Nat), rdBE a (be k u) = a * 256 ^ k + u % 256 ^ k
  | 0, u, a => by simp [be, rdBE, Nat.mod_one]
  | k + 1, u, a => by
    rw [be, rdBE, rdBE_be k u, ofNat_mod _ (Nat.mod_lt _ (by decide))]
    have h : u % 256 ^ (k + 1) = 256 ^ k * (u / 256 ^ k % 256) + u % 256 ^ k := by
      rw [Nat.pow_succ, Nat.mod_mul, Nat.add_comm]
    rw [h, Nat.pow_succ, Nat.add_mul, Nat.mul_assoc, Nat.mul_comm 256 (256 ^ k), Nat.mul_comm (u / 256 ^ k % 256)]
    omega

/-- Texts without a zero byte stand in their order, and end where they end. -/
theorem bare_lt : ∀ s u : List UInt8, (0 : UInt8) ∉ s → (0 : UInt8) ∉ u → (s ++ [0] < u ++ [0] ↔ s < u)
  | [], [] => fun _ _ => by simp
  | [], b :: u => fun _ h => by
    have hb : b ≠ 0 := fun e => h (by simp [e])
    have : (0 : UInt8) < b := by
      rw [UInt8.lt_iff_toNat_lt]
      have : b.toNat ≠ 0 := fun e => hb (UInt8.toNat.inj e)
      show 0 < b.toNat
      omega
    rw [List.nil_append, List.cons_append, List.cons_lt_cons_iff]
    simp [this]
  | a :: s, [] => fun h _ => by
    have ha : a ≠ 0 := fun e => h (by simp [e])
    rw [List.nil_append, List.cons_append, List.cons_lt_cons_iff]
    simp [ha]
  | a :: s, b :: u => fun h h' => by
    rw [List.cons_append, List.cons_append, List.cons_lt_cons_iff, List.cons_lt_cons_iff, bare_lt s u (fun e => h (by simp [e])) (fun e => h' (by simp [e]))]

/-- A number, signs last: the one that P2.1 packs. -/
def zz (v : Int) : Nat := if 0 ≤ v then 2 * v.toNat else 2 * (-(v + 1)).toNat + 1
def unzz (n : Nat) : Int := if n % 2 = 1 then -((n / 2 : Nat) : Int) - 1 else ((n / 2 : Nat) : Int)
theorem unzz_zz (v : Int) : unzz (zz v) = v := by
  unfold unzz zz
  split
  · split <;> omega
  · split <;> omega
theorem zz_lt {v : Int} (h0 : -9223372036854775808 ≤ v) (h1 : v ≤ 9223372036854775807) : zz v < 18446744073709551616 := by
  unfold zz
  split <;> omega
/-- A number moved up by 2^63. -/
def ordN (v : Int) : Nat := (v + 9223372036854775808).toNat
theorem ordN_lt {v : Int} (h1 : v ≤ 9223372036854775807) : ordN v < 256 ^ 8 := by
  have : (256 : Nat) ^ 8 = 18446744073709551616 := by decide
  unfold ordN
  omega

/-- The order of keys: a number, then a text. -/
theorem key_lt {a b : Int} (a0 : -9223372036854775808 ≤ a) (a1 : a ≤ 9223372036854775807) (b0 : -9223372036854775808 ≤ b) (b1 : b ≤ 9223372036854775807) {s u : List UInt8} (hs : (0 : UInt8) ∉ s) (hu : (0 : UInt8) ∉ u) :
    be 8 (ordN a) ++ (s ++ [0]) < be 8 (ordN b) ++ (u ++ [0]) ↔ a < b ∨ (a = b ∧ s < u) := by
  rw [be_lt 8 _ _ (ordN_lt a1) (ordN_lt b1), bare_lt s u hs hu]
  have e1 : ordN a < ordN b ↔ a < b := by unfold ordN; omega
  have e2 : ordN a = ordN b ↔ a = b := by unfold ordN; omega
  rw [e1, e2]

end Go.Proofs.Ytoclecpedhbokaa
