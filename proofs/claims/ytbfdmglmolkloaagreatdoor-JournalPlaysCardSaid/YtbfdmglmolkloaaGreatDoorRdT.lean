/- Reading a text: the program's function -/
import Derived.Test.YtbfdmglmolkloaaGreatDoorRd
import Derived.IntWalk
namespace Go.Proofs.YtbfdmglmolkloaaGreatDoor
open Go Go.RowKit

/-- What reading a text gives: the text, the place behind it, the error. -/
structure RT where
  t : ByteArray
  n : Nat
  e : Nat

def rtOf (s : ByteArray) (at' : Nat) (x : RU) : RT :=
  if x.e = 0 then (if s.size < at' + x.n + x.v then ⟨⟨#[]⟩, 0, 20⟩ else ⟨s.extract (at' + x.n) (at' + x.n + x.v), at' + x.n + x.v, 0⟩) else ⟨⟨#[]⟩, 0, x.e⟩
def rdT (s : ByteArray) (at' : Nat) : RT := rtOf s at' (rdU 0 (s.data.toList.drop at'))

def rtV (x : RT) : Value := .tuple #[.string x.t, .int .i64 (x.n : Int), .int .i64 (x.e : Int)]

theorem rdU_in (s : ByteArray) (at' : Nat) (he : (rdU 0 (s.data.toList.drop at')).e = 0) : at' + (rdU 0 (s.data.toList.drop at')).n ≤ s.size ∧ 1 ≤ (rdU 0 (s.data.toList.drop at')).n ∧ (rdU 0 (s.data.toList.drop at')).v < 18446744073709551616 := by
  obtain ⟨h1, h2, _, h4⟩ := rdU_bound (s.data.toList.drop at') 0
  have h3 := h2 he
  have h5 := h4 (by omega)
  rw [Nat.pow_zero, Nat.mul_one] at h5
  have h6 : two64 = 18446744073709551616 := by decide
  rw [List.length_drop, Array.length_toList] at h1
  have h7 : s.data.size = s.size := rfl
  omega


end Go.Proofs.YtbfdmglmolkloaaGreatDoor
