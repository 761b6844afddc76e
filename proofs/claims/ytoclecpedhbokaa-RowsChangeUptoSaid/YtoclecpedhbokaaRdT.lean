/- Reading a text: the program's function -/
import Derived.Test.YtoclecpedhbokaaRd
import Derived.IntWalk
namespace Go.Proofs.Ytoclecpedhbokaa
open Go Go.RowKit

/-- What reading a text gives: the text, the place behind it, the error. -/
structure RT where
  t : ByteArray
  n : Nat
  e : Nat

def rtOf (s : ByteArray) (at' : Nat) (x : RU) : RT :=
  if x.e = 0 then (if s.size < at' + x.n + x.v then ⟨⟨#[]⟩, 0, 20⟩ else ⟨s.extract (at' + x.n) (at' + x.n + x.v), at' + x.n + x.v, 0⟩) else ⟨⟨#[]⟩, 0, x.e⟩
def rdT (s : ByteArray) (at' : Nat) : RT := rtOf s at' (rdU 0 (s.data.toList.drop at'))

def rtV (x : RT) : Value := .tuple #[.string x.t, .int .i64 (x.n : Int), .int .i64 (x.e : Int)]

theorem rdU_in (s : ByteArray) (at' : Nat) (he : (rdU 0 (s.data.toList.drop at')).e = 0) : at' + (rdU 0 (s.data.toList.drop at')).n ≤ s.size ∧ 1 ≤ (rdU 0 (s.data.toList.drop at')).n ∧ (rdU 0 (s.data.toList.drop at')).v < 18446744073709551616 := by
  obtain ⟨h1, h2, _, h4⟩ := rdU_bound (s.data.toList.drop at') 0
  have h3 := h2 he
  have h5 := h4 (by omega)
  rw [Nat.pow_zero, Nat.mul_one] at h5
  have h6 : two64 = 18446744073709551616 := by decide
  rw [List.length_drop, Array.length_toList] at h1
  have h7 : s.data.size = s.size := rfl
  omega

set_option maxRecDepth 100000 in
set_option maxHeartbeats 2000000 in
theorem readText_any (s : ByteArray) (at' : Nat) (w : World) (hs : s.size ≤ maxLen) : Calls Try.prog 41 #[.string s, .int .i64 (at' : Int)] w fun e w' => e = .returned (rtV (rdT s at')) ∧ w = w' := by
  have HU := hid (readUint_any s at' w hs)
  unfold rdT
  unfold maxLen at hs
  have hin := rdU_in s at'
  generalize rdU 0 (s.data.toList.drop at') = x at *
  obtain ⟨v, n, er⟩ := x
  by_cases he : er = 0
  · subst he
    obtain ⟨h1, h2, h3⟩ := hin rfl
    simp only at h1 h2 h3
    clear hin
    have hv : ruV at' ⟨v, n, 0⟩ = .tuple #[.int .u64 (v : Int), .int .i64 ((at' + n : Nat) : Int), .int .i64 0] := by unfold ruV; simp
    have hr : rtOf s at' ⟨v, n, 0⟩ = if s.size < at' + n + v then ⟨⟨#[]⟩, 0, 20⟩ else ⟨s.extract (at' + n) (at' + n + v), at' + n + v, 0⟩ := rfl
    rw [hv] at HU
    rw [hr]
    clear hv hr
    generalize at' + n = m at *
    have hwr : IntKind.u64.wrap ((s.size : Int) - (m : Int)) = (s.size : Int) - (m : Int) := by rw [IntKind.wrap_u64]; omega
    by_cases hbig : s.size < m + v
    · have d : decide ((s.size : Int) - (m : Int) < (v : Int)) = true := by rw [decide_eq_true_iff]; omega
      rw [if_pos hbig]
      go_enter Try.func41, Try.ntmps41
      go_wp2_with fail
      refine HU.out.mono ?_
      rintro e w' ⟨rfl, rfl⟩
      go_wp2_with fail
      exact bodyPost_ret (v := .tuple #[.string ⟨#[]⟩, .int .i64 0, .int .i64 20]) (by simp [results, Try.results41, go_sem]) rfl ⟨rfl, rfl⟩
    · have d : decide ((s.size : Int) - (m : Int) < (v : Int)) = false := by rw [decide_eq_false_iff_not]; omega
      have hv2 : IntKind.i64.wrap (v : Int) = (v : Int) := IntWalk.i64_in _ (by omega)
      have hsl : ∀ w : World, (Instr.slice 9 (.string s) (some (.int .i64 (m : Int))) (some (.int .i64 ((m : Int) + (v : Int)))) none).run Try.prog w = .ok (.string (s.extract m (m + v))) w := fun w => by
        have := run_slice_string (P := Try.prog) w 9 s .i64 .i64 (m : Int) ((m : Int) + (v : Int)) Try.underlying9 (by omega) (by omega) (by omega)
        rw [show ((m : Int) + (v : Int)).toNat = m + v by omega, show ((m : Int)).toNat = m by omega] at this
        exact this
      have e5 : ((m + v : Nat) : Int) = (m : Int) + (v : Int) := by omega
      have HE5 := hid e5
      clear e5
      rw [if_neg hbig]
      go_enter Try.func41, Try.ntmps41
      go_wp2_with fail
      refine HU.out.mono ?_
      rintro e w' ⟨rfl, rfl⟩
      go_wp2_with fail
      exact bodyPost_ret (v := .tuple #[.string (s.extract m (m + v)), .int .i64 ((m : Int) + (v : Int)), .int .i64 0]) (by simp [results, Try.results41, go_sem]) rfl ⟨by unfold rtV; rw [HE5.out]; rfl, rfl⟩
  · have hv : ruV at' ⟨v, n, er⟩ = .tuple #[.int .u64 0, .int .i64 0, .int .i64 (er : Int)] := by unfold ruV; rw [if_neg he]
    rw [hv] at HU
    clear hv hin
    have HA : Hid (rtOf s at' ⟨v, n, er⟩ = ⟨⟨#[]⟩, 0, er⟩) := hid (by unfold rtOf; rw [if_neg he])
    have hne : ((er : Int) != 0) = true := by rw [bne_iff_ne]; omega
    rw [HA.out]
    clear HA
    go_enter Try.func41, Try.ntmps41
    go_wp2_with fail
    refine HU.out.mono ?_
    rintro e w' ⟨rfl, rfl⟩
    go_wp2_with fail
    exact bodyPost_ret (v := .tuple #[.string ⟨#[]⟩, .int .i64 0, .int .i64 (er : Int)]) (by simp [results, Try.results41, go_sem]) rfl ⟨rfl, rfl⟩

end Go.Proofs.Ytoclecpedhbokaa
