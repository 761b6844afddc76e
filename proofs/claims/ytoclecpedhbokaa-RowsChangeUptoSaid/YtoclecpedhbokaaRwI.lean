/- Int of pack and of the document -/
import Derived.Test.YtoclecpedhbokaaPack
import Derived.Test.YtoclecpedhbokaaRwB
namespace Go.Proofs.Ytoclecpedhbokaa
open Go Go.RowKit

def intL (v : Int) : List UInt8 := uvar (zz v)
theorem intL_len {v : Int} (h0 : -9223372036854775808 ≤ v) (h1 : v ≤ 9223372036854775807) : (intL v).length ≤ 10 := uvar_len10 (zz_lt h0 h1)

set_option maxRecDepth 100000 in
theorem int_any (v : Int) (w : World) (h0 : -9223372036854775808 ≤ v) (h1 : v ≤ 9223372036854775807) : Calls Try.prog 30 #[.int .i64 v] w fun e w' => e = .returned (.string (ba (intL v))) ∧ Mod (fun _ => False) w w' := by
  have HU := hid (uint_any (zz v) w (zz_lt h0 h1))
  go_enter Try.func30, Try.ntmps30
  go_wp2_with fail
  rw [int_bits h0 h1 _ _ (by rw [IntKind.wrap_u64]; show wrap64 (v * 2) % 18446744073709551616 = _; unfold wrap64; omega) (by rw [IntKind.wrap_u64]; split <;> omega)]
  refine HU.out.mono ?_
  rintro e w1 ⟨rfl, hm⟩
  have HM := hid hm
  clear hm
  go_wp2_with fail
  go_ret
  exact ⟨rfl, HM.out⟩

set_option maxRecDepth 100000 in
theorem rint_any (v : Int) (w : World) (h0 : -9223372036854775808 ≤ v) (h1 : v ≤ 9223372036854775807) : Calls Try.prog 22 #[.int .i64 v] w fun e w' => e = .returned (.string (ba (intL v))) ∧ Mod (fun _ => False) w w' := by
  have HU := hid (ruint_any (zz v) w (zz_lt h0 h1))
  by_cases h : 0 ≤ v
  · have d1 : decide (0 ≤ v) = true := by simpa using h
    go_enter Try.func22, Try.ntmps22
    go_wp2_with fail
    rw [show v * 2 = (zz v : Int) by unfold zz; split <;> omega]
    refine HU.out.mono ?_
    rintro e w1 ⟨rfl, hm⟩
    have HM := hid hm
    clear hm
    go_wp2_with fail
    go_ret
    exact ⟨rfl, HM.out⟩
  · have d1 : decide (0 ≤ v) = false := by simpa using h
    go_enter Try.func22, Try.ntmps22
    go_wp2_with fail
    rw [show -(v + 1) * 2 + 1 = (zz v : Int) by unfold zz; split <;> omega]
    refine HU.out.mono ?_
    rintro e w1 ⟨rfl, hm⟩
    have HM := hid hm
    clear hm
    go_wp2_with fail
    go_ret
    exact ⟨rfl, HM.out⟩

end Go.Proofs.Ytoclecpedhbokaa
