/- Reading a number and a text: the program's functions -/
import Derived.Test.YtoclecpedhbokaaRdL
import Derived.Test.YtoclecpedhbokaaPack
namespace Go.Proofs.Ytoclecpedhbokaa
open Go Go.RowKit

/-- What ReadUint answers. -/
def ruV (at' : Nat) (x : RU) : Value := if x.e = 0 then .tuple #[.int .u64 (x.v : Int), .int .i64 ((at' : Int) + (x.n : Int)), .int .i64 0] else .tuple #[.int .u64 0, .int .i64 0, .int .i64 (x.e : Int)]

theorem or_plain {v x i : Nat} (hv : v < 128 ^ i) (hi : i ≤ 9) (hx : x < 128) (h9 : i = 9 → x ≤ 1) : bits .or .u64 (v : Int) (IntKind.u64.wrap ((x : Int) * ((128 ^ i : Nat) : Int))) = ((v + 128 ^ i * x : Nat) : Int) := by
  have hp : 128 ^ i * x < 18446744073709551616 := by
    by_cases h : i = 9
    · have := h9 h
      subst h
      have : 128 ^ 9 * x ≤ 128 ^ 9 * 1 := Nat.mul_le_mul_left _ this
      have h2 : (128 : Nat) ^ 9 * 1 < 18446744073709551616 := by decide
      omega
    · have h1 : 128 ^ i ≤ 128 ^ 8 := Nat.pow_le_pow_right (by omega) (by omega)
      have h2 : 128 ^ i * x ≤ 128 ^ 8 * 127 := Nat.mul_le_mul h1 (by omega)
      have h3 : (128 : Nat) ^ 8 * 127 < 18446744073709551616 := by decide
      omega
  have hv2 : v < 18446744073709551616 := by
    have h1 : 128 ^ i ≤ 128 ^ 9 := Nat.pow_le_pow_right (by omega) hi
    have h3 : (128 : Nat) ^ 9 < 18446744073709551616 := by decide
    omega
  have e1 : IntKind.u64.wrap ((x : Int) * ((128 ^ i : Nat) : Int)) = ((128 ^ i * x : Nat) : Int) := by
    rw [← Int.natCast_mul, Nat.mul_comm, IntKind.wrap_u64]
    omega
  rw [e1, bits_or_u64_nat _ _ hv2 hp]
  congr 1
  rw [Nat.or_comm]
  have e2 : (128 : Nat) ^ i = 2 ^ (7 * i) := by rw [show (128 : Nat) = 2 ^ 7 from rfl, ← Nat.pow_mul]
  rw [e2] at hv ⊢
  rw [← Nat.two_pow_add_eq_or_of_lt hv, Nat.add_comm]

theorem and_127 (b : Nat) (h : b < 256) : bits .and .u8 (b : Int) 127 = ((b % 128 : Nat) : Int) := by
  have := bits_mask .u8 8 (by decide) wraps_u8 7 (by decide) (b : Int) (by omega) (by omega)
  rw [show (127 : Int) = 2 ^ 7 - 1 from rfl, this]
  rfl

theorem u64_small {x : Nat} (h : x < 256) : IntKind.u64.wrap (x : Int) = (x : Int) := by rw [IntKind.wrap_u64]; omega

theorem or_walk {v b i : Nat} (hv : v < 128 ^ i) (hi : i < 9) (hb : b < 256) : bits .or .u64 (v : Int) (IntKind.u64.wrap (IntKind.u64.wrap (bits .and .u8 (b : Int) 127) * 2 ^ (7 * i))) = ((v + 128 ^ i * (b % 128) : Nat) : Int) := by
  rw [and_127 b hb, u64_small (by omega)]
  have := or_plain (x := b % 128) hv (by omega) (by omega) (by omega)
  rw [← this]
  congr 3
  rw [show (128 : Nat) ^ i = 2 ^ (7 * i) by rw [show (128 : Nat) = 2 ^ 7 from rfl, ← Nat.pow_mul]]
  simp
theorem or_walk9 {v b : Nat} (hv : v < 128 ^ 9) (hb : b ≤ 1) : bits .or .u64 (v : Int) (IntKind.u64.wrap (IntKind.u64.wrap (bits .and .u8 (b : Int) 127) * 9223372036854775808)) = ((v + 128 ^ 9 * b : Nat) : Int) := by
  rw [and_127 b (by omega), u64_small (by omega)]
  have := or_plain (x := b % 128) hv (by omega) (by omega) (by omega)
  rw [show b % 128 = b by omega] at this ⊢
  rw [← this]
  rfl

theorem ans_end {at' v b i : Nat} {L : List UInt8} {x : RU} (hx : rdU 0 L = ahead v i x) (he : x = ⟨b, 1, 0⟩) : ruV at' (rdU 0 L) = .tuple #[.int .u64 ((v + 128 ^ i * b : Nat) : Int), .int .i64 ((at' : Int) + (i : Int) + 1), .int .i64 0] := by
  rw [hx, he]
  unfold ahead ruV
  simp only [if_true]
  rw [Int.natCast_add i 1, ← Int.add_assoc]
  rfl
theorem ans_err {at' v i k : Nat} {L : List UInt8} {x : RU} (hx : rdU 0 L = ahead v i x) (he : x = ⟨0, 0, k⟩) (h0 : k ≠ 0) : ruV at' (rdU 0 L) = .tuple #[.int .u64 0, .int .i64 0, .int .i64 (k : Int)] := by
  rw [hx, he]
  unfold ahead ruV
  simp only [h0, if_false]

set_option maxRecDepth 100000 in
set_option maxHeartbeats 2000000 in
theorem readUint_any (s : ByteArray) (at' : Nat) (w : World) (hs : s.size ≤ maxLen) : Calls Try.prog 47 #[.string s, .int .i64 (at' : Int)] w fun e w' => e = .returned (ruV at' (rdU 0 (s.data.toList.drop at'))) ∧ w = w' := by
  unfold maxLen at hs
  by_cases hlt : at' < s.size
  · have d1 : decide (s.size ≤ at') = false := by rw [decide_eq_false_iff_not]; omega
    go_enter Try.func47, Try.ntmps47
    go_wp2
    go_loop [18, 7] (fun c t => ∃ i v : Nat, i ≤ 9 ∧ c = .int .i64 (i : Int) ∧ t = .int .u64 (v : Int) ∧ v < 128 ^ i ∧ at' + i ≤ s.size ∧ rdU 0 (s.data.toList.drop at') = ahead v i (rdU i (s.data.toList.drop (at' + i)))) (fun c _ => 10 - (intOf c).toNat)
    case atStart => exact ⟨0, 0, by omega, rfl, rfl, by simp, by omega, (ahead_zero _ (rdU_form _ _)).symm⟩
    case round =>
      obtain ⟨i, v, hi, rfl, rfl, hv, hle, hfin⟩ := hrel
      have HF := hid hfin
      clear hfin
      by_cases hend : at' + i = s.size
      · have e1 : ((at' : Int) + (i : Int) == (s.size : Int)) = true := by rw [beq_iff_eq]; omega
        have HANS := hid (ans_err (at' := at') (k := 20) HF.out (by rw [List.drop_eq_nil_of_le (by simp; exact Nat.le_of_eq hend.symm)]; exact rdU_nil i) (by decide))
        clear hend
        go_wp2_with fail
        refine bodyPost_ret (v := .tuple #[.int .u64 0, .int .i64 0, .int .i64 20]) (by simp [results, Try.results47, go_sem]) rfl ⟨congrArg Ending.returned HANS.out.symm, rfl⟩
      · have e1 : ((at' : Int) + (i : Int) == (s.size : Int)) = false := by rw [beq_eq_false_iff_ne]; omega
        have hlt2 : at' + i < s.size := by omega
        have i1 : (at' : Int) + (i : Int) < (s.size : Int) := by omega
        have hb8 := s[at' + i].toNat_lt
        have hdr : s.data.toList.drop (at' + i) = s[at' + i] :: s.data.toList.drop (at' + i + 1) := List.drop_eq_getElem_cons (by simpa using hlt2)
        have HD := hid hdr
        clear hdr hend
        by_cases h9 : i = 9
        · subst h9
          by_cases hbad : 1 < s[at' + 9].toNat
          · have HANS := hid (ans_err (at' := at') (k := 21) HF.out (by rw [HD.out]; exact rdU_bad (.inl ⟨rfl, hbad⟩)) (by decide))
            go_wp2_with fail
            refine bodyPost_ret (v := .tuple #[.int .u64 0, .int .i64 0, .int .i64 21]) (by simp [results, Try.results47, go_sem]) rfl ⟨congrArg Ending.returned HANS.out.symm, rfl⟩
          · by_cases hz : s[at' + 9].toNat = 0
            · have HANS := hid (ans_err (at' := at') (k := 21) HF.out (by rw [HD.out]; exact rdU_bad (.inr ⟨by omega, hz⟩)) (by decide))
              have z : ((s[at' + 9].toNat : Int) == 0) = true := by rw [beq_iff_eq]; omega
              clear hz
              go_wp2_with fail
              refine bodyPost_ret (v := .tuple #[.int .u64 0, .int .i64 0, .int .i64 21]) (by simp [results, Try.results47, go_sem]) rfl ⟨congrArg Ending.returned HANS.out.symm, rfl⟩
            · have z : ((s[at' + 9].toNat : Int) == 0) = false := by rw [beq_eq_false_iff_ne]; omega
              have hb : s[at' + 9].toNat < 128 := by omega
              have HANS := hid (ans_end (at' := at') HF.out (by rw [HD.out]; exact rdU_end (by omega) (by omega) (by omega) hb))
              have HO := hid (or_walk9 (b := s[at' + 9].toNat) hv (by omega))
              go_wp2_with fail
              refine bodyPost_ret (v := .tuple #[.int .u64 (bits .or .u64 (v : Int) (IntKind.u64.wrap (IntKind.u64.wrap (bits .and .u8 (s[at' + 9].toNat : Int) 127) * 9223372036854775808))), .int .i64 ((at' : Int) + 9 + 1), .int .i64 0]) (by simp [results, Try.results47, go_sem]) rfl ⟨by rw [HANS.out, HO.out]; rfl, rfl⟩
        · have hi9 : i < 9 := by omega
          by_cases hbad : 0 < i ∧ s[at' + i].toNat = 0
          · obtain ⟨h0, hz⟩ := hbad
            have HANS := hid (ans_err (at' := at') (k := 21) HF.out (by rw [HD.out]; exact rdU_bad (.inr ⟨h0, hz⟩)) (by decide))
            have z : ((s[at' + i].toNat : Int) == 0) = true := by rw [beq_iff_eq]; omega
            clear hz
            go_wp2_with fail
            refine bodyPost_ret (v := .tuple #[.int .u64 0, .int .i64 0, .int .i64 21]) (by simp [results, Try.results47, go_sem]) rfl ⟨congrArg Ending.returned HANS.out.symm, rfl⟩
          · have HN2 := hid hbad
            clear hbad
            have HO := hid (or_walk (b := s[at' + i].toNat) hv hi9 hb8)
            by_cases hb : s[at' + i].toNat < 128
            · have HANS := hid (ans_end (at' := at') HF.out (by rw [HD.out]; exact rdU_end (by omega) HN2.out (by omega) hb))
              have HM := hid (Nat.mod_eq_of_lt hb)
              by_cases h0 : 0 < i
              · have z : ((s[at' + i].toNat : Int) == 0) = false := by rw [beq_eq_false_iff_ne]; have := HN2.out; omega
                go_wp2_with fail
                refine bodyPost_ret (v := .tuple #[.int .u64 (bits .or .u64 (v : Int) (IntKind.u64.wrap (IntKind.u64.wrap (bits .and .u8 (s[at' + i].toNat : Int) 127) * 2 ^ (7 * i)))), .int .i64 ((at' : Int) + (i : Int) + 1), .int .i64 0]) (by simp [results, Try.results47, go_sem]) rfl ⟨by rw [HANS.out, HO.out, HM.out], rfl⟩
              · go_wp2_with fail
                refine bodyPost_ret (v := .tuple #[.int .u64 (bits .or .u64 (v : Int) (IntKind.u64.wrap (IntKind.u64.wrap (bits .and .u8 (s[at' + i].toNat : Int) 127) * 2 ^ (7 * i)))), .int .i64 ((at' : Int) + (i : Int) + 1), .int .i64 0]) (by simp [results, Try.results47, go_sem]) rfl ⟨by rw [HANS.out, HO.out, HM.out], rfl⟩
            · have HNx : Hid (rdU 0 (s.data.toList.drop at') = ahead (v + 128 ^ i * (s[at' + i].toNat - 128)) (i + 1) (rdU (i + 1) (s.data.toList.drop (at' + (i + 1))))) := hid (by rw [HF.out, HD.out]; exact ahead_more hi9 hb)
              have HM : Hid (s[at' + i].toNat % 128 = s[at' + i].toNat - 128) := hid (by omega)
              have hv' : v + 128 ^ i * (s[at' + i].toNat - 128) < 128 ^ (i + 1) := by
                rw [Nat.pow_succ]
                have : 128 ^ i * (s[at' + i].toNat - 128) ≤ 128 ^ i * 127 := Nat.mul_le_mul_left _ (by omega)
                omega
              have HV := hid hv'
              clear hv'
              by_cases h0 : 0 < i
              · have z : ((s[at' + i].toNat : Int) == 0) = false := by rw [beq_eq_false_iff_ne]; omega
                go_wp2_with fail
                go_round
                case rel => exact ⟨i + 1, v + 128 ^ i * (s[at' + i].toNat - 128), by omega, by go_num, by rw [HO.out, HM.out], HV.out, by omega, HNx.out⟩
                case measure => simp [intOf]; omega
              · go_wp2_with fail
                go_round
                case rel => exact ⟨i + 1, v + 128 ^ i * (s[at' + i].toNat - 128), by omega, by go_num, by rw [HO.out, HM.out], HV.out, by omega, HNx.out⟩
                case measure => simp [intOf]; omega
  · have d1 : decide (s.size ≤ at') = true := by rw [decide_eq_true_iff]; omega
    have HANS : Hid (ruV at' (rdU 0 (s.data.toList.drop at')) = .tuple #[.int .u64 0, .int .i64 0, .int .i64 20]) := by
      rw [List.drop_eq_nil_of_le (by simp; exact Nat.le_of_not_lt hlt), rdU_nil]; rfl
    go_enter Try.func47, Try.ntmps47
    go_wp2_with fail
    refine bodyPost_ret (v := .tuple #[.int .u64 0, .int .i64 0, .int .i64 20]) (by simp [results, Try.results47, go_sem]) rfl ⟨congrArg Ending.returned HANS.out.symm, rfl⟩

end Go.Proofs.Ytoclecpedhbokaa
