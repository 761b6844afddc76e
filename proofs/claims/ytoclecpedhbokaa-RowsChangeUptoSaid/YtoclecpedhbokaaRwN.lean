/- ReadOrdered and ReadInt of pack -/
import Derived.Test.YtoclecpedhbokaaRd
import Derived.Test.YtoclecpedhbokaaRwB
import Derived.IntWalk
namespace Go.Proofs.Ytoclecpedhbokaa
open Go Go.RowKit

/-- What reading a number answers. -/
def riV (at' : Nat) (x : RU) : Value := if x.e = 0 then .tuple #[.int .i64 (unzz x.v), .int .i64 ((at' : Int) + (x.n : Int)), .int .i64 0] else .tuple #[.int .i64 0, .int .i64 0, .int .i64 (x.e : Int)]

theorem xor_low {h b : Int} (h0 : 0 ≤ h) (h1 : h < 9223372036854775808) (hb : b = 0 ∨ b = 1) : bits .xor .i64 h (-b) = if b = 1 then -h - 1 else h := by
  obtain ⟨n, rfl⟩ := Int.eq_ofNat_of_zero_le h0
  have hn : n < 18446744073709551616 := by omega
  have e1 : (BitVec.ofInt 64 (n : Int)).toNat = n := by
    rw [BitVec.ofInt_natCast, BitVec.toNat_ofNat]; exact Nat.mod_eq_of_lt hn
  rcases hb with rfl | rfl
  · show IntKind.i64.wrap ((BitVec.ofInt 64 (n : Int) ^^^ BitVec.ofInt 64 (-0)).toNat : Int) = _
    rw [BitVec.toNat_xor, e1, show (BitVec.ofInt 64 (-0)).toNat = 0 from rfl, Nat.xor_zero, IntKind.wrap_i64, if_neg (by decide)]
    omega
  · show IntKind.i64.wrap ((BitVec.ofInt 64 (n : Int) ^^^ BitVec.ofInt 64 (-1)).toNat : Int) = _
    rw [BitVec.toNat_xor, e1, show (BitVec.ofInt 64 (-1)).toNat = 18446744073709551615 from rfl, xor_ones hn, IntKind.wrap_i64, if_pos rfl]
    omega

theorem and_one {v : Nat} (h : v < 18446744073709551616) : bits .and .u64 (v : Int) 1 = ((v % 2 : Nat) : Int) := by
  have := bits_mask .u64 64 (by decide) (fun n h0 h1 => by rw [IntKind.wrap_u64]; omega) 1 (by decide) (v : Int) (by omega) (by omega)
  rw [show (1 : Int) = 2 ^ 1 - 1 from rfl, this]
  omega

set_option maxRecDepth 100000 in
theorem readInt_any (s : ByteArray) (at' : Nat) (w : World) (hs : s.size ≤ maxLen) : Calls Try.prog 40 #[.string s, .int .i64 (at' : Int)] w fun e w' => e = .returned (riV at' (rdU 0 (s.data.toList.drop at'))) ∧ w = w' := by
  have HU := hid (readUint_any s at' w hs)
  obtain ⟨_, _, _, h4⟩ := rdU_bound (s.data.toList.drop at') 0
  have h5 := h4 (by omega)
  rw [Nat.pow_zero, Nat.mul_one, show two64 = 18446744073709551616 by decide] at h5
  clear h4
  generalize rdU 0 (s.data.toList.drop at') = x at *
  obtain ⟨v, n, er⟩ := x
  simp only at h5
  by_cases he : er = 0
  · subst he
    have hv : ruV at' ⟨v, n, 0⟩ = .tuple #[.int .u64 (v : Int), .int .i64 ((at' : Int) + (n : Int)), .int .i64 0] := rfl
    rw [hv] at HU
    have HX : Hid (bits .xor .i64 ((v : Int) / 2) (-((v % 2 : Nat) : Int)) = unzz v) := hid (by
      rw [xor_low (by omega) (by omega) (by omega)]
      unfold unzz
      split <;> split <;> omega)
    have HA := hid (and_one h5)
    go_enter Try.func40, Try.ntmps40
    go_wp2_with fail
    refine HU.out.mono ?_
    rintro e w' ⟨rfl, rfl⟩
    go_wp2_with fail
    rw [HA.out, show wrap64 (-wrap64 ((v % 2 : Nat) : Int)) = -((v % 2 : Nat) : Int) by unfold wrap64; omega, HX.out]
    exact bodyPost_ret (v := .tuple #[.int .i64 (unzz v), .int .i64 ((at' : Int) + (n : Int)), .int .i64 0]) (by simp [results, Try.results40, go_sem]) rfl ⟨rfl, rfl⟩
  · have hv : ruV at' ⟨v, n, er⟩ = .tuple #[.int .u64 0, .int .i64 0, .int .i64 (er : Int)] := by unfold ruV; rw [if_neg he]
    rw [hv] at HU
    have HA : Hid (riV at' ⟨v, n, er⟩ = .tuple #[.int .i64 0, .int .i64 0, .int .i64 (er : Int)]) := hid (by unfold riV; rw [if_neg he])
    have hne : ((er : Int) != 0) = true := by rw [bne_iff_ne]; omega
    rw [HA.out]
    clear HA hv
    go_enter Try.func40, Try.ntmps40
    go_wp2_with fail
    refine HU.out.mono ?_
    rintro e w' ⟨rfl, rfl⟩
    go_wp2_with fail
    exact bodyPost_ret (v := .tuple #[.int .i64 0, .int .i64 0, .int .i64 (er : Int)]) (by simp [results, Try.results40, go_sem]) rfl ⟨rfl, rfl⟩

/-- Eight bytes, the greatest first. -/
theorem rdBE_lt : ∀ (l : List UInt8) (a : Nat), rdBE a l < (a + 1) * 256 ^ l.length
  | [], a => by simp [rdBE]
  | b :: r, a => by
    have h := rdBE_lt r (a * 256 + b.toNat)
    have hb : b.toNat < 256 := b.toNat_lt
    rw [rdBE, List.length_cons, Nat.pow_succ, Nat.mul_comm (256 ^ r.length) 256, ← Nat.mul_assoc]
    exact Nat.lt_of_lt_of_le h (Nat.mul_le_mul_right _ (by omega))
theorem rdBE_snoc : ∀ (l : List UInt8) (a : Nat) (b : UInt8), rdBE a (l ++ [b]) = rdBE a l * 256 + b.toNat
  | [], a, b => rfl
  | c :: r, a, b => by rw [List.cons_append, rdBE, rdBE, rdBE_snoc r]
theorem rdBE_take {l : List UInt8} {k : Nat} {b : UInt8} (h : l[k]? = some b) : rdBE 0 (l.take (k + 1)) = rdBE 0 (l.take k) * 256 + b.toNat := by
  obtain ⟨hk, rfl⟩ := List.getElem?_eq_some_iff.1 h
  rw [List.take_succ_eq_append_getElem hk, rdBE_snoc]
theorem rdBE_small (l : List UInt8) (k : Nat) : rdBE 0 (l.take k) < 256 ^ k := by
  have h := rdBE_lt (l.take k) 0
  rw [Nat.zero_add, Nat.one_mul] at h
  exact Nat.lt_of_lt_of_le h (Nat.pow_le_pow_right (by decide) (by rw [List.length_take]; omega))

theorem or_join {u b : Nat} (hu : u < 72057594037927936) (hb : b < 256) : bits .or .u64 (IntKind.u64.wrap ((u : Int) * 256)) (b : Int) = ((u * 256 + b : Nat) : Int) := by
  rw [show IntKind.u64.wrap ((u : Int) * 256) = (u : Int) * 256 by rw [IntKind.wrap_u64]; omega]
  rw [bits_join .u64 64 (by decide) (fun n h0 h1 => by rw [IntKind.wrap_u64]; omega) 8 _ _ (by omega) (by omega) (by omega) (by omega) (by omega) (by omega)]
  omega
theorem top_back {u : Nat} (hu : u < 18446744073709551616) : wrap64 (bits .xor .u64 (u : Int) 9223372036854775808) = (u : Int) - 9223372036854775808 := by
  rw [show (9223372036854775808 : Int) = ((9223372036854775808 : Nat) : Int) from rfl, bits_xor_u64_nat _ _ hu (by decide)]
  unfold wrap64
  by_cases h : u < 9223372036854775808
  · rw [xor_top h]; omega
  · obtain ⟨l, rfl⟩ : ∃ l, u = 9223372036854775808 + l := ⟨u - 9223372036854775808, by omega⟩
    rw [xor_top2 (by omega)]; omega

def roV (s : ByteArray) (at' : Nat) : Value := if s.size < at' + 8 then .tuple #[.int .i64 0, .int .i64 0, .int .i64 20] else .tuple #[.int .i64 ((rdBE 0 ((s.data.toList.drop at').take 8) : Int) - 9223372036854775808), .int .i64 ((at' : Int) + 8), .int .i64 0]

theorem drop_byte {s : ByteArray} {at' k : Nat} (h : at' + k < s.size) : (s.data.toList.drop at')[k]? = some s[at' + k] := by
  rw [List.getElem?_drop, List.getElem?_eq_getElem (by simpa using h)]
  rfl

set_option maxRecDepth 100000 in
theorem readOrd_any (s : ByteArray) (at' : Nat) (w : World) (hs : s.size ≤ maxLen) (ha : at' ≤ s.size) : Calls Try.prog 38 #[.string s, .int .i64 (at' : Int)] w fun e w' => e = .returned (roV s at') ∧ w = w' := by
  unfold roV
  unfold maxLen at hs
  have d1 : decide ((at' : Int) < 0) = false := by rw [decide_eq_false_iff_not]; omega
  have d2 : decide (s.size < at') = false := by rw [decide_eq_false_iff_not]; omega
  by_cases h8 : s.size < at' + 8
  · have d0 : decide ((s.size : Int) - (at' : Int) < 8) = true := by rw [decide_eq_true_iff]; omega
    rw [if_pos h8]
    go_enter Try.func38, Try.ntmps38
    go_wp2
    exact bodyPost_ret (v := .tuple #[.int .i64 0, .int .i64 0, .int .i64 20]) (by simp [results, Try.results38, go_sem]) rfl ⟨rfl, rfl⟩
  · have d0 : decide ((s.size : Int) - (at' : Int) < 8) = false := by rw [decide_eq_false_iff_not]; omega
    rw [if_neg h8]
    go_enter Try.func38, Try.ntmps38
    go_wp2
    go_loop [7, 24] (fun u c => ∃ k : Nat, k ≤ 8 ∧ c = .int .i64 (k : Int) ∧ u = .int .u64 ((rdBE 0 ((s.data.toList.drop at').take k) : Nat) : Int)) (fun _ c => 8 - (intOf c).toNat)
    case atStart => exact ⟨0, by omega, rfl, rfl⟩
    case round =>
      obtain ⟨k, hk, rfl, rfl⟩ := hrel
      by_cases hlt : k < 8
      · have HT := hid (rdBE_take (drop_byte (s := s) (at' := at') (k := k) (by omega)))
        have hb : s[at' + k].toNat < 256 := UInt8.toNat_lt _
        have HO := hid (or_join (u := rdBE 0 ((s.data.toList.drop at').take k)) (b := s[at' + k].toNat) (Nat.lt_of_lt_of_le (rdBE_small _ k) (Nat.le_trans (Nat.pow_le_pow_right (by decide) (show k ≤ 7 by omega)) (by decide))) hb)
        have hin : at' + k < s.size := by omega
        have HU8 := hid (u64_small hb)
        clear hb
        go_wp2
        go_round
        case rel => exact ⟨k + 1, by omega, by go_num, by rw [HU8.out, HO.out, HT.out]⟩
        case measure => simp [intOf]; omega
      · have hke : k = 8 := by omega
        subst hke
        have HB := hid (top_back (u := rdBE 0 ((s.data.toList.drop at').take 8)) (Nat.lt_of_lt_of_le (rdBE_small _ 8) (by decide)))
        go_wp2
        rw [HB.out]
        exact bodyPost_ret (v := .tuple #[.int .i64 ((rdBE 0 ((s.data.toList.drop at').take 8) : Int) - 9223372036854775808), .int .i64 ((at' : Int) + 8), .int .i64 0]) (by simp [results, Try.results38, go_sem]) rfl ⟨rfl, rfl⟩

end Go.Proofs.Ytoclecpedhbokaa
