/- Kind.unform and Kind.unpack -/
import Derived.Test.YtoclecpedhbokaaRwQ
import Derived.Test.YtoclecpedhbokaaRwN
import Derived.Test.YtoclecpedhbokaaRwC2
namespace Go.Proofs.Ytoclecpedhbokaa
open Go Go.RowKit

def rvV (x : RV) : Value := .tuple #[.agg #[.int .i64 x.v.n, .string x.v.s], .int .i64 (x.n : Int), .bool x.ok]

theorem index_le : ∀ (l : List UInt8) (c : UInt8), Lib.indexByte l c ≤ (l.length : Int)
  | [], c => by simp [Lib.indexByte]
  | b :: l, c => by
    have ih := index_le l c
    rw [Lib.indexByte]
    simp only [List.length_cons]
    split
    · omega
    · split <;> omega

theorem rt_ok {s : ByteArray} {a : Nat} (h : (rdT s a).e = 0) : rtV (rdT s a) = .tuple #[.string (rdT s a).t, .int .i64 ((rdT s a).n : Int), .int .i64 0] := by unfold rtV; rw [h]; rfl
theorem rt_bad {s : ByteArray} {a : Nat} (h : (rdT s a).e ≠ 0) : rtV (rdT s a) = .tuple #[.string ⟨#[]⟩, .int .i64 0, .int .i64 ((rdT s a).e : Int)] := by
  unfold rtV rdT rtOf at *
  by_cases h1 : (rdU 0 (s.data.toList.drop a)).e = 0
  · rw [if_pos h1] at h ⊢
    by_cases h2 : s.size < a + (rdU 0 (s.data.toList.drop a)).n + (rdU 0 (s.data.toList.drop a)).v
    · rw [if_pos h2]; rfl
    · rw [if_neg h2] at h; exact absurd rfl h
  · rw [if_neg h1]; rfl

set_option maxRecDepth 100000 in
set_option maxHeartbeats 2000000 in
theorem unform_int (s : ByteArray) (a : Nat) (w : World) (hs : s.size ≤ maxLen) (ha : a ≤ s.size) : Calls Try.prog 27 #[.int .i64 0, .string s, .int .i64 (a : Int)] w fun e w' => e = .returned (rvV (rdO s a)) ∧ Mod (fun _ => False) w w' := by
  have HO := hid (fun W : World => readOrd_any s a W hs ha)
  unfold roV at HO
  unfold rdO
  by_cases h8 : s.size < a + 8
  · rw [if_pos h8] at HO ⊢
    clear h8
    go_enter Try.func27, Try.ntmps27
    go_wp2_with (go_at_call 38; refine (HO.out _).mono ?_; rintro e w1 ⟨rfl, rfl⟩)
    exact bodyPost_ret (v := rvV noV) (by simp [rvV, noV, results, Try.results27, go_sem]) rfl ⟨rfl, (Mod.refl _ _).alloc _⟩
  · rw [if_neg h8] at HO ⊢
    generalize (rdBE 0 ((s.data.toList.drop a).take 8) : Int) - 9223372036854775808 = n at *
    clear h8
    go_enter Try.func27, Try.ntmps27
    go_wp2_with (go_at_call 38; refine (HO.out _).mono ?_; rintro e w1 ⟨rfl, rfl⟩)
    exact bodyPost_ret (v := .tuple #[.agg #[.int .i64 n, .string ⟨#[]⟩], .int .i64 ((a : Int) + 8), .bool true]) (by simp [results, Try.results27, go_sem]) rfl ⟨rfl, (Mod.refl _ _).alloc _⟩

set_option maxRecDepth 100000 in
set_option maxHeartbeats 2000000 in
theorem unform_text (k : Int) (hk : k ≠ 0) (s : ByteArray) (a : Nat) (w : World) (hs : s.size ≤ 140737488351232) (ha : a ≤ s.size) : Calls Try.prog 27 #[.int .i64 k, .string s, .int .i64 (a : Int)] w fun e w' => e = .returned (rvV (rdZ s a)) ∧ Mod (fun _ => False) w w' := by
  have e0 : (k == 0) = false := by simpa using hk
  have hsl : ∀ v : World, (Instr.slice 9 (.string s) (some (.int .i64 (a : Int))) none none).run Try.prog v = .ok (.string (s.extract a s.size)) v := fun v => by
    have := run_slice_string_l (P := Try.prog) v 9 s Try.underlying9 .i64 (a : Int) (by omega) (by omega)
    simpa using this
  have hx : (s.extract a s.size).data.toList = s.data.toList.drop a := by
    rw [ByteArray.data_extract, Array.toList_extract, List.extract_eq_take_drop, List.take_of_length_le]
    have : s.data.toList.length = s.size := rfl
    rw [List.length_drop]; omega
  have hi : ∀ v : World, Calls Try.prog 39 #[.string (s.extract a s.size), .int .u8 0] v fun e w' => e = .returned (.int .i64 (Lib.indexByte (s.data.toList.drop a) 0)) ∧ w' = v := fun v => by
    have := Try.strings_IndexByte (s.extract a s.size) 0 v
    rw [hx] at this
    exact this
  have HI := hid hi
  have hge := Lib.indexByte_ge (s.data.toList.drop a) 0
  have hle := index_le (s.data.toList.drop a) 0
  rw [List.length_drop] at hle
  have hsl0 : s.data.toList.length = s.size := rfl
  unfold rdZ
  clear hi hx hk
  generalize Lib.indexByte (s.data.toList.drop a) 0 = i at *
  by_cases h0 : i < 0
  · rw [if_pos h0]
    have d0 : decide (i < 0) = true := by rw [decide_eq_true_iff]; exact h0
    clear h0 hge hle
    go_enter Try.func27, Try.ntmps27
    go_wp2_with (go_at_call 39; refine (HI.out _).mono ?_; rintro e w1 ⟨rfl, rfl⟩)
    exact bodyPost_ret (v := rvV noV) (by simp [rvV, noV, results, Try.results27, go_sem]) rfl ⟨rfl, (Mod.refl _ _).alloc _⟩
  · rw [if_neg h0]
    have d0 : decide (i < 0) = false := by rw [decide_eq_false_iff_not]; exact h0
    obtain ⟨m, rfl⟩ := Int.eq_ofNat_of_zero_le (show 0 ≤ i by omega)
    have hs2 : ∀ v : World, (Instr.slice 9 (.string s) (some (.int .i64 (a : Int))) (some (.int .i64 ((a : Int) + (m : Int)))) none).run Try.prog v = .ok (.string (s.extract a (a + m))) v := fun v => by
      have := run_slice_string (P := Try.prog) v 9 s .i64 .i64 (a : Int) ((a : Int) + (m : Int)) Try.underlying9 (by omega) (by omega) (by omega)
      rw [show ((a : Int) + (m : Int)).toNat = a + m by omega, show ((a : Int)).toNat = a by omega] at this
      exact this
    clear h0 hge
    go_enter Try.func27, Try.ntmps27
    go_wp2_with (go_at_call 39; refine (HI.out _).mono ?_; rintro e w1 ⟨rfl, rfl⟩)
    exact bodyPost_ret (v := .tuple #[.agg #[.int .i64 0, .string (s.extract a (a + m))], .int .i64 ((a : Int) + (m : Int) + 1), .bool true]) (by simp [results, Try.results27, go_sem]) rfl ⟨rfl, (Mod.refl _ _).alloc _⟩

theorem unform_any (k : Int) (s : ByteArray) (a : Nat) (w : World) (hs : s.size ≤ 140737488351232) (ha : a ≤ s.size) : Calls Try.prog 27 #[.int .i64 k, .string s, .int .i64 (a : Int)] w fun e w' => e = .returned (rvV (unformV k s a)) ∧ Mod (fun _ => False) w w' := by
  unfold unformV
  by_cases hk : k = 0
  · subst hk
    rw [if_pos rfl]
    exact unform_int s a w (by unfold maxLen; omega) ha
  · rw [if_neg hk]
    exact unform_text k hk s a w hs ha

set_option maxRecDepth 100000 in
set_option maxHeartbeats 2000000 in
theorem unpack_int (s : ByteArray) (a : Nat) (w : World) (hs : s.size ≤ maxLen) : Calls Try.prog 28 #[.int .i64 0, .string s, .int .i64 (a : Int)] w fun e w' => e = .returned (rvV (rdI s a)) ∧ Mod (fun _ => False) w w' := by
  have HO := hid (fun W : World => readInt_any s a W hs)
  unfold riV at HO
  unfold rdI
  generalize rdU 0 (s.data.toList.drop a) = x at *
  obtain ⟨v, n, er⟩ := x
  by_cases he : er = 0
  · subst he
    simp only [if_true] at HO ⊢
    go_enter Try.func28, Try.ntmps28
    go_wp2_with (go_at_call 40; refine (HO.out _).mono ?_; rintro e w1 ⟨rfl, rfl⟩)
    exact bodyPost_ret (v := .tuple #[.agg #[.int .i64 (unzz v), .string ⟨#[]⟩], .int .i64 ((a : Int) + (n : Int)), .bool true]) (by simp [results, Try.results28, go_sem]) rfl ⟨rfl, (Mod.refl _ _).alloc _⟩
  · simp only [if_neg he] at HO ⊢
    have e1 : ((er : Int) == 0) = false := by rw [beq_eq_false_iff_ne]; omega
    clear he
    go_enter Try.func28, Try.ntmps28
    go_wp2_with (go_at_call 40; refine (HO.out _).mono ?_; rintro e w1 ⟨rfl, rfl⟩)
    exact bodyPost_ret (v := rvV noV) (by simp [rvV, noV, results, Try.results28, go_sem]) rfl ⟨rfl, (Mod.refl _ _).alloc _⟩

set_option maxRecDepth 100000 in
set_option maxHeartbeats 2000000 in
theorem unpack_text (k : Int) (hk : k ≠ 0) (s : ByteArray) (a : Nat) (w : World) (hs : s.size ≤ maxLen) : Calls Try.prog 28 #[.int .i64 k, .string s, .int .i64 (a : Int)] w fun e w' => e = .returned (rvV (rdX s a)) ∧ Mod (fun _ => False) w w' := by
  have HO := hid (fun W : World => readText_any s a W hs)
  have e0 : (k == 0) = false := by simpa using hk
  unfold rdX
  clear hk
  by_cases he : (rdT s a).e = 0
  · rw [rt_ok he] at HO
    rw [if_pos he]
    clear he
    generalize rdT s a = x at *
    obtain ⟨t, n, er⟩ := x
    simp only at HO ⊢
    go_enter Try.func28, Try.ntmps28
    go_wp2_with (go_at_call 41; refine (HO.out _).mono ?_; rintro e w1 ⟨rfl, rfl⟩)
    exact bodyPost_ret (v := .tuple #[.agg #[.int .i64 0, .string t], .int .i64 (n : Int), .bool true]) (by simp [results, Try.results28, go_sem]) rfl ⟨rfl, (Mod.refl _ _).alloc _⟩
  · rw [rt_bad he] at HO
    rw [if_neg he]
    have e1 : (((rdT s a).e : Int) == 0) = false := by rw [beq_eq_false_iff_ne]; omega
    clear he
    generalize rdT s a = x at *
    obtain ⟨t, n, er⟩ := x
    simp only at HO e1
    go_enter Try.func28, Try.ntmps28
    go_wp2_with (go_at_call 41; refine (HO.out _).mono ?_; rintro e w1 ⟨rfl, rfl⟩)
    exact bodyPost_ret (v := rvV noV) (by simp [rvV, noV, results, Try.results28, go_sem]) rfl ⟨rfl, (Mod.refl _ _).alloc _⟩

theorem unpack_any (k : Int) (s : ByteArray) (a : Nat) (w : World) (hs : s.size ≤ maxLen) : Calls Try.prog 28 #[.int .i64 k, .string s, .int .i64 (a : Int)] w fun e w' => e = .returned (rvV (unpackV k s a)) ∧ Mod (fun _ => False) w w' := by
  unfold unpackV
  by_cases hk : k = 0
  · subst hk
    rw [if_pos rfl]
    exact unpack_int s a w hs
  · rw [if_neg hk]
    exact unpack_text k hk s a w hs

end Go.Proofs.Ytoclecpedhbokaa
