/- Ordered of pack and of the document -/
import Derived.Test.YtoclecpedhbokaaRwI
namespace Go.Proofs.Ytoclecpedhbokaa
open Go Go.RowKit

def ordL (v : Int) : List UInt8 := be 8 (ordN v)
/-- The array when k bytes are laid. -/
def ordC (U k : Nat) : List UInt8 := (be 8 U).take k ++ List.replicate (8 - k) 0

theorem ordC_len (U k : Nat) (hk : k ≤ 8) : (ordC U k).length = 8 := by
  unfold ordC
  rw [List.length_append, List.length_take, be_len, List.length_replicate]
  omega
theorem ordC_get (U k : Nat) (hk : k < 8) : (ordC U k)[k]? = some 0 := by
  unfold ordC
  rw [List.getElem?_append_right (by rw [List.length_take, be_len]; omega), List.length_take, be_len, show k - min k 8 = 0 by omega, List.getElem?_replicate, if_pos (by omega)]
theorem ordC_set (U k : Nat) (hk : k < 8) : (ordC U k).set k (UInt8.ofNat (U / 256 ^ (7 - k) % 256)) = ordC U (k + 1) := by
  apply List.ext_getElem?
  intro i
  have hl : (ordC U k).length = 8 := ordC_len U k (by omega)
  rw [List.getElem?_set, hl]
  unfold ordC
  by_cases h1 : k = i
  · subst h1
    rw [if_pos rfl, if_pos hk, List.getElem?_append_left (by rw [List.length_take, be_len]; omega), List.getElem?_take, if_pos (by omega), be_get 8 U k hk]
  · rw [if_neg h1]
    by_cases h2 : i < k
    · rw [List.getElem?_append_left (by rw [List.length_take, be_len]; omega), List.getElem?_append_left (by rw [List.length_take, be_len]; omega), List.getElem?_take, List.getElem?_take, if_pos h2, if_pos (by omega)]
    · rw [List.getElem?_append_right (by rw [List.length_take, be_len]; omega), List.getElem?_append_right (by rw [List.length_take, be_len]; omega), List.length_take, List.length_take, be_len, List.getElem?_replicate, List.getElem?_replicate]
      by_cases h3 : i < 8
      · rw [if_pos (by omega), if_pos (by omega)]
      · rw [if_neg (by omega), if_neg (by omega)]
theorem ordC_all (U : Nat) : ordC U 8 = be 8 U := by
  unfold ordC
  rw [List.take_of_length_le (by rw [be_len]; decide)]
  simp
theorem ordC_zero (U : Nat) : Lib.byteCells (ordC U 0) = [.int .u8 0, .int .u8 0, .int .u8 0, .int .u8 0, .int .u8 0, .int .u8 0, .int .u8 0, .int .u8 0] := rfl

set_option maxRecDepth 100000 in
theorem ordered_any (v : Int) (w : World) (h0 : -9223372036854775808 ≤ v) (h1 : v ≤ 9223372036854775807) : Calls Try.prog 43 #[.int .i64 v] w fun e w' => e = .returned (.string (ba (ordL v))) ∧ Mod (fun _ => False) w w' := by
  have e1 : bits .xor .u64 (IntKind.u64.wrap v) 9223372036854775808 = (ordN v : Int) := ord_bits h0 h1 _ (by rw [IntKind.wrap_u64])
  have hU := ordN_lt h1
  go_enter Try.func43, Try.ntmps43
  go_wp2_with fail
  clear e1
  generalize hUU : ordN v = U at *
  go_loopw [9] (fun c wr => ∃ k : Nat, k ≤ 8 ∧ c = .int .i64 (k : Int) ∧ wr.heap[w.heap.size]? = some (.cells (Lib.byteCells (ordC U k)).toArray 100 (0, 0)) ∧ Mod (fun _ => False) w wr) (fun c _ => 8 - (intOf c).toNat)
  case atStart => exact ⟨0, by decide, rfl, by rw [ordC_zero]; exact heap_alloc_new _ _, (Mod.refl _ _).alloc _⟩
  case round =>
    obtain ⟨k, hk, rfl, hrow, hm⟩ := hrel
    have HRow := hid hrow
    have HM := hid hm
    by_cases hlt : k < 8
    · have c0 : wr.cell? ⟨w.heap.size, k, none⟩ = some (.int .u8 0) := by
        rw [cell_of_row _ _ _ _ _ _ hrow]
        simp [Lib.byteCells, ordC_get U k hlt]
      have f0 : wr.frozen? ⟨w.heap.size, k, none⟩ = false := frozen_of_row _ _ _ _ _ hrow
      have s1 : IntKind.i64.wrap (8 * (k : Int)) = 8 * (k : Int) := by rw [IntKind.wrap_i64]; omega
      have s2 : IntKind.i64.wrap (56 - 8 * (k : Int)) = 56 - 8 * (k : Int) := by rw [IntKind.wrap_i64]; omega
      clear hrow hm
      go_wp2_with fail
      have hv : ((U : Int) / 2 ^ (56 - 8 * k) % 256) = (((UInt8.ofNat (U / 256 ^ (7 - k) % 256)).toNat : Nat) : Int) := by
        rw [ofNat_mod _ (Nat.mod_lt _ (by decide)), show (256 : Nat) ^ (7 - k) = 2 ^ (56 - 8 * k) by rw [show (256 : Nat) = 2 ^ 8 from rfl, ← Nat.pow_mul, show 8 * (7 - k) = 56 - 8 * k by omega]]
        simp
      rw [hv]
      go_roundw
      case rel =>
        refine ⟨k + 1, by omega, by go_num, ?_, HM.out.setCell (fun h => absurd h (Nat.lt_irrefl _)) _⟩
        rw [heap_setCell_same wr w.heap.size k _ 100 _ HRow.out, ← ordC_set U k hlt]
        congr 3
        apply Array.ext'
        simp [Lib.byteCells, List.map_set]
      case measure => simp [intOf]; omega
    · have hke : k = 8 := by omega
      subst hke
      rw [ordC_all] at hrow
      have hcv : (convert 68 9 (.slice (some ⟨w.heap.size, 0, none⟩) 8 8)).run Try.prog wr = .ok (.string (ba (be 8 U))) wr := by
        have := run_convert_bytes_back (P := Try.prog) wr 68 9 5 ⟨w.heap.size, 0, none⟩ 8 (be 8 U) Try.underlying68 Try.underlying5 Try.underlying9 (fun j hj => by
          rw [Addr.add_lit, cell_of_row _ _ _ _ _ _ hrow]
          simp [Lib.byteCells, hj])
        rwa [be_len] at this
      clear hrow hm
      go_wp2_with fail
      go_ret
      unfold ordL
      rw [hUU]
      exact ⟨rfl, HM.out⟩

/-- The bytes from k on are laid. -/
def ordD (U k : Nat) : List UInt8 := List.replicate k 0 ++ (be 8 U).drop k
theorem ordD_len (U k : Nat) (hk : k ≤ 8) : (ordD U k).length = 8 := by
  unfold ordD
  rw [List.length_append, List.length_drop, be_len, List.length_replicate]
  omega
theorem ordD_get (U k : Nat) : (ordD U (k + 1))[k]? = some 0 := by
  unfold ordD
  rw [List.getElem?_append_left (by rw [List.length_replicate]; omega), List.getElem?_replicate, if_pos (by omega)]
theorem ordD_set (U k : Nat) (hk : k < 8) : (ordD U (k + 1)).set k (UInt8.ofNat (U / 256 ^ (7 - k) % 256)) = ordD U k := by
  apply List.ext_getElem?
  intro i
  have hl : (ordD U (k + 1)).length = 8 := ordD_len U (k + 1) (by omega)
  rw [List.getElem?_set, hl]
  unfold ordD
  by_cases h1 : k = i
  · subst h1
    rw [if_pos rfl, if_pos hk, List.getElem?_append_right (by rw [List.length_replicate]; omega), List.length_replicate, Nat.sub_self, List.getElem?_drop, Nat.add_zero, be_get 8 U k hk]
  · rw [if_neg h1]
    by_cases h2 : i < k
    · rw [List.getElem?_append_left (by rw [List.length_replicate]; omega), List.getElem?_append_left (by rw [List.length_replicate]; omega), List.getElem?_replicate, List.getElem?_replicate, if_pos h2, if_pos (by omega)]
    · rw [List.getElem?_append_right (by rw [List.length_replicate]; omega), List.getElem?_append_right (by rw [List.length_replicate]; omega), List.length_replicate, List.length_replicate, List.getElem?_drop, List.getElem?_drop, show k + 1 + (i - (k + 1)) = k + (i - k) by omega]
theorem ordD_zero (U : Nat) : ordD U 0 = be 8 U := rfl
theorem ordD_all (U : Nat) : Lib.byteCells (ordD U 8) = [.int .u8 0, .int .u8 0, .int .u8 0, .int .u8 0, .int .u8 0, .int .u8 0, .int .u8 0, .int .u8 0] := by
  unfold ordD
  rw [List.drop_of_length_le (by rw [be_len]; decide)]
  rfl

set_option maxRecDepth 100000 in
theorem rordered_any (v : Int) (w : World) (h0 : -9223372036854775808 ≤ v) (h1 : v ≤ 9223372036854775807) : Calls Try.prog 33 #[.int .i64 v] w fun e w' => e = .returned (.string (ba (ordL v))) ∧ Mod (fun _ => False) w w' := by
  have e1 : IntKind.u64.wrap (IntKind.u64.wrap v + 9223372036854775808) = (ordN v : Int) := by
    rw [IntKind.wrap_u64, IntKind.wrap_u64]; unfold ordN; omega
  have hU := ordN_lt h1
  obtain ⟨i0, hi, hz0, hz1, hz2⟩ := info_parts infoU8
  have hmk : ∀ W : World, (Instr.makeSlice 68 (.int .i64 8) (.int .i64 8)).run Try.prog W = .ok (.slice (some ⟨W.heap.size, 0, none⟩) 8 8) (W.alloc (.cells (madeCells #[.int .u8 0] 8) 5)) := fun W => by
    have h := run_makeSlice (P := Try.prog) W 68 5 i0 (.int .u8 0) Try.underlying68 hi hz0 .i64 .i64 8 8 (by decide) (Int.le_refl _) (by rw [hz1]; decide) (by rw [hz2]; decide) (by decide)
    rw [hz1] at h
    exact h
  have hr0 : (w.alloc (.cells (madeCells #[.int .u8 0] 8) 5)).heap[w.heap.size]? = some (.cells (Lib.byteCells (ordD (ordN v) 8)).toArray 5 (0, 0)) := by
    have e : madeCells #[Value.int .u8 0] 8 = (Lib.byteCells (ordD (ordN v) 8)).toArray := by
      apply Array.ext'
      rw [toList_madeCells_one, ordD_all]
      rfl
    rw [heap_alloc_new, e]
  have HR0 := hid hr0
  clear hr0
  go_enter Try.func33, Try.ntmps33
  go_wp2_with fail
  clear e1 hmk
  generalize hUU : ordN v = U at *
  go_loopw [4, 5] (fun u c wr => ∃ k : Nat, k ≤ 8 ∧ c = .int .i64 ((k : Int) - 1) ∧ u = .int .u64 ((U / 256 ^ (8 - k) : Nat) : Int) ∧ wr.heap[w.heap.size]? = some (.cells (Lib.byteCells (ordD U k)).toArray 5 (0, 0)) ∧ Mod (fun _ => False) w wr) (fun _ c _ => ((intOf c) + 1).toNat)
  case atStart => exact ⟨8, Nat.le_refl _, rfl, by simp, HR0.out, (Mod.refl _ _).alloc _⟩
  case round =>
    obtain ⟨k, hk, rfl, rfl, hrow, hm⟩ := hrel
    have HRow := hid hrow
    have HM := hid hm
    by_cases hz : k = 0
    · subst hz
      rw [ordD_zero] at hrow
      have hcv : (convert 68 9 (.slice (some ⟨w.heap.size, 0, none⟩) 8 8)).run Try.prog wr = .ok (.string (ba (be 8 U))) wr := by
        have := run_convert_bytes_back (P := Try.prog) wr 68 9 5 ⟨w.heap.size, 0, none⟩ 8 (be 8 U) Try.underlying68 Try.underlying5 Try.underlying9 (fun j hj => by
          rw [Addr.add_lit, cell_of_row _ _ _ _ _ _ hrow]
          simp [Lib.byteCells, hj])
        rwa [be_len] at this
      clear hrow hm
      go_wp2_with fail
      go_ret
      unfold ordL
      rw [hUU]
      exact ⟨rfl, HM.out⟩
    · obtain ⟨j, rfl⟩ : ∃ j, k = j + 1 := ⟨k - 1, by omega⟩
      have hj : j < 8 := by omega
      have ec : (((j + 1 : Nat) : Int) - 1) = (j : Int) := by omega
      rw [ec]
      have c0 : wr.cell? ⟨w.heap.size, j, none⟩ = some (.int .u8 0) := by
        rw [cell_of_row _ _ _ _ _ _ hrow]
        simp [Lib.byteCells, ordD_get U j]
      have f0 : wr.frozen? ⟨w.heap.size, j, none⟩ = false := frozen_of_row _ _ _ _ _ hrow
      have ex : 8 - (j + 1) = 7 - j := by omega
      have ey : U / 256 ^ (7 - j) / 256 = U / 256 ^ (8 - j) := by
        have e8 : 8 - j = (7 - j) + 1 := by omega
        rw [e8, Nat.pow_succ, Nat.div_div_eq_div_mul]
      have HEy := hid ey
      have hle : U / 256 ^ (7 - j) ≤ U := Nat.div_le_self _ _
      have hpw : (256 : Nat) ^ 8 = 18446744073709551616 := by decide
      rw [hpw] at hU
      rw [ex]
      have HSet := hid (ordD_set U j hj)
      generalize U / 256 ^ (7 - j) = N at *
      clear hrow hm ec ex ey hz hpw
      go_wp2_with fail
      have hv : ((N : Int) % 256) = (((UInt8.ofNat (N % 256)).toNat : Nat) : Int) := by
        rw [ofNat_mod _ (Nat.mod_lt _ (by decide))]
        omega
      rw [hv]
      go_roundw
      case rel =>
        refine ⟨j, by omega, rfl, ?_, ?_, HM.out.setCell (fun h => absurd h (Nat.lt_irrefl _)) _⟩
        · rw [← HEy.out]; congr 1
        · rw [heap_setCell_same wr w.heap.size j _ 5 _ HRow.out, ← HSet.out]
          congr 3
          apply Array.ext'
          simp [Lib.byteCells, List.map_set]
      case measure => simp [intOf]

end Go.Proofs.Ytoclecpedhbokaa
