/- The document's disk: New, Read, Cut, Start -/
import Derived.Test.YtbfdmglmolkloaaGreatDoorRef
namespace Go.Proofs.YtbfdmglmolkloaaGreatDoor
open Go Go.RowKit

def rnewD (n : Int) : Rsk := { secs := List.replicate (max 0 (min n 16384)).toNat ⟨#[]⟩, done := 0, high := -1, set := false, left := 0, off := false }

theorem rnew_at (w : World) (x : Int) (b1 : 0 ≤ x) (_b2 : x ≤ 16384) (n : Int) (hx : max 0 (min n 16384) = x) :
    RefAt ((w.alloc (.cells (madeCells #[Value.string ⟨#[]⟩] x.toNat) 9)).alloc (.cells #[.slice (some ⟨w.heap.size, 0, none⟩) x.toNat x.toNat, .int .i64 0, .int .i64 (-1), .bool false, .int .i64 0, .bool false] 58)) (w.heap.size + 1) (some ⟨w.heap.size, 0, none⟩) (rnewD n) := by
  have e1 : (max 0 (min n 16384)).toNat = x.toNat := by rw [hx]
  refine ⟨x.toNat, ?_, ?_, ?_⟩
  · show ((w.heap.push _).push _)[w.heap.size + 1]? = _
    rw [Array.getElem?_push, if_pos (by simp)]
    simp [rnewD, e1]
  · refine ⟨by simp [rnewD], by simp [rnewD, e1], ?_, .inr ⟨w.heap.size, 0, madeCells #[Value.string ⟨#[]⟩] x.toNat, rfl, ?_, ?_, ?_⟩⟩
    · unfold maxLen; omega
    · show ((w.heap.push _).push _)[w.heap.size]? = _
      rw [Array.getElem?_push, if_neg (by simp), Array.getElem?_push, if_pos rfl]
    · rw [size_madeCells]; omega
    · rw [toList_madeCells_one]; simp [rnewD, e1]
  · rintro ⟨a, ha, hb⟩
    cases ha
    simp at hb

/-- What the document's New leaves. -/
def RNew (w : World) (n : Int) (e : Ending) (w' : World) : Prop :=
  ∃ b sa, e = .returned (.pointer (some ⟨b, 0, none⟩)) ∧ w.heap.size ≤ b ∧ (∀ k, blk sa k → w.heap.size ≤ k) ∧ RefAt w' b sa (rnewD n) ∧ Mod (fun _ => False) w w'

theorem rnew_any {w : World} (n : Int) : Calls Tryz.prog 5 #[.int .i64 n] w (RNew w n) := by
  obtain ⟨i0, hi, hz0, hz1, hz2⟩ := info_parts info_str
  obtain ⟨x, hx⟩ : ∃ x, max 0 (min n 16384) = x := ⟨_, rfl⟩
  have b1 : 0 ≤ x := by omega
  have b2 : x ≤ 16384 := by omega
  have hmk := fun W : World => run_makeSlice (P := Tryz.prog) W 39 9 i0 (.string ⟨#[]⟩) Tryz.underlying39 hi hz0 .i64 .i64 x x b1 (Int.le_refl _) (by rw [hz1]; omega) (by rw [hz2]; omega) (by omega)
  rw [hz1] at hmk
  have HA := hid (rnew_at w x b1 b2 n hx)
  have hfin : ∀ k, blk (some ⟨w.heap.size, 0, none⟩) k → w.heap.size ≤ k := by
    rintro k ⟨a, ha, rfl⟩
    cases ha
    exact Nat.le_refl _
  have HF := hid hfin
  clear hfin
  by_cases h0 : n < 0
  · obtain rfl : x = 0 := by omega
    clear hx
    go_enter Tryz.func5, Tryz.ntmps5
    go_wp2
    go_ret
    exact ⟨w.heap.size + 1, some ⟨w.heap.size, 0, none⟩, rfl, by omega, HF.out, HA.out, (Mod.refl _ w).alloc _ |>.alloc _⟩
  · by_cases h1 : 16384 < n
    · obtain rfl : x = 16384 := by omega
      clear hx
      go_enter Tryz.func5, Tryz.ntmps5
      go_wp2
      go_ret
      exact ⟨w.heap.size + 1, some ⟨w.heap.size, 0, none⟩, rfl, by omega, HF.out, HA.out, (Mod.refl _ w).alloc _ |>.alloc _⟩
    · obtain rfl : x = n := by omega
      clear hx
      go_enter Tryz.func5, Tryz.ntmps5
      go_wp2
      go_ret
      exact ⟨w.heap.size + 1, some ⟨w.heap.size, 0, none⟩, rfl, by omega, HF.out, HA.out, (Mod.refl _ w).alloc _ |>.alloc _⟩

set_option maxRecDepth 100000 in
theorem rcut_any {w : World} {b : Nat} {sa : Option Addr} {R : Rsk} (h : RefAt w b sa R) (n : Int) : Calls Tryz.prog 21 #[.pointer (some ⟨b, 0, none⟩), .int .i64 n] w fun e w' => e = .returned (.tuple #[]) ∧ RefAt w' b sa { R with set := true, left := max 0 n } ∧ Mod (diskF b sa) w w' := by
  obtain ⟨cap, h0, h1, h2, h3, h4, h5, fz, hown, hne, hrow⟩ := h.cells
  have r1 := heap_setCell_same w b 3 _ 58 (.bool true) hrow
  have r2 := heap_setCell_same _ b 4 _ 58 (.int .i64 n) r1
  have r3 := heap_setCell_same _ b 4 _ 58 (.int .i64 0) r2
  have m1 : Mod (fun k => k = b) w (w.setCell ⟨b, 3, none⟩ (.bool true)) := Mod.setCell (S := fun k => k = b) (p := ⟨b, 3, none⟩) (Mod.refl _ _) (fun _ => rfl) _
  have m2 : Mod (fun k => k = b) w ((w.setCell ⟨b, 3, none⟩ (.bool true)).setCell ⟨b, 4, none⟩ (.int .i64 n)) := Mod.setCell (S := fun k => k = b) (p := ⟨b, 4, none⟩) m1 (fun _ => rfl) _
  have m3 : Mod (fun k => k = b) w (((w.setCell ⟨b, 3, none⟩ (.bool true)).setCell ⟨b, 4, none⟩ (.int .i64 n)).setCell ⟨b, 4, none⟩ (.int .i64 0)) := Mod.setCell (S := fun k => k = b) (p := ⟨b, 4, none⟩) m2 (fun _ => rfl) _
  have R2 := hid r2
  have R3 := hid r3
  have M2 := hid m2
  have M3 := hid m3
  have Hown := hid hown
  have Hne := hid hne
  have e4 : (w.setCell ⟨b, 3, none⟩ (.bool true)).cell? ⟨b, 4, none⟩ = some (.int .i64 R.left) := by rw [cell_of_row _ _ _ _ _ _ r1]; rfl
  have f4 := frozen_of_row _ b 4 _ _ r1
  have e5 : ((w.setCell ⟨b, 3, none⟩ (.bool true)).setCell ⟨b, 4, none⟩ (.int .i64 n)).cell? ⟨b, 4, none⟩ = some (.int .i64 n) := by rw [cell_of_row _ _ _ _ _ _ r2]; rfl
  have f5 := frozen_of_row _ b 4 _ _ r2
  clear h hown hne hrow r1 r2 r3 m1 m2 m3
  by_cases hn : n < 0
  · go_enter Tryz.func21, Tryz.ntmps21
    go_wp2
    go_end0
    refine ⟨rfl, ⟨cap, ?_, Hown.out.mod M3.out (fun k hk h => Hne.out (h ▸ hk)), Hne.out⟩, M3.out.mono fun k _ h => Or.inl h⟩
    have := R3.out
    rw [show max 0 n = 0 by omega]
    exact this
  · go_enter Tryz.func21, Tryz.ntmps21
    go_wp2
    go_end0
    refine ⟨rfl, ⟨cap, ?_, Hown.out.mod M2.out (fun k hk h => Hne.out (h ▸ hk)), Hne.out⟩, M2.out.mono fun k _ h => Or.inl h⟩
    have := R2.out
    rw [show max 0 n = n by omega]
    exact this

theorem rstart_any {w : World} {b : Nat} {sa : Option Addr} {R : Rsk} (h : RefAt w b sa R) : Calls Tryz.prog 23 #[.pointer (some ⟨b, 0, none⟩)] w fun e w' => e = .returned (.tuple #[]) ∧ RefAt w' b sa { R with off := false, set := false } ∧ Mod (diskF b sa) w w' := by
  obtain ⟨cap, h0, h1, h2, h3, h4, h5, fz, hown, hne, hrow⟩ := h.cells
  have r1 := heap_setCell_same w b 5 _ 58 (.bool false) hrow
  have r2 := heap_setCell_same _ b 3 _ 58 (.bool false) r1
  have m1 : Mod (fun k => k = b) w (w.setCell ⟨b, 5, none⟩ (.bool false)) := Mod.setCell (S := fun k => k = b) (p := ⟨b, 5, none⟩) (Mod.refl _ _) (fun _ => rfl) _
  have m2 : Mod (fun k => k = b) w ((w.setCell ⟨b, 5, none⟩ (.bool false)).setCell ⟨b, 3, none⟩ (.bool false)) := Mod.setCell (S := fun k => k = b) (p := ⟨b, 3, none⟩) m1 (fun _ => rfl) _
  have R2 := hid r2
  have M2 := hid m2
  have Hown := hid hown
  have Hne := hid hne
  have e4 : (w.setCell ⟨b, 5, none⟩ (.bool false)).cell? ⟨b, 3, none⟩ = some (.bool R.set) := by rw [cell_of_row _ _ _ _ _ _ r1]; rfl
  have f4 := frozen_of_row _ b 3 _ _ r1
  clear h hown hne hrow r1 r2 m1 m2
  go_enter Tryz.func23, Tryz.ntmps23
  go_wp2
  go_end0
  exact ⟨rfl, ⟨cap, R2.out, Hown.out.mod M2.out (fun k hk h => Hne.out (h ▸ hk)), Hne.out⟩, M2.out.mono fun k _ h => Or.inl h⟩

/-- What the document's Read says. -/
def rreadF (R : Rsk) (i : Int) : ByteArray × Int :=
  if R.off then (⟨#[]⟩, 12) else if i < 0 ∨ R.secs.length ≤ i then (⟨#[]⟩, 10) else (pad ((R.secs[i.toNat]?).getD ⟨#[]⟩), 0)

theorem rread_off {w : World} {b : Nat} {sa : Option Addr} {R : Rsk} (h : RefAt w b sa R) (i : Int) (ho : R.off = true) : Calls Tryz.prog 28 #[.pointer (some ⟨b, 0, none⟩), .int .i64 i] w fun e w' => e = .returned (.tuple #[.string ⟨#[]⟩, .int .i64 12]) ∧ w = w' := by
  obtain ⟨cap, h0, h1, h2, h3, h4, h5, fz, _, _, _⟩ := h.cells
  rw [ho] at h5
  clear h ho
  go_enter Tryz.func28, Tryz.ntmps28
  go_wp2
  go_ret2
  exact ⟨rfl, rfl⟩

theorem rread_at {w : World} {b : Nat} {sa : Option Addr} {R : Rsk} (h : RefAt w b sa R) (i : Int) (ho : R.off = false) (hi : i < 0 ∨ R.secs.length ≤ i) : Calls Tryz.prog 28 #[.pointer (some ⟨b, 0, none⟩), .int .i64 i] w fun e w' => e = .returned (.tuple #[.string ⟨#[]⟩, .int .i64 10]) ∧ w = w' := by
  obtain ⟨cap, h0, h1, h2, h3, h4, h5, fz, _, _, _⟩ := h.cells
  rw [ho] at h5
  clear h ho
  by_cases hneg : i < 0
  · have d1 : decide (i < 0) = true := by simpa using hneg
    clear hi
    go_enter Tryz.func28, Tryz.ntmps28
    go_wp2
    go_ret2
    exact ⟨rfl, rfl⟩
  · have d1 : decide (i < 0) = false := by simpa using hneg
    have hbig : (R.secs.length : Int) ≤ i := by omega
    have d2 : decide ((R.secs.length : Int) ≤ i) = true := by simpa using hbig
    clear hi
    go_enter Tryz.func28, Tryz.ntmps28
    go_wp2
    go_ret2
    exact ⟨rfl, rfl⟩

theorem info_u8 : (Tryz.prog.info? 5).map (fun i => (i.zero, i.size, i.bytes)) = some (some (.int .u8 0), 1, 1) := by kernel_rfl

theorem conv_zeros (w : World) (m N : Nat) : (convert 104 9 (.slice (some ⟨w.heap.size, 0, none⟩) m m)).run Tryz.prog ((w.alloc (.cells (madeCells #[.int .u8 0] m) 5)).drewN N) = .ok (.string ⟨(List.replicate m (0 : UInt8)).toArray⟩) ((w.alloc (.cells (madeCells #[.int .u8 0] m) 5)).drewN N) := by
  have h := run_convert_bytes_back (P := Tryz.prog) ((w.alloc (.cells (madeCells #[.int .u8 0] m) 5)).drewN N) 104 9 5 ⟨w.heap.size, 0, none⟩ m (List.replicate m 0) Tryz.underlying104 Tryz.underlying5 Tryz.underlying9 (by
    intro j hj
    have hj' : j < m := by simpa using hj
    have hr : ((w.alloc (.cells (madeCells #[Value.int .u8 0] m) 5)).drewN N).heap[w.heap.size]? = some (.cells (madeCells #[.int .u8 0] m) 5 (0, 0)) := heap_alloc_new _ _
    rw [Addr.add_lit, cell_of_row _ _ _ _ _ _ hr, ← Array.getElem?_toList, toList_madeCells_one]
    simp [hj'])
  rw [List.length_replicate] at h
  exact h

theorem pad_app (s : ByteArray) : s ++ (⟨(List.replicate (1024 - s.size) (0 : UInt8)).toArray⟩ : ByteArray) = pad s := by
  apply ba_ext
  rw [pad_list, ByteArray.data_append, Array.toList_append]

set_option maxRecDepth 100000 in
theorem rread_ok {w : World} {b : Nat} {sa : Option Addr} {R : Rsk} (h : RefAt w b sa R) (i : Nat) (ho : R.off = false) (hi : i < R.secs.length) (hs : R.secs[i].size ≤ 1024) : Calls Tryz.prog 28 #[.pointer (some ⟨b, 0, none⟩), .int .i64 i] w fun e w' => e = .returned (.tuple #[.string (pad R.secs[i]), .int .i64 0]) ∧ Mod (fun _ => False) w w' := by
  obtain ⟨cap, h0, h1, h2, h3, h4, h5, fz, hown, hne, hrow⟩ := h.cells
  rw [ho] at h5
  obtain ⟨g, off, rfl⟩ := Own.some_lit hown (by omega)
  have t1 : w.cell? ⟨g, off + i, none⟩ = _ := Own.one hown hi
  have l1 := World.block_lt_of_cell? _ _ t1
  have l2 := World.block_lt_of_cell? _ _ h0
  have d1 : decide ((i : Int) < 0) = false := decide_eq_false (by omega)
  have i1 : (i : Int) < (R.secs.length : Int) := by omega
  have d2 : decide ((R.secs.length : Int) ≤ (i : Int)) = false := decide_eq_false (by omega)
  have d3 : decide (R.secs.length ≤ i) = false := decide_eq_false (by omega)
  obtain ⟨i0, hi0, hz0, hz1, hz2⟩ := info_parts info_u8
  have HP := hid (pad_app R.secs[i])
  generalize R.secs[i] = s at *
  obtain ⟨m, hm⟩ : ∃ m : Nat, 1024 - (s.size : Int) = m := ⟨1024 - s.size, by omega⟩
  have hmk := fun W : World => run_makeSlice (P := Tryz.prog) W 104 5 i0 (.int .u8 0) Tryz.underlying104 hi0 hz0 .i64 .i64 m m (by omega) (Int.le_refl _) (by rw [hz1]; omega) (by rw [hz2]; omega) (by omega)
  rw [hz1, show (m : Int).toNat = m by omega] at hmk
  have hcv := conv_zeros w m
  rw [show 1024 - s.size = m by omega] at HP
  have hW : Mod (fun _ => False) w (w.alloc (.cells (madeCells #[Value.int .u8 0] m) 5)) := (Mod.refl _ _).alloc _
  have k0 := (hW.cell (p := ⟨b, 0, none⟩) l2 (fun h => h)).trans h0
  have k1 := (hW.cell (p := ⟨g, off + i, none⟩) l1 (fun h => h)).trans t1
  have HW := hid hW
  clear h ho hown hne hrow hW
  go_enter Tryz.func28, Tryz.ntmps28
  go_wp2
  go_quiet (fail)
  go_wp2
  go_ret2
  refine ⟨?_, HW.out.drewN _⟩
  rw [← HP.out]
  rfl

theorem rread_any {w : World} {b : Nat} {sa : Option Addr} {R : Rsk} (h : RefAt w b sa R) (i : Int) (hs : ∀ i : Nat, ((R.secs[i]?).getD ⟨#[]⟩).size ≤ 1024) : Calls Tryz.prog 28 #[.pointer (some ⟨b, 0, none⟩), .int .i64 i] w fun e w' => e = .returned (.tuple #[.string (rreadF R i).1, .int .i64 (rreadF R i).2]) ∧ Mod (fun _ => False) w w' := by
  unfold rreadF
  cases ho : R.off with
  | true =>
    rw [if_pos rfl]
    refine (rread_off h i ho).mono ?_
    rintro e w' ⟨rfl, rfl⟩
    exact ⟨rfl, Mod.refl _ _⟩
  | false =>
    rw [if_neg (by decide)]
    by_cases hi : i < 0 ∨ R.secs.length ≤ i
    · rw [if_pos hi]
      refine (rread_at h i ho hi).mono ?_
      rintro e w' ⟨rfl, rfl⟩
      exact ⟨rfl, Mod.refl _ _⟩
    · rw [if_neg hi]
      obtain ⟨j, rfl⟩ : ∃ j : Nat, i = j := ⟨i.toNat, by omega⟩
      have hj : j < R.secs.length := by omega
      have e1 : (R.secs[(j : Int).toNat]?).getD ⟨#[]⟩ = R.secs[j] := by simp [hj]
      have := hs j
      rw [e1]
      refine rread_ok h j ho hj ?_
      simpa [hj] using this

end Go.Proofs.YtbfdmglmolkloaaGreatDoor
