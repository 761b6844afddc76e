/- The law's world: both disks, both journals -/
import Derived.Test.YtbfdmglmolkloaaGreatDoorJpR
namespace Go.Proofs.YtbfdmglmolkloaaGreatDoor
open Go Go.RowKit

theorem size_of_full {s u : ByteArray} (h : full s = u) (hu : u.size = 1024) : s.size ≤ 1024 := by
  unfold full at h
  split at h
  · rename_i he
    have : s.data.toList = [] := by rw [Lib.toList_data] at he; simpa using he
    have h2 : s.size = s.data.toList.length := by rw [Array.length_toList]; rfl
    rw [h2, this]; decide
  · rw [h, hu]; decide

theorem Both.bud {D : Dsk} {R : Rsk} {t : Nat} (h : Both D R t) (ht : t < 576460752303423488) : Bud D t := by
  obtain ⟨a, b⟩ := h
  refine ⟨a.small, by rw [a.wr]; exact a.w0, by rw [a.wr]; exact a.w1, a.h0, a.h1, a.left.bounds ht a.l0 a.l1 (.inr trivial), b.l1, fun x hx => ?_⟩
  obtain ⟨i, hi⟩ := List.getElem?_of_mem hx
  have := a.all i
  rw [hi] at this
  exact size_of_full this (pad_size (a.sm i))

/-- The blocks that are written over. -/
def wF (wb b : Nat) (sa : Option Addr) (r : Nat) (ra : Option Addr) (k : Nat) : Prop := k = wb ∨ diskF b sa k ∨ diskF r ra k

/-- Both journals, or none. -/
def Jour (w : World) (b r : Nat) (F : Nat → Prop) (jp kp : Option Addr) : Prop :=
  (jp = none ∧ kp = none) ∨ ∃ j k rm : Nat, jp = some ⟨j, 0, none⟩ ∧ kp = some ⟨k, 0, none⟩ ∧ rm ≤ 500 ∧ JAt w j b rm ∧ RJAt w k r rm ∧ ¬ F j ∧ ¬ F k

theorem Jour.mod {w w' : World} {b r : Nat} {F S : Nat → Prop} {jp kp : Option Addr} (h : Jour w b r F jp kp) (hm : Mod S w w') (hs : ∀ k, S k → F k) : Jour w' b r F jp kp := by
  rcases h with h | ⟨j, k, rm, h1, h2, h3, h4, h5, h6, h7⟩
  · exact .inl h
  · exact .inr ⟨j, k, rm, h1, h2, h3, h4.mod hm (fun h => h6 (hs _ h)), h5.mod hm (fun h => h7 (hs _ h)), h6, h7⟩

/-- The law's world, in memory of the call's own. -/
structure WW (W w : World) (wb b r : Nat) (sa ra : Option Addr) (D : Dsk) (R : Rsk) (t : Nat) (jp kp : Option Addr) : Prop where
  row : w.heap[wb]? = some (.cells #[.pointer (some ⟨b, 0, none⟩), .pointer jp, .pointer (some ⟨r, 0, none⟩), .pointer kp] 31 (0, 0))
  d : DiskAt w b sa D
  rf : RefAt w r ra R
  both : Both D R t
  ne : ∀ k, diskF b sa k → ¬ diskF r ra k
  nb : ¬ diskF b sa wb
  nr : ¬ diskF r ra wb
  jk : Jour w b r (wF wb b sa r ra) jp kp
  own : ∀ k, wF wb b sa r ra k → W.heap.size ≤ k
  m : Mod (fun k => W.heap.size ≤ k) W w

theorem WW.lt {W w : World} {wb b r : Nat} {sa ra : Option Addr} {D : Dsk} {R : Rsk} {t : Nat} {jp kp : Option Addr} (h : WW W w wb b r sa ra D R t jp kp) : ∀ k, wF wb b sa r ra k → k < w.heap.size := by
  rintro k (rfl | hk | hk)
  · exact lt_of_heap h.row
  · exact h.d.lt k hk
  · exact h.rf.lt k hk

theorem WW.cells {W w : World} {wb b r : Nat} {sa ra : Option Addr} {D : Dsk} {R : Rsk} {t : Nat} {jp kp : Option Addr} (h : WW W w wb b r sa ra D R t jp kp) :
    w.cell? ⟨wb, 0, none⟩ = some (.pointer (some ⟨b, 0, none⟩)) ∧ w.cell? ⟨wb, 1, none⟩ = some (.pointer jp) ∧ w.cell? ⟨wb, 2, none⟩ = some (.pointer (some ⟨r, 0, none⟩)) ∧ w.cell? ⟨wb, 3, none⟩ = some (.pointer kp) ∧ (∀ o, w.frozen? ⟨wb, o, none⟩ = false) := by
  refine ⟨?_, ?_, ?_, ?_, fun o => frozen_of_row _ _ _ _ _ h.row⟩ <;> (rw [cell_of_row _ _ _ _ _ _ h.row]; rfl)

theorem WW.ext {W w w' : World} {wb b r : Nat} {sa ra : Option Addr} {D : Dsk} {R : Rsk} {t : Nat} {jp kp : Option Addr} (h : WW W w wb b r sa ra D R t jp kp) (hm : Mod (fun _ => False) w w') : WW W w' wb b r sa ra D R t jp kp :=
  ⟨(hm.block _ (lt_of_heap h.row) (fun h => h)).trans h.row, h.d.mod hm (fun _ _ h => h), h.rf.mod hm (fun _ _ h => h), h.both, h.ne, h.nb, h.nr, h.jk.mod hm (fun _ h => h.elim), h.own, h.m.then hm (fun _ _ h => h.elim)⟩

/-- The program's disk has gone on. -/
theorem WW.disk {W w w' : World} {wb b r : Nat} {sa ra : Option Addr} {D : Dsk} {R : Rsk} {t : Nat} {jp kp : Option Addr} (h : WW W w wb b r sa ra D R t jp kp) (hm : Mod (diskF b sa) w w') :
    w'.heap[wb]? = some (.cells #[.pointer (some ⟨b, 0, none⟩), .pointer jp, .pointer (some ⟨r, 0, none⟩), .pointer kp] 31 (0, 0)) ∧ RefAt w' r ra R ∧ Jour w' b r (wF wb b sa r ra) jp kp ∧ Mod (fun k => W.heap.size ≤ k) W w' :=
  ⟨(hm.block _ (lt_of_heap h.row) h.nb).trans h.row, h.rf.mod hm (fun k hk h2 => h.ne k h2 hk), h.jk.mod hm (fun _ h => .inr (.inl h)), h.m.then hm (fun k _ hk => h.own k (.inr (.inl hk)))⟩

/-- Both have gone on. -/
theorem WW.two {W w w' w2 : World} {wb b r : Nat} {sa ra : Option Addr} {D D' : Dsk} {R R' : Rsk} {t t' : Nat} {jp kp : Option Addr} (h : WW W w wb b r sa ra D R t jp kp) (hd : DiskAt w' b sa D') (hm : Mod (diskF b sa) w w') (hr : RefAt w2 r ra R') (hm2 : Mod (diskF r ra) w' w2) (hb : Both D' R' t') :
    WW W w2 wb b r sa ra D' R' t' jp kp := by
  obtain ⟨e1, e2, e3, e4⟩ := h.disk hm
  exact ⟨(hm2.block _ (lt_of_heap e1) h.nr).trans e1, hd.mod hm2 (fun k hk h2 => h.ne k hk h2), hr, hb, h.ne, h.nb, h.nr, e3.mod hm2 (fun _ h => .inr (.inr h)), h.own, e4.then hm2 (fun k _ hk => h.own k (.inr (.inr hk)))⟩

set_option maxRecDepth 100000 in
set_option maxHeartbeats 2000000 in
theorem alike_yes {W w : World} {wb b r : Nat} {sa ra : Option Addr} {D : Dsk} {R : Rsk} {t : Nat} {jp kp : Option Addr} (h : WW W w wb b r sa ra D R t jp kp) :
    Calls Tryz.prog 9 #[.pointer (some ⟨wb, 0, none⟩)] w fun e w' => e = .returned (.bool true) ∧ WW W w' wb b r sa ra D R t jp kp := by
  obtain ⟨c0, c1, c2, c3, _⟩ := h.cells
  obtain ⟨rc, r0, r1, r2, r3, r4, r5, _⟩ := h.rf.cells
  have H := hid h
  have hwr := h.both.1.wr
  have hoff := h.both.1.off
  have g0 := fun x : Ext w => x.cell c0
  have g2 := fun x : Ext w => x.cell c2
  have q1 := fun x : Ext w => x.cell r1
  have q5 := fun x : Ext w => x.cell r5
  have HD : Hid (∀ x : Ext w, DiskAt x.val b sa D) := fun x => h.d.mod x.mod (fun _ _ h => h)
  have K1 : Hid (∀ x : Ext w, Calls Tryz.prog 14 #[.pointer (some ⟨b, 0, none⟩)] x.val fun e w' => e = .returned (.int .i64 R.done) ∧ x.val = w') := hid (fun x => by rw [← hwr]; exact writes_any (HD.out x))
  have K2 : Hid (∀ x : Ext w, Calls Tryz.prog 26 #[.pointer (some ⟨b, 0, none⟩)] x.val fun e w' => e = .returned (.bool (!R.off)) ∧ x.val = w') := hid (fun x => by rw [← hoff]; exact on_any (HD.out x))
  have e1 : (R.done == R.done) = true := by simp
  have e2 : (R.done != R.done) = false := by simp
  have e4 : ((!R.off) == R.off) = false := by cases R.off <;> rfl
  have hlen : R.secs.length ≤ 16384 := by rw [← h.both.1.len]; exact h.both.1.small
  have HRd := hid (fun (i : Int) => h.both.read i)
  have HSm := hid h.both.1.sm
  have H5 := hid r5
  clear h hwr hoff c0 c1 c2 c3 r0 r1 r2 r3 r4 r5 HD
  go_enter Tryz.func9, Tryz.ntmps9
  go_wp2_with fail
  refine wp_region_ext (by kernel_rfl) (by kernel_rfl) ?_
  repeat (go_big_quiet_step ((first | (go_at_call 14; exact ext_same (K1.out _)) | (go_at_call 26; exact ext_same (K2.out _)))))
  refine wpQuiet_nil ?_
  rintro _ ⟨x, rfl⟩
  have HX := hid (H.out.ext x.mod)
  clear g0 g2 q1 q5 K1 K2
  generalize x.val = X at *
  obtain ⟨c0, c1, c2, c3, _⟩ := HX.out.cells
  obtain ⟨rc, r0, _⟩ := HX.out.rf.cells
  obtain ⟨m, hm⟩ : ∃ m : Nat, min (R.secs.length : Int) 64 = (m : Int) := ⟨min R.secs.length 64, by omega⟩
  have hm64 : m ≤ 64 := by omega
  go_wp2_with fail
  clear hm
  go_loopw [45] (fun c wr => ∃ k : Nat, k ≤ m ∧ c = .int .i64 (k : Int) ∧ WW W wr wb b r sa ra D R t jp kp) (fun c _ => m - (intOf c).toNat)
  case atStart => exact ⟨0, by omega, rfl, HX.out⟩
  case round =>
    obtain ⟨k, hk, rfl, hw⟩ := hrel
    have HW := hid hw
    obtain ⟨c0, c1, c2, c3, _⟩ := hw.cells
    clear hw
    by_cases hlt : k < m
    · have HRa := hid (read_any HW.out.d (k : Int))
      rw [HRd.out] at HRa
      have HRr := hid (fun (v : World) (hv : RefAt v r ra R) => rread_any hv (k : Int) HSm.out)
      generalize rreadF R (k : Int) = q at *
      obtain ⟨q1, q2⟩ := q
      have e5 : (!q1.toList == q1.toList) = false := by simp
      have e6 : (q1.toList == q1.toList) = true := by simp
      have e7 : (q2 != q2) = false := by simp
      have e8 : (q2 == q2) = true := by simp
      go_wp2_with fail
      refine HRa.out.mono ?_
      rintro e w3 ⟨rfl, hd3, hm3⟩
      have HW3 := hid (HW.out.two hd3 hm3 (HW.out.rf.mod hm3 (fun k hk h => HW.out.ne k h hk)) (Mod.refl _ _) HW.out.both)
      have HRk := hid (HRr.out w3 HW3.out.rf)
      obtain ⟨d0, d1, d2, d3, _⟩ := HW3.out.cells
      clear hd3 hm3 c0 c1 c2 c3
      go_wp2_with fail
      refine HRk.out.mono ?_
      rintro e w4 ⟨rfl, hm4⟩
      have HW4 := hid (HW3.out.ext hm4)
      clear hm4
      go_wp2_with fail
      go_roundw
      case rel => exact ⟨k + 1, by omega, by go_num, HW4.out⟩
      case measure => simp [intOf]; omega
    · go_wp2_with fail
      go_ret
      exact ⟨rfl, HW.out⟩

theorem row_cells {w : World} {wb : Nat} {v0 v1 v2 v3 : Value} {T : TypeId} (h : w.heap[wb]? = some (.cells #[v0, v1, v2, v3] T (0, 0))) :
    w.cell? ⟨wb, 0, none⟩ = some v0 ∧ w.cell? ⟨wb, 1, none⟩ = some v1 ∧ w.cell? ⟨wb, 2, none⟩ = some v2 ∧ w.cell? ⟨wb, 3, none⟩ = some v3 ∧ (∀ o, w.frozen? ⟨wb, o, none⟩ = false) := by
  refine ⟨?_, ?_, ?_, ?_, fun o => frozen_of_row _ _ _ _ _ h⟩ <;> (rw [cell_of_row _ _ _ _ _ _ h]; rfl)

/-- New journals, or none. -/
def NewJ (w w1 w2 w3 : World) (b r : Nat) (jp kp : Option Addr) : Prop :=
  (jp = none ∧ kp = none) ∨ ∃ j k rm : Nat, jp = some ⟨j, 0, none⟩ ∧ kp = some ⟨k, 0, none⟩ ∧ rm ≤ 500 ∧ JAt w1 j b rm ∧ RJAt w3 k r rm ∧ w.heap.size ≤ j ∧ w2.heap.size ≤ k

theorem WW.opened {W w w1 w2 w3 w4 : World} {wb b r : Nat} {sa ra : Option Addr} {D D' : Dsk} {R R' : Rsk} {t t' : Nat} {jp kp jp' kp' : Option Addr} (h : WW W w wb b r sa ra D R t jp kp)
    (hd : DiskAt w1 b sa D') (hm : Mod (diskF b sa) w w1) (h2 : w1.setCell ⟨wb, 1, none⟩ (.pointer jp') = w2) (hr : RefAt w3 r ra R') (hm3 : Mod (diskF r ra) w2 w3) (h4 : w3.setCell ⟨wb, 3, none⟩ (.pointer kp') = w4)
    (hb : Both D' R' t') (hj : NewJ w w1 w2 w3 b r jp' kp') : WW W w4 wb b r sa ra D' R' t' jp' kp' := by
  have hwb := lt_of_heap h.row
  obtain ⟨e1, _, _, e4⟩ := h.disk hm
  have m2 : Mod (fun k => k = wb) w1 w2 := by rw [← h2]; exact Mod.setCell (S := fun k => k = wb) (p := ⟨wb, 1, none⟩) (Mod.refl _ _) (fun _ => rfl) _
  have m4 : Mod (fun k => k = wb) w3 w4 := by rw [← h4]; exact Mod.setCell (S := fun k => k = wb) (p := ⟨wb, 3, none⟩) (Mod.refl _ _) (fun _ => rfl) _
  have r2 : w2.heap[wb]? = some (.cells #[.pointer (some ⟨b, 0, none⟩), .pointer jp', .pointer (some ⟨r, 0, none⟩), .pointer kp] 31 (0, 0)) := by rw [← h2]; exact heap_setCell_same w1 wb 1 _ 31 (.pointer jp') e1
  have r3 := (hm3.block _ (lt_of_heap r2) h.nr).trans r2
  have r4 : w4.heap[wb]? = some (.cells #[.pointer (some ⟨b, 0, none⟩), .pointer jp', .pointer (some ⟨r, 0, none⟩), .pointer kp'] 31 (0, 0)) := by rw [← h4]; exact heap_setCell_same w3 wb 3 _ 31 (.pointer kp') r3
  have s1 := hm.size
  have s2 := m2.size
  refine ⟨r4, ((hd.mod m2 (fun k hk e => h.nb (e ▸ hk))).mod hm3 (fun k hk e => h.ne k hk e)).mod m4 (fun k hk e => h.nb (e ▸ hk)), hr.mod m4 (fun k hk e => h.nr (e ▸ hk)), hb, h.ne, h.nb, h.nr, ?_, h.own,
    ((e4.then m2 (fun k _ e => h.own k (.inl e))).then hm3 (fun k _ e => h.own k (.inr (.inr e)))).then m4 (fun k _ e => h.own k (.inl e))⟩
  rcases hj with hj | ⟨j, k, rm, p1, p2, p3, p4, p5, p6, p7⟩
  · exact .inl hj
  · refine .inr ⟨j, k, rm, p1, p2, p3, ((p4.mod m2 (fun e => by omega)).mod hm3 (fun e => ?_)).mod m4 (fun e => by omega), p5.mod m4 (fun e => by omega), fun e => ?_, fun e => ?_⟩
    · have := h.lt j (.inr (.inr e)); omega
    · have := h.lt j e; omega
    · have := h.lt k e; omega

set_option maxRecDepth 100000 in
set_option maxHeartbeats 2000000 in
theorem wopen_yes {W w : World} {wb b r : Nat} {sa ra : Option Addr} {D : Dsk} {R : Rsk} {t : Nat} {jp kp : Option Addr} (h : WW W w wb b r sa ra D R t jp kp) (ht : t < 288230376151711744) (room : Int) :
    Calls Tryz.prog 7 #[.pointer (some ⟨wb, 0, none⟩), .int .i64 room] w fun e w' => e = .returned (.bool true) ∧ ∃ D' R' jp' kp', WW W w' wb b r sa ra D' R' (t + 501) jp' kp' := by
  obtain ⟨c0, c1, c2, c3, cf⟩ := h.cells
  have H := hid h
  by_cases hr : room < 1 ∨ 500 < room
  · have HO := hid (open_arg (w := w) (d := b) room hr)
    have HR := hid (fun (v : World) => ropen_arg (w := v) (v := .pointer (some ⟨r, 0, none⟩)) room hr)
    have HrA := hid (heap_setCell_same w wb 1 _ 31 (.pointer none) h.row)
    have HmA : Hid (Mod (fun k => k = wb) w (w.setCell ⟨wb, 1, none⟩ (.pointer none))) := Mod.setCell (S := fun k => k = wb) (p := ⟨wb, 1, none⟩) (Mod.refl _ _) (fun _ => rfl) _
    clear h hr
    go_enter Tryz.func7, Tryz.ntmps7
    go_wp2_with fail
    refine HO.out.mono ?_
    rintro e w1 ⟨rfl, rfl⟩
    go_wp2_with fail
    clear c0 c1 c2 c3 cf
    obtain ⟨w2, h2⟩ : ∃ w2, w.setCell ⟨wb, 1, none⟩ (.pointer none) = w2 := ⟨_, rfl⟩
    have H2 := hid h2
    rw [h2] at HrA HmA ⊢
    clear h2
    obtain ⟨d0, d1, d2, d3, df⟩ := row_cells HrA.out
    refine (HR.out w2).mono ?_
    rintro e w3 ⟨rfl, rfl⟩
    go_wp2_with fail
    go_ret
    exact ⟨rfl, D, R, none, none, H.out.opened H.out.d (Mod.refl _ _) H2.out (H.out.rf.mod HmA.out (fun k hk e => H.out.nr (e ▸ hk))) (Mod.refl _ _) rfl (H.out.both.le 501) (.inl ⟨rfl, rfl⟩)⟩
  · obtain ⟨rm, rfl⟩ : ∃ rm : Nat, room = (rm : Int) := ⟨room.toNat, by omega⟩
    obtain ⟨b1, b2⟩ := open_both (room := rm) h.both (by omega)
    have HO := hid (open_any (room := rm) h.d (h.both.bud (by omega)) (by omega) (by omega) (by omega))
    have HR := hid (fun (v : World) (hv : RefAt v r ra R) => ropen_any (room := rm) hv h.both.rb (by omega) (by omega) (by omega))
    have HB := hid (b2.up (m := t + 501) (by omega))
    generalize openF rm D = F at *
    generalize ropenF rm R = G at *
    have HE := hid b1
    have hrm : rm ≤ 500 := by omega
    clear h hr b1 b2
    go_enter Tryz.func7, Tryz.ntmps7
    go_wp2_with fail
    refine HO.out.mono ?_
    rintro e w1 ⟨hd1, hm1, hans⟩
    have HD1 := hid hd1
    have HM1 := hid hm1
    obtain ⟨row1, rf1, _, _⟩ := H.out.disk hm1
    have HRow := hid row1
    have HRf := hid rf1
    clear c0 c1 c2 c3 cf hd1 hm1
    obtain ⟨c0, c1, c2, c3, cf⟩ := row_cells row1
    clear row1 rf1
    rcases hans with ⟨hz, j, rfl, hj, hjl⟩ | ⟨hz, rfl⟩
    · have HZ := hid hz
      have HJ := hid hj
      have HJl := hid hjl
      have HrA := hid (heap_setCell_same w1 wb 1 _ 31 (.pointer (some ⟨j, 0, none⟩)) HRow.out)
      have HmA : Hid (Mod (fun k => k = wb) w1 (w1.setCell ⟨wb, 1, none⟩ (.pointer (some ⟨j, 0, none⟩)))) := Mod.setCell (S := fun k => k = wb) (p := ⟨wb, 1, none⟩) (Mod.refl _ _) (fun _ => rfl) _
      clear hz hj hjl
      go_wp2_with fail
      clear c0 c1 c2 c3 cf
      obtain ⟨w2, h2⟩ : ∃ w2, w1.setCell ⟨wb, 1, none⟩ (.pointer (some ⟨j, 0, none⟩)) = w2 := ⟨_, rfl⟩
      have H2 := hid h2
      rw [h2] at HrA HmA ⊢
      clear h2
      refine (HR.out w2 (HRf.out.mod HmA.out (fun k hk e => H.out.nr (e ▸ hk)))).mono ?_
      rintro e w3 ⟨hr3, hm3, hans⟩
      rcases hans with ⟨hz, k, rfl, hk, hkl⟩ | ⟨hz, rfl⟩
      · have HR3 := hid hr3
        have HM3 := hid hm3
        have HK := hid hk
        have HKl := hid hkl
        obtain ⟨d0, d1, d2, d3, df⟩ := row_cells ((hm3.block _ (lt_of_heap HrA.out) H.out.nr).trans HrA.out)
        clear hr3 hm3 hk hkl hz
        go_wp2_with fail
        go_ret
        exact ⟨rfl, _, _, _, _, H.out.opened HD1.out HM1.out H2.out HR3.out HM3.out rfl HB.out (.inr ⟨j, k, rm, rfl, rfl, hrm, HJ.out, HK.out, HJl.out, HKl.out⟩)⟩
      · exact absurd (HE.out.symm.trans HZ.out) hz
    · have HZ := hid hz
      have HrA := hid (heap_setCell_same w1 wb 1 _ 31 (.pointer none) HRow.out)
      have HmA : Hid (Mod (fun k => k = wb) w1 (w1.setCell ⟨wb, 1, none⟩ (.pointer none))) := Mod.setCell (S := fun k => k = wb) (p := ⟨wb, 1, none⟩) (Mod.refl _ _) (fun _ => rfl) _
      clear hz
      go_wp2_with fail
      clear c0 c1 c2 c3 cf
      obtain ⟨w2, h2⟩ : ∃ w2, w1.setCell ⟨wb, 1, none⟩ (.pointer none) = w2 := ⟨_, rfl⟩
      have H2 := hid h2
      rw [h2] at HrA HmA ⊢
      clear h2
      refine (HR.out w2 (HRf.out.mod HmA.out (fun k hk e => H.out.nr (e ▸ hk)))).mono ?_
      rintro e w3 ⟨hr3, hm3, hans⟩
      rcases hans with ⟨hz, k, rfl, hk, hkl⟩ | ⟨hz, rfl⟩
      · exact absurd (HE.out.trans hz) HZ.out
      · have HR3 := hid hr3
        have HM3 := hid hm3
        obtain ⟨d0, d1, d2, d3, df⟩ := row_cells ((hm3.block _ (lt_of_heap HrA.out) H.out.nr).trans HrA.out)
        have he : F.1 = G.1 := HE.out
        have e1 : (F.1 == F.1) = true := by simp
        have e2 : (F.1 != 0) = true := by simpa using HZ.out
        have e3 : (G.1 == G.1) = true := by simp
        have e4 : (G.1 != 0) = true := by simpa using hz
        rw [he]
        clear hr3 hm3 hz he
        go_wp2_with fail
        go_ret
        exact ⟨rfl, _, _, _, _, H.out.opened HD1.out HM1.out H2.out HR3.out HM3.out rfl HB.out (.inl ⟨rfl, rfl⟩)⟩

end Go.Proofs.YtbfdmglmolkloaaGreatDoor
