/- Read, Cut, Start and New of the disk -/
import Derived.Test.YtbfdmglmolkloaaGreatDoorDiskW
import Derived.Lib.MinMax
namespace Go.Proofs.YtbfdmglmolkloaaGreatDoor
open Go Go.RowKit

def E0 : ByteArray := ⟨#[]⟩

/-- What Read says. -/
def readF (D : Dsk) (i : Int) : ByteArray × Int :=
  if readyF D i ≠ 0 then (⟨#[]⟩, readyF D i) else if ((D.secs[i.toNat]?).getD ⟨#[]⟩).toList.isEmpty = true then (Z1024, 0) else ((D.secs[i.toNat]?).getD ⟨#[]⟩, 0)

theorem read_ready {w : World} {b : Nat} {sa : Option Addr} {D : Dsk} (h : DiskAt w b sa D) (i : Int) (hr : readyF D i ≠ 0) : Calls Tryz.prog 27 #[.pointer (some ⟨b, 0, none⟩), .int .i64 i] w fun e w' => e = .returned (.tuple #[.string ⟨#[]⟩, .int .i64 (readyF D i)]) ∧ w = w' := by
  have HR := hid (ready_any h i)
  generalize readyF D i = r at *
  have e1 : (r != 0) = true := by simpa using hr
  clear h hr
  go_enter Tryz.func27, Tryz.ntmps27
  go_wp2_with (go_at_call 39; refine HR.out.mono ?_; rintro e w' ⟨rfl, rfl⟩)
  go_ret2
  exact ⟨rfl, rfl⟩

set_option maxRecDepth 100000 in
theorem read_blank {w : World} {b : Nat} {sa : Option Addr} {D : Dsk} (h : DiskAt w b sa D) (i : Nat) (hi : i < D.secs.length) (hr : readyF D i = 0) (hb : D.secs[i].toList.isEmpty = true) : Calls Tryz.prog 27 #[.pointer (some ⟨b, 0, none⟩), .int .i64 i] w fun e w' => e = .returned (.tuple #[.string Z1024, .int .i64 0]) ∧ DiskAt w' b sa D ∧ Mod (diskF b sa) w w' := by
  have HR := hid (ready_any h i)
  rw [hr] at HR
  obtain ⟨cap, blank, done, h1, h2, h3⟩ := h
  obtain ⟨g, off, rfl⟩ := Own.some_lit h2 (by omega)
  have t0 : w.cell? ⟨b, 0, none⟩ = some (.slice (some ⟨g, off, none⟩) D.secs.length cap) := by rw [cell_of_row _ _ _ _ _ _ h1.1]; rfl
  have t1 := Own.one h2 hi
  have HZ := hid (zeros_any (w := w) h1)
  have H2 := hid h2
  have H3 := hid h3
  have i1 : (i : Int) < (D.secs.length : Int) := by omega
  clear h1 h2 h3 hr
  go_enter Tryz.func27, Tryz.ntmps27
  go_wp2_with (first | (go_at_call 39; refine HR.out.mono ?_; rintro e w' ⟨rfl, rfl⟩) | (go_at_call 40; refine HZ.out.mono ?_; rintro e w1 ⟨rfl, hd, hm⟩; have Hd := hid hd; have Hm := hid hm; clear hd hm))
  go_ret2
  exact ⟨rfl, ⟨cap, Z1024, true, Hd.out, H2.out.mod Hm.out (fun k hk h => H3.out (h ▸ hk)), H3.out⟩, Hm.out.mono fun k _ h => Or.inl h⟩

set_option maxRecDepth 100000 in
theorem read_full {w : World} {b : Nat} {sa : Option Addr} {D : Dsk} (h : DiskAt w b sa D) (i : Nat) (hi : i < D.secs.length) (hr : readyF D i = 0) (hb : D.secs[i].toList.isEmpty = false) : Calls Tryz.prog 27 #[.pointer (some ⟨b, 0, none⟩), .int .i64 i] w fun e w' => e = .returned (.tuple #[.string D.secs[i], .int .i64 0]) ∧ w = w' := by
  have HR := hid (ready_any h i)
  rw [hr] at HR
  obtain ⟨cap, blank, done, h1, h2, h3⟩ := h
  obtain ⟨g, off, rfl⟩ := Own.some_lit h2 (by omega)
  have t0 : w.cell? ⟨b, 0, none⟩ = some (.slice (some ⟨g, off, none⟩) D.secs.length cap) := by rw [cell_of_row _ _ _ _ _ _ h1.1]; rfl
  have t1 := Own.one h2 hi
  have i1 : (i : Int) < (D.secs.length : Int) := by omega
  clear h1 h2 h3 hr
  go_enter Tryz.func27, Tryz.ntmps27
  go_wp2_with (first | (go_at_call 39; refine HR.out.mono ?_; rintro e w' ⟨rfl, rfl⟩))
  go_ret2
  exact ⟨rfl, rfl⟩

theorem read_any {w : World} {b : Nat} {sa : Option Addr} {D : Dsk} (h : DiskAt w b sa D) (i : Int) : Calls Tryz.prog 27 #[.pointer (some ⟨b, 0, none⟩), .int .i64 i] w fun e w' => e = .returned (.tuple #[.string (readF D i).1, .int .i64 (readF D i).2]) ∧ DiskAt w' b sa D ∧ Mod (diskF b sa) w w' := by
  unfold readF
  by_cases hr : readyF D i = 0
  · rw [if_neg (by simp [hr])]
    obtain ⟨_, i0, i1⟩ := readyF_zero hr
    obtain ⟨j, rfl⟩ := Int.eq_ofNat_of_zero_le i0
    have hj : j < D.secs.length := by omega
    have e1 : (D.secs[(j : Int).toNat]?).getD ⟨#[]⟩ = D.secs[j] := by simp [hj]
    rw [e1]
    cases hb : D.secs[j].toList.isEmpty
    · refine (read_full h j hj hr hb).mono ?_
      rintro e w' ⟨rfl, rfl⟩
      exact ⟨rfl, h, Mod.refl _ _⟩
    · exact read_blank h j hj hr hb
  · rw [if_pos hr]
    refine (read_ready h i hr).mono ?_
    rintro e w' ⟨rfl, rfl⟩
    exact ⟨rfl, h, Mod.refl _ _⟩

/-- What Cut leaves. -/
def Dsk.cut (D : Dsk) (n : Int) : Dsk := { D with left := max 0 (min n 1152921504606846976) + 1 }

theorem cut_any {w : World} {b : Nat} {sa : Option Addr} {D : Dsk} (h : DiskAt w b sa D) (n : Int) : Calls Tryz.prog 20 #[.pointer (some ⟨b, 0, none⟩), .int .i64 n] w fun e w' => e = .returned (.tuple #[]) ∧ DiskAt w' b sa (D.cut n) ∧ Mod (diskF b sa) w w' := by
  obtain ⟨cap, blank, done, h1, h2, h3⟩ := h
  have c7 : w.cell? ⟨b, 7, none⟩ = some (.int .i64 D.left) := by rw [cell_of_row _ _ _ _ _ _ h1.1]; rfl
  have H1 := hid h1
  have H2 := hid h2
  have H3 := hid h3
  have HS := hid (i64_store (max 0 (min n 1152921504606846976) + 1) c7 (frozen_of_row _ _ _ _ _ h1.1))
  have Hm : Hid (Mod (fun k => k = b) w (w.setCell ⟨b, 7, none⟩ (.int .i64 (max 0 (min n 1152921504606846976) + 1)))) := Mod.setCell (S := fun k => k = b) (p := ⟨b, 7, none⟩) (Mod.refl _ _) (fun _ => rfl) _
  have b1 : (0 : Int) ≤ max 0 (min n 1152921504606846976) := by omega
  have b2 : max 0 (min n 1152921504606846976) ≤ 1152921504606846976 := by omega
  have Hr := hid (heap_setCell_same w b 7 _ 56 (.int .i64 (max 0 (min n 1152921504606846976) + 1)) h1.1)
  clear h1 h2 h3 c7
  generalize hx : max 0 (min n 1152921504606846976) = x at *
  go_enter Tryz.func20, Tryz.ntmps20
  go_wp2_with (go_at_call 37; first | rw [hx] | skip; refine HS.out.mono ?_; rintro e w' ⟨rfl, rfl⟩)
  go_end0
  exact ⟨rfl, ⟨cap, blank, done, ⟨by unfold Dsk.cut; rw [hx]; exact Hr.out, H1.out.2⟩, H2.out.mod Hm.out (fun k hk h => H3.out (h ▸ hk)), H3.out⟩, Hm.out.mono fun k _ h => Or.inl h⟩

theorem start_any {w : World} {b : Nat} {sa : Option Addr} {D : Dsk} (h : DiskAt w b sa D) : Calls Tryz.prog 22 #[.pointer (some ⟨b, 0, none⟩)] w fun e w' => e = .returned (.tuple #[]) ∧ DiskAt w' b sa { D with off := false, left := 0 } ∧ Mod (diskF b sa) w w' := by
  obtain ⟨cap, blank, done, h1, h2, h3⟩ := h
  have c8 : w.cell? ⟨b, 8, none⟩ = some (.int .u32 (u32 D.off)) := by rw [cell_of_row _ _ _ _ _ _ h1.1]; rfl
  have HS := hid (bool_store false c8 (frozen_of_row _ _ _ _ _ h1.1))
  have m1 : Mod (fun k => k = b) w (w.setCell ⟨b, 8, none⟩ (.int .u32 (u32 false))).drew := (Mod.setCell (S := fun k => k = b) (p := ⟨b, 8, none⟩) (Mod.refl _ _) (fun _ => rfl) _).drew
  have r1 : (w.setCell ⟨b, 8, none⟩ (.int .u32 (u32 false))).drew.heap[b]? = _ := heap_setCell_same w b 8 _ 56 (.int .u32 (u32 false)) h1.1
  have H1 := hid h1
  have H2 := hid h2
  have H3 := hid h3
  generalize (w.setCell ⟨b, 8, none⟩ (.int .u32 (u32 false))).drew = W1 at *
  have c7 : W1.cell? ⟨b, 7, none⟩ = some (.int .i64 D.left) := by rw [cell_of_row _ _ _ _ _ _ r1]; rfl
  have HS2 := hid (i64_store 0 c7 (frozen_of_row _ _ _ _ _ r1))
  have Hr := hid (heap_setCell_same W1 b 7 _ 56 (.int .i64 0) r1)
  have Hm : Hid (Mod (fun k => k = b) w (W1.setCell ⟨b, 7, none⟩ (.int .i64 0))) := Mod.setCell (S := fun k => k = b) (p := ⟨b, 7, none⟩) m1 (fun _ => rfl) _
  clear h1 h2 h3 c7 c8 r1 m1
  go_enter Tryz.func22, Tryz.ntmps22
  go_wp2_with (first | (go_at_call 38; refine HS.out.mono ?_; rintro e w' ⟨rfl, rfl⟩) | (go_at_call 37; refine HS2.out.mono ?_; rintro e w' ⟨rfl, rfl⟩))
  go_end0
  exact ⟨rfl, ⟨cap, blank, done, ⟨Hr.out, H1.out.2⟩, H2.out.mod Hm.out (fun k hk h => H3.out (h ▸ hk)), H3.out⟩, Hm.out.mono fun k _ h => Or.inl h⟩

end Go.Proofs.YtbfdmglmolkloaaGreatDoor
