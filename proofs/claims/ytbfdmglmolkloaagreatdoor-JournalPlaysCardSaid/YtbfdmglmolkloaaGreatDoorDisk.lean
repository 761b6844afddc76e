/- The disk's functions -/
import Derived.Test.YtbfdmglmolkloaaGreatDoorOnce
namespace Go.Proofs.YtbfdmglmolkloaaGreatDoor
open Go Go.RowKit

/-- A disk: its sectors (the empty text: zeros), the writes, one more than the highest, the writes that are left and one more (0: no cut), the power off. -/
structure Dsk where
  secs : List ByteArray
  writes : Int
  high : Int
  left : Int
  off : Bool

def DiskAt (w : World) (b : Nat) (sa : Option Addr) (D : Dsk) : Prop :=
  ∃ cap blank done, DiskCells w b sa D.secs.length cap blank done D.writes D.high D.left D.off ∧ Own w 9 1 sa D.secs.length cap (D.secs.map .string) ∧ ¬ blk sa b

def diskF (b : Nat) (sa : Option Addr) (k : Nat) : Prop := k = b ∨ blk sa k

theorem DiskAt.lt {w : World} {b : Nat} {sa : Option Addr} {D : Dsk} (h : DiskAt w b sa D) : ∀ k, diskF b sa k → k < w.heap.size := by
  obtain ⟨cap, blank, done, h1, h2, h3⟩ := h
  rintro k (rfl | hk)
  · exact lt_of_heap h1.1
  · exact h2.lt k hk

theorem DiskAt.mod {S : Nat → Prop} {w w' : World} {b : Nat} {sa : Option Addr} {D : Dsk} (h : DiskAt w b sa D) (hm : Mod S w w') (hs : ∀ k, diskF b sa k → ¬ S k) : DiskAt w' b sa D := by
  obtain ⟨cap, blank, done, h1, h2, h3⟩ := h
  exact ⟨cap, blank, done, ⟨(hm.block b (lt_of_heap h1.1) (hs b (Or.inl rfl))).trans h1.1, h1.2⟩, h2.mod hm (fun k hk => hs k (Or.inr hk)), h3⟩

theorem DiskAt.cells {w : World} {b : Nat} {sa : Option Addr} {D : Dsk} (h : DiskAt w b sa D) : ∃ cap, w.cell? ⟨b, 0, none⟩ = some (.slice sa D.secs.length cap) ∧ w.cell? ⟨b, 5, none⟩ = some (.int .i64 D.writes) ∧ w.cell? ⟨b, 6, none⟩ = some (.int .i64 D.high) ∧ w.cell? ⟨b, 7, none⟩ = some (.int .i64 D.left) ∧ w.cell? ⟨b, 8, none⟩ = some (.int .u32 (u32 D.off)) ∧ (∀ o, w.frozen? ⟨b, o, none⟩ = false) ∧ Own w 9 1 sa D.secs.length cap (D.secs.map .string) := by
  obtain ⟨cap, blank, done, h1, h2, h3⟩ := h
  exact ⟨cap, by rw [cell_of_row _ _ _ _ _ _ h1.1]; rfl, by rw [cell_of_row _ _ _ _ _ _ h1.1]; rfl, by rw [cell_of_row _ _ _ _ _ _ h1.1]; rfl, by rw [cell_of_row _ _ _ _ _ _ h1.1]; rfl, by rw [cell_of_row _ _ _ _ _ _ h1.1]; rfl, fun o => frozen_of_row _ _ _ _ _ h1.1, h2⟩

theorem len_any {w : World} {b : Nat} {sa : Option Addr} {D : Dsk} (h : DiskAt w b sa D) : Calls Tryz.prog 31 #[.pointer (some ⟨b, 0, none⟩)] w fun e w' => e = .returned (.int .i64 D.secs.length) ∧ w = w' := by
  obtain ⟨cap, h0, h5, h6, h7, h8, fz, _⟩ := h.cells
  clear h
  go_enter Tryz.func31, Tryz.ntmps31
  go_wp2
  go_ret
  exact ⟨rfl, rfl⟩

theorem writes_any {w : World} {b : Nat} {sa : Option Addr} {D : Dsk} (h : DiskAt w b sa D) : Calls Tryz.prog 14 #[.pointer (some ⟨b, 0, none⟩)] w fun e w' => e = .returned (.int .i64 D.writes) ∧ w = w' := by
  obtain ⟨cap, h0, h5, h6, h7, h8, fz, _⟩ := h.cells
  have HL := hid (i64_load h5)
  clear h h5 h6 h7 h8 fz
  go_enter Tryz.func14, Tryz.ntmps14
  go_wp2_with (go_at_call 34; refine HL.out.mono ?_; rintro e w' ⟨rfl, rfl⟩)
  go_ret
  exact ⟨rfl, rfl⟩


theorem on_any {w : World} {b : Nat} {sa : Option Addr} {D : Dsk} (h : DiskAt w b sa D) : Calls Tryz.prog 26 #[.pointer (some ⟨b, 0, none⟩)] w fun e w' => e = .returned (.bool (!D.off)) ∧ w = w' := by
  obtain ⟨cap, h0, h5, h6, h7, h8, fz, _⟩ := h.cells
  have HL := hid (bool_load D.off h8)
  clear h h5 h6 h7 h8 fz
  generalize D.off = o at *
  go_enter Tryz.func26, Tryz.ntmps26
  go_wp2_with (go_at_call 43; refine HL.out.mono ?_; rintro e w' ⟨rfl, rfl⟩)
  go_ret
  exact ⟨rfl, rfl⟩

/-- What ready says. -/
def readyF (D : Dsk) (i : Int) : Int := if D.off then 12 else if i < 0 ∨ D.secs.length ≤ i then 10 else 0

theorem ready_any {w : World} {b : Nat} {sa : Option Addr} {D : Dsk} (h : DiskAt w b sa D) (i : Int) : Calls Tryz.prog 39 #[.pointer (some ⟨b, 0, none⟩), .int .i64 i] w fun e w' => e = .returned (.int .i64 (readyF D i)) ∧ w = w' := by
  obtain ⟨cap, h0, h5, h6, h7, h8, fz, _⟩ := h.cells
  have HL := hid (bool_load D.off h8)
  clear h h5 h6 h7 h8 fz
  cases ho : D.off with
  | true =>
    have e1 : readyF D i = 12 := by simp [readyF, ho]
    rw [e1]
    rw [ho] at HL
    clear ho
    go_enter Tryz.func39, Tryz.ntmps39
    go_wp2_with (go_at_call 43; refine HL.out.mono ?_; rintro e w' ⟨rfl, rfl⟩)
    go_ret
    exact ⟨rfl, rfl⟩
  | false =>
    rw [ho] at HL
    by_cases hneg : i < 0
    · have e1 : readyF D i = 10 := by simp [readyF, ho, hneg]
      have d1 : decide (i < 0) = true := by simpa using hneg
      rw [e1]
      clear ho
      go_enter Tryz.func39, Tryz.ntmps39
      go_wp2_with (go_at_call 43; refine HL.out.mono ?_; rintro e w' ⟨rfl, rfl⟩)
      go_ret
      exact ⟨rfl, rfl⟩
    · have d1 : decide (i < 0) = false := by simpa using hneg
      by_cases hbig : (D.secs.length : Int) ≤ i
      · have e1 : readyF D i = 10 := by simp [readyF, ho, hbig]
        have d2 : decide ((D.secs.length : Int) ≤ i) = true := by simpa using hbig
        rw [e1]
        clear ho
        go_enter Tryz.func39, Tryz.ntmps39
        go_wp2_with (go_at_call 43; refine HL.out.mono ?_; rintro e w' ⟨rfl, rfl⟩)
        go_ret
        exact ⟨rfl, rfl⟩
      · have e1 : readyF D i = 0 := by simp [readyF, ho, hneg, hbig]
        have d2 : decide ((D.secs.length : Int) ≤ i) = false := by simpa using hbig
        rw [e1]
        clear ho
        go_enter Tryz.func39, Tryz.ntmps39
        go_wp2_with (go_at_call 43; refine HL.out.mono ?_; rintro e w' ⟨rfl, rfl⟩)
        go_ret
        exact ⟨rfl, rfl⟩

end Go.Proofs.YtbfdmglmolkloaaGreatDoor
