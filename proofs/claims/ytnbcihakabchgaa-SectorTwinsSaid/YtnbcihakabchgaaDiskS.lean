/- A disk in memory of the call's own -/
import Derived.Test.YtnbcihakabchgaaWakes
namespace Go.Proofs.Ytnbcihakabchgaa
open Go Go.RowKit

/-- A disk that stands so, in memory that was made behind W; nothing that W had has changed. -/
def St (W w : World) (b : Nat) (D : Dsk) : Prop :=
  ∃ sa, DiskAt w b sa D ∧ (∀ k, diskF b sa k → W.heap.size ≤ k) ∧ Mod (fun k => W.heap.size ≤ k) W w

theorem St.mod {W w : World} {b : Nat} {D : Dsk} (h : St W w b D) : Mod (fun k => W.heap.size ≤ k) W w := by obtain ⟨sa, _, _, h3⟩ := h; exact h3

theorem St.ext {W w w' : World} {b : Nat} {D : Dsk} (h : St W w b D) (hm : Mod (fun _ => False) w w') : St W w' b D := by
  obtain ⟨sa, h1, h2, h3⟩ := h
  exact ⟨sa, h1.mod hm (fun _ _ h => h), h2, h3.then hm (fun _ _ h => h.elim)⟩

theorem St.cell {W w : World} {b : Nat} {D : Dsk} (h : St W w b D) {p : Addr} {v : Value} (hc : W.cell? p = some v) : w.cell? p = some v := by
  have hl := World.block_lt_of_cell? _ _ hc
  rw [h.mod.cell hl (by omega)]
  exact hc

theorem St.below {W w : World} {b : Nat} {D : Dsk} (h : St W w b D) : Below W.heap.size W w := h.mod.below (Nat.le_refl _) (fun _ h => h)

theorem st_new {W w : World} (hm : Mod (fun k => W.heap.size ≤ k) W w) (n : Int) : Calls Try.prog 11 #[.int .i64 n] w fun e w' => ∃ b, e = .returned (.pointer (some ⟨b, 0, none⟩)) ∧ w.heap.size ≤ b ∧ St W w' b (newD n) := by
  refine (new_any n).mono ?_
  rintro e w' ⟨b, sa, rfl, h1, h2, h3, h4⟩
  have := hm.size
  refine ⟨b, rfl, h1, sa, h3, ?_, hm.then h4 (fun _ _ h => h.elim)⟩
  rintro k (rfl | h)
  · omega
  · have := h2 k h; omega

theorem St.step {W w w' : World} {b : Nat} {sa : Option Addr} {D' : Dsk} (h2 : ∀ k, diskF b sa k → W.heap.size ≤ k) (h3 : Mod (fun k => W.heap.size ≤ k) W w) (hd : DiskAt w' b sa D') (hm : Mod (diskF b sa) w w') : St W w' b D' :=
  ⟨sa, hd, h2, h3.then hm (fun k _ h => h2 k h)⟩

theorem st_write {W w : World} {b : Nat} {D : Dsk} (h : St W w b D) (ok : D.Ok) (i : Int) (s : ByteArray) (hs : s.size ≤ maxLen) : Calls Try.prog 12 #[.pointer (some ⟨b, 0, none⟩), .int .i64 i, .string s] w fun e w' => e = .returned (.int .i64 (writeF D i s).1) ∧ St W w' b (writeF D i s).2 := by
  obtain ⟨sa, h1, h2, h3⟩ := h
  refine (write_any h1 ok i s hs).mono ?_
  rintro e w' ⟨rfl, hd, hm⟩
  exact ⟨rfl, St.step h2 h3 hd hm⟩

theorem st_read {W w : World} {b : Nat} {D : Dsk} (h : St W w b D) (i : Int) : Calls Try.prog 15 #[.pointer (some ⟨b, 0, none⟩), .int .i64 i] w fun e w' => e = .returned (.tuple #[.string (readF D i).1, .int .i64 (readF D i).2]) ∧ St W w' b D := by
  obtain ⟨sa, h1, h2, h3⟩ := h
  refine (read_any h1 i).mono ?_
  rintro e w' ⟨rfl, hd, hm⟩
  exact ⟨rfl, St.step h2 h3 hd hm⟩

theorem st_cut {W w : World} {b : Nat} {D : Dsk} (h : St W w b D) (n : Int) : Calls Try.prog 16 #[.pointer (some ⟨b, 0, none⟩), .int .i64 n] w fun e w' => e = .returned (.tuple #[]) ∧ St W w' b (D.cut n) := by
  obtain ⟨sa, h1, h2, h3⟩ := h
  refine (cut_any h1 n).mono ?_
  rintro e w' ⟨rfl, hd, hm⟩
  exact ⟨rfl, St.step h2 h3 hd hm⟩

theorem st_start {W w : World} {b : Nat} {D : Dsk} (h : St W w b D) : Calls Try.prog 18 #[.pointer (some ⟨b, 0, none⟩)] w fun e w' => e = .returned (.tuple #[]) ∧ St W w' b { D with off := false, left := 0 } := by
  obtain ⟨sa, h1, h2, h3⟩ := h
  refine (start_any h1).mono ?_
  rintro e w' ⟨rfl, hd, hm⟩
  exact ⟨rfl, St.step h2 h3 hd hm⟩

theorem st_writes {W w : World} {b : Nat} {D : Dsk} (h : St W w b D) : Calls Try.prog 14 #[.pointer (some ⟨b, 0, none⟩)] w fun e w' => e = .returned (.int .i64 D.writes) ∧ w = w' := by
  obtain ⟨sa, h1, h2, h3⟩ := h
  exact writes_any h1

theorem st_highest {W w : World} {b : Nat} {D : Dsk} (h : St W w b D) (ok : D.Ok) : Calls Try.prog 13 #[.pointer (some ⟨b, 0, none⟩)] w fun e w' => e = .returned (.int .i64 (D.high - 1)) ∧ w = w' := by
  obtain ⟨sa, h1, h2, h3⟩ := h
  exact highest_any h1 ok.h0 (by have := ok.h1; omega)

theorem st_on {W w : World} {b : Nat} {D : Dsk} (h : St W w b D) : Calls Try.prog 17 #[.pointer (some ⟨b, 0, none⟩)] w fun e w' => e = .returned (.bool (!D.off)) ∧ w = w' := by
  obtain ⟨sa, h1, h2, h3⟩ := h
  exact on_any h1

/-- A write with the power on and no cut set. -/
theorem writeF_up {D : Dsk} (ho : D.off = false) (hl : D.left = 0) (i : Int) (s : ByteArray) : writeF D i s = if i < 0 ∨ D.secs.length ≤ i then (10, D) else if 1024 < s.size then (11, D) else (0, D.put i.toNat s) := by
  unfold writeF readyF
  rw [ho, hl]
  simp only [Bool.false_eq_true, if_false]
  split <;> simp

end Go.Proofs.Ytnbcihakabchgaa
