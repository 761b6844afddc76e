/- Write of the disk -/
import Derived.Test.YtbfdmglmolkloaaGreatDoorDisk
namespace Go.Proofs.YtbfdmglmolkloaaGreatDoor
open Go Go.RowKit

theorem write_ready {w : World} {b : Nat} {sa : Option Addr} {D : Dsk} (h : DiskAt w b sa D) (i : Int) (s : ByteArray) (hr : readyF D i ≠ 0) : Calls Tryz.prog 24 #[.pointer (some ⟨b, 0, none⟩), .int .i64 i, .string s] w fun e w' => e = .returned (.int .i64 (readyF D i)) ∧ w = w' := by
  have HR := hid (ready_any h i)
  generalize readyF D i = r at *
  have e1 : (r != 0) = true := by simpa using hr
  clear h hr
  go_enter Tryz.func24, Tryz.ntmps24
  go_wp2_with (go_at_call 39; refine HR.out.mono ?_; rintro e w' ⟨rfl, rfl⟩)
  go_ret
  exact ⟨rfl, rfl⟩

theorem write_long {w : World} {b : Nat} {sa : Option Addr} {D : Dsk} (h : DiskAt w b sa D) (i : Int) (s : ByteArray) (hr : readyF D i = 0) (hs : 1024 < s.size) (hm : s.size ≤ maxLen) : Calls Tryz.prog 24 #[.pointer (some ⟨b, 0, none⟩), .int .i64 i, .string s] w fun e w' => e = .returned (.int .i64 11) ∧ w = w' := by
  have HR := hid (ready_any h i)
  rw [hr] at HR
  unfold maxLen at hm
  clear h hr
  go_enter Tryz.func24, Tryz.ntmps24
  go_wp2_with (go_at_call 39; refine HR.out.mono ?_; rintro e w' ⟨rfl, rfl⟩)
  go_ret
  exact ⟨rfl, rfl⟩

set_option maxRecDepth 100000 in
theorem write_off {w : World} {b : Nat} {sa : Option Addr} {D : Dsk} (h : DiskAt w b sa D) (i : Int) (s : ByteArray) (hr : readyF D i = 0) (hs : s.size ≤ 1024) (hl : D.left = 1) : Calls Tryz.prog 24 #[.pointer (some ⟨b, 0, none⟩), .int .i64 i, .string s] w fun e w' => e = .returned (.int .i64 12) ∧ DiskAt w' b sa { D with off := true } ∧ Mod (diskF b sa) w w' := by
  have HR := hid (ready_any h i)
  rw [hr] at HR
  obtain ⟨cap, blank, done, h1, h2, h3⟩ := h
  have c7 : w.cell? ⟨b, 7, none⟩ = some (.int .i64 D.left) := by rw [cell_of_row _ _ _ _ _ _ h1.1]; rfl
  have c8 : w.cell? ⟨b, 8, none⟩ = some (.int .u32 (u32 D.off)) := by rw [cell_of_row _ _ _ _ _ _ h1.1]; rfl
  rw [hl] at c7
  have HL := hid (i64_load c7)
  have HS := hid (bool_store true c8 (frozen_of_row _ _ _ _ _ h1.1))
  have H1 := hid h1
  have H2 := hid h2
  have H3 := hid h3
  clear h1 h2 h3 hr hl c7 c8
  go_enter Tryz.func24, Tryz.ntmps24
  go_wp2_with (first | (go_at_call 39; refine HR.out.mono ?_; rintro e w' ⟨rfl, rfl⟩) | (go_at_call 34; refine HL.out.mono ?_; rintro e w' ⟨rfl, rfl⟩) | (go_at_call 38; refine HS.out.mono ?_; rintro e w' ⟨rfl, rfl⟩))
  go_ret
  have hm : Mod (fun k => k = b) w (w.setCell ⟨b, 8, none⟩ (.int .u32 (u32 true))).drew := (Mod.setCell (S := fun k => k = b) (Mod.refl _ _) (fun _ => rfl) _).drew
  refine ⟨rfl, ⟨cap, blank, done, ⟨heap_setCell_same w b 8 _ 56 _ H1.out.1, H1.out.2⟩, H2.out.mod hm (fun k hk h => H3.out (h ▸ hk)), H3.out⟩, hm.mono fun k _ h => Or.inl h⟩

theorem Z1024_size : Z1024.size = 1024 := by
  unfold Z1024
  show (Lib.repeatL [0] 1024).toArray.size = 1024
  rw [List.size_toArray]
  decide +kernel

theorem Own.some_lit {w : World} {e : TypeId} {size : Nat} {sa : Option Addr} {n cap : Nat} {xs : List Value} (h : Own w e size sa n cap xs) (hn : 0 < n) : ∃ g off, sa = some ⟨g, off, none⟩ := by
  rcases h.2.2.2 with ⟨_, hc⟩ | ⟨g, off, cur, rfl, _⟩
  · have := h.2.1; omega
  · exact ⟨g, off, rfl⟩

theorem Own.one {w : World} {e : TypeId} {g off n cap : Nat} {ss : List ByteArray} (h : Own w e 1 (some ⟨g, off, none⟩) n cap (ss.map .string)) {i : Nat} (hi : i < ss.length) : w.cell? ⟨g, off + i, none⟩ = some (.string ss[i]) := by
  have := h.src.2.2 _ rfl i (.string ss[i]) (by simp [hi])
  rw [Addr.add_lit] at this
  exact this

def pad (s : ByteArray) : ByteArray := s ++ Z1024.extract s.size Z1024.size

/-- What a write leaves. -/
def Dsk.put (D : Dsk) (i : Nat) (s : ByteArray) : Dsk := { secs := D.secs.set i (pad s), writes := D.writes + 1, high := if D.high ≤ i then (i : Int) + 1 else D.high, left := if D.left = 0 then 0 else D.left - 1, off := D.off }

theorem write_mid {W2 w1 : World} {b g off cap : Nat} {D : Dsk} {L : Int} (hd : DiskCells w1 b (some ⟨g, off, none⟩) D.secs.length cap Z1024 true D.writes D.high L D.off) (hm : Mod (fun k => k = b) W2 w1) (hO : Own W2 9 1 (some ⟨g, off, none⟩) D.secs.length cap (D.secs.map .string)) (h3 : ¬ blk (some ⟨g, off, none⟩) b) (i : Nat) (hi : i < D.secs.length) (s : ByteArray) (hL : L = if D.left = 0 then 0 else D.left - 1) :
    let W3 := w1.setCell ⟨g, off + i, none⟩ (.string (s ++ Z1024.extract s.size Z1024.size))
    let W4 := W3.setCell ⟨b, 5, none⟩ (.int .i64 (D.writes + 1))
    W3.cell? ⟨b, 5, none⟩ = some (.int .i64 D.writes) ∧ W3.frozen? ⟨b, 5, none⟩ = false ∧ W4.cell? ⟨b, 6, none⟩ = some (.int .i64 D.high) ∧ W4.frozen? ⟨b, 6, none⟩ = false ∧ (D.high ≤ i → DiskAt (W4.setCell ⟨b, 6, none⟩ (.int .i64 ((i : Int) + 1))) b (some ⟨g, off, none⟩) (D.put i s) ∧ Mod (diskF b (some ⟨g, off, none⟩)) W2 (W4.setCell ⟨b, 6, none⟩ (.int .i64 ((i : Int) + 1)))) ∧ (¬ D.high ≤ i → DiskAt W4 b (some ⟨g, off, none⟩) (D.put i s) ∧ Mod (diskF b (some ⟨g, off, none⟩)) W2 W4) := by
  intro W3 W4
  have hgb : b ≠ g := fun h => h3 ⟨_, rfl, h.symm⟩
  have hO1 := hO.mod hm (fun k hk h => h3 (h ▸ hk))
  have hO3 : Own W3 9 1 (some ⟨g, off, none⟩) D.secs.length cap ((D.secs.set i (pad s)).map .string) := by
    rw [List.map_set]; exact hO1.set i (by omega) (.string (pad s))
  have hb3 : W3.heap[b]? = w1.heap[b]? := heap_setCell_other _ _ _ _ hgb
  have r3 := hb3.trans hd.1
  have r4 := heap_setCell_same W3 b 5 _ 56 (.int .i64 (D.writes + 1)) r3
  have hlen : (D.secs.set i (pad s)).length = D.secs.length := List.length_set
  have hm3 : Mod (diskF b (some ⟨g, off, none⟩)) W2 W3 := Mod.setCell (S := diskF b (some ⟨g, off, none⟩)) (p := ⟨g, off + i, none⟩) (hm.mono fun k _ h => Or.inl h) (fun _ => Or.inr ⟨_, rfl, rfl⟩) _
  have hm4 : Mod (diskF b (some ⟨g, off, none⟩)) W2 W4 := Mod.setCell (S := diskF b (some ⟨g, off, none⟩)) hm3 (fun _ => Or.inl rfl) _
  have mb : ∀ (w : World) (o : Nat) (v : Value), Mod (fun k => k = b) w (w.setCell ⟨b, o, none⟩ v) := fun w o v => Mod.setCell (S := fun k => k = b) (Mod.refl _ _) (fun _ => rfl) _
  have hO4 : Own W4 9 1 (some ⟨g, off, none⟩) D.secs.length cap ((D.secs.set i (pad s)).map .string) := hO3.mod (mb W3 5 _) (fun k hk h => h3 (h ▸ hk))
  refine ⟨by rw [cell_of_row _ _ _ _ _ _ r3]; rfl, frozen_of_row _ _ _ _ _ r3, by rw [cell_of_row _ _ _ _ _ _ r4]; rfl, frozen_of_row _ _ _ _ _ r4, fun hh => ⟨?_, Mod.setCell (S := diskF b (some ⟨g, off, none⟩)) hm4 (fun _ => Or.inl rfl) _⟩, fun hh => ⟨?_, hm4⟩⟩
  · refine ⟨cap, Z1024, true, ⟨?_, fun _ => rfl⟩, ?_, h3⟩
    · have r5 := heap_setCell_same W4 b 6 _ 56 (.int .i64 ((i : Int) + 1)) r4
      simp only [Dsk.put, hlen, if_pos hh]
      rw [hL] at r5
      exact r5
    · simp only [Dsk.put, hlen]
      exact hO4.mod (mb W4 6 _) (fun k hk h => h3 (h ▸ hk))
  · refine ⟨cap, Z1024, true, ⟨?_, fun _ => rfl⟩, ?_, h3⟩
    · simp only [Dsk.put, hlen, if_neg hh]
      rw [hL] at r4
      exact r4
    · simp only [Dsk.put, hlen]
      exact hO4

set_option maxRecDepth 100000 in
set_option maxHeartbeats 1000000 in
theorem write_ok0 {w : World} {b : Nat} {sa : Option Addr} {D : Dsk} (h : DiskAt w b sa D) (i : Nat) (hi : i < D.secs.length) (s : ByteArray) (hr : readyF D i = 0) (hs : s.size ≤ 1024) (hn : D.secs.length ≤ 4611686018427387904) (hw0 : 0 ≤ D.writes) (hw1 : D.writes ≤ 4611686018427387904) (hl0 : D.left = 0) (_hl1 : D.left ≤ 4611686018427387904) : Calls Tryz.prog 24 #[.pointer (some ⟨b, 0, none⟩), .int .i64 i, .string s] w fun e w' => e = .returned (.int .i64 0) ∧ DiskAt w' b sa (D.put i s) ∧ Mod (diskF b sa) w w' := by
  have HR := hid (ready_any h i)
  rw [hr] at HR
  obtain ⟨cap, blank, done, h1, h2, h3⟩ := h
  have c7 : w.cell? ⟨b, 7, none⟩ = some (.int .i64 D.left) := by rw [cell_of_row _ _ _ _ _ _ h1.1]; rfl
  have HL := hid (i64_load c7)
  have H1 := hid h1
  have H2 := hid h2
  have H3 := hid h3
  have e1 : (D.left == 1) = false := by simp [hl0]
  have e2 : (D.left == 0) = true := by simp [hl0]
  obtain ⟨hh, hhh⟩ : ∃ hh, decide (D.high ≤ (i : Int)) = hh := ⟨_, rfl⟩
  cases hh
  all_goals (
    clear h1 h2 h3 hr c7
    go_enter Tryz.func24, Tryz.ntmps24
    go_wp2_with (first | (go_at_call 39; refine HR.out.mono ?_; rintro e w' ⟨rfl, rfl⟩) | (go_at_call 34; refine HL.out.mono ?_; rintro e w' ⟨rfl, rfl⟩))
    obtain ⟨L, hLe⟩ : ∃ L, L = D.left := ⟨_, rfl⟩
    have hL : L = if D.left = 0 then 0 else D.left - 1 := by rw [hLe, if_pos hl0, hl0]
    have hD2 : DiskCells w b sa D.secs.length cap blank done D.writes D.high L D.off := hLe ▸ H1.out
    have hO2 := H2.out
    have hmw : Mod (diskF b sa) w w := Mod.refl _ _
    obtain ⟨W2, rfl⟩ : ∃ W2 : World, W2 = w := ⟨_, rfl⟩
    obtain ⟨g, off, rfl⟩ := Own.some_lit hO2 (by omega)
    have t0 : W2.cell? ⟨b, 0, none⟩ = some (.slice (some ⟨g, off, none⟩) D.secs.length cap) := by rw [cell_of_row _ _ _ _ _ _ hD2.1]; rfl
    have t1 := Own.one hO2 hi
    have t2 := hO2.frozen (off + i)
    have HO2 := hid hO2
    have Hlate : Hid (∀ w1, DiskCells w1 b (some ⟨g, off, none⟩) D.secs.length cap Z1024 true D.writes D.high L D.off → Mod (fun k => k = b) W2.drew w1 → w1.cell? ⟨b, 0, none⟩ = some (.slice (some ⟨g, off, none⟩) D.secs.length cap) ∧ (∃ u, w1.cell? ⟨g, off + i, none⟩ = some u) ∧ w1.frozen? ⟨g, off + i, none⟩ = false) := by
      intro w1 hd hm
      have hO2d : Own W2.drew 9 1 (some ⟨g, off, none⟩) D.secs.length cap (D.secs.map .string) := hO2
      have hown1 := hO2d.mod hm (fun k hk h => H3.out (h ▸ hk))
      exact ⟨by rw [cell_of_row _ _ _ _ _ _ hd.1]; rfl, ⟨_, Own.one hown1 hi⟩, hown1.frozen _⟩
    have HZ := hid (zeros_any (w := W2.drew) hD2)
    have i1 : (i : Int) < (D.secs.length : Int) := by omega
    have z1 : s.size ≤ Z1024.size := by rw [Z1024_size]; exact hs
    clear hD2 hO2
    go_region_with ((go_at_call 40; refine HZ.out.mono ?_; rintro e w1 ⟨rfl, hd, hm⟩; obtain ⟨k0, ⟨u1, k1⟩, k2⟩ := Hlate.out w1 hd hm; have Hd := hid hd; have Hm := hid hm; clear hd hm))
    all_goals (
      have hm' : Mod (fun k => k = b) W2 w1 := ⟨Hm.out.os, Hm.out.tape, Hm.out.output, Hm.out.size, Hm.out.block⟩
      obtain ⟨c5, f5, c6, f6, fin1, fin2⟩ := write_mid Hd.out hm' HO2.out H3.out i hi s hL
      have HA := hid (i64_add 1 c5 f5 (by omega) (by omega))
      have HL6 := hid (i64_load c6)
      have HS6 := hid (i64_store ((i : Int) + 1) c6 f6)
      have F1 := hid fin1
      have F2 := hid fin2
      clear c5 f5 c6 f6 fin1 fin2 hm'
      generalize w1.setCell ⟨g, off + i, none⟩ (.string (s ++ Z1024.extract s.size Z1024.size)) = W3 at *
      go_wp2_with (first | (go_at_call 41; refine HA.out.mono ?_; rintro e w' ⟨rfl, rfl⟩) | (go_at_call 34; refine HL6.out.mono ?_; rintro e w' ⟨rfl, rfl⟩) | (go_at_call 37; refine HS6.out.mono ?_; rintro e w' ⟨rfl, rfl⟩))
      go_ret
      first
        | exact ⟨rfl, (F1.out (of_decide_eq_true hhh)).1, hmw.trans (F1.out (of_decide_eq_true hhh)).2⟩
        | exact ⟨rfl, (F2.out (by have := of_decide_eq_false hhh; omega)).1, hmw.trans (F2.out (by have := of_decide_eq_false hhh; omega)).2⟩))

set_option maxRecDepth 100000 in
set_option maxHeartbeats 1000000 in
theorem write_ok1 {w : World} {b : Nat} {sa : Option Addr} {D : Dsk} (h : DiskAt w b sa D) (i : Nat) (hi : i < D.secs.length) (s : ByteArray) (hr : readyF D i = 0) (hs : s.size ≤ 1024) (hn : D.secs.length ≤ 4611686018427387904) (hw0 : 0 ≤ D.writes) (hw1 : D.writes ≤ 4611686018427387904) (hl0 : 1 < D.left) (hl1 : D.left ≤ 4611686018427387904) : Calls Tryz.prog 24 #[.pointer (some ⟨b, 0, none⟩), .int .i64 i, .string s] w fun e w' => e = .returned (.int .i64 0) ∧ DiskAt w' b sa (D.put i s) ∧ Mod (diskF b sa) w w' := by
  have HR := hid (ready_any h i)
  rw [hr] at HR
  obtain ⟨cap, blank, done, h1, h2, h3⟩ := h
  have c7 : w.cell? ⟨b, 7, none⟩ = some (.int .i64 D.left) := by rw [cell_of_row _ _ _ _ _ _ h1.1]; rfl
  have HL := hid (i64_load c7)
  have H1 := hid h1
  have H2 := hid h2
  have H3 := hid h3
  have e1 : (D.left == 1) = false := by simp; omega
  have e2 : (D.left == 0) = false := by simp; omega
  have HS7 := hid (i64_store (D.left - 1) c7 (frozen_of_row _ _ _ _ _ h1.1))
  obtain ⟨hh, hhh⟩ : ∃ hh, decide (D.high ≤ (i : Int)) = hh := ⟨_, rfl⟩
  cases hh
  all_goals (
    clear h1 h2 h3 hr c7
    go_enter Tryz.func24, Tryz.ntmps24
    go_wp2_with (first | (go_at_call 39; refine HR.out.mono ?_; rintro e w' ⟨rfl, rfl⟩) | (go_at_call 34; refine HL.out.mono ?_; rintro e w' ⟨rfl, rfl⟩) | (go_at_call 37; refine HS7.out.mono ?_; rintro e w' ⟨rfl, rfl⟩))
    obtain ⟨L, hLe⟩ : ∃ L, L = D.left - 1 := ⟨_, rfl⟩
    have hL : L = if D.left = 0 then 0 else D.left - 1 := by rw [hLe, if_neg (by omega)]
    have hD2 : DiskCells (w.setCell ⟨b, 7, none⟩ (.int .i64 (D.left - 1))) b sa D.secs.length cap blank done D.writes D.high L D.off := ⟨hLe ▸ heap_setCell_same w b 7 _ 56 _ H1.out.1, H1.out.2⟩
    have hO2 := H2.out.mod (Mod.setCell (S := fun k => k = b) (p := ⟨b, 7, none⟩) (Mod.refl _ _) (fun _ => rfl) (.int .i64 (D.left - 1))) (fun k hk h => H3.out (h ▸ hk))
    have hmw : Mod (diskF b sa) w (w.setCell ⟨b, 7, none⟩ (.int .i64 (D.left - 1))) := Mod.setCell (S := diskF b sa) (p := ⟨b, 7, none⟩) (Mod.refl _ _) (fun _ => Or.inl rfl) (.int .i64 (D.left - 1))
    generalize hW : w.setCell ⟨b, 7, none⟩ (.int .i64 (D.left - 1)) = W2 at hD2 hO2 hmw ⊢
    clear hW
    obtain ⟨g, off, rfl⟩ := Own.some_lit hO2 (by omega)
    have t0 : W2.cell? ⟨b, 0, none⟩ = some (.slice (some ⟨g, off, none⟩) D.secs.length cap) := by rw [cell_of_row _ _ _ _ _ _ hD2.1]; rfl
    have t1 := Own.one hO2 hi
    have t2 := hO2.frozen (off + i)
    have HO2 := hid hO2
    have Hlate : Hid (∀ w1, DiskCells w1 b (some ⟨g, off, none⟩) D.secs.length cap Z1024 true D.writes D.high L D.off → Mod (fun k => k = b) W2.drew w1 → w1.cell? ⟨b, 0, none⟩ = some (.slice (some ⟨g, off, none⟩) D.secs.length cap) ∧ (∃ u, w1.cell? ⟨g, off + i, none⟩ = some u) ∧ w1.frozen? ⟨g, off + i, none⟩ = false) := by
      intro w1 hd hm
      have hO2d : Own W2.drew 9 1 (some ⟨g, off, none⟩) D.secs.length cap (D.secs.map .string) := hO2
      have hown1 := hO2d.mod hm (fun k hk h => H3.out (h ▸ hk))
      exact ⟨by rw [cell_of_row _ _ _ _ _ _ hd.1]; rfl, ⟨_, Own.one hown1 hi⟩, hown1.frozen _⟩
    have HZ := hid (zeros_any (w := W2.drew) hD2)
    have i1 : (i : Int) < (D.secs.length : Int) := by omega
    have z1 : s.size ≤ Z1024.size := by rw [Z1024_size]; exact hs
    clear hD2 hO2
    go_region_with ((go_at_call 40; refine HZ.out.mono ?_; rintro e w1 ⟨rfl, hd, hm⟩; obtain ⟨k0, ⟨u1, k1⟩, k2⟩ := Hlate.out w1 hd hm; have Hd := hid hd; have Hm := hid hm; clear hd hm))
    all_goals (
      have hm' : Mod (fun k => k = b) W2 w1 := ⟨Hm.out.os, Hm.out.tape, Hm.out.output, Hm.out.size, Hm.out.block⟩
      obtain ⟨c5, f5, c6, f6, fin1, fin2⟩ := write_mid Hd.out hm' HO2.out H3.out i hi s hL
      have HA := hid (i64_add 1 c5 f5 (by omega) (by omega))
      have HL6 := hid (i64_load c6)
      have HS6 := hid (i64_store ((i : Int) + 1) c6 f6)
      have F1 := hid fin1
      have F2 := hid fin2
      clear c5 f5 c6 f6 fin1 fin2 hm'
      generalize w1.setCell ⟨g, off + i, none⟩ (.string (s ++ Z1024.extract s.size Z1024.size)) = W3 at *
      go_wp2_with (first | (go_at_call 41; refine HA.out.mono ?_; rintro e w' ⟨rfl, rfl⟩) | (go_at_call 34; refine HL6.out.mono ?_; rintro e w' ⟨rfl, rfl⟩) | (go_at_call 37; refine HS6.out.mono ?_; rintro e w' ⟨rfl, rfl⟩))
      go_ret
      first
        | exact ⟨rfl, (F1.out (of_decide_eq_true hhh)).1, hmw.trans (F1.out (of_decide_eq_true hhh)).2⟩
        | exact ⟨rfl, (F2.out (by have := of_decide_eq_false hhh; omega)).1, hmw.trans (F2.out (by have := of_decide_eq_false hhh; omega)).2⟩))

/-- What Write says and leaves. -/
def writeF (D : Dsk) (i : Int) (s : ByteArray) : Int × Dsk :=
  if readyF D i ≠ 0 then (readyF D i, D) else if 1024 < s.size then (11, D) else if D.left = 1 then (12, { D with off := true }) else (0, D.put i.toNat s)

/-- The numbers of a disk lie within their bounds. -/
structure Dsk.Ok (D : Dsk) : Prop where
  n : D.secs.length ≤ 4611686018427387904
  w0 : 0 ≤ D.writes
  w1 : D.writes ≤ 4611686018427387904
  h0 : 0 ≤ D.high
  h1 : D.high ≤ 4611686018427387904
  l0 : 0 ≤ D.left
  l1 : D.left ≤ 4611686018427387904

theorem readyF_zero {D : Dsk} {i : Int} (h : readyF D i = 0) : D.off = false ∧ 0 ≤ i ∧ i < D.secs.length := by
  unfold readyF at h
  split at h
  · cases h
  · split at h
    · cases h
    · rename_i h1 h2
      exact ⟨by simpa using h1, by omega, by omega⟩

theorem write_any {w : World} {b : Nat} {sa : Option Addr} {D : Dsk} (h : DiskAt w b sa D) (ok : D.Ok) (i : Int) (s : ByteArray) (hm : s.size ≤ maxLen) : Calls Tryz.prog 24 #[.pointer (some ⟨b, 0, none⟩), .int .i64 i, .string s] w fun e w' => e = .returned (.int .i64 (writeF D i s).1) ∧ DiskAt w' b sa (writeF D i s).2 ∧ Mod (diskF b sa) w w' := by
  unfold writeF
  by_cases hr : readyF D i = 0
  · rw [if_neg (by simp [hr])]
    by_cases hs : 1024 < s.size
    · rw [if_pos hs]
      refine (write_long h i s hr hs hm).mono ?_
      rintro e w' ⟨rfl, rfl⟩
      exact ⟨rfl, h, Mod.refl _ _⟩
    · rw [if_neg hs]
      by_cases hl : D.left = 1
      · rw [if_pos hl]
        exact write_off h i s hr (by omega) hl
      · rw [if_neg hl]
        obtain ⟨_, i0, i1⟩ := readyF_zero hr
        obtain ⟨j, rfl⟩ := Int.eq_ofNat_of_zero_le i0
        by_cases hz : D.left = 0
        · exact write_ok0 h j (by omega) s hr (by omega) ok.n ok.w0 ok.w1 hz ok.l1
        · exact write_ok1 h j (by omega) s hr (by omega) ok.n ok.w0 ok.w1 (by have := ok.l0; omega) ok.l1
  · rw [if_pos hr]
    refine (write_ready h i s hr).mono ?_
    rintro e w' ⟨rfl, rfl⟩
    exact ⟨rfl, h, Mod.refl _ _⟩

end Go.Proofs.YtbfdmglmolkloaaGreatDoor
