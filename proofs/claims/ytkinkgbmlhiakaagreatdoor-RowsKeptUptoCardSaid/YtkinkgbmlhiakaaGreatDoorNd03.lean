/- merged: DiskW DiskR DiskN Dk RdL RdB Trim -/
import Derived.Test.YtkinkgbmlhiakaaGreatDoorNd02
import Derived.Lib.MinMax
import Derived.Laws.OwnMore
import Derived.Test.YtkinkgbmlhiakaaGreatDoorNd01
import Derived.Deep.QuietTactic
import Derived.BigQuiet
namespace Go.Proofs.YtkinkgbmlhiakaaGreatDoor
section
open Go Go.RowKit
theorem qSp {w : World} {b : Nat} {sa : Option Addr} {D : Dsk} (h : qAp w b sa D) (i : Int) (s : ByteArray) (hr : qBd D i ≠ 0) : Calls Tryz.prog 71 #[.pointer (some ⟨b, 0, none⟩), .int .i64 i, .string s] w fun e w' => e = .returned (.int .i64 (qBd D i)) /\ w = w' := by
 have HR := hid (qEk h i); generalize qBd D i = r at *; have e1 : (r != 0) = true := by simpa using hr
 clear h hr; go_enter Tryz.func71, Tryz.ntmps71
 go_wp2_with (go_at_call 83; refine HR.out.mono ?_; rintro e w' ⟨rfl, rfl⟩)
 go_ret; exact ⟨rfl, rfl⟩
theorem qXd {w : World} {b : Nat} {sa : Option Addr} {D : Dsk} (h : qAp w b sa D) (i : Int) (s : ByteArray) (hr : qBd D i = 0) (hs : 1024 < s.size) (hm : s.size <= maxLen) : Calls Tryz.prog 71 #[.pointer (some ⟨b, 0, none⟩), .int .i64 i, .string s] w fun e w' => e = .returned (.int .i64 11) /\ w = w' := by
 have HR := hid (qEk h i); rw [hr] at HR; unfold maxLen at hm; clear h hr; go_enter Tryz.func71, Tryz.ntmps71
 go_wp2_with (go_at_call 83; refine HR.out.mono ?_; rintro e w' ⟨rfl, rfl⟩)
 go_ret; exact ⟨rfl, rfl⟩
set_option maxRecDepth 100000
theorem qZk {w : World} {b : Nat} {sa : Option Addr} {D : Dsk} (h : qAp w b sa D) (i : Int) (s : ByteArray) (hr : qBd D i = 0) (hs : s.size <= 1024) (hl : D.left = 1) : Calls Tryz.prog 71 #[.pointer (some ⟨b, 0, none⟩), .int .i64 i, .string s] w fun e w' => e = .returned (.int .i64 12) /\ qAp w' b sa { D with off := true } /\ Mod (qBj b sa) w w' := by
 have HR := hid (qEk h i); rw [hr] at HR; obtain ⟨cap, blank, done, h1, h2, h3⟩ := h; have c7 : w.cell? ⟨b, 7, none⟩ = some (.int .i64 D.left) := by rw [cell_of_row _ _ _ _ _ _ h1.1]; rfl
 have c8 : w.cell? ⟨b, 8, none⟩ = some (.int .u32 (u32 D.off)) := by rw [cell_of_row _ _ _ _ _ _ h1.1]; rfl
 rw [hl] at c7; have HL := hid (qJh c7); have HS := hid (qYv true c8 (frozen_of_row _ _ _ _ _ h1.1)); have H1 := hid h1; have H2 := hid h2; have H3 := hid h3; clear h1 h2 h3 hr hl c7 c8; go_enter Tryz.func71, Tryz.ntmps71
 go_wp2_with (first | (go_at_call 83; refine HR.out.mono ?_; rintro e w' ⟨rfl, rfl⟩) | (go_at_call 111; refine HL.out.mono ?_; rintro e w' ⟨rfl, rfl⟩) | (go_at_call 112; refine HS.out.mono ?_; rintro e w' ⟨rfl, rfl⟩))
 go_ret; have hm : Mod (fun k => k = b) w (w.setCell ⟨b, 8, none⟩ (.int .u32 (u32 true))).drew := (Mod.setCell (S := fun k => k = b) (Mod.refl _ _) (fun _ => rfl) _).drew
 refine ⟨rfl, ⟨cap, blank, done, ⟨heap_setCell_same w b 8 _ 106 _ H1.out.1, H1.out.2⟩, H2.out.mod hm (fun k hk h => H3.out (h ▸ hk)), H3.out⟩, hm.mono fun k _ h => Or.inl h⟩
theorem qFz : qCl.size = 1024 := by
 unfold qCl; show (Lib.repeatL [0] 1024).toArray.size = 1024; rw [List.size_toArray]; decide +kernel
theorem Own.some_lit {w : World} {e : TypeId} {size : Nat} {sa : Option Addr} {n cap : Nat} {xs : List Value} (h : Own w e size sa n cap xs) (hn : 0 < n) : ∃ g off, sa = some ⟨g, off, none⟩ := by
 rcases h.2.2.2 with ⟨_, hc⟩ | ⟨g, off, cur, rfl, _⟩
 ·have := h.2.1; omega
 ·exact ⟨g, off, rfl⟩
theorem Own.one {w : World} {e : TypeId} {g off n cap : Nat} {ss : List ByteArray} (h : Own w e 1 (some ⟨g, off, none⟩) n cap (ss.map .string)) {i : Nat} (hi : i < ss.length) : w.cell? ⟨g, off + i, none⟩ = some (.string ss[i]) := by
 have := h.src.2.2 _ rfl i (.string ss[i]) (by simp [hi])
 rw [Addr.add_lit] at this; exact this
def pad (s : ByteArray) : ByteArray := s ++ qCl.extract s.size qCl.size
def Dsk.put (D : Dsk) (i : Nat) (s : ByteArray) : Dsk := { secs := D.secs.set i (pad s), writes := D.writes + 1, high := if D.high <= i then (i : Int) + 1 else D.high, left := if D.left = 0 then 0 else D.left - 1, off := D.off }
theorem qQs {W2 w1 : World} {b g off cap : Nat} {D : Dsk} {L : Int} (hd : qCm w1 b (some ⟨g, off, none⟩) D.secs.length cap qCl true D.writes D.high L D.off) (hm : Mod (fun k => k = b) W2 w1) (hO : Own W2 9 1 (some ⟨g, off, none⟩) D.secs.length cap (D.secs.map .string)) (h3 : ¬ blk (some ⟨g, off, none⟩) b) (i : Nat) (hi : i < D.secs.length) (s : ByteArray) (hL : L = if D.left = 0 then 0 else D.left - 1) :
  let W3 := w1.setCell ⟨g, off + i, none⟩ (.string (s ++ qCl.extract s.size qCl.size))
  let W4 := W3.setCell ⟨b, 5, none⟩ (.int .i64 (D.writes + 1))
  W3.cell? ⟨b, 5, none⟩ = some (.int .i64 D.writes) /\ W3.frozen? ⟨b, 5, none⟩ = false /\ W4.cell? ⟨b, 6, none⟩ = some (.int .i64 D.high) /\ W4.frozen? ⟨b, 6, none⟩ = false /\ (D.high <= i -> qAp (W4.setCell ⟨b, 6, none⟩ (.int .i64 ((i : Int) + 1))) b (some ⟨g, off, none⟩) (D.put i s) /\ Mod (qBj b (some ⟨g, off, none⟩)) W2 (W4.setCell ⟨b, 6, none⟩ (.int .i64 ((i : Int) + 1)))) /\ (¬ D.high <= i -> qAp W4 b (some ⟨g, off, none⟩) (D.put i s) /\ Mod (qBj b (some ⟨g, off, none⟩)) W2 W4) := by
 intro W3 W4; have hgb : b ≠ g := fun h => h3 ⟨_, rfl, h.symm⟩
 have hO1 := hO.mod hm (fun k hk h => h3 (h ▸ hk))
 have hO3 : Own W3 9 1 (some ⟨g, off, none⟩) D.secs.length cap ((D.secs.set i (pad s)).map .string) := by
  rw [List.map_set]; exact hO1.set i (by omega) (.string (pad s))
 have hb3 : W3.heap[b]? = w1.heap[b]? := heap_setCell_other _ _ _ _ hgb; have r3 := hb3.trans hd.1; have r4 := heap_setCell_same W3 b 5 _ 106 (.int .i64 (D.writes + 1)) r3; have hlen : (D.secs.set i (pad s)).length = D.secs.length := List.length_set; have hm3 : Mod (qBj b (some ⟨g, off, none⟩)) W2 W3 := Mod.setCell (S := qBj b (some ⟨g, off, none⟩)) (p := ⟨g, off + i, none⟩) (hm.mono fun k _ h => Or.inl h) (fun _ => Or.inr ⟨_, rfl, rfl⟩) _
 have hm4 : Mod (qBj b (some ⟨g, off, none⟩)) W2 W4 := Mod.setCell (S := qBj b (some ⟨g, off, none⟩)) hm3 (fun _ => Or.inl rfl) _
 have mb : ∀ (w : World) (o : Nat) (v : Value), Mod (fun k => k = b) w (w.setCell ⟨b, o, none⟩ v) := fun w o v => Mod.setCell (S := fun k => k = b) (Mod.refl _ _) (fun _ => rfl) _
 have hO4 : Own W4 9 1 (some ⟨g, off, none⟩) D.secs.length cap ((D.secs.set i (pad s)).map .string) := hO3.mod (mb W3 5 _) (fun k hk h => h3 (h ▸ hk))
 refine ⟨by rw [cell_of_row _ _ _ _ _ _ r3]; rfl, frozen_of_row _ _ _ _ _ r3, by rw [cell_of_row _ _ _ _ _ _ r4]; rfl, frozen_of_row _ _ _ _ _ r4, fun hh => ⟨?_, Mod.setCell (S := qBj b (some ⟨g, off, none⟩)) hm4 (fun _ => Or.inl rfl) _⟩, fun hh => ⟨?_, hm4⟩⟩
 ·refine ⟨cap, qCl, true, ⟨?_, fun _ => rfl⟩, ?_, h3⟩
  ·have r5 := heap_setCell_same W4 b 6 _ 106 (.int .i64 ((i : Int) + 1)) r4; simp only [Dsk.put, hlen, if_pos hh]; rw [hL] at r5; exact r5
  ·simp only [Dsk.put, hlen]; exact hO4.mod (mb W4 6 _) (fun k hk h => h3 (h ▸ hk))
 ·refine ⟨cap, qCl, true, ⟨?_, fun _ => rfl⟩, ?_, h3⟩
  ·simp only [Dsk.put, hlen, if_neg hh]; rw [hL] at r4; exact r4
  ·simp only [Dsk.put, hlen]; exact hO4
set_option maxHeartbeats 1000000 in
theorem qZj {w : World} {b : Nat} {sa : Option Addr} {D : Dsk} (h : qAp w b sa D) (i : Nat) (hi : i < D.secs.length) (s : ByteArray) (hr : qBd D i = 0) (hs : s.size <= 1024) (hn : D.secs.length <= 4611686018427387904) (hw0 : 0 <= D.writes) (hw1 : D.writes <= 4611686018427387904) (hl0 : D.left = 0) (_hl1 : D.left <= 4611686018427387904) : Calls Tryz.prog 71 #[.pointer (some ⟨b, 0, none⟩), .int .i64 i, .string s] w fun e w' => e = .returned (.int .i64 0) /\ qAp w' b sa (D.put i s) /\ Mod (qBj b sa) w w' := by
 have HR := hid (qEk h i); rw [hr] at HR; obtain ⟨cap, blank, done, h1, h2, h3⟩ := h; have c7 : w.cell? ⟨b, 7, none⟩ = some (.int .i64 D.left) := by rw [cell_of_row _ _ _ _ _ _ h1.1]; rfl
 have HL := hid (qJh c7); have H1 := hid h1; have H2 := hid h2; have H3 := hid h3; have e1 : (D.left == 1) = false := by simp [hl0]
 have e2 : (D.left == 0) = true := by simp [hl0]
 obtain ⟨hh, hhh⟩ : ∃ hh, decide (D.high <= (i : Int)) = hh := ⟨_, rfl⟩; cases hh
 all_goals (
  clear h1 h2 h3 hr c7; go_enter Tryz.func71, Tryz.ntmps71
  go_wp2_with (first | (go_at_call 83; refine HR.out.mono ?_; rintro e w' ⟨rfl, rfl⟩) | (go_at_call 111; refine HL.out.mono ?_; rintro e w' ⟨rfl, rfl⟩))
  obtain ⟨L, hLe⟩ : ∃ L, L = D.left := ⟨_, rfl⟩; have hL : L = if D.left = 0 then 0 else D.left - 1 := by rw [hLe, if_pos hl0, hl0]
  have hD2 : qCm w b sa D.secs.length cap blank done D.writes D.high L D.off := hLe ▸ H1.out; have hO2 := H2.out; have hmw : Mod (qBj b sa) w w := Mod.refl _ _; obtain ⟨W2, rfl⟩ : ∃ W2 : World, W2 = w := ⟨_, rfl⟩; obtain ⟨g, off, rfl⟩ := Own.some_lit hO2 (by omega)
  have t0 : W2.cell? ⟨b, 0, none⟩ = some (.slice (some ⟨g, off, none⟩) D.secs.length cap) := by rw [cell_of_row _ _ _ _ _ _ hD2.1]; rfl
  have t1 := Own.one hO2 hi; have t2 := hO2.frozen (off + i); have HO2 := hid hO2; have Hlate : Hid (∀ w1, qCm w1 b (some ⟨g, off, none⟩) D.secs.length cap qCl true D.writes D.high L D.off -> Mod (fun k => k = b) W2.drew w1 -> w1.cell? ⟨b, 0, none⟩ = some (.slice (some ⟨g, off, none⟩) D.secs.length cap) /\ (∃ u, w1.cell? ⟨g, off + i, none⟩ = some u) /\ w1.frozen? ⟨g, off + i, none⟩ = false) := by
   intro w1 hd hm; have hO2d : Own W2.drew 9 1 (some ⟨g, off, none⟩) D.secs.length cap (D.secs.map .string) := hO2; have hown1 := hO2d.mod hm (fun k hk h => H3.out (h ▸ hk))
   exact ⟨by rw [cell_of_row _ _ _ _ _ _ hd.1]; rfl, ⟨_, Own.one hown1 hi⟩, hown1.frozen _⟩
  have HZ := hid (qLt (w := W2.drew) hD2); have i1 : (i : Int) < (D.secs.length : Int) := by omega
  have z1 : s.size <= qCl.size := by rw [qFz]; exact hs
  clear hD2 hO2; go_region_with ((go_at_call 84; refine HZ.out.mono ?_; rintro e w1 ⟨rfl, hd, hm⟩; obtain ⟨k0, ⟨u1, k1⟩, k2⟩ := Hlate.out w1 hd hm; have Hd := hid hd; have Hm := hid hm; clear hd hm))
  all_goals (
   have hm' : Mod (fun k => k = b) W2 w1 := ⟨Hm.out.os, Hm.out.tape, Hm.out.output, Hm.out.size, Hm.out.block⟩
   obtain ⟨c5, f5, c6, f6, fin1, fin2⟩ := qQs Hd.out hm' HO2.out H3.out i hi s hL; have HA := hid (jCh 1 c5 f5 (by omega) (by omega))
   have HL6 := hid (qJh c6); have HS6 := hid (qMm ((i : Int) + 1) c6 f6); have F1 := hid fin1; have F2 := hid fin2; clear c5 f5 c6 f6 fin1 fin2 hm'; generalize w1.setCell ⟨g, off + i, none⟩ (.string (s ++ qCl.extract s.size qCl.size)) = W3 at *; go_wp2_with (first | (go_at_call 114; refine HA.out.mono ?_; rintro e w' ⟨rfl, rfl⟩) | (go_at_call 111; refine HL6.out.mono ?_; rintro e w' ⟨rfl, rfl⟩) | (go_at_call 113; refine HS6.out.mono ?_; rintro e w' ⟨rfl, rfl⟩))
   go_ret
   first
    | exact ⟨rfl, (F1.out (of_decide_eq_true hhh)).1, hmw.trans (F1.out (of_decide_eq_true hhh)).2⟩
    | exact ⟨rfl, (F2.out (by have := of_decide_eq_false hhh; omega)).1, hmw.trans (F2.out (by have := of_decide_eq_false hhh; omega)).2⟩))
set_option maxHeartbeats 1000000 in
theorem qZi {w : World} {b : Nat} {sa : Option Addr} {D : Dsk} (h : qAp w b sa D) (i : Nat) (hi : i < D.secs.length) (s : ByteArray) (hr : qBd D i = 0) (hs : s.size <= 1024) (hn : D.secs.length <= 4611686018427387904) (hw0 : 0 <= D.writes) (hw1 : D.writes <= 4611686018427387904) (hl0 : 1 < D.left) (hl1 : D.left <= 4611686018427387904) : Calls Tryz.prog 71 #[.pointer (some ⟨b, 0, none⟩), .int .i64 i, .string s] w fun e w' => e = .returned (.int .i64 0) /\ qAp w' b sa (D.put i s) /\ Mod (qBj b sa) w w' := by
 have HR := hid (qEk h i); rw [hr] at HR; obtain ⟨cap, blank, done, h1, h2, h3⟩ := h; have c7 : w.cell? ⟨b, 7, none⟩ = some (.int .i64 D.left) := by rw [cell_of_row _ _ _ _ _ _ h1.1]; rfl
 have HL := hid (qJh c7); have H1 := hid h1; have H2 := hid h2; have H3 := hid h3; have e1 : (D.left == 1) = false := by simp; omega
 have e2 : (D.left == 0) = false := by simp; omega
 have HS7 := hid (qMm (D.left - 1) c7 (frozen_of_row _ _ _ _ _ h1.1)); obtain ⟨hh, hhh⟩ : ∃ hh, decide (D.high <= (i : Int)) = hh := ⟨_, rfl⟩; cases hh
 all_goals (
  clear h1 h2 h3 hr c7; go_enter Tryz.func71, Tryz.ntmps71
  go_wp2_with (first | (go_at_call 83; refine HR.out.mono ?_; rintro e w' ⟨rfl, rfl⟩) | (go_at_call 111; refine HL.out.mono ?_; rintro e w' ⟨rfl, rfl⟩) | (go_at_call 113; refine HS7.out.mono ?_; rintro e w' ⟨rfl, rfl⟩))
  obtain ⟨L, hLe⟩ : ∃ L, L = D.left - 1 := ⟨_, rfl⟩; have hL : L = if D.left = 0 then 0 else D.left - 1 := by rw [hLe, if_neg (by omega)]
  have hD2 : qCm (w.setCell ⟨b, 7, none⟩ (.int .i64 (D.left - 1))) b sa D.secs.length cap blank done D.writes D.high L D.off := ⟨hLe ▸ heap_setCell_same w b 7 _ 106 _ H1.out.1, H1.out.2⟩; have hO2 := H2.out.mod (Mod.setCell (S := fun k => k = b) (p := ⟨b, 7, none⟩) (Mod.refl _ _) (fun _ => rfl) (.int .i64 (D.left - 1))) (fun k hk h => H3.out (h ▸ hk))
  have hmw : Mod (qBj b sa) w (w.setCell ⟨b, 7, none⟩ (.int .i64 (D.left - 1))) := Mod.setCell (S := qBj b sa) (p := ⟨b, 7, none⟩) (Mod.refl _ _) (fun _ => Or.inl rfl) (.int .i64 (D.left - 1))
  generalize hW : w.setCell ⟨b, 7, none⟩ (.int .i64 (D.left - 1)) = W2 at hD2 hO2 hmw ⊢; clear hW; obtain ⟨g, off, rfl⟩ := Own.some_lit hO2 (by omega)
  have t0 : W2.cell? ⟨b, 0, none⟩ = some (.slice (some ⟨g, off, none⟩) D.secs.length cap) := by rw [cell_of_row _ _ _ _ _ _ hD2.1]; rfl
  have t1 := Own.one hO2 hi; have t2 := hO2.frozen (off + i); have HO2 := hid hO2; have Hlate : Hid (∀ w1, qCm w1 b (some ⟨g, off, none⟩) D.secs.length cap qCl true D.writes D.high L D.off -> Mod (fun k => k = b) W2.drew w1 -> w1.cell? ⟨b, 0, none⟩ = some (.slice (some ⟨g, off, none⟩) D.secs.length cap) /\ (∃ u, w1.cell? ⟨g, off + i, none⟩ = some u) /\ w1.frozen? ⟨g, off + i, none⟩ = false) := by
   intro w1 hd hm; have hO2d : Own W2.drew 9 1 (some ⟨g, off, none⟩) D.secs.length cap (D.secs.map .string) := hO2; have hown1 := hO2d.mod hm (fun k hk h => H3.out (h ▸ hk))
   exact ⟨by rw [cell_of_row _ _ _ _ _ _ hd.1]; rfl, ⟨_, Own.one hown1 hi⟩, hown1.frozen _⟩
  have HZ := hid (qLt (w := W2.drew) hD2); have i1 : (i : Int) < (D.secs.length : Int) := by omega
  have z1 : s.size <= qCl.size := by rw [qFz]; exact hs
  clear hD2 hO2; go_region_with ((go_at_call 84; refine HZ.out.mono ?_; rintro e w1 ⟨rfl, hd, hm⟩; obtain ⟨k0, ⟨u1, k1⟩, k2⟩ := Hlate.out w1 hd hm; have Hd := hid hd; have Hm := hid hm; clear hd hm))
  all_goals (
   have hm' : Mod (fun k => k = b) W2 w1 := ⟨Hm.out.os, Hm.out.tape, Hm.out.output, Hm.out.size, Hm.out.block⟩
   obtain ⟨c5, f5, c6, f6, fin1, fin2⟩ := qQs Hd.out hm' HO2.out H3.out i hi s hL; have HA := hid (jCh 1 c5 f5 (by omega) (by omega))
   have HL6 := hid (qJh c6); have HS6 := hid (qMm ((i : Int) + 1) c6 f6); have F1 := hid fin1; have F2 := hid fin2; clear c5 f5 c6 f6 fin1 fin2 hm'; generalize w1.setCell ⟨g, off + i, none⟩ (.string (s ++ qCl.extract s.size qCl.size)) = W3 at *; go_wp2_with (first | (go_at_call 114; refine HA.out.mono ?_; rintro e w' ⟨rfl, rfl⟩) | (go_at_call 111; refine HL6.out.mono ?_; rintro e w' ⟨rfl, rfl⟩) | (go_at_call 113; refine HS6.out.mono ?_; rintro e w' ⟨rfl, rfl⟩))
   go_ret
   first
    | exact ⟨rfl, (F1.out (of_decide_eq_true hhh)).1, hmw.trans (F1.out (of_decide_eq_true hhh)).2⟩
    | exact ⟨rfl, (F2.out (by have := of_decide_eq_false hhh; omega)).1, hmw.trans (F2.out (by have := of_decide_eq_false hhh; omega)).2⟩))
def qAz (D : Dsk) (i : Int) (s : ByteArray) : Int × Dsk :=
 if qBd D i ≠ 0 then (qBd D i, D) else if 1024 < s.size then (11, D) else if D.left = 1 then (12, { D with off := true }) else (0, D.put i.toNat s)
structure Dsk.Ok (D : Dsk) : Prop where
 n : D.secs.length <= 4611686018427387904
 w0 : 0 <= D.writes
 w1 : D.writes <= 4611686018427387904
 h0 : 0 <= D.high
 h1 : D.high <= 4611686018427387904
 l0 : 0 <= D.left
 l1 : D.left <= 4611686018427387904
theorem qId {D : Dsk} {i : Int} (h : qBd D i = 0) : D.off = false /\ 0 <= i /\ i < D.secs.length := by
 unfold qBd at h; split at h
 ·cases h
 ·split at h
  ·cases h
  ·rename_i h1 h2
   exact ⟨by simpa using h1, by omega, by omega⟩
theorem qIo {w : World} {b : Nat} {sa : Option Addr} {D : Dsk} (h : qAp w b sa D) (ok : D.Ok) (i : Int) (s : ByteArray) (hm : s.size <= maxLen) : Calls Tryz.prog 71 #[.pointer (some ⟨b, 0, none⟩), .int .i64 i, .string s] w fun e w' => e = .returned (.int .i64 (qAz D i s).1) /\ qAp w' b sa (qAz D i s).2 /\ Mod (qBj b sa) w w' := by
 unfold qAz; by_cases hr : qBd D i = 0
 ·rw [if_neg (by simp [hr])]
  by_cases hs : 1024 < s.size
  ·rw [if_pos hs]; refine (qXd h i s hr hs hm).mono ?_; rintro e w' ⟨rfl, rfl⟩; exact ⟨rfl, h, Mod.refl _ _⟩
  ·rw [if_neg hs]; by_cases hl : D.left = 1
   ·rw [if_pos hl]; exact qZk h i s hr (by omega) hl
   ·rw [if_neg hl]; obtain ⟨_, i0, i1⟩ := qId hr; obtain ⟨j, rfl⟩ := Int.eq_ofNat_of_zero_le i0; by_cases hz : D.left = 0
    ·exact qZj h j (by omega) s hr (by omega) ok.n ok.w0 ok.w1 hz ok.l1
    ·exact qZi h j (by omega) s hr (by omega) ok.n ok.w0 ok.w1 (by have := ok.l0; omega) ok.l1
 ·rw [if_pos hr]; refine (qSp h i s hr).mono ?_; rintro e w' ⟨rfl, rfl⟩; exact ⟨rfl, h, Mod.refl _ _⟩
end
section
open Go Go.RowKit
def qDm (D : Dsk) (i : Int) : ByteArray × Int :=
 if qBd D i ≠ 0 then (⟨#[]⟩, qBd D i) else if ((D.secs[i.toNat]?).getD ⟨#[]⟩).toList.isEmpty = true then (qCl, 0) else ((D.secs[i.toNat]?).getD ⟨#[]⟩, 0)
theorem qXu {w : World} {b : Nat} {sa : Option Addr} {D : Dsk} (h : qAp w b sa D) (i : Int) (hr : qBd D i ≠ 0) : Calls Tryz.prog 43 #[.pointer (some ⟨b, 0, none⟩), .int .i64 i] w fun e w' => e = .returned (.tuple #[.string ⟨#[]⟩, .int .i64 (qBd D i)]) /\ w = w' := by
 have HR := hid (qEk h i); generalize qBd D i = r at *; have e1 : (r != 0) = true := by simpa using hr
 clear h hr; go_enter Tryz.func43, Tryz.ntmps43
 go_wp2_with (go_at_call 83; refine HR.out.mono ?_; rintro e w' ⟨rfl, rfl⟩)
 go_ret2; exact ⟨rfl, rfl⟩
set_option maxRecDepth 100000
theorem qXv {w : World} {b : Nat} {sa : Option Addr} {D : Dsk} (h : qAp w b sa D) (i : Nat) (hi : i < D.secs.length) (hr : qBd D i = 0) (hb : D.secs[i].toList.isEmpty = true) : Calls Tryz.prog 43 #[.pointer (some ⟨b, 0, none⟩), .int .i64 i] w fun e w' => e = .returned (.tuple #[.string qCl, .int .i64 0]) /\ qAp w' b sa D /\ Mod (qBj b sa) w w' := by
 have HR := hid (qEk h i); rw [hr] at HR; obtain ⟨cap, blank, done, h1, h2, h3⟩ := h; obtain ⟨g, off, rfl⟩ := Own.some_lit h2 (by omega)
 have t0 : w.cell? ⟨b, 0, none⟩ = some (.slice (some ⟨g, off, none⟩) D.secs.length cap) := by rw [cell_of_row _ _ _ _ _ _ h1.1]; rfl
 have t1 := Own.one h2 hi; have HZ := hid (qLt (w := w) h1); have H2 := hid h2; have H3 := hid h3; have i1 : (i : Int) < (D.secs.length : Int) := by omega
 clear h1 h2 h3 hr; go_enter Tryz.func43, Tryz.ntmps43
 go_wp2_with (first | (go_at_call 83; refine HR.out.mono ?_; rintro e w' ⟨rfl, rfl⟩) | (go_at_call 84; refine HZ.out.mono ?_; rintro e w1 ⟨rfl, hd, hm⟩; have Hd := hid hd; have Hm := hid hm; clear hd hm))
 go_ret2; exact ⟨rfl, ⟨cap, qCl, true, Hd.out, H2.out.mod Hm.out (fun k hk h => H3.out (h ▸ hk)), H3.out⟩, Hm.out.mono fun k _ h => Or.inl h⟩
theorem jAs {w : World} {b : Nat} {sa : Option Addr} {D : Dsk} (h : qAp w b sa D) (i : Nat) (hi : i < D.secs.length) (hr : qBd D i = 0) (hb : D.secs[i].toList.isEmpty = false) : Calls Tryz.prog 43 #[.pointer (some ⟨b, 0, none⟩), .int .i64 i] w fun e w' => e = .returned (.tuple #[.string D.secs[i], .int .i64 0]) /\ w = w' := by
 have HR := hid (qEk h i); rw [hr] at HR; obtain ⟨cap, blank, done, h1, h2, h3⟩ := h; obtain ⟨g, off, rfl⟩ := Own.some_lit h2 (by omega)
 have t0 : w.cell? ⟨b, 0, none⟩ = some (.slice (some ⟨g, off, none⟩) D.secs.length cap) := by rw [cell_of_row _ _ _ _ _ _ h1.1]; rfl
 have t1 := Own.one h2 hi; have i1 : (i : Int) < (D.secs.length : Int) := by omega
 clear h1 h2 h3 hr; go_enter Tryz.func43, Tryz.ntmps43
 go_wp2_with (first | (go_at_call 83; refine HR.out.mono ?_; rintro e w' ⟨rfl, rfl⟩))
 go_ret2; exact ⟨rfl, rfl⟩
theorem qPc {w : World} {b : Nat} {sa : Option Addr} {D : Dsk} (h : qAp w b sa D) (i : Int) : Calls Tryz.prog 43 #[.pointer (some ⟨b, 0, none⟩), .int .i64 i] w fun e w' => e = .returned (.tuple #[.string (qDm D i).1, .int .i64 (qDm D i).2]) /\ qAp w' b sa D /\ Mod (qBj b sa) w w' := by
 unfold qDm; by_cases hr : qBd D i = 0
 ·rw [if_neg (by simp [hr])]
  obtain ⟨_, i0, i1⟩ := qId hr; obtain ⟨j, rfl⟩ := Int.eq_ofNat_of_zero_le i0; have hj : j < D.secs.length := by omega
  have e1 : (D.secs[(j : Int).toNat]?).getD ⟨#[]⟩ = D.secs[j] := by simp [hj]
  rw [e1]; cases hb : D.secs[j].toList.isEmpty
  ·refine (jAs h j hj hr hb).mono ?_; rintro e w' ⟨rfl, rfl⟩; exact ⟨rfl, h, Mod.refl _ _⟩
  ·exact qXv h j hj hr hb
 ·rw [if_pos hr]; refine (qXu h i hr).mono ?_; rintro e w' ⟨rfl, rfl⟩; exact ⟨rfl, h, Mod.refl _ _⟩
end
section
open Go Go.RowKit
def newD (n : Int) : Dsk := { secs := List.replicate (max 0 (min n 16384)).toNat ⟨#[]⟩, writes := 0, high := 0, left := 0, off := false }
theorem jGs : (Tryz.prog.info? 9).map (fun i => (i.zero, i.size, i.bytes)) = some (some (.string ⟨#[]⟩), 1, 16) := by kernel_rfl
theorem jJg {w : World} (n : Int) : Calls Tryz.prog 8 #[.int .i64 n] w fun e w' => ∃ b sa, e = .returned (.pointer (some ⟨b, 0, none⟩)) /\ w.heap.size <= b /\ (∀ k, blk sa k -> w.heap.size <= k) /\ qAp w' b sa (newD n) /\ Mod (fun _ => False) w w' := by
 obtain ⟨i0, hi, hz0, hz1, hz2⟩ := info_parts jGs; obtain ⟨x, hx⟩ : ∃ x, max 0 (min n 16384) = x := ⟨_, rfl⟩; have b1 : 0 <= x := by omega
 have b2 : x <= 16384 := by omega
 have hmk := fun W : World => run_makeSlice (P := Tryz.prog) W 68 9 i0 (.string ⟨#[]⟩) Tryz.underlying68 hi hz0 .i64 .i64 x x b1 (Int.le_refl _) (by rw [hz1]; omega) (by rw [hz2]; omega) (by omega)
 rw [hz1] at hmk; go_enter Tryz.func8, Tryz.ntmps8
 go_wp2
 go_ret; have e1 : (max 0 (min n 16384)).toNat = x.toNat := by rw [hx]
 refine ⟨w.heap.size + 1, some ⟨w.heap.size, 0, none⟩, rfl, by omega, ?_, ⟨x.toNat, ⟨#[]⟩, false, ⟨?_, fun h => by cases h⟩, ?_, ?_⟩, (Mod.refl _ w).alloc _ |>.alloc _⟩
 ·rintro k ⟨a, ha, rfl⟩; cases ha
  exact Nat.le_refl _
 ·show ((w.heap.push _).push _)[w.heap.size + 1]? = _; rw [Array.getElem?_push, if_pos (by simp)]
  simp [newD, e1, u32]
 ·refine ⟨by simp [newD], by simp [newD, e1], ?_, .inr ⟨w.heap.size, 0, madeCells #[Value.string ⟨#[]⟩] x.toNat, rfl, ?_, ?_, ?_⟩⟩
  ·unfold maxLen; omega
  ·show ((w.heap.push _).push _)[w.heap.size]? = _; rw [Array.getElem?_push, if_neg (by simp), Array.getElem?_push, if_pos rfl]
  ·rw [size_madeCells]; omega
  ·rw [toList_madeCells_one]; simp [newD, e1]
 ·rintro ⟨a, ha, hb⟩; cases ha
  simp at hb
end
section
open Go Go.RowKit
theorem qLz (b : UInt8) : ∀ c, Lib.repeatL [b] c = List.replicate c b
 | 0 => rfl
 | c + 1 => by rw [Lib.repeatL, qLz b c]; rfl
theorem qHr : qCl.data.toList = List.replicate 1024 0 := by
 unfold qCl; rw [List.toList_toArray, qLz]
theorem qLk {s : ByteArray} (h : s.size <= 1024) : (pad s).size = 1024 := by
 unfold pad; rw [ByteArray.size_append, ByteArray.size_extract, qFz]; omega
theorem qPi (s : ByteArray) : (pad s).data.toList = s.data.toList ++ List.replicate (1024 - s.size) 0 := by
 unfold pad; rw [ByteArray.data_append, ByteArray.data_extract, Array.toList_append, Array.toList_extract, qHr, qFz, List.extract_eq_take_drop, List.drop_replicate, List.take_replicate, Nat.min_self]
theorem jFm {s : ByteArray} (h : s.size <= 1024) : (pad s).toList.isEmpty = false := by
 have hs := qLk h; rw [Lib.toList_data]; cases hl : (pad s).data.toList with
 | nil =>
  have : (pad s).data.size = 0 := by rw [<- Array.length_toList, hl]; rfl
  have e : (pad s).size = (pad s).data.size := rfl; omega
 | cons x r => rfl
def full (s : ByteArray) : ByteArray := if s.toList.isEmpty = true then qCl else s
theorem jHd {s : ByteArray} (h : s.size <= 1024) : full (pad s) = pad s := by
 unfold full; rw [if_neg (by rw [jFm h]; decide)]
theorem qPe (D : Dsk) (i : Int) : qDm D i = if qBd D i ≠ 0 then (⟨#[]⟩, qBd D i) else (full ((D.secs[i.toNat]?).getD ⟨#[]⟩), 0) := by
 unfold qDm full; split
 ·rfl
 ·split <;> rfl
theorem qZl {D : Dsk} (ho : D.off = false) (hl : D.left = 0) (i : Int) (s : ByteArray) : qAz D i s = if i < 0 \/ D.secs.length <= i then (10, D) else if 1024 < s.size then (11, D) else (0, D.put i.toNat s) := by
 unfold qAz qBd; rw [ho, hl]; simp only [Bool.false_eq_true, if_false]; split <;> simp
theorem qEv (D : Dsk) (i : Nat) (s : ByteArray) : (D.put i s).secs.length = D.secs.length := by simp [Dsk.put]
theorem jHe : full ⟨#[]⟩ = qCl := by
 unfold full; rw [if_pos (by rw [Lib.toList_data]; rfl)]
theorem jIx (D : Dsk) (i j : Nat) (s : ByteArray) (hi : i < D.secs.length) : ((D.put i s).secs[j]?).getD ⟨#[]⟩ = if j = i then pad s else (D.secs[j]?).getD ⟨#[]⟩ := by
 simp only [Dsk.put, List.getElem?_set]; by_cases h : i = j
 ·subst h; simp [hi]
 ·rw [if_neg h, if_neg (fun e => h e.symm)]
theorem jFk (D : Dsk) (i j : Nat) (s : ByteArray) (hi : i < D.secs.length) (hs : s.size <= 1024) : full (((D.put i s).secs[j]?).getD ⟨#[]⟩) = if j = i then pad s else full ((D.secs[j]?).getD ⟨#[]⟩) := by
 rw [jIx D i j s hi]; split
 ·exact jHd hs
 ·rfl
end
section
structure RU where
 v : Nat
 n : Nat
 e : Nat
def rdU : Nat -> List UInt8 -> RU
 | _, [] => ⟨0, 0, 20⟩
 | i, b :: r => if (i = 9 /\ 1 < b.toNat) \/ (0 < i /\ b.toNat = 0) \/ 9 < i then ⟨0, 0, 21⟩ else if b.toNat < 128 then ⟨b.toNat, 1, 0⟩ else if (rdU (i + 1) r).e = 0 then ⟨b.toNat - 128 + 128 * (rdU (i + 1) r).v, (rdU (i + 1) r).n + 1, 0⟩ else ⟨0, 0, (rdU (i + 1) r).e⟩
def ahead (v i : Nat) (x : RU) : RU := if x.e = 0 then ⟨v + 128 ^ i * x.v, i + x.n, 0⟩ else ⟨0, 0, x.e⟩
theorem qTc (i : Nat) : rdU i [] = ⟨0, 0, 20⟩ := by simp [rdU]
theorem qTd {i : Nat} {b : UInt8} {r : List UInt8} (h : (i = 9 /\ 1 < b.toNat) \/ (0 < i /\ b.toNat = 0)) : rdU i (b :: r) = ⟨0, 0, 21⟩ := by
 rw [rdU, if_pos]; rcases h with h | h
 ·exact .inl h
 ·exact .inr (.inl h)
theorem qMa {i : Nat} {b : UInt8} {r : List UInt8} (h1 : ¬ (i = 9 /\ 1 < b.toNat)) (h2 : ¬ (0 < i /\ b.toNat = 0)) (h3 : i <= 9) (h4 : b.toNat < 128) : rdU i (b :: r) = ⟨b.toNat, 1, 0⟩ := by
 rw [rdU, if_neg (by rintro (h | h | h); exact h1 h; exact h2 h; omega), if_pos h4]
theorem qVe {i : Nat} {b : UInt8} {r : List UInt8} (h3 : i < 9) (h4 : ¬ b.toNat < 128) : rdU i (b :: r) = if (rdU (i + 1) r).e = 0 then ⟨b.toNat - 128 + 128 * (rdU (i + 1) r).v, (rdU (i + 1) r).n + 1, 0⟩ else ⟨0, 0, (rdU (i + 1) r).e⟩ := by
 rw [rdU, if_neg (by rintro (h | h | h) <;> omega), if_neg h4]
theorem qZc (x : RU) (h : x.e ≠ 0 -> x = ⟨0, 0, x.e⟩) : ahead 0 0 x = x := by
 unfold ahead; split
 ·next h0 => cases x; simp at h0 ⊢; exact h0.symm
 ·next h0 => exact (h h0).symm
theorem jFj : ∀ (i : Nat) (l : List UInt8), (rdU i l).e ≠ 0 -> rdU i l = ⟨0, 0, (rdU i l).e⟩
 | i, [] => by simp [rdU]
 | i, b :: r => by
  rw [rdU]; split
  ·simp
  ·split
   ·simp
   ·split <;> simp
theorem qZd {v i : Nat} {b : UInt8} {r : List UInt8} (h3 : i < 9) (h4 : ¬ b.toNat < 128) : ahead v i (rdU i (b :: r)) = ahead (v + 128 ^ i * (b.toNat - 128)) (i + 1) (rdU (i + 1) r) := by
 rw [qVe h3 h4]; unfold ahead; by_cases h : (rdU (i + 1) r).e = 0
 ·simp only [h, if_true]; rw [RU.mk.injEq]; refine ⟨?_, by omega, rfl⟩
  rw [Nat.mul_add, Nat.pow_succ, Nat.mul_assoc]; omega
 ·simp only [h, if_false]
def qFo : Nat := 2 ^ 64
theorem qQw : 0 < qFo := Nat.two_pow_pos 64
theorem qGo : ∀ (l : List UInt8) (i : Nat), (rdU i l).n <= l.length /\ ((rdU i l).e = 0 -> 1 <= (rdU i l).n) /\ ((rdU i l).e = 0 \/ (rdU i l).e = 20 \/ (rdU i l).e = 21) /\ (i <= 9 -> (rdU i l).v * 128 ^ i < qFo)
 | [], i => by
  rw [qTc]; refine ⟨Nat.le_refl _, fun h => by simp at h, .inr (.inl rfl), fun _ => ?_⟩
  rw [Nat.zero_mul]; exact Nat.two_pow_pos 64
 | b :: r, i => by
  obtain ⟨h1, h2, h3, h4⟩ := qGo r (i + 1); rw [rdU]; have hb := b.toNat_lt; split
  ·exact ⟨by simp, fun h => by simp at h, .inr (.inr rfl), fun _ => by rw [Nat.zero_mul]; exact qQw⟩
  ·next hc =>
   have hi : i <= 9 := by omega
   split
   ·next hlt =>
    refine ⟨by simp, by simp, by simp, fun _ => ?_⟩
    by_cases h9 : i = 9
    ·subst h9; have : b.toNat <= 1 := by omega
     show b.toNat * 128 ^ 9 < qFo; have : qFo = 2 * 128 ^ 9 := by decide
     rw [this]; exact Nat.mul_lt_mul_of_pos_right (by omega) (Nat.pow_pos (by omega))
    ·have : 128 ^ i <= 128 ^ 8 := Nat.pow_le_pow_right (by omega) (by omega)
     show b.toNat * 128 ^ i < qFo; have h7 : b.toNat * 128 ^ i <= 127 * 128 ^ 8 := Nat.mul_le_mul (by omega) this
     have h8 : 127 * 128 ^ 8 < qFo := by decide
     omega
   ·next hge =>
    split
    ·next he =>
     have h9 : i < 9 := by
      rcases Nat.lt_or_ge i 9 with h | h
      ·exact h
      ·have : i = 9 := by omega
       omega
     refine ⟨by simp; omega, by simp, by simp, fun _ => ?_⟩
     show (b.toNat - 128 + 128 * (rdU (i + 1) r).v) * 128 ^ i < qFo; have h5 := h4 (by omega)
     rw [Nat.pow_succ] at h5; have hp : (0 : Nat) < 128 ^ i := Nat.pow_pos (by omega)
     have h6 : (b.toNat - 128 + 128 * (rdU (i + 1) r).v) * 128 ^ i < (128 * ((rdU (i + 1) r).v + 1)) * 128 ^ i := Nat.mul_lt_mul_of_pos_right (by omega) hp
     have h7 : (rdU (i + 1) r).v * (128 ^ i * 128) + 128 ^ i * 128 <= qFo := by
      have d : 128 ^ i * 128 ∣ qFo := by
       unfold qFo; rw [<- Nat.pow_succ, show (128 : Nat) = 2 ^ 7 from rfl, <- Nat.pow_mul]
       exact Nat.pow_dvd_pow 2 (by omega)
      obtain ⟨q, hq⟩ := d; rw [hq] at h5 ⊢; rw [Nat.mul_comm] at h5; have h8 := Nat.lt_of_mul_lt_mul_left h5; rw [<- Nat.succ_mul, Nat.mul_comm]; exact Nat.mul_le_mul_left _ h8
     have h8 : (128 * ((rdU (i + 1) r).v + 1)) * 128 ^ i = (rdU (i + 1) r).v * (128 ^ i * 128) + 128 ^ i * 128 := by
      rw [Nat.mul_comm 128, Nat.mul_assoc, Nat.mul_comm 128, Nat.add_mul, Nat.one_mul]
     omega
    ·next he =>
     refine ⟨by simp, fun h => absurd h he, ?_, fun _ => by rw [Nat.zero_mul]; exact qQw⟩
     rcases h3 with h | h | h
     ·exact absurd h he
     ·exact .inr (.inl h)
     ·exact .inr (.inr h)
end
section
open Go Go.RowKit
theorem jFi (r : List UInt8) : ∀ (k n i : Nat), n <= k -> n * 128 ^ i < qFo -> (0 < i -> 0 < n) -> rdU i (uvar n ++ r) = ⟨n, (uvar n).length, 0⟩ := by
 intro k; induction k with
 | zero =>
  intro n i hk hn h0; obtain rfl : n = 0 := by omega
  have hi : i = 0 := by omega
  subst hi; rw [qCn (by omega), List.singleton_append, qMa (by omega) (by omega) (by omega) (by decide)]
  rfl
 | succ k ih =>
  intro n i hk hn h0; have hi9 : i <= 9 /\ (i = 9 -> n <= 1) /\ (128 <= n -> i < 9) := by
   have t9 : qFo = 2 * 128 ^ 9 := by decide
   rw [t9] at hn; by_cases hz : n = 0
   ·subst hz; have : i = 0 := by omega
    subst this; omega
   ·have hle : i <= 9 := by
     rcases Nat.lt_or_ge 9 i with h | h
     ·have h1 : 128 ^ 10 <= 128 ^ i := Nat.pow_le_pow_right (by omega) h
      have h2 : 1 * 128 ^ 10 <= n * 128 ^ i := Nat.mul_le_mul (by omega) h1
      have h3 : 2 * 128 ^ 9 < 1 * 128 ^ 10 := by decide
      omega
     ·exact h
    refine ⟨hle, fun h => ?_, fun h => ?_⟩
    ·subst h; have := Nat.lt_of_mul_lt_mul_right hn; omega
    ·rcases Nat.lt_or_ge i 9 with h2 | h2
     ·exact h2
     ·have : i = 9 := by omega
      subst this; have := Nat.lt_of_mul_lt_mul_right hn; omega
  by_cases hlt : n <= 127
  ·rw [qCn hlt, List.singleton_append]; have e := qDi n (by omega)
   rw [qMa (by rw [e]; rintro ⟨h1, h2⟩; have := hi9.2.1 h1; omega) (by rw [e]; rintro ⟨h1, h2⟩; have := h0 h1; omega) hi9.1 (by rw [e]; omega), e]
   rfl
  ·rw [qLj hlt, List.cons_append]; have e := qDi (n % 128 + 128) (by omega)
   have hd : n / 128 * 128 ^ (i + 1) < qFo := by
    rw [Nat.pow_succ]; refine Nat.lt_of_le_of_lt ?_ hn; rw [Nat.mul_comm (128 ^ i), <- Nat.mul_assoc]; exact Nat.mul_le_mul_right _ (Nat.div_mul_le_self n 128)
   have ihn := ih (n / 128) (i + 1) (by omega) hd (fun _ => by omega)
   rw [qVe (hi9.2.2 (by omega)) (by rw [e]; omega), ihn, e]
   simp only [if_true, List.length_cons]; rw [RU.mk.injEq]; exact ⟨by omega, rfl, rfl⟩
theorem jIb {s : ByteArray} {a n : Nat} {r : List UInt8} (h : s.data.toList.drop a = uvar n ++ r) (hn : n < qFo) : rdU 0 (s.data.toList.drop a) = ⟨n, (uvar n).length, 0⟩ := by
 rw [h]; exact jFi r n n 0 (Nat.le_refl _) (by rw [Nat.pow_zero, Nat.mul_one]; exact hn) (fun h => by omega)
theorem qKs {s : ByteArray} {a : Nat} {p r : List UInt8} (h : s.data.toList.drop a = p ++ r) : s.data.toList.drop (a + p.length) = r := by
 rw [<- List.drop_drop, h, List.drop_left]
end
section
open Go Go.RowKit
def trL (l : List UInt8) : List UInt8 := l.dropWhile (· == 0)
def trR (l : List UInt8) : List UInt8 := (l.reverse.dropWhile (· == 0)).reverse
theorem qUw {l : List UInt8} {b : UInt8} (h : b.toNat = 0) : trL (b :: l) = trL l := by
 have : b = 0 := UInt8.toNat_inj.1 h; unfold trL; rw [this, List.dropWhile_cons_of_pos (by rfl)]
theorem qUx {l : List UInt8} {b : UInt8} (h : b.toNat ≠ 0) : trL (b :: l) = b :: l := by
 unfold trL; rw [List.dropWhile_cons_of_neg]
 intro hb; exact h (by rw [beq_iff_eq.1 hb]; rfl)
theorem jEm {l : List UInt8} {b : UInt8} (h : b.toNat = 0) : trR (l ++ [b]) = trR l := by
 have : b = 0 := UInt8.toNat_inj.1 h; unfold trR; rw [this, List.reverse_append, List.reverse_singleton, List.singleton_append, List.dropWhile_cons_of_pos (by rfl)]
theorem jEn {l : List UInt8} {b : UInt8} (h : b.toNat ≠ 0) : trR (l ++ [b]) = l ++ [b] := by
 unfold trR; rw [List.reverse_append, List.reverse_singleton, List.singleton_append, List.dropWhile_cons_of_neg, List.reverse_cons, List.reverse_reverse]
 intro hb; exact h (by rw [beq_iff_eq.1 hb]; rfl)
def AllZ (l : List UInt8) : Prop := ∀ b ∈ l, b = 0
theorem jIp {l : List UInt8} : trL l = [] ↔ AllZ l := by
 induction l with
 | nil => exact ⟨fun _ b hb => (by cases hb), fun _ => rfl⟩
 | cons b r ih =>
  by_cases h : b.toNat = 0
  ·rw [qUw h, ih]; have : b = 0 := UInt8.toNat_inj.1 h; exact ⟨fun h2 x hx => by rcases List.mem_cons.1 hx with rfl | hx; exact this; exact h2 x hx, fun h2 x hx => h2 x (List.mem_cons_of_mem _ hx)⟩
  ·rw [qUx h]; exact ⟨fun h2 => (by cases h2), fun h2 => absurd (by rw [h2 b List.mem_cons_self]; rfl) h⟩
theorem jEp {l : List UInt8} : AllZ (trR l) ↔ AllZ l := by
 constructor
 ·intro h b hb; have : l.reverse = l.reverse.takeWhile (· == 0) ++ l.reverse.dropWhile (· == 0) := (List.takeWhile_append_dropWhile).symm; have hb' : b ∈ l.reverse := List.mem_reverse.2 hb; rw [this] at hb'; rcases List.mem_append.1 hb' with h1 | h1
  ·exact beq_iff_eq.1 (List.all_eq_true.1 List.all_takeWhile b h1)
  ·exact h b (List.mem_reverse.2 h1)
 ·intro h b hb; exact h b (List.mem_reverse.1 ((List.dropWhile_suffix _).subset (List.mem_reverse.1 hb)))
theorem jEk (l : List UInt8) : trL (trR l) = [] ↔ AllZ l := jIp.trans jEp
def mkB (l : List UInt8) : ByteArray := ⟨l.toArray⟩
theorem qVs {t : ByteArray} {l : List UInt8} (h : t.data.toList = l) : t = mkB l := by
 unfold mkB; rw [<- h]
theorem qZz {t : ByteArray} (h : 0 < t.size) : t.data.toList = t[0] :: (t.extract 1 t.size).data.toList := by
 have e : t.data.toList.length = t.size := rfl; rw [ByteArray.data_extract, Array.toList_extract, List.extract_eq_take_drop, List.take_of_length_le (by rw [List.length_drop]; omega)]
 have := List.drop_eq_getElem_cons (l := t.data.toList) (i := 0) (by omega)
 rw [List.drop_zero] at this; exact this
theorem jBr {t : ByteArray} (h : 0 < t.size) : t.data.toList = (t.extract 0 (t.size - 1)).data.toList ++ [t[t.size - 1]] := by
 have e : t.data.toList.length = t.size := rfl; rw [ByteArray.data_extract, Array.toList_extract, List.extract_eq_take_drop, List.drop_zero, Nat.sub_zero]; have := List.take_succ_eq_append_getElem (l := t.data.toList) (i := t.size - 1) (by omega)
 rw [show t.size - 1 + 1 = t.size by omega, List.take_of_length_le (by omega)] at this
 exact this
set_option maxRecDepth 100000
theorem qQx (s : ByteArray) (w : World) (_hs : s.size <= maxLen) : Calls Tryz.prog 47 #[.string s, .int .u8 0] w fun e w' => e = .returned (.string (mkB (trL s.data.toList))) /\ w = w' := by
 go_enter Tryz.func47, Tryz.ntmps47
 go_wp2
 go_loop [0] (fun c => ∃ t : ByteArray, t.size <= s.size /\ c = .string t /\ trL t.data.toList = trL s.data.toList) (fun c => match c with | .string t => t.size | _ => 0)
 case atStart => exact ⟨s, Nat.le_refl _, rfl, rfl⟩
 case round =>
  obtain ⟨t, hle, rfl, hq⟩ := hrel; have HQ := hid hq; clear hq; by_cases h0 : 0 < t.size
  ·have hl := qZz h0; have HL := hid hl; clear hl; by_cases hz : t[0].toNat = 0
   ·have z : ((t[0].toNat : Int) == 0) = true := by rw [beq_iff_eq]; omega
    have HN : Hid (trL (t.extract 1 t.size).data.toList = trL s.data.toList) := hid (by rw [<- HQ.out, HL.out, qUw hz])
    clear hz; go_wp2_with fail
    go_round
    case rel => exact ⟨_, by rw [ByteArray.size_extract]; omega, rfl, HN.out⟩
    case measure => simp; omega
   ·have z : ((t[0].toNat : Int) == 0) = false := by rw [beq_eq_false_iff_ne]; omega
    have HA : Hid (t = mkB (trL s.data.toList)) := hid (qVs (by rw [<- HQ.out, HL.out, qUx hz]))
    clear hz; go_wp2_with fail
    go_ret; exact ⟨congrArg (fun x => Ending.returned (.string x)) HA.out, rfl⟩
  ·have HA : Hid (t = mkB (trL s.data.toList)) := hid (qVs (by rw [<- HQ.out, Array.toList_eq_nil_iff.2 (Array.eq_empty_of_size_eq_zero (by have : t.data.size = t.size := rfl; omega))]; rfl))
   go_wp2_with fail
   go_ret; exact ⟨congrArg (fun x => Ending.returned (.string x)) HA.out, rfl⟩
theorem qOw (s : ByteArray) (w : World) (hs : s.size <= maxLen) : Calls Tryz.prog 48 #[.string s, .int .u8 0] w fun e w' => e = .returned (.string (mkB (trR s.data.toList))) /\ w = w' := by
 unfold maxLen at hs; go_enter Tryz.func48, Tryz.ntmps48
 go_wp2
 go_loop [0] (fun c => ∃ t : ByteArray, t.size <= s.size /\ c = .string t /\ trR t.data.toList = trR s.data.toList) (fun c => match c with | .string t => t.size | _ => 0)
 case atStart => exact ⟨s, Nat.le_refl _, rfl, rfl⟩
 case round =>
  obtain ⟨t, hle, rfl, hq⟩ := hrel; have HQ := hid hq; clear hq; by_cases h0 : 0 < t.size
  ·have hl := jBr h0; have HL := hid hl; clear hl; have i1 : (0 : Int) <= (t.size : Int) - 1 := by omega
   have i2 : (1 : Int) <= (t.size : Int) := by omega
   by_cases hz : t[t.size - 1].toNat = 0
   ·have z : ((t[t.size - 1].toNat : Int) == 0) = true := by rw [beq_iff_eq]; omega
    have HN : Hid (trR (t.extract 0 (t.size - 1)).data.toList = trR s.data.toList) := hid (by rw [<- HQ.out, HL.out, jEm hz])
    clear hz; go_wp2_with fail
    go_round
    case rel => exact ⟨_, by rw [ByteArray.size_extract]; omega, rfl, HN.out⟩
    case measure => simp; omega
   ·have z : ((t[t.size - 1].toNat : Int) == 0) = false := by rw [beq_eq_false_iff_ne]; omega
    have HA : Hid (t = mkB (trR s.data.toList)) := hid (qVs (by rw [<- HQ.out, HL.out, jEn hz]))
    clear hz; go_wp2_with fail
    go_ret; exact ⟨congrArg (fun x => Ending.returned (.string x)) HA.out, rfl⟩
  ·have HA : Hid (t = mkB (trR s.data.toList)) := hid (qVs (by rw [<- HQ.out, Array.toList_eq_nil_iff.2 (Array.eq_empty_of_size_eq_zero (by have : t.data.size = t.size := rfl; omega))]; rfl))
   go_wp2_with fail
   go_ret; exact ⟨congrArg (fun x => Ending.returned (.string x)) HA.out, rfl⟩
def qNg (s : ByteArray) : ByteArray := if s.data.toList = [] then s else mkB (trL (trR s.data.toList))
theorem qQy (s : ByteArray) : (qNg s).data.toList = [] ↔ AllZ s.data.toList := by
 unfold qNg; split
 ·next h => rw [h]; exact ⟨fun _ b hb => (by cases hb), fun _ => rfl⟩
 ·exact jEk _
theorem jEo (l : List UInt8) : (trR l).length <= l.length := by
 unfold trR; rw [List.length_reverse]; have := (List.dropWhile_suffix (l := l.reverse) (· == (0 : UInt8))).length_le; rw [List.length_reverse] at this; exact this
theorem qUv (s : ByteArray) (w : World) (hs : s.size <= maxLen) : Calls Tryz.prog 25 #[.string s, .string ⟨#[0]⟩] w fun e w' => e = .returned (.string (qNg s)) /\ ∃ n, w' = w.drewN n := by
 by_cases h0 : s.data.toList = []
 ·have e1 : qNg s = s := by unfold qNg; rw [if_pos h0]
  have e2 : s.toList.isEmpty = true := by rw [ByteArray.toList_eq, h0]; rfl
  rw [e1]; clear e1 h0; go_enter Tryz.func25, Tryz.ntmps25
  go_wp2_with fail
  go_ret; exact ⟨rfl, 0, rfl⟩
 ·have HE : Hid (qNg s = mkB (trL (trR s.data.toList))) := hid (by unfold qNg; rw [if_neg h0])
  have e2 : s.toList.isEmpty = false := by rw [ByteArray.toList_eq]; cases h : s.data.toList with | nil => exact absurd h h0 | cons _ _ => rfl
  have z0 : ∀ h, ((⟨#[0]⟩ : ByteArray)[0]'h).toNat = 0 := fun _ => rfl
  have hm : (mkB (trR s.data.toList)).size <= maxLen := Nat.le_trans (show (trR s.data.toList).toArray.size <= s.size from by rw [List.size_toArray]; exact jEo s.data.toList) hs
  have HR := hid (fun w => qOw s w hs)
  have HL := hid (fun w => qQx (mkB (trR s.data.toList)) w hm)
  have e3 : (mkB (trR s.data.toList)).data.toList = trR s.data.toList := by unfold mkB; simp
  rw [e3] at HL; clear h0 hm e3; go_enter Tryz.func25, Tryz.ntmps25
  go_wp2_with fail
  go_quiet ((first | (go_at_call 48; exact Calls.quiet_of_same ((HR.out _).mono fun _ _ h => ⟨h.1, h.2.symm⟩)) | (go_at_call 47; exact Calls.quiet_of_same ((HL.out _).mono fun _ _ h => ⟨h.1, h.2.symm⟩))))
  go_wp2_with fail
  go_ret; exact ⟨congrArg (fun x => Ending.returned (.string x)) HE.out.symm, _, rfl⟩
end
end Go.Proofs.YtkinkgbmlhiakaaGreatDoor
