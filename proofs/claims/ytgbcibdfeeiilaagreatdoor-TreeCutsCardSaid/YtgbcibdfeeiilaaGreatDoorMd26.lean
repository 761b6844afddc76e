/- merged: Td1 TwV TwB Srt -/
import Derived.Test.YtgbcibdfeeiilaaGreatDoorMd07
import Derived.Test.YtgbcibdfeeiilaaGreatDoorMd18
import Derived.Test.YtgbcibdfeeiilaaGreatDoorMd05
import Derived.Test.YtgbcibdfeeiilaaGreatDoorMd16
import Derived.BigQuiet
import Derived.Deep.QuietTactic
import Derived.Test.YtgbcibdfeeiilaaGreatDoorMd17
import Derived.Shelf.SlSortCmp.WholeK
import Derived.Shelf.Lay
import Derived.Ground.SlsfProg
namespace Go.Proofs.YtgbcibdfeeiilaaGreatDoor
section
open Go Go.RowKit
theorem qFw (t : TypeId) (a b : ByteArray) : binOp .geq t (.string a) (.string b) = pure (.bool (!Op.bytesLess a.toList b.toList)) := by simp [binOp, Op.stringOp]
attribute [local go_sem] qFw
abbrev kcs (p : KV) : List Value := [.string p.1, .string p.2]
theorem qDt (p : KV) : (kcs p).length = 2 := rfl
abbrev ccs (c : Cg) : List Value := [.string c.key, .string c.value, .bool c.gone]
theorem ccs_len (c : Cg) : (ccs c).length = 3 := rfl
theorem jJc : (Tryz.prog.info? 71).map (fun i => (i.zero, i.size, i.bytes)) = some (some (.agg #[.string ⟨#[]⟩, .string ⟨#[]⟩]), 2, 32) := by kernel_rfl
theorem qEy {w : World} (x y : ByteArray) (t : TypeId) : Src (w.alloc (.cells #[.string x, .string y] t)) 2 (some ⟨w.heap.size, 0, none⟩) 1 [.string x, .string y] := qBn (heap_alloc_new w _) rfl
theorem qEz {x y : ByteArray} : ∀ u ∈ ([.string x, .string y] : List Value), u.oneCell' = true := by
 intro u hu; simp at hu; rcases hu with rfl | rfl <;> rfl
theorem qDf {w : World} {t : TypeId} {size n cap : Nat} {la : Option Addr} {xs : List Value} (h : Own w t size la n cap xs) (o : Obj) : Own (w.alloc o) t size la n cap xs := h.mod (S := fun _ => False) ((Mod.refl _ w).alloc o) (fun _ _ e => e)
theorem jEs {c : Cg} {put : Bool} {l : List KV} {k : Nat} {x : KV} (hx : l[k]? = some x) : oneP c put (l.drop k) = (if !put && !(kl x.1 c.key) then [(c.key, c.value)] else []) ++ ((if x.1 = c.key then [] else [x]) ++ oneP c (put || !(kl x.1 c.key)) (l.drop (k + 1))) := by
 obtain ⟨hk, rfl⟩ := List.getElem?_eq_some_iff.1 hx; rw [List.drop_eq_getElem_cons hk, oneP]
theorem qBy {V X : World} {g off b k : Nat} {l : List KV} {ck cv xk xv : ByteArray} {cg : Bool} (hc : Lies V 2 kcs (some ⟨g, off, none⟩) l) (hb : V.heap[b]? = some (.cells #[.string ck, .string cv, .bool cg] 73 (0, 0))) (hm : Mod (fun _ => False) V X) (hx : l[k]? = some (xk, xv)) :
  X.cell? ⟨g, off + k * 2, none⟩ = some (.string xk) /\ X.cell? ⟨g, off + k * 2 + 1, none⟩ = some (.string xv) /\ X.cell? ⟨b, 0, none⟩ = some (.string ck) /\ X.cell? ⟨b, 1, none⟩ = some (.string cv) := by
 have hcw := hc.ext hm; have hq0 := hcw.cell qDt hx (j := 0) rfl; have hq1 := hcw.cell qDt hx (j := 1) rfl; simp only [Nat.add_zero] at hq0; have hbb := (hm.block _ (lth hb) (fun e => e)).trans hb
 refine ⟨hq0, hq1, ?_, ?_⟩ <;> (rw [cell_of_row _ _ _ _ _ _ hbb]; rfl)
theorem qGe (o : List KV) (x y : ByteArray) : (o ++ [(x, y)]).flatMap kcs = o.flatMap kcs ++ [.string x, .string y] := by rw [List.flatMap_append]; rfl
theorem qSo {a b : ByteArray} (h : a ≠ b) : (a.toList == b.toList) = false := by rw [beq_eq_false_iff_ne]; exact fun e => h (toList_inj e)
theorem qQh {a b : ByteArray} (h : a = b) : (a.toList == b.toList) = true := by rw [h]; exact beq_self_eq_true _
set_option maxRecDepth 100000
set_option maxHeartbeats 4000000 in
theorem jHh {w : World} {a : Option Addr} (cap0 : Nat) {l : List KV} (hl : Lies w 2 kcs a l) (c : Cg) (hb : l.length <= 1099511627776) :
  Calls Tryz.prog 42 #[.slice a l.length cap0, .agg #[.string c.key, .string c.value, .bool c.gone]] w fun e w' => ∃ la cap, e = .returned (.slice la (oneP c c.gone l).length cap) /\ Own w' 71 2 la (oneP c c.gone l).length cap ((oneP c c.gone l).flatMap kcs) /\ (∀ b, blk la b -> w.heap.size <= b) /\ Mod (fun _ => False) w w' := by
 obtain ⟨i0, hi, hz0, hz1, hz2⟩ := info_parts jJc; obtain ⟨ck, cv, cg⟩ := c; have hma : Mod (fun _ => False) w (w.alloc (.cells #[.string ck, .string cv, .bool cg] 73)) := (Mod.refl _ _).alloc _
 have HC := hid (hl.ext hma); have HB0 : Hid ((w.alloc (.cells #[.string ck, .string cv, .bool cg] 73)).heap[w.heap.size]? = some (.cells #[.string ck, .string cv, .bool cg] 73 (0, 0))) := hid (heap_alloc_new _ _); have HMa := hid hma; obtain ⟨x0, x1, x2⟩ : (w.alloc (.cells #[.string ck, .string cv, .bool cg] 73)).cell? ⟨w.heap.size, 0, none⟩ = some (.string ck) /\ (w.alloc (.cells #[.string ck, .string cv, .bool cg] 73)).cell? ⟨w.heap.size, 1, none⟩ = some (.string cv) /\ (w.alloc (.cells #[.string ck, .string cv, .bool cg] 73)).cell? ⟨w.heap.size, 2, none⟩ = some (.bool cg) := by
  refine ⟨?_, ?_, ?_⟩ <;> (rw [cell_of_row _ _ _ _ _ _ HB0.out]; rfl)
 clear hl hma; go_enter Tryz.func42, Tryz.ntmps42
 go_wp2_with fail
 have HV : Hid ((w.alloc (.cells #[.string ck, .string cv, .bool cg] 73)).heap.size = w.heap.size + 1) := hid (by simp)
 generalize w.alloc (.cells #[.string ck, .string cv, .bool cg] 73) = V at *; clear x0 x1 x2; go_loopw [5, 6, 7] (fun sl sp si wr => ∃ (k : Nat) (put : Bool) (o : List KV) (la : Option Addr) (cap : Nat), k <= l.length /\ sl = .slice la o.length cap /\ sp = .bool put /\ si = .int .i64 (k : Int) /\ Own wr 71 2 la o.length cap (o.flatMap kcs) /\ (∀ b, blk la b -> w.heap.size <= b /\ b ≠ w.heap.size) /\ Mod (fun _ => False) V wr /\ o.length <= k + 1 /\ (put = false -> o.length <= k) /\ oneP ⟨ck, cv, cg⟩ cg l = o ++ oneP ⟨ck, cv, cg⟩ put (l.drop k)) (fun _ _ si _ => l.length - (intOf si).toNat)
 case atStart => exact ⟨0, cg, [], none, 0, Nat.zero_le _, rfl, rfl, rfl, Own.nil _ _ _, (fun k hk => (qAk k hk).elim), Mod.refl _ _, Nat.zero_le _, fun _ => Nat.le_refl _, by simp⟩
 case round =>
  obtain ⟨k, put, o, la, cap, hk, rfl, rfl, rfl, r1, r2, r3, r4, r5, r6⟩ := hrel; have HO := hid r1; have HB := hid r2; have HM := hid r3; have HR := hid r6; clear r1 r2 r3 r6; by_cases hlt : k < l.length
  ·obtain ⟨⟨xk, xv⟩, hx⟩ : ∃ x, l[k]? = some x := ⟨_, List.getElem?_eq_getElem hlt⟩; obtain ⟨g, off, rfl⟩ := HC.out.some (by omega)
   obtain ⟨q0, q1, q2, q3⟩ := qBy HC.out HB0.out HM.out hx; have HX := hid hx; have HOD := hid (jEs (c := ⟨ck, cv, cg⟩) (put := put) hx); clear hx; cases put with
   | true =>
    by_cases he : xk = ck
    ·have d1 := qQh he; have HE := hid he; clear he r5; go_wp2_with fail
     have g0 := fun x : Ext wr => x.cell q0
     have g1 := fun x : Ext wr => x.cell q1
     have g2 := fun x : Ext wr => x.cell q2
     have g3 := fun x : Ext wr => x.cell q3
     clear q0 q1 q2 q3; refine qAc (by kernel_rfl) (by kernel_rfl) ?_
     repeat (go_big_quiet_step (fail))
     refine wpQuiet_nil ?_; rintro _ ⟨y, rfl⟩; clear g0 g1 g2 g3; have HMy1 := hid (HM.out.trans y.mod); have HOy1 := hid (HO.out.mod y.mod (fun _ _ e => e))
     generalize y.val = wy1 at *; clear y; obtain ⟨q0, q1, q2, q3⟩ := qBy HC.out HB0.out HMy1.out HX.out; go_wp2_with fail
     have g0 := fun x : Ext wy1 => x.cell q0
     have g1 := fun x : Ext wy1 => x.cell q1
     have g2 := fun x : Ext wy1 => x.cell q2
     have g3 := fun x : Ext wy1 => x.cell q3
     clear q0 q1 q2 q3; refine qAc (by kernel_rfl) (by kernel_rfl) ?_
     repeat (go_big_quiet_step (fail))
     refine wpQuiet_nil ?_; rintro _ ⟨y, rfl⟩; clear g0 g1 g2 g3; have HMy2 := hid (HMy1.out.trans y.mod); have HOy2 := hid (HOy1.out.mod y.mod (fun _ _ e => e))
     generalize y.val = wy2 at *; clear y; obtain ⟨q0, q1, q2, q3⟩ := qBy HC.out HB0.out HMy2.out HX.out; go_wp2_with fail
     go_roundw
     case rel => exact ⟨k + 1, true, o, la, cap, by omega, rfl, rfl, by go_num, HOy2.out, HB.out, HMy2.out, by omega, (fun h => by cases h), by rw [HR.out, HOD.out]; simp [HE.out]⟩
     case measure => simp [intOf]; omega
    ·have d1 := qSo he; have HE := hid he; clear he r5; go_wp2_with fail
     have g0 := fun x : Ext wr => x.cell q0
     have g1 := fun x : Ext wr => x.cell q1
     have g2 := fun x : Ext wr => x.cell q2
     have g3 := fun x : Ext wr => x.cell q3
     clear q0 q1 q2 q3; refine qAc (by kernel_rfl) (by kernel_rfl) ?_
     repeat (go_big_quiet_step (fail))
     refine wpQuiet_nil ?_; rintro _ ⟨y, rfl⟩; clear g0 g1 g2 g3; have HMy1 := hid (HM.out.trans y.mod); have HOy1 := hid (HO.out.mod y.mod (fun _ _ e => e))
     generalize y.val = wy1 at *; clear y; obtain ⟨q0, q1, q2, q3⟩ := qBy HC.out HB0.out HMy1.out HX.out; go_wp2_with fail
     have g0 := fun x : Ext wy1 => x.cell q0
     have g1 := fun x : Ext wy1 => x.cell q1
     have g2 := fun x : Ext wy1 => x.cell q2
     have g3 := fun x : Ext wy1 => x.cell q3
     clear q0 q1 q2 q3; refine qAc (by kernel_rfl) (by kernel_rfl) ?_
     repeat (go_big_quiet_step (fail))
     refine wpQuiet_nil ?_; rintro _ ⟨y, rfl⟩; clear g0 g1 g2 g3; have HMy2 := hid (HMy1.out.trans y.mod); have HOy2 := hid (HOy1.out.mod y.mod (fun _ _ e => e))
     generalize y.val = wy2 at *; clear y; obtain ⟨q0, q1, q2, q3⟩ := qBy HC.out HB0.out HMy2.out HX.out
     go_wp2_with (at_builtin; refine qAd rfl (.tmp 44) (.tmp 49) 25 rfl 71 i0 _ 2 32 Tryz.underlying25 hi hz0 hz1 hz2 rfl la o.length cap _ rfl (qDf HOy2.out _) (some ⟨wy2.heap.size, 0, none⟩) 1 1 _ rfl (qEy _ _ _) qEz (by unfold maxLen; omega) (by omega) ?_; intro la5 cap5 w5 hown hmo hbo hn5 hr5; have HO5 := hid hown; have HM5 : Hid (Mod (fun _ => False) V w5) := hid ((HMy2.out.alloc _).then hmo (fun b hlt hb => by have h1 := HB.out b hb; have h2 := HV.out; omega)); have HB5 : Hid (∀ b, blk la5 b -> w.heap.size <= b /\ b ≠ w.heap.size) := hid (fun b hb => (hbo b hb).elim (fun e => HB.out b e) (fun e => by have h1 := HMy2.out.size; have h2 := HV.out; rw [World.size_alloc] at e; omega)); clear hown hmo hbo hn5 hr5 q0 q1 q2 q3)
     go_roundw
     case rel => exact ⟨k + 1, true, o ++ [(xk, xv)], la5, cap5, by omega, by rw [List.length_append]; rfl, rfl, by go_num, by rw [qGe, List.length_append]; exact HO5.out, HB5.out, HM5.out, by rw [List.length_append]; simp; omega, (fun h => by cases h), by rw [HR.out, HOD.out]; simp [HE.out]⟩
     case measure => simp [intOf]; omega
   | false =>
    have r5 := r5 rfl; cases hk2 : kl xk ck with
    | true =>
     have he : xk ≠ ck := qRt hk2; have d1 := qSo he; have HE := hid he; have HK := hid hk2; have d2 : Op.bytesLess xk.toList ck.toList = true := hk2; clear he hk2; go_wp2_with fail
     have g0 := fun x : Ext wr => x.cell q0
     have g1 := fun x : Ext wr => x.cell q1
     have g2 := fun x : Ext wr => x.cell q2
     have g3 := fun x : Ext wr => x.cell q3
     clear q0 q1 q2 q3; refine qAc (by kernel_rfl) (by kernel_rfl) ?_
     repeat (go_big_quiet_step (fail))
     refine wpQuiet_nil ?_; rintro _ ⟨y, rfl⟩; clear g0 g1 g2 g3; have HMy1 := hid (HM.out.trans y.mod); have HOy1 := hid (HO.out.mod y.mod (fun _ _ e => e))
     generalize y.val = wy1 at *; clear y; obtain ⟨q0, q1, q2, q3⟩ := qBy HC.out HB0.out HMy1.out HX.out; go_wp2_with fail
     have g0 := fun x : Ext wy1 => x.cell q0
     have g1 := fun x : Ext wy1 => x.cell q1
     have g2 := fun x : Ext wy1 => x.cell q2
     have g3 := fun x : Ext wy1 => x.cell q3
     clear q0 q1 q2 q3; refine qAc (by kernel_rfl) (by kernel_rfl) ?_
     repeat (go_big_quiet_step (fail))
     refine wpQuiet_nil ?_; rintro _ ⟨y, rfl⟩; clear g0 g1 g2 g3; have HMy2 := hid (HMy1.out.trans y.mod); have HOy2 := hid (HOy1.out.mod y.mod (fun _ _ e => e))
     generalize y.val = wy2 at *; clear y; obtain ⟨q0, q1, q2, q3⟩ := qBy HC.out HB0.out HMy2.out HX.out
     go_wp2_with (at_builtin; refine qAd rfl (.tmp 44) (.tmp 49) 25 rfl 71 i0 _ 2 32 Tryz.underlying25 hi hz0 hz1 hz2 rfl la o.length cap _ rfl (qDf HOy2.out _) (some ⟨wy2.heap.size, 0, none⟩) 1 1 _ rfl (qEy _ _ _) qEz (by unfold maxLen; omega) (by omega) ?_; intro la5 cap5 w5 hown hmo hbo hn5 hr5; have HO5 := hid hown; have HM5 : Hid (Mod (fun _ => False) V w5) := hid ((HMy2.out.alloc _).then hmo (fun b hlt hb => by have h1 := HB.out b hb; have h2 := HV.out; omega)); have HB5 : Hid (∀ b, blk la5 b -> w.heap.size <= b /\ b ≠ w.heap.size) := hid (fun b hb => (hbo b hb).elim (fun e => HB.out b e) (fun e => by have h1 := HMy2.out.size; have h2 := HV.out; rw [World.size_alloc] at e; omega)); clear hown hmo hbo hn5 hr5 q0 q1 q2 q3)
     go_roundw
     case rel => exact ⟨k + 1, false, o ++ [(xk, xv)], la5, cap5, by omega, by rw [List.length_append]; rfl, rfl, by go_num, by rw [qGe, List.length_append]; exact HO5.out, HB5.out, HM5.out, by rw [List.length_append]; simp; omega, (fun _ => by rw [List.length_append]; simp; omega), by rw [HR.out, HOD.out]; simp [HE.out, HK.out]⟩
     case measure => simp [intOf]; omega
    | false =>
     have HK := hid hk2; have d2 : Op.bytesLess xk.toList ck.toList = false := hk2; clear hk2; by_cases he : xk = ck
     ·have d1 := qQh he; have HE := hid he; clear he; go_wp2_with fail
      have g0 := fun x : Ext wr => x.cell q0
      have g1 := fun x : Ext wr => x.cell q1
      have g2 := fun x : Ext wr => x.cell q2
      have g3 := fun x : Ext wr => x.cell q3
      clear q0 q1 q2 q3; refine qAc (by kernel_rfl) (by kernel_rfl) ?_
      repeat (go_big_quiet_step (fail))
      refine wpQuiet_nil ?_; rintro _ ⟨y, rfl⟩; clear g0 g1 g2 g3; have HMy1 := hid (HM.out.trans y.mod); have HOy1 := hid (HO.out.mod y.mod (fun _ _ e => e))
      generalize y.val = wy1 at *; clear y; obtain ⟨q0, q1, q2, q3⟩ := qBy HC.out HB0.out HMy1.out HX.out
      go_upto_region 9 with (at_builtin; refine qAd rfl (.tmp 28) (.tmp 34) 25 rfl 71 i0 _ 2 32 Tryz.underlying25 hi hz0 hz1 hz2 rfl la o.length cap _ rfl (qDf HOy1.out _) (some ⟨wy1.heap.size, 0, none⟩) 1 1 _ rfl (qEy _ _ _) qEz (by unfold maxLen; omega) (by omega) ?_; intro la5 cap5 w5 hown hmo hbo hn5 hr5; have HO5 := hid hown; have HM5 : Hid (Mod (fun _ => False) V w5) := hid ((HMy1.out.alloc _).then hmo (fun b hlt hb => by have h1 := HB.out b hb; have h2 := HV.out; omega)); have HB5 : Hid (∀ b, blk la5 b -> w.heap.size <= b /\ b ≠ w.heap.size) := hid (fun b hb => (hbo b hb).elim (fun e => HB.out b e) (fun e => by have h1 := HMy1.out.size; have h2 := HV.out; rw [World.size_alloc] at e; omega)); clear hown hmo hbo hn5 hr5 q0 q1 q2 q3; obtain ⟨q0, q1, q2, q3⟩ := qBy HC.out HB0.out HM5.out HX.out)
      have g0 := fun x : Ext w5 => x.cell q0
      have g1 := fun x : Ext w5 => x.cell q1
      have g2 := fun x : Ext w5 => x.cell q2
      have g3 := fun x : Ext w5 => x.cell q3
      clear q0 q1 q2 q3; refine qAc (by kernel_rfl) (by kernel_rfl) ?_
      repeat (go_big_quiet_step (fail))
      refine wpQuiet_nil ?_; rintro _ ⟨y, rfl⟩; clear g0 g1 g2 g3; have HMy2 := hid (HM5.out.trans y.mod); have HOy2 := hid (HO5.out.mod y.mod (fun _ _ e => e))
      generalize y.val = wy2 at *; clear y; obtain ⟨q0, q1, q2, q3⟩ := qBy HC.out HB0.out HMy2.out HX.out; go_wp2_with fail
      go_roundw
      case rel => exact ⟨k + 1, true, o ++ [(ck, cv)], la5, cap5, by omega, by rw [List.length_append]; rfl, rfl, by go_num, by rw [qGe, List.length_append]; exact HOy2.out, HB5.out, HMy2.out, by rw [List.length_append]; simp; omega, (fun h => by cases h), by rw [HR.out, HOD.out]; simp [HE.out, qDi]⟩
      case measure => simp [intOf]; omega
     ·have d1 := qSo he; have HE := hid he; clear he; go_wp2_with fail
      have g0 := fun x : Ext wr => x.cell q0
      have g1 := fun x : Ext wr => x.cell q1
      have g2 := fun x : Ext wr => x.cell q2
      have g3 := fun x : Ext wr => x.cell q3
      clear q0 q1 q2 q3; refine qAc (by kernel_rfl) (by kernel_rfl) ?_
      repeat (go_big_quiet_step (fail))
      refine wpQuiet_nil ?_; rintro _ ⟨y, rfl⟩; clear g0 g1 g2 g3; have HMy1 := hid (HM.out.trans y.mod); have HOy1 := hid (HO.out.mod y.mod (fun _ _ e => e))
      generalize y.val = wy1 at *; clear y; obtain ⟨q0, q1, q2, q3⟩ := qBy HC.out HB0.out HMy1.out HX.out
      go_upto_region 9 with (at_builtin; refine qAd rfl (.tmp 28) (.tmp 34) 25 rfl 71 i0 _ 2 32 Tryz.underlying25 hi hz0 hz1 hz2 rfl la o.length cap _ rfl (qDf HOy1.out _) (some ⟨wy1.heap.size, 0, none⟩) 1 1 _ rfl (qEy _ _ _) qEz (by unfold maxLen; omega) (by omega) ?_; intro la5 cap5 w5 hown hmo hbo hn5 hr5; have HO5 := hid hown; have HM5 : Hid (Mod (fun _ => False) V w5) := hid ((HMy1.out.alloc _).then hmo (fun b hlt hb => by have h1 := HB.out b hb; have h2 := HV.out; omega)); have HB5 : Hid (∀ b, blk la5 b -> w.heap.size <= b /\ b ≠ w.heap.size) := hid (fun b hb => (hbo b hb).elim (fun e => HB.out b e) (fun e => by have h1 := HMy1.out.size; have h2 := HV.out; rw [World.size_alloc] at e; omega)); clear hown hmo hbo hn5 hr5 q0 q1 q2 q3; obtain ⟨q0, q1, q2, q3⟩ := qBy HC.out HB0.out HM5.out HX.out)
      have g0 := fun x : Ext w5 => x.cell q0
      have g1 := fun x : Ext w5 => x.cell q1
      have g2 := fun x : Ext w5 => x.cell q2
      have g3 := fun x : Ext w5 => x.cell q3
      clear q0 q1 q2 q3; refine qAc (by kernel_rfl) (by kernel_rfl) ?_
      repeat (go_big_quiet_step (fail))
      refine wpQuiet_nil ?_; rintro _ ⟨y, rfl⟩; clear g0 g1 g2 g3; have HMy2 := hid (HM5.out.trans y.mod); have HOy2 := hid (HO5.out.mod y.mod (fun _ _ e => e))
      generalize y.val = wy2 at *; clear y; obtain ⟨q0, q1, q2, q3⟩ := qBy HC.out HB0.out HMy2.out HX.out
      go_wp2_with (at_builtin; refine qAd rfl (.tmp 44) (.tmp 49) 25 rfl 71 i0 _ 2 32 Tryz.underlying25 hi hz0 hz1 hz2 rfl la5 (o.length + 1) cap5 _ rfl (qDf HOy2.out _) (some ⟨wy2.heap.size, 0, none⟩) 1 1 _ rfl (qEy _ _ _) qEz (by unfold maxLen; omega) (by omega) ?_; intro la6 cap6 w6 hown hmo hbo hn5 hr5; have HO6 := hid hown; have HM6 : Hid (Mod (fun _ => False) V w6) := hid ((HMy2.out.alloc _).then hmo (fun b hlt hb => by have h1 := HB5.out b hb; have h2 := HV.out; omega)); have HB6 : Hid (∀ b, blk la6 b -> w.heap.size <= b /\ b ≠ w.heap.size) := hid (fun b hb => (hbo b hb).elim (fun e => HB5.out b e) (fun e => by have h1 := HMy2.out.size; have h2 := HV.out; rw [World.size_alloc] at e; omega)); clear hown hmo hbo hn5 hr5 q0 q1 q2 q3)
      go_roundw
      case rel => exact ⟨k + 1, true, o ++ [(ck, cv)] ++ [(xk, xv)], la6, cap6, by omega, by rw [List.length_append, List.length_append]; rfl, rfl, by go_num, by rw [qGe, qGe, List.length_append, List.length_append]; exact HO6.out, HB6.out, HM6.out, by rw [List.length_append, List.length_append]; simp; omega, (fun h => by cases h), by rw [HR.out, HOD.out]; simp [HE.out, HK.out]⟩
      case measure => simp [intOf]; omega
  ·have hke : k = l.length := by omega
   have HL : Hid (oneP ⟨ck, cv, cg⟩ put (l.drop k) = if put then [] else [(ck, cv)]) := hid (by rw [List.drop_of_length_le (by omega), oneP])
   subst hke; cases put with
   | true =>
    have HF : Hid (oneP ⟨ck, cv, cg⟩ cg l = o) := hid (by rw [HR.out, HL.out]; simp)
    go_wp2_with fail
    go_ret; rw [HF.out]; exact ⟨la, cap, rfl, HO.out, fun b hb => (HB.out b hb).1, HMa.out.trans HM.out⟩
   | false =>
    have HF : Hid (oneP ⟨ck, cv, cg⟩ cg l = o ++ [(ck, cv)]) := hid (by rw [HR.out, HL.out]; simp)
    have r5 := r5 rfl; have hbb := (HM.out.block _ (lth HB0.out) (fun e => e)).trans HB0.out
    have q2 : wr.cell? ⟨w.heap.size, 0, none⟩ = some (.string ck) := by rw [cell_of_row _ _ _ _ _ _ hbb]; rfl
    have q3 : wr.cell? ⟨w.heap.size, 1, none⟩ = some (.string cv) := by rw [cell_of_row _ _ _ _ _ _ hbb]; rfl
    clear hbb; have q0 := q2; have q1 := q3
    go_wp2_with (at_builtin; refine qAd rfl (.tmp 53) (.tmp 59) 25 rfl 71 i0 _ 2 32 Tryz.underlying25 hi hz0 hz1 hz2 rfl la o.length cap _ rfl (qDf HO.out _) (some ⟨wr.heap.size, 0, none⟩) 1 1 _ rfl (qEy _ _ _) qEz (by unfold maxLen; omega) (by omega) ?_; intro la5 cap5 w5 hown hmo hbo hn5 hr5; have HO5 := hid hown; have HM5 : Hid (Mod (fun _ => False) V w5) := hid ((HM.out.alloc _).then hmo (fun b hlt hb => by have h1 := HB.out b hb; have h2 := HV.out; omega)); have HB5 : Hid (∀ b, blk la5 b -> w.heap.size <= b /\ b ≠ w.heap.size) := hid (fun b hb => (hbo b hb).elim (fun e => HB.out b e) (fun e => by have h1 := HM.out.size; have h2 := HV.out; rw [World.size_alloc] at e; omega)); clear hown hmo hbo hn5 hr5 q0 q1 q2 q3)
    go_ret; rw [HF.out, List.length_append]; exact ⟨la5, cap5, rfl, by rw [qGe]; exact HO5.out, fun b hb => (HB5.out b hb).1, HMa.out.trans HM5.out⟩
def rapp (cs : List Cg) (l : List KV) : List KV := cs.foldl (fun l c => oneP c c.gone l) l
theorem qPj {c : Cg} : ∀ (put : Bool) (l : List KV), (oneP c put l).length <= l.length + 1
 | put, [] => by unfold oneP; split <;> simp
 | true, p :: r => by
  have := qPj (c := c) true r; rw [oneP]; simp only [Bool.not_true, Bool.false_and, Bool.true_or, List.length_append, List.length_cons]; split <;> split <;> simp_all <;> omega
 | false, p :: r => by
  rw [oneP]; cases hk : kl p.1 c.key with
  | true =>
   have := qPj (c := c) false r; simp only [Bool.not_true, Bool.and_false, Bool.or_false, List.length_append, List.length_cons]; split <;> split <;> simp_all <;> omega
  | false =>
   have h2 : (oneP c true r).length <= r.length := by rw [qPi]; exact List.length_filter_le _ _
   simp only [Bool.not_false, Bool.and_true, Bool.or_true, List.length_append, List.length_cons]; split <;> split <;> simp_all <;> omega
theorem qVi (cs : List Cg) (l : List KV) : (rapp cs l).length <= l.length + cs.length := by
 induction cs generalizing l with
 | nil => exact Nat.le_refl _
 | cons c cs ih =>
  have h1 := ih (oneP c c.gone l); have h2 := qPj (c := c) c.gone l; show (rapp cs (oneP c c.gone l)).length <= _; rw [List.length_cons]; omega
theorem qMb : ∀ (cs : List Cg) (l : List KV), Asc l -> rapp cs l = cs.foldl (fun l c => chg c l) l /\ Asc (rapp cs l)
 | [], _, h => ⟨rfl, h⟩
 | c :: cs, l, h => by
  have h1 := qMb cs (chg c l) (jCq h); have e : rapp (c :: cs) l = rapp cs (chg c l) := by
   show rapp cs (oneP c c.gone l) = _; rw [jAe h]
  rw [e]; exact h1
theorem qZu (cs : List Cg) (l : List KV) {k : Nat} {c : Cg} (hc : cs[k]? = some c) : rapp (cs.take (k + 1)) l = oneP c c.gone (rapp (cs.take k) l) := by
 unfold rapp; rw [List.take_add_one, hc, List.foldl_append]; rfl
end
section
open Go Go.RowKit
noncomputable def KS : Keys Tryz.prog 9 ByteArray := jGv Tryz.underlying9
open Classical in
noncomputable def chkF : List ByteArray -> List Cg -> Int
 | _, [] => 0
 | met, c :: r => if c.key.toList = [] \/ 48 < c.key.size then 50 else if 200 < c.value.size then 51 else if c.key ∈ met then 30 else chkF (met ++ [c.key]) r
theorem qFu : ∀ {cs : List Cg} {met : List ByteArray}, chkF met cs = 0 -> ∀ c ∈ cs, CgOk c
 | [], _, _ => fun c hc => by cases hc
 | x :: r, met, h => fun c hc => by
  unfold chkF at h; by_cases h1 : x.key.toList = [] \/ 48 < x.key.size
  ·rw [if_pos h1] at h; cases h
  ·rw [if_neg h1] at h; by_cases h2 : 200 < x.value.size
   ·rw [if_pos h2] at h; cases h
   ·rw [if_neg h2] at h; by_cases h3 : x.key ∈ met
    ·rw [if_pos h3] at h; cases h
    ·rw [if_neg h3] at h; rcases List.mem_cons.1 hc with rfl | hc
     ·exact ⟨fun e => h1 (.inl e), by omega, by omega⟩
     ·exact qFu h c hc
def mapK (l : List ByteArray) : List (ByteArray × Value) := l.map fun k => (k, .int .i64 1)
theorem jAl (l : List ByteArray) (k : ByteArray) : mapK (l ++ [k]) = mapK l ++ [(k, .int .i64 1)] := by simp [mapK]
open Classical in
theorem qNe : ∀ (l : List ByteArray) (x : ByteArray), aget (mapK l) x = if x ∈ l then some (.int .i64 1) else none
 | [], x => by simp [mapK, aget]
 | n :: l, x => by
  have ih := qNe l x; unfold mapK aget at *; rw [List.map_cons]; by_cases h : n = x
  ·subst h; simp
  ·have h2 : ¬ x = n := fun e => h e.symm
   rw [List.find?_cons_of_neg (by simpa using h), ih]
   simp [h2]
theorem qPq (cs : List Cg) {k : Nat} {x : Cg} (hx : cs[k]? = some x) : (cs.take (k + 1)).map (·.key) = (cs.take k).map (·.key) ++ [x.key] := by
 rw [List.take_add_one, hx, List.map_append]; rfl
open Classical in
theorem qSh (met : List ByteArray) (c : Cg) (r : List Cg) : chkF met (c :: r) = if c.key.toList = [] \/ 48 < c.key.size then 50 else if 200 < c.value.size then 51 else if c.key ∈ met then 30 else chkF (met ++ [c.key]) r := rfl
set_option maxRecDepth 100000
open Classical in
set_option maxHeartbeats 4000000 in
theorem qSl {w : World} {a : Option Addr} (cap : Nat) {cs : List Cg} (hc : Lies w 3 ccs a cs) (hb : cs.length <= 1099511627776000) (hs : ∀ c ∈ cs, c.key.size <= maxLen /\ c.value.size <= maxLen) :
  Calls Tryz.prog 38 #[.slice a cs.length cap] w fun e w' => e = .returned (.int .i64 (chkF [] cs)) /\ Mod (fun _ => False) w w' := by
 have HC := hid hc; have HSz := hid hs; have hmm := @run_makeMap Tryz.prog; obtain ⟨F, hF⟩ : ∃ z, chkF [] cs = z := ⟨_, rfl⟩; rw [hF]; have HF := hid hF; clear hc hs hF; go_enter Tryz.func38, Tryz.ntmps38
 go_wp2_with fail
 go_loopw [9] (fun sc wr => ∃ k : Nat, k <= cs.length /\ sc = .int .i64 (k : Int) /\ F = chkF ((cs.take k).map (·.key)) (cs.drop k) /\ qBi KS.kv wr w.heap.size (mapK ((cs.take k).map (·.key))) /\ Mod (fun _ => False) w wr) (fun sc _ => cs.length - (intOf sc).toNat)
 case atStart => exact ⟨0, Nat.zero_le _, rfl, HF.out.symm, qBi.made KS.kv w, (Mod.refl _ _).alloc _⟩
 case round =>
  obtain ⟨k, hk, rfl, r1, r2, r3⟩ := hrel; have HFk := hid r1; have HMap := hid r2; have HM := hid r3; clear r1 r2 r3; by_cases hlt : k < cs.length
  ·obtain ⟨x, hx⟩ : ∃ x, cs[k]? = some x := ⟨_, List.getElem?_eq_getElem hlt⟩; have hxe : cs[k] = x := by rw [List.getElem?_eq_getElem hlt] at hx; exact Option.some.inj hx
   obtain ⟨g, off, rfl⟩ := HC.out.some (by omega)
   have hcw := HC.out.ext HM.out; have hq0 := hcw.cell ccs_len hx (j := 0) rfl; have hq1 := hcw.cell ccs_len hx (j := 1) rfl; have hq2 := hcw.cell ccs_len hx (j := 2) rfl; simp only [Nat.add_zero] at hq0; have hxs := HSz.out x (List.mem_of_getElem? hx); have HSt : Hid (F = if x.key.toList = [] \/ 48 < x.key.size then 50 else if 200 < x.value.size then 51 else if x.key ∈ (cs.take k).map (·.key) then 30 else chkF ((cs.take k).map (·.key) ++ [x.key]) (cs.drop (k + 1))) := hid (by
    rw [HFk.out, List.drop_eq_getElem_cons hlt, hxe]; rfl)
   have HTk := hid (qPq cs hx); obtain ⟨xk, xv, xg⟩ := x; simp only at hq0 hq1 hq2 hxs HSt HTk; have hma : Mod (fun _ => False) wr (wr.alloc (.cells #[.string xk, .string xv, .bool xg] 67)) := (Mod.refl _ _).alloc _
   have hcb : (wr.alloc (.cells #[.string xk, .string xv, .bool xg] 67)).heap[wr.heap.size]? = some (.cells #[.string xk, .string xv, .bool xg] 67 (0, 0)) := heap_alloc_new _ _; have HMa := hid (HM.out.trans hma); have HMapa := hid (HMap.out.mod hma (fun h => h))
   obtain ⟨b0, b1, b2⟩ : (wr.alloc (.cells #[.string xk, .string xv, .bool xg] 67)).cell? ⟨wr.heap.size, 0, none⟩ = some (.string xk) /\ (wr.alloc (.cells #[.string xk, .string xv, .bool xg] 67)).cell? ⟨wr.heap.size, 1, none⟩ = some (.string xv) /\ (wr.alloc (.cells #[.string xk, .string xv, .bool xg] 67)).cell? ⟨wr.heap.size, 2, none⟩ = some (.bool xg) := by
    refine ⟨?_, ?_, ?_⟩ <;> (rw [cell_of_row _ _ _ _ _ _ hcb]; rfl)
   obtain ⟨hs1, hs2⟩ := hxs; unfold maxLen at hs1 hs2; clear hx hxe hma hcb hcw; by_cases h1 : xk.toList = []
   ·have e1 : xk.toList.isEmpty = true := by rw [h1]; rfl
    have HE : Hid (F = 50) := hid (by rw [HSt.out, if_pos (.inl h1)])
    clear h1; go_wp2_with fail
    go_ret; rw [HE.out]; exact ⟨rfl, HMa.out⟩
   ·have e1 : xk.toList.isEmpty = false := by cases hq : xk.toList with | nil => exact absurd hq h1 | cons b r => rfl
    by_cases h2 : 48 < xk.size
    ·have HE : Hid (F = 50) := hid (by rw [HSt.out, if_pos (.inr h2)])
     clear h1; go_wp2_with fail
     go_ret; rw [HE.out]; exact ⟨rfl, HMa.out⟩
    ·have hn12 : ¬ (xk.toList = [] \/ 48 < xk.size) := fun e => e.elim h1 h2
     by_cases h3 : 200 < xv.size
     ·have HE : Hid (F = 51) := hid (by rw [HSt.out, if_neg hn12, if_pos h3])
      clear h1 hn12; go_wp2_with fail
      go_ret; rw [HE.out]; exact ⟨rfl, HMa.out⟩
     ·by_cases h4 : xk ∈ (cs.take k).map (·.key)
      ·have HE : Hid (F = 30) := hid (by rw [HSt.out, if_neg hn12, if_neg h3, if_pos h4])
       have HAg : Hid (aget (mapK ((cs.take k).map (·.key))) xk = some (.int .i64 1)) := hid (by rw [qNe, if_pos h4])
       clear h1 hn12 h4; go_wp2_with (at_lookup; refine qGk rfl _ _ 70 false rfl KS Tryz.underlying70 (jCy _) w.heap.size _ xk rfl rfl HMapa.out ?_; rw [HAg.out]; simp only [Bool.false_eq_true, if_false])
       go_ret; rw [HE.out]; exact ⟨rfl, HMa.out⟩
      ·have HE : Hid (F = chkF ((cs.take k).map (·.key) ++ [xk]) (cs.drop (k + 1))) := hid (by rw [HSt.out, if_neg hn12, if_neg h3, if_neg h4])
       have HAg : Hid (aget (mapK ((cs.take k).map (·.key))) xk = none) := hid (by rw [qNe, if_neg h4])
       clear h1 hn12 h4; go_wp2_with (first
        | (at_lookup; refine qGk rfl _ _ 70 false rfl KS Tryz.underlying70 (jCy _) w.heap.size _ xk rfl rfl HMapa.out ?_; rw [HAg.out]; simp only [Bool.false_eq_true, if_false])
        | (at_mapUpdate; refine qJp rfl _ _ _ 70 rfl KS Tryz.underlying70 w.heap.size _ xk (.int .i64 1) rfl rfl rfl HMapa.out ?_; intro w6 hat6 hm6; have Hat6 := hid hat6; have Hm6 := hid hm6; clear hat6 hm6))
       go_roundw
       case rel =>
        refine ⟨k + 1, by omega, by go_num, by rw [HTk.out]; exact HE.out, ?_, HMa.out.then Hm6.out (fun i hi e => by omega)⟩
        rw [HTk.out, jAl]; have := Hat6.out; rw [qWk HAg.out] at this; exact this
       case measure => simp [intOf]; omega
  ·have HE : Hid (F = 0) := hid (by rw [HFk.out, List.drop_of_length_le (by omega)]; rfl)
   go_wp2_with fail
   go_ret; rw [HE.out]; exact ⟨rfl, HM.out⟩
end
section
open Go Go.RowKit
theorem jDs (a b c d : Nat) : (((⟨#[84]⟩ ++ ba (uvar a)) ++ ba (uvar b)) ++ ba (uvar c)) ++ ba (uvar d) = ba (84 :: [a, b, c, d].flatMap uvar) := by
 have e : (⟨#[84]⟩ : ByteArray) = ba [84] := rfl; rw [e, qEl, qEl, qEl, qEl]; simp
set_option maxRecDepth 100000
set_option maxHeartbeats 2000000 in
theorem qWy (w : World) {a b c d : Int} (ha : 0 <= a /\ a <= 1152921504606846976) (hb : 0 <= b /\ b <= 1152921504606846976) (hc : 0 <= c /\ c <= 1152921504606846976) (hd : 0 <= d /\ d <= 1152921504606846976) :
  Calls Tryz.prog 74 #[.agg #[.int .i64 a, .int .i64 b, .int .i64 c, .int .i64 d]] w fun e w' => e = .returned (.string (ba (stL a b c d))) /\ Mod (fun _ => False) w w' := by
 obtain ⟨a, rfl⟩ : ∃ n : Nat, a = (n : Int) := ⟨a.toNat, by omega⟩
 obtain ⟨b, rfl⟩ : ∃ n : Nat, b = (n : Int) := ⟨b.toNat, by omega⟩
 obtain ⟨c, rfl⟩ : ∃ n : Nat, c = (n : Int) := ⟨c.toNat, by omega⟩
 obtain ⟨d, rfl⟩ : ∃ n : Nat, d = (n : Int) := ⟨d.toNat, by omega⟩
 have HU := hid (fun (n : Nat) (v : World) (h : n <= 1152921504606846976) => qEw n v (by omega))
 have hm : Mod (fun _ => False) w (w.alloc (.cells #[.int .i64 (a : Int), .int .i64 (b : Int), .int .i64 (c : Int), .int .i64 (d : Int)] 75)) := (Mod.refl _ _).alloc _
 have hbx : (w.alloc (.cells #[.int .i64 (a : Int), .int .i64 (b : Int), .int .i64 (c : Int), .int .i64 (d : Int)] 75)).heap[w.heap.size]? = some (.cells #[.int .i64 (a : Int), .int .i64 (b : Int), .int .i64 (c : Int), .int .i64 (d : Int)] 75 (0, 0)) := heap_alloc_new _ _
 obtain ⟨x0, x1, x2, x3⟩ : (w.alloc (.cells #[.int .i64 (a : Int), .int .i64 (b : Int), .int .i64 (c : Int), .int .i64 (d : Int)] 75)).cell? ⟨w.heap.size, 0, none⟩ = some (.int .i64 (a : Int)) /\ (w.alloc (.cells #[.int .i64 (a : Int), .int .i64 (b : Int), .int .i64 (c : Int), .int .i64 (d : Int)] 75)).cell? ⟨w.heap.size, 1, none⟩ = some (.int .i64 (b : Int)) /\ (w.alloc (.cells #[.int .i64 (a : Int), .int .i64 (b : Int), .int .i64 (c : Int), .int .i64 (d : Int)] 75)).cell? ⟨w.heap.size, 2, none⟩ = some (.int .i64 (c : Int)) /\ (w.alloc (.cells #[.int .i64 (a : Int), .int .i64 (b : Int), .int .i64 (c : Int), .int .i64 (d : Int)] 75)).cell? ⟨w.heap.size, 3, none⟩ = some (.int .i64 (d : Int)) := by
  refine ⟨?_, ?_, ?_, ?_⟩ <;> (rw [cell_of_row _ _ _ _ _ _ hbx]; rfl)
 have HM := hid hm; have sa : IntKind.u64.wrap (a : Int) = (a : Int) := by simp [IntKind.wrap, IntKind.bits, IntKind.signed]; omega
 have sb : IntKind.u64.wrap (b : Int) = (b : Int) := by simp [IntKind.wrap, IntKind.bits, IntKind.signed]; omega
 have sc : IntKind.u64.wrap (c : Int) = (c : Int) := by simp [IntKind.wrap, IntKind.bits, IntKind.signed]; omega
 have sd : IntKind.u64.wrap (d : Int) = (d : Int) := by simp [IntKind.wrap, IntKind.bits, IntKind.signed]; omega
 have la : (ba (uvar a)).size <= 10 := by rw [qBb]; exact qAw (by omega)
 have lb : (ba (uvar b)).size <= 10 := by rw [qBb]; exact qAw (by omega)
 have lc : (ba (uvar c)).size <= 10 := by rw [qBb]; exact qAw (by omega)
 have ld : (ba (uvar d)).size <= 10 := by rw [qBb]; exact qAw (by omega)
 have HA := hid ha; have HBd := hid hb; have HCd := hid hc; have HDd := hid hd; clear hm hbx ha hb hc hd; go_enter Tryz.func74, Tryz.ntmps74
 go_wp2_with fail
 generalize w.alloc (.cells #[.int .i64 (a : Int), .int .i64 (b : Int), .int .i64 (c : Int), .int .i64 (d : Int)] 75) = V at *; have g0 := fun x : Ext V => x.cell x0
 have g1 := fun x : Ext V => x.cell x1
 have g2 := fun x : Ext V => x.cell x2
 have g3 := fun x : Ext V => x.cell x3
 clear x0 x1 x2 x3; refine qAc (by kernel_rfl) (by kernel_rfl) ?_
 repeat (go_big_quiet_step ((first | (go_at_call 73; with_reducible exact qBr (HU.out a _ (by have := HA.out; omega))) | (go_at_call 73; with_reducible exact qBr (HU.out b _ (by have := HBd.out; omega))) | (go_at_call 73; with_reducible exact qBr (HU.out c _ (by have := HCd.out; omega))) | (go_at_call 73; with_reducible exact qBr (HU.out d _ (by have := HDd.out; omega))))))
 refine wpQuiet_nil ?_; rintro _ ⟨y, rfl⟩; go_wp2_with fail
 go_ret; refine ⟨?_, HM.out.trans y.mod⟩; rw [jDs]; rfl
end
section
open Go Go.RowKit Go.Shelf Go.Lib Go.Sort
shelf_lay_g SlLaysF0.n6 Slsf 6 at Tryz 75 as Tryz.sortCh
abbrev ChgB := { c : Chg // -2305843009213693952 <= c.pos /\ c.pos <= 2305843009213693952 }
instance : Inhabited ChgB := ⟨⟨⟨0, ⟨#[]⟩⟩, by decide⟩⟩
def encB (x : ChgB) : List Value := [.int .i64 x.1.pos, .string x.1.data]
def cmpB (x y : ChgB) : Int := x.1.pos - y.1.pos
theorem qPn (x y : ChgB) : ltOf cmpB x y = decide (x.1.pos < y.1.pos) := by
 unfold ltOf cmpB; by_cases h : x.1.pos < y.1.pos
 ·rw [decide_eq_true h, decide_eq_true (by omega)]
 ·rw [decide_eq_false h, decide_eq_false (by omega)]
theorem swoB : SWO (ltOf cmpB) where
 irrefl x := by rw [qPn]; simp
 trans x y z h1 h2 := by rw [qPn] at *; simp at *; omega
 ntrans x y z h1 h2 := by rw [qPn] at *; simp at *; omega
theorem closB (x y : ChgB) (W : World) : Calls Tryz.prog 76 #[.agg #[.int .i64 x.1.pos, .string x.1.data], .agg #[.int .i64 y.1.pos, .string y.1.data]] W fun e w' => e = .returned (.int .i64 (cmpB x y)) /\ ∃ q os', w' = grow (W.drewN q) os' := by
 have s1 : IntKind.i64.wrap (x.1.pos - y.1.pos) = cmpB x y := by have := x.2; have := y.2; rw [IntKind.wrap_i64]; unfold cmpB; omega
 go_enter Tryz.func76, Tryz.ntmps76
 go_wp2
 go_ret; exact ⟨rfl, 0, _, by rw [alloc_eq_grow, alloc_eq_grow, grow_grow]; rfl⟩
theorem jHp (w : World) : (isAgg 159).run Tryz.prog w = .ok true w := by kernel_rfl
theorem jIt (w : World) : (Go.sizeOf 159).run Tryz.prog w = .ok 2 w := by kernel_rfl
theorem jAi {w : World} {g off n : Nat} {F : Array Value} {os : Array Obj} : Mod (fun k => k = g) w (grow (putRow id (Sort.ahead w n) g off F) os) := by
 refine ⟨rfl, rfl, rfl, ?_, fun k hk hn => ?_⟩
 ·simp [grow, putRow, mapBlock, Sort.ahead]
 ·have hg : g ≠ k := fun e => hn e.symm
  simp only [grow, putRow, mapBlock, Sort.ahead]; rw [Array.getElem?_append_left (by simpa using hk), Array.getElem?_modify]
  rw [if_neg hg]
theorem qWg {cs : List Chg} {j : Nat} {u : Value} (h : (cs.flatMap Chg.cs)[j]? = some u) : ∃ c, cs[j / 2]? = some c /\ (Chg.cs c)[j % 2]? = some u := by
 have e : j = j / 2 * 2 + j % 2 := by omega
 rw [e, qJd qIg cs (j / 2) (j % 2) (by omega)] at h
 exact Option.bind_eq_some_iff.1 h
def bnd : (cs : List Chg) -> (∀ c ∈ cs, -2305843009213693952 <= c.pos /\ c.pos <= 2305843009213693952) -> List ChgB
 | [], _ => []
 | c :: r, h => ⟨c, h c List.mem_cons_self⟩ :: bnd r (fun x hx => h x (List.mem_cons_of_mem _ hx))
theorem jCn : ∀ (cs : List Chg) (h : ∀ c ∈ cs, -2305843009213693952 <= c.pos /\ c.pos <= 2305843009213693952), (bnd cs h).map (fun x : ChgB => x.1) = cs
 | [], _ => rfl
 | c :: r, h => by
  unfold bnd; rw [List.map_cons, jCn r]
theorem jCr (d : Array ChgB) {i : Nat} {c : Chg} (h : (d.toList.map fun x : ChgB => x.1)[i]? = some c) : i < d.size /\ (d[i]!).1 = c := by
 rw [List.getElem?_map] at h; obtain ⟨x, hx, rfl⟩ := Option.map_eq_some_iff.1 h; obtain ⟨hi, rfl⟩ := List.getElem?_eq_some_iff.1 hx; have hi' : i < d.size := by simpa using hi
 refine ⟨hi', ?_⟩; rw [getElem!_pos d i hi']; rfl
theorem jCl {w : World} {g off : Nat} {d : Array ChgB} (h : HoldsK encB 2 w g off d) {j : Nat} {u : Value} (hu : ((d.toList.map fun x : ChgB => x.1).flatMap Chg.cs)[j]? = some u) : w.cell? ⟨g, off + j, none⟩ = some u := by
 obtain ⟨c, hc, hq⟩ := qWg hu; obtain ⟨hi, he⟩ := jCr d hc; have hj : j < (flatK encB 2 d).size := by rw [size_flatK]; omega
 have h1 := (h j hj).1; rw [h1, get_flatK encB 2 d j (by rw [size_flatK] at hj; exact hj)]
 congr 1
 show (encB d[j / 2]!)[j % 2]! = u; have e2 : encB d[j / 2]! = Chg.cs c := by unfold encB Chg.cs; rw [he]
 rw [e2]; obtain ⟨hl, hv⟩ := List.getElem?_eq_some_iff.1 hq; rw [getElem!_pos (Chg.cs c) (j % 2) hl]; exact hv
set_option maxRecDepth 100000
theorem jDt {w : World} {g off cap : Nat} {cs : List Chg} (h : Own w 159 2 (some ⟨g, off, none⟩) cs.length cap (cs.flatMap Chg.cs)) (hb : ∀ c ∈ cs, -2305843009213693952 <= c.pos /\ c.pos <= 2305843009213693952) (hl : cs.length <= 1152921504606846976) :
  Calls Tryz.prog 75 #[.slice (some ⟨g, off, none⟩) cs.length cap, .func (.func 76) #[] #[]] w fun e w' => e = .returned (.tuple #[]) /\ ∃ cs' : List Chg, cs'.Perm cs /\ cs'.Pairwise (fun a b => a.pos <= b.pos) /\ Lies w' 2 Chg.cs (some ⟨g, off, none⟩) cs' /\ Mod (fun k => k = g) w w' := by
 obtain ⟨d, hd⟩ : ∃ d : Array ChgB, d = (bnd cs hb).toArray := ⟨_, rfl⟩; have hdm : d.toList.map (fun x : ChgB => x.1) = cs := by rw [hd, List.toList_toArray, jCn]
 have hds : d.size = cs.length := by rw [<- hdm, List.length_map, Array.length_toList]
 have hH : HoldsK encB 2 w g off d := fun j hj => by
  rw [size_flatK] at hj; refine ⟨?_, h.frozen _⟩; have hlen : (cs.flatMap Chg.cs).length = cs.length * 2 := qEa qIg cs; obtain ⟨u, hu⟩ : ∃ u, (cs.flatMap Chg.cs)[j]? = some u := ⟨_, List.getElem?_eq_getElem (by omega)⟩
  have h1 := h.src.2.2 _ rfl j u hu; rw [Addr.add_lit] at h1; rw [h1, get_flatK encB 2 d j hj]; congr 1
  obtain ⟨c, hc, hq⟩ := qWg hu; rw [<- hdm] at hc; obtain ⟨hi, he⟩ := jCr d hc; have e2 : encB d[j / 2]! = Chg.cs c := by unfold encB Chg.cs; rw [he]
  show u = (encB d[j / 2]!)[j % 2]!; rw [e2]; obtain ⟨hl, hv⟩ := List.getElem?_eq_some_iff.1 hq; rw [getElem!_pos (Chg.cs c) (j % 2) hl]; exact hv.symm
 have eg : ∀ args w, (callFunc 76 args).run Tryz.prog w = .ok (.enter 76 args) w := enters_of Tryz.func76 (by kernel_rfl) rfl
 have hlt := h.lt g (qAb.2 rfl); have hcon := AnyQ.slices_SortFunc Tryz.sortCh 2 jHp jIt encB (fun _ => rfl) (fun x v hv => by simp [encB] at hv; rcases hv with rfl | rfl <;> rfl) cmpB swoB 76 #[] g off cap d w eg (fun m os dk _ x y => closB x y _) hH hlt (by omega)
 change Calls Tryz.prog 75 _ _ _ at hcon; rw [hds] at hcon; refine hcon.mono ?_; rintro e w' ⟨rfl, d', n, os, hp, hs, rfl⟩; obtain ⟨p1, _, p3⟩ := hp; have hsz : d'.size = cs.length := p1.trans hds; rw [<- hds] at p3 hs; have hperm : d'.toList.Perm d.toList := by
  have e1 : d'.extract 0 d.size = d' := by rw [<- p1]; exact Array.extract_size
  have e2 : d.extract 0 d.size = d := Array.extract_size; rw [e1, e2] at p3; exact p3
 have hH' : HoldsK encB 2 (sortWorldK encB 2 w g off n d' os) g off d' := fun j hj => by
  have h0 : HoldsK encB 2 (Sort.ahead w n) g off d := hH; have h1 := (holdsK_putRowK encB 2 (Sort.ahead w n) g off d d' h0 p1) j hj; have hb2 : (⟨g, off + j, none⟩ : Addr).block < (putRowK encB 2 (Sort.ahead w n) g off d').heap.size := by
   show g < _; unfold putRowK; rw [Go.Sort.size_putRow]; exact hlt
  exact ⟨by rw [<- h1.1]; exact cell?_grow _ _ _ hb2, by rw [<- h1.2]; exact frozen?_grow _ _ _ hb2⟩
 refine ⟨rfl, d'.toList.map (fun x : ChgB => x.1), ?_, ?_, ⟨⟨?_, (fun h => by cases h), fun a ha j u hu => ?_⟩, (fun _ a ha => by cases ha; rfl), fun b _ hk => ?_⟩, jAi⟩
 ·rw [<- hdm]; exact hperm.map _
 ·refine List.pairwise_iff_getElem.2 (fun i j hi hj hij => ?_)
  rw [List.length_map, Array.length_toList] at hi hj; have h1 := hs i j (Nat.zero_le _) hij (by omega)
  rw [qPn, decide_eq_false_iff_not, getElem!_pos d' i hi, getElem!_pos d' j hj] at h1; rw [List.getElem_map, List.getElem_map, Array.getElem_toList, Array.getElem_toList]; omega
 ·rw [qEa qIg]
 ·cases ha
  rw [Addr.add_lit]; exact jCl hH' hu
 ·rw [qAb] at hk; subst hk; exact Nat.lt_of_lt_of_le hlt (jAi (w := w) (g := g) (off := off) (n := n) (F := flatK encB 2 d') (os := os)).size
end
end Go.Proofs.YtgbcibdfeeiilaaGreatDoor
