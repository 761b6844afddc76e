/- merged: TwL TrG Td3 TrW TailIn -/
import Derived.Test.YtgbcibdfeeiilaaGreatDoorMc24
import Derived.Test.YtgbcibdfeeiilaaGreatDoorMc12
import Derived.Test.YtgbcibdfeeiilaaGreatDoorMc32
import Derived.Test.YtgbcibdfeeiilaaGreatDoorMc08
import Derived.RangeFuncNested
import Derived.RangeFuncBound
import Derived.RangeFuncCalls
import Derived.RangeFuncLeaves
import Derived.Shelf.Abstract
import Derived.Shelf.RegionOpen
import Derived.WalkKit
import Derived.OwnWalkIn
import Derived.TacticsInMore
import Derived.LoopNIn
import Derived.LoopIn
namespace Go.Proofs.YtgbcibdfeeiilaaGreatDoor
section
open Go Go.RowKit
def qTv (look : Int -> Option NP) : Nat -> NP -> ByteArray -> Option NP
 | 0, _, _ => none
 | f + 1, n, key => if n.1 then some n else (n.2[qBv key n.2]?).bind fun x => (look x.kid).bind fun k => qTv look f k key
def qUg (S : Nat -> Prop) (w wr : World) (T : TM) (q : Nat) (fin : NP) (key : ByteArray) (f : Nat) (n : NP) (m : Nd) : Prop :=
 qTv T.nodes f n key = some fin /\ qAw n.1 n.2 /\ Has m n.1 n.2 /\ NdC w m /\ (∀ b, m.bs b -> ¬ S b /\ b < w.heap.size) /\ wr.heap[q]? = some (.cells #[.bool m.leaf, .slice m.ka m.keys.length m.kc, .slice m.va m.values.length m.vc, .slice m.ia m.kids.length m.ic] 116 (0, 0)) /\ Mod (fun _ => False) w wr ∧
 wr.heap[w.heap.size]? = some (.cells #[.bool false, .slice none 0 0, .slice none 0 0, .slice none 0 0] 116 (0, 0))
set_option maxRecDepth 100000
set_option maxHeartbeats 2000000 in
theorem jFb {S : Nat -> Prop} {w : World} {B : TB} {T : TM} {D : Dsk} {off : Bool} (h : qAp S w B T D off) {key : ByteArray} {F : Nat} {n0 fin : NP} (hr : T.nodes T.root = some n0) (hd : qTv T.nodes F n0 key = some fin) :
  Calls Tryz.prog 49 #[.pointer (some ⟨B.tb, 0, none⟩), .string key] w fun e w' => ∃ m : Nd, e = .returned m.val /\ Has m fin.1 fin.2 /\ NdC w' m /\ qAw fin.1 fin.2 /\ (∀ b, m.bs b -> ¬ S b /\ b < w.heap.size) /\ fin.1 = true /\ Mod (fun _ => False) w w' := by
 obtain ⟨m0, hlk0, hh0, hat0, hbs0⟩ := h.nodes.get hr; have HT := hid h; have HD := hid hd; have HG0 : Hid (qAw n0.1 n0.2) := hid (by obtain ⟨l, _, _, h3⟩ := h.nodes; exact (h3 _ _ hr).1)
 have HH0 := hid hh0; have HN0 := hid hat0; have HB0 := hid hbs0; have HLk := hid hlk0; have HMa : Hid (Mod (fun _ => False) w (w.alloc (.cells #[.bool false, .slice none 0 0, .slice none 0 0, .slice none 0 0] 116))) := hid ((Mod.refl _ _).alloc _)
 have HBr : Hid ((w.alloc (.cells #[.bool false, .slice none 0 0, .slice none 0 0, .slice none 0 0] 116)).heap[w.heap.size]? = some (.cells #[.bool false, .slice none 0 0, .slice none 0 0, .slice none 0 0] 116 (0, 0))) := hid (heap_alloc_new _ _); have HSz : Hid ((w.alloc (.cells #[.bool false, .slice none 0 0, .slice none 0 0, .slice none 0 0] 116)).heap.size = w.heap.size + 1) := hid (by simp)
 clear h hr hd hlk0 hh0 hat0 hbs0; go_enter Tryz.func49, Tryz.ntmps49
 go_upto_region 1 with fail
 generalize w.alloc (.cells #[.bool false, .slice none 0 0, .slice none 0 0, .slice none 0 0] 116) = X at *; have HS : Hid (∀ y, Mod (fun _ => False) w y -> y.cell? ⟨B.tb, 0, none⟩ = some (.int .i64 T.root) /\ y.cell? ⟨B.tb, 6, none⟩ = some (.map (some B.nb)) /\ (Instr.lookup 76 (.map (some B.nb)) (.int .i64 T.root) false).run Tryz.prog y = .ok (.agg #[.bool m0.leaf, .slice m0.ka m0.keys.length m0.kc, .slice m0.va m0.values.length m0.vc, .slice m0.ia m0.kids.length m0.ic]) y) := hid (fun y hy => by
  obtain ⟨t0, _, _, _, _, _, t6, _, _⟩ := (HT.out.mod hy (fun _ e => e.elim) (fun _ e => e.elim)).cells
  exact ⟨t0, t6, HLk.out y hy false⟩)
 have HMy : Hid (Mod (fun _ => False) w X.drew) := hid (HMa.out.trans (Mod.refl _ _).drew)
 have HSy : Hid (X.drew.heap.size = w.heap.size + 1) := hid HSz.out; have HBy : Hid (X.drew.heap[w.heap.size]? = some (.cells #[.bool false, .slice none 0 0, .slice none 0 0, .slice none 0 0] 116 (0, 0))) := hid (qAo (Mod.refl _ _).drew HBr.out); refine qBw (S := qAa 11 (fun y => y.cell? ⟨B.tb, 0, none⟩ = some (.int .i64 T.root) /\ y.cell? ⟨B.tb, 6, none⟩ = some (.map (some B.nb)) /\ (Instr.lookup 76 (.map (some B.nb)) (.int .i64 T.root) false).run Tryz.prog y = .ok (.agg #[.bool m0.leaf, .slice m0.ka m0.keys.length m0.kc, .slice m0.va m0.values.length m0.vc, .slice m0.ia m0.kids.length m0.ic]) y)) (by kernel_rfl) (qAa.all (HS.out _ HMy.out)) (fun hHeld => ?_)
 generalize X.drew = Y0 at *; refine aTk (v := .pointer (some ⟨B.tb, 0, none⟩)) (d := 8) 0 rfl rfl (by kernel_rfl) (by kernel_rfl) (by kernel_rfl) (fun _ _ _ h => h) (fun l w h => qAa.same (by decide) h) (fun l j w h => qAa.mono h j) (Or.inl ⟨by rfl, fun w' _ => by go_simp⟩) hHeld (fun hU => ?_)
 clear hHeld; have hHeld := hU; clear hU; simp only [Act.put, sTA, sC0, sC1]; refine aTk (v := .pointer (some ⟨B.tb, 0, none⟩)) (d := 9) 1 rfl rfl (by kernel_rfl) (by kernel_rfl) (by kernel_rfl) (fun _ _ _ h => h) (fun l w h => qAa.same (by decide) h) (fun l j w h => qAa.mono h j) (Or.inl ⟨by rfl, fun w' _ => by go_simp⟩) hHeld (fun hU => ?_)
 clear hHeld; have hHeld := hU; clear hU; simp only [Act.put, sTA, sC0, sC1]; refine aTk (v := .pointer (some ⟨B.tb, 6, none⟩)) (d := 10) 2 rfl rfl (by kernel_rfl) (by kernel_rfl) (by kernel_rfl) (fun _ _ _ h => h) (fun l w h => qAa.same (by decide) h) (fun l j w h => qAa.mono h j) (Or.inl ⟨by rfl, fun w' _ => by go_simp⟩) hHeld (fun hU => ?_)
 clear hHeld; have hHeld := hU; clear hU; simp only [Act.put, sTA, sC0, sC1]; refine aTk (v := .map (some B.nb)) (d := 11) 3 rfl rfl (by kernel_rfl) (by kernel_rfl) (by kernel_rfl) (fun _ _ _ h => h) (fun l w h => qAa.same (by decide) h) (fun l j w h => qAa.mono h j) (Or.inl ⟨by rfl, fun w' hT => by (obtain ⟨l', hz', hu', hC', hS'⟩ := hT; obtain ⟨c0, c6, c9⟩ := hS' (hC'.later (i := 3) (j := 11) rfl (by rw [hz']; decide) (by kernel_rfl) hu'); go_simp)⟩) hHeld (fun hU => ?_)
 clear hHeld; have hHeld := hU; clear hU; simp only [Act.put, sTA, sC0, sC1]; refine aTk (v := .pointer (some ⟨B.tb, 0, none⟩)) (d := 12) 4 rfl rfl (by kernel_rfl) (by kernel_rfl) (by kernel_rfl) (fun _ _ _ h => h) (fun l w h => qAa.same (by decide) h) (fun l j w h => qAa.mono h j) (Or.inl ⟨by rfl, fun w' _ => by go_simp⟩) hHeld (fun hU => ?_)
 clear hHeld; have hHeld := hU; clear hU; simp only [Act.put, sTA, sC0, sC1]; refine aTk (v := .pointer (some ⟨B.tb, 0, none⟩)) (d := 13) 5 rfl rfl (by kernel_rfl) (by kernel_rfl) (by kernel_rfl) (fun _ _ _ h => h) (fun l w h => qAa.same (by decide) h) (fun l j w h => qAa.mono h j) (Or.inl ⟨by rfl, fun w' _ => by go_simp⟩) hHeld (fun hU => ?_)
 clear hHeld; have hHeld := hU; clear hU; simp only [Act.put, sTA, sC0, sC1]; refine aTk (v := .pointer (some ⟨B.tb, 0, none⟩)) (d := 14) 6 rfl rfl (by kernel_rfl) (by kernel_rfl) (by kernel_rfl) (fun _ _ _ h => h) (fun l w h => qAa.same (by decide) h) (fun l j w h => qAa.mono h j) (Or.inl ⟨by rfl, fun w' _ => by go_simp⟩) hHeld (fun hU => ?_)
 clear hHeld; have hHeld := hU; clear hU; simp only [Act.put, sTA, sC0, sC1]; refine aTk (v := .pointer (some ⟨B.tb, 0, none⟩)) (d := 15) 7 rfl rfl (by kernel_rfl) (by kernel_rfl) (by kernel_rfl) (fun _ _ _ h => h) (fun l w h => qAa.same (by decide) h) (fun l j w h => qAa.mono h j) (Or.inl ⟨by rfl, fun w' _ => by go_simp⟩) hHeld (fun hU => ?_)
 clear hHeld; have hHeld := hU; clear hU; simp only [Act.put, sTA, sC0, sC1]; refine aTk (v := .int .i64 T.root) (d := 16) 8 rfl rfl (by kernel_rfl) (by kernel_rfl) (by kernel_rfl) (fun _ _ _ h => h) (fun l w h => qAa.same (by decide) h) (fun l j w h => qAa.mono h j) (Or.inl ⟨by rfl, fun w' hT => by (obtain ⟨l', hz', hu', hC', hS'⟩ := hT; obtain ⟨c0, c6, c9⟩ := hS' (hC'.later (i := 8) (j := 11) rfl (by rw [hz']; decide) (by kernel_rfl) hu'); go_simp)⟩) hHeld (fun hU => ?_)
 clear hHeld; have hHeld := hU; clear hU; simp only [Act.put, sTA, sC0, sC1]; refine aTk (v := .agg #[.bool m0.leaf, .slice m0.ka m0.keys.length m0.kc, .slice m0.va m0.values.length m0.vc, .slice m0.ia m0.kids.length m0.ic]) (d := 17) 9 rfl rfl (by kernel_rfl) (by kernel_rfl) (by kernel_rfl) (fun _ _ _ h => h) (fun l w h => qAa.same (by decide) h) (fun l j w h => qAa.mono h j) (Or.inl ⟨by rfl, fun w' hT => by (obtain ⟨l', hz', hu', hC', hS'⟩ := hT; obtain ⟨c0, c6, c9⟩ := hS' (hC'.later (i := 9) (j := 11) rfl (by rw [hz']; decide) (by kernel_rfl) hu'); go_simp)⟩) hHeld (fun hU => ?_)
 clear hHeld; have hHeld := hU; clear hU; simp only [Act.put, sTA, sC0, sC1]; refine aRd (rs := [10]) (by kernel_rfl) (by simp) (AllL.cons rfl (by kernel_rfl) hHeld (fun K hK => ?_) AllL.nil)
 go_simp; have hmy : Mod (fun _ => False) Y0 (Y0.alloc (.cells #[.bool false, .slice none 0 0, .slice none 0 0, .slice none 0 0] 116)) := (Mod.refl _ _).alloc _
 have HNx : Hid ((Y0.alloc (.cells #[.bool false, .slice none 0 0, .slice none 0 0, .slice none 0 0] 116)).heap[Y0.heap.size]? = some (.cells #[.bool false, .slice none 0 0, .slice none 0 0, .slice none 0 0] 116 (0, 0))) := hid (heap_alloc_new _ _); have HM1 := hid (HMy.out.trans hmy); have HBz := hid (qAo hmy HBy.out); clear hmy; generalize Y0.alloc (.cells #[.bool false, .slice none 0 0, .slice none 0 0, .slice none 0 0] 116) = Y1 at *; refine hK.out _ _ (qAa.all (HS.out Y1 HM1.out)) (fun hU => ?_)
 clear hK K hHeld; have hHeld := hU; clear hU; try simp only [Act.put, sTA, sC0, sC1]
 refine aRd (rs := [11]) (by kernel_rfl) (by simp) (AllL.cons rfl (by kernel_rfl) hHeld (fun K hK => ?_) AllL.nil)
 obtain ⟨x0, x1, x2, x3⟩ := cl4 HNx.out; have f0 := frozen_of_row _ _ 0 _ _ HNx.out; have f1 := frozen_of_row _ _ 1 _ _ HNx.out; have f2 := frozen_of_row _ _ 2 _ _ HNx.out; have f3 := frozen_of_row _ _ 3 _ _ HNx.out; go_simp; clear x0 x1 x2 x3 f0 f1 f2 f3; refine hK.out _ _ (fun hu => absurd (show true = false from hu) (by decide)) (fun hU => ?_)
 clear hK K hHeld; have hHeld := hU; clear hU; try simp only [Act.put, sTA, sC0, sC1]
 refine qBf (by kernel_rfl) ?_ _
 clear hHeld; have hq1 := qDh HNx.out (.bool m0.leaf) (.slice m0.ka m0.keys.length m0.kc) (.slice m0.va m0.values.length m0.vc) (.slice m0.ia m0.kids.length m0.ic); have hmx : Mod (fun k => k = Y0.heap.size) Y1 ((((Y1.setCell ⟨Y0.heap.size, 0, none⟩ (.bool m0.leaf)).setCell ⟨Y0.heap.size, 1, none⟩ (.slice m0.ka m0.keys.length m0.kc)).setCell ⟨Y0.heap.size, 2, none⟩ (.slice m0.va m0.values.length m0.vc)).setCell ⟨Y0.heap.size, 3, none⟩ (.slice m0.ia m0.kids.length m0.ic)) := qBo (S := fun k => k = Y0.heap.size) (Mod.refl _ _) (fun _ => rfl) _ _ _ _
 generalize ((((Y1.setCell ⟨Y0.heap.size, 0, none⟩ (.bool m0.leaf)).setCell ⟨Y0.heap.size, 1, none⟩ (.slice m0.ka m0.keys.length m0.kc)).setCell ⟨Y0.heap.size, 2, none⟩ (.slice m0.va m0.values.length m0.vc)).setCell ⟨Y0.heap.size, 3, none⟩ (.slice m0.ia m0.kids.length m0.ic)) = V at *; have hSy := HSy.out; have HRel : Hid (qUg S w V T Y0.heap.size fin key F n0 m0) := hid ⟨HD.out, HG0.out, HH0.out, HN0.out, HB0.out, hq1, HM1.out.then hmx (fun k hk e => by omega), (hmx.block _ (lth HBz.out) (fun e => by omega)).trans HBz.out⟩
 have HQ : Hid (Y0.heap.size = w.heap.size + 1) := hid hSy; clear hq1 hmx hSy HD HG0 HH0 HN0 HB0; generalize Y0.heap.size = q at *; go_upto_region 2 with fail
 go_loopg [] F (fun g wr => ∃ (n : NP) (m : Nd), qUg S w wr T q fin key g n m)
 case atStart => exact ⟨n0, m0, HRel.out⟩
 case round =>
  obtain ⟨⟨leaf, es⟩, m, r1, r2, r3, r4, r5, r6, r7, r8⟩ := hrel; have HG := hid r2; have HH := hid r3; have HN := hid r4; have HB := hid r5; have HX := hid r6; have HM := hid r7; have HBr2 := hid r8; obtain ⟨f, hf⟩ : ∃ f, gk = f + 1 := by
   cases gk with
   | zero => unfold qTv at r1; cases r1
   | succ f => exact ⟨f, rfl⟩
  rw [hf] at r1; unfold qTv at r1; obtain ⟨x0, x1, x2, x3⟩ := cl4 r6; cases leaf with
  | true =>
   have HF : Hid ((true, es) = fin) := hid (by simpa using r1)
   have hk0 : m.kids.length = 0 := by rw [HH.out.i]; rfl
   have d0 : decide (0 < m.kids.length) = false := by simpa using hk0
   have d1 : decide ((0 : Int) < (m.kids.length : Int)) = false := by simpa using hk0
   obtain ⟨z0, z1, z2, z3⟩ := cl4 r8; have f0 := frozen_of_row _ _ 0 _ _ r8; have f1 := frozen_of_row _ _ 1 _ _ r8; have f2 := frozen_of_row _ _ 2 _ _ r8; have f3 := frozen_of_row _ _ 3 _ _ r8; clear hk0 r1 r2 r3 r4 r5 r6 r7 r8 hf; go_wp2_with fail
   rw [<- HF.out]; have hmf := qBo (b := w.heap.size) HM.out (fun h => absurd h (Nat.lt_irrefl _)) (.bool m.leaf) (.slice m.ka m.keys.length m.kc) (.slice m.va m.values.length m.vc) (.slice m.ia m.kids.length m.ic)
   refine bodyPost_ret (v := .agg #[.bool m.leaf, .slice m.ka m.keys.length m.kc, .slice m.va m.values.length m.vc, .slice m.ia m.kids.length m.ic]) (by simp only [results, Tryz.results49]; go_simp) rfl ⟨m, rfl, HH.out, ?_, HG.out, HB.out, rfl, ?_⟩
   ·exact HN.out.ext hmf
   ·exact hmf
  | false =>
   simp only [Bool.false_eq_true, if_false] at r1; obtain ⟨x, hx, hx2⟩ := Option.bind_eq_some_iff.1 r1; obtain ⟨n', hn', hd'⟩ := Option.bind_eq_some_iff.1 hx2; have HRi : Hid (qMy m.keys) := hid (by rw [HH.out.k]; exact qFn HG.out)
   have HPl := hid (qGo key (HN.out.ext HM.out).nd HRi.out); obtain ⟨m', hlk', hh', hat', hbs'⟩ := HT.out.nodes.get hn'; have HG' : Hid (qAw n'.1 n'.2) := hid (by obtain ⟨l, _, _, h3⟩ := HT.out.nodes; exact (h3 _ _ hn').1)
   have HH' := hid hh'; have HN' := hid hat'; have HB' := hid hbs'; have HLk' := hid hlk'; have HD' := hid hd'; have HXx := hid hx; have HGf := hid hf; have hkl : m.kids.length = es.length := by rw [HH.out.i]; simp
   have hjl : qBv key es < es.length := (List.getElem?_eq_some_iff.1 hx).1; have d0 : decide (0 < m.kids.length) = true := by simp; omega
   have d1 : decide ((0 : Int) < (m.kids.length : Int)) = true := by simp; omega
   have HKl := hid hkl; clear hkl hjl r1 hx2 hx hn' hd' hlk' hh' hat' hbs' r2 r3 r4 r5 r6 r7 r8 hf; go_upto_region 4 with (go_at_call 50; refine HPl.out.mono ?_; rintro e w3 ⟨⟨i, ok, hat, hok, rfl⟩, hm3⟩; have HAt := hid hat; have HOk := hid hok; have HM3 := hid hm3; have hb3 := qAo hm3 HX.out; have HB3 := hid hb3; obtain ⟨y0, y1, y2, y3⟩ := cl4 hb3; obtain ⟨ii, hii⟩ : ∃ z : Int, (if ok = true then (i : Int) else ((i - 1 : Nat) : Int)) = z := ⟨_, rfl⟩; rw [hii]; have HIi := hid hii; clear hat hok hm3 hb3 x0 x1 x2 x3 hii)
   have HCut := hid (qOj (c := ⟨key, emp, false⟩) (es := es) (i := i) (ok := ok) (by have h1 := HRi.out; rw [HH.out.k] at h1; exact h1) (by have h1 := HAt.out; rw [HH.out.k] at h1; exact h1) (by have h1 := HOk.out; rw [HH.out.k] at h1; exact h1))
   have hil0 : i <= es.length := by have h1 := HAt.out.le; rw [HH.out.k, List.length_map] at h1; exact h1
   have hpe := qOx HCut.out hil0; change qBv key es = _ at hpe; obtain ⟨j, hj⟩ : ∃ j, qBv key es = j := ⟨_, rfl⟩; rw [hj] at HXx hpe; have hij : ii = (j : Int) := by rw [<- HIi.out, hpe]; cases ok <;> rfl
   subst hij; have hjm : j < m.kids.length := by rw [HKl.out]; exact (List.getElem?_eq_some_iff.1 HXx.out).1
   have hdj : ¬ m.kids.length <= j := by omega
   have hgk : m.kids[j]? = some x.kid := by rw [HH.out.i]; simp only [Bool.false_eq_true, if_false]; rw [List.getElem?_map, HXx.out]; rfl
   have HMz := hid (HM.out.trans HM3.out); obtain ⟨gi, oi, hia, hkc⟩ := (HN.out.nd.ext HMz.out).i.one hgk; rw [hia] at y3; obtain ⟨_, _, _, _, _, _, t6, _, _⟩ := (HT.out.mod HMz.out (fun _ e => e.elim) (fun _ e => e.elim)).cells
   have g3 := fun y : Ext w3 => y.cell y3
   have gk3 := fun y : Ext w3 => y.cell hkc
   have g6 := fun y : Ext w3 => y.cell t6
   have gl : ∀ y : Ext w3, (Instr.lookup 76 (.map (some B.nb)) (.int .i64 x.kid) false).run Tryz.prog y.val = .ok (.agg #[.bool m'.leaf, .slice m'.ka m'.keys.length m'.kc, .slice m'.va m'.values.length m'.vc, .slice m'.ia m'.kids.length m'.ic]) y.val := fun y => HLk'.out y.val (HMz.out.trans y.mod) false
   clear hil0 hpe hj hgk y0 y1 y2 hia d0 d1 y3 hkc t6; refine qAn 10 (by kernel_rfl) (by kernel_rfl) ?_
   simp only [List.take_succ_cons, List.take_zero, List.drop_succ_cons, List.drop_zero]; repeat (go_big_quiet_step ((fail)))
   refine wpQuiet_nil ?_; rintro _ ⟨z, rfl⟩; have hbz := z.heap HB3.out; obtain ⟨v0, v1, v2, v3⟩ := cl4 hbz; have f0 := frozen_of_row _ _ 0 _ _ hbz; have f1 := frozen_of_row _ _ 1 _ _ hbz; have f2 := frozen_of_row _ _ 2 _ _ hbz; have f3 := frozen_of_row _ _ 3 _ _ hbz; have HBz2 := hid hbz; have HMq := hid (HMz.out.trans z.mod); have HBw := hid (z.heap (qAo HM3.out HBr2.out)); clear g3 gk3 g6 gl hbz; go_wp2_with fail
   have hqz := qDh HBz2.out (.bool m'.leaf) (.slice m'.ka m'.keys.length m'.kc) (.slice m'.va m'.values.length m'.vc) (.slice m'.ia m'.kids.length m'.ic); have hmq : Mod (fun k => k = q) z.val ((((z.val.setCell ⟨q, 0, none⟩ (.bool m'.leaf)).setCell ⟨q, 1, none⟩ (.slice m'.ka m'.keys.length m'.kc)).setCell ⟨q, 2, none⟩ (.slice m'.va m'.values.length m'.vc)).setCell ⟨q, 3, none⟩ (.slice m'.ia m'.kids.length m'.ic)) := qBo (S := fun k => k = q) (Mod.refl _ _) (fun _ => rfl) _ _ _ _
   have hQ := HQ.out; have HR : Hid (qUg S w ((((z.val.setCell ⟨q, 0, none⟩ (.bool m'.leaf)).setCell ⟨q, 1, none⟩ (.slice m'.ka m'.keys.length m'.kc)).setCell ⟨q, 2, none⟩ (.slice m'.va m'.values.length m'.vc)).setCell ⟨q, 3, none⟩ (.slice m'.ia m'.kids.length m'.ic)) T q fin key f n' m') := hid ⟨HD'.out, HG'.out, HH'.out, HN'.out, HB'.out, hqz, HMq.out.then hmq (fun k hk e => by omega), (hmq.block _ (lth HBw.out) (fun e => by omega)).trans HBw.out⟩
   clear hqz hmq hQ; go_roundg f
   case measure => have h1 := HGf.out; omega
   case rel => exact ⟨n', m', HR.out⟩
end
section
open Go Go.RowKit
theorem qVt {a b : ByteArray} (h : kl a b = true) : a ≠ b := fun e => by rw [e, qCi] at h; cases h
theorem qWb {look : Int -> Option NP} {m : Nat} (key : ByteArray) : ∀ (h : Nat) (s : Int) (t : Tr h), Sd look m h s t -> Asc (flat h t) →
  ∃ es, qTv look (h + 1) (lf h, eOf h t) key = some (true, es) /\ ∀ v, (∃ x ∈ es, x.key = key /\ x.value = v) ↔ (key, v) ∈ flat h t
 | 0, s, t, _, _ => by
  refine ⟨eOf 0 t, rfl, fun v => ⟨fun ⟨x, hx, h1, h2⟩ => ?_, fun hv => ⟨⟨key, v, 0⟩, List.mem_map.2 ⟨(key, v), hv, rfl⟩, rfl, rfl⟩⟩⟩
  obtain ⟨p, hp, rfl⟩ := List.mem_map.1 hx; have : p = (key, v) := by rw [<- h1, <- h2]
  rw [<- this]; exact hp
 | h + 1, s, l, hS, hf => by
  obtain ⟨⟨hlk, hg⟩, hB⟩ := hS; have hB : Lowr look m (h + 1) l := hB; have hok : Ok l := qLf hB; have hf : Asc (qAe l) := hf; have hne : l ≠ [] := fun e => hg.ne (by rw [e]; rfl)
  obtain ⟨a, e, b, rfl, hpl, hle, hgt⟩ := qEq (fun e : TE (Tr h) => e.key) key l hne (qIy hok hf)
  have hi : qBv key (eOf (h + 1) (a ++ e :: b)) = a.length := (qJt key _).trans hpl; obtain ⟨hSe, hfe, hwe⟩ := hB e (List.mem_append_right _ List.mem_cons_self); have hfl : qAe (a ++ e :: b) = qAe a ++ (flat h e.sub ++ qAe b) := by
   rw [qAj]; have : qAe (e :: b) = flat h e.sub ++ qAe b := by unfold qAe; rw [List.flatMap_cons]
   rw [this]
  have hsub : Asc (flat h e.sub) := by
   have h1 := hf; rw [hfl] at h1; exact (qBz.1 (qBz.1 h1).2.1).1
  obtain ⟨es, hd, hv⟩ := qWb key h e.spot e.sub hSe hsub; have hlkx : (eOf (h + 1) (a ++ e :: b))[qBv key (eOf (h + 1) (a ++ e :: b))]? = some (eE e) := by
   rw [hi, qBm, List.getElem?_map]; simp
  have hln : look e.spot = some (lf h, eOf h e.sub) := (qGm.1 hSe).1.1; refine ⟨es, ?_, fun v => (hv v).trans ?_⟩
  ·show ((eOf (h + 1) (a ++ e :: b))[qBv key (eOf (h + 1) (a ++ e :: b))]?).bind _ = _; rw [hlkx]; show (look e.spot).bind _ = _; rw [hln]; exact hd
  ·show (key, v) ∈ flat h e.sub ↔ (key, v) ∈ qAe (a ++ e :: b); rw [hfl, List.mem_append, List.mem_append]; refine ⟨fun h => .inr (.inl h), fun h3 => ?_⟩
   rcases h3 with h3 | h3 | h3
   ·exfalso
    rcases hle with rfl | hle
    ·simp [qAe] at h3
    ·obtain ⟨v0, r, hfe2⟩ := qGp hok (e := e) (List.mem_append_right _ List.mem_cons_self); have h1 := hf; rw [hfl] at h1; obtain ⟨_, _, hab⟩ := qBz.1 h1; have h4 : kl key e.key = true := hab _ h3 (e.key, v0) (List.mem_append_left _ (by rw [hfe2]; exact List.mem_cons_self))
     rcases hle with hle | hle
     ·exact qVt h4 hle.symm
     ·exact qVt (qDc h4 hle) rfl
   ·exact h3
   ·exfalso
    obtain ⟨x, hx, hp⟩ := qRk h3; have h4 := jGr hok hf (e := x) (List.mem_append_right _ (List.mem_cons_of_mem _ hx)) hp; have h5 : kl key x.key = true := hgt x hx; rcases h4 with h4 | h4
    ·exact qVt h5 h4
    ·exact qVt (qDc h5 h4) rfl
end
section
open Go Go.RowKit
attribute [local go_sem] qFr
def geK (key : ByteArray) (p : KV) : Bool := !kl p.1 key
def qGh (l : List KV) (key : ByteArray) (most : Int) : List KV := (l.filter (geK key)).take most.toNat
theorem qQv {l o : List KV} {key : ByteArray} {most : Int} {k : Nat} (ho : o = (l.take k).filter (geK key)) (hm : o.length <= most.toNat) (he : l.length <= k \/ most <= (o.length : Int)) : qGh l key most = o := by
 unfold qGh; rcases he with he | he
 ·rw [List.take_of_length_le he] at ho; rw [<- ho, List.take_of_length_le hm]
 ·have e : l.filter (geK key) = o ++ (l.drop k).filter (geK key) := by rw [ho, <- List.filter_append, List.take_append_drop]
  have h1 : most.toNat = o.length := by omega
  rw [e, h1, List.take_left]
set_option maxRecDepth 100000
set_option maxHeartbeats 1000000 in
theorem qZq {w : World} {a : Option Addr} (cap0 : Nat) {l : List KV} (hl : Lies w 2 kcs a l) (key : ByteArray) (most : Int) (hb : l.length <= 1099511627776) :
  Calls Tryz.prog 28 #[.slice a l.length cap0, .string key, .int .i64 most] w fun e w' => ∃ la cap, e = .returned (.slice la (qGh l key most).length cap) /\ Own w' 71 2 la (qGh l key most).length cap ((qGh l key most).flatMap kcs) /\ (∀ b, blk la b -> w.heap.size <= b) /\ Mod (fun _ => False) w w' := by
 obtain ⟨i0, hi, hz0, hz1, hz2⟩ := info_parts jGt; have HL := hid hl; have HBd := hid hb; clear hl hb; go_enter Tryz.func28, Tryz.ntmps28
 go_wp2_with fail
 go_loopw [7, 8] (fun sl si wr => ∃ (k : Nat) (o : List KV) (la : Option Addr) (cap : Nat), k <= l.length /\ sl = .slice la o.length cap /\ si = .int .i64 (k : Int) /\ o = (l.take k).filter (geK key) /\ o.length <= most.toNat /\ o.length <= k /\ Own wr 71 2 la o.length cap (o.flatMap kcs) /\ (∀ b, blk la b -> w.heap.size <= b) /\ Mod (fun _ => False) w wr) (fun _ si _ => l.length - (intOf si).toNat)
 case atStart => exact ⟨0, [], none, 0, Nat.zero_le _, rfl, rfl, by simp, Nat.zero_le _, Nat.zero_le _, Own.nil _ _ _, (fun k hk => (qAg k hk).elim), Mod.refl _ _⟩
 case round =>
  obtain ⟨k, o, la, cap, hk, rfl, rfl, r1, r2, r3, r4, r5, r6⟩ := hrel; have HOe := hid r1; have HOm := hid r2; have HO := hid r4; have HB := hid r5; have HM := hid r6; clear r1 r2 r4 r5 r6; by_cases hlt : k < l.length
  ·by_cases hmo : (o.length : Int) < most
   ·have d0 : decide ((o.length : Int) < most) = true := by simpa using hmo
    have HMo := hid hmo; obtain ⟨⟨xk, xv⟩, hx⟩ : ∃ x, l[k]? = some x := ⟨_, List.getElem?_eq_getElem hlt⟩; obtain ⟨g, off, rfl⟩ := HL.out.some (by omega)
    have hq0 := (HL.out.ext HM.out).cell qEd hx (j := 0) rfl; have hq1 := (HL.out.ext HM.out).cell qEd hx (j := 1) rfl; simp only [Nat.add_zero] at hq0; have hkb : k + 1 <= 1099511627776 := by have := HBd.out; omega
    have HTk : Hid ((l.take (k + 1)).filter (geK key) = o ++ (if geK key (xk, xv) then [(xk, xv)] else [])) := hid (by
     rw [List.take_add_one, hx, List.filter_append, <- HOe.out]; congr 1
     cases hg : geK key (xk, xv) <;> simp [hg])
    clear hx hmo; cases hg : kl xk key with
    | false =>
     have d1 : Op.bytesLess xk.toList key.toList = false := hg; have HG : Hid (geK key (xk, xv) = true) := hid (by unfold geK; rw [hg]; rfl)
     clear hg; go_wp2_with (at_builtin; refine qAc rfl (.tmp 28) (.tmp 33) 25 rfl 71 i0 _ 2 32 Tryz.underlying25 hi hz0 hz1 hz2 rfl la o.length cap _ rfl (qCz HO.out _) (some ⟨wr.heap.size, 0, none⟩) 1 1 _ rfl (qEh _ _ _) qEi (by unfold maxLen; omega) (by omega) ?_; intro la5 cap5 w5 hown hmo hbo hn5 hr5; have HO5 := hid hown; have HM5 : Hid (Mod (fun _ => False) w w5) := hid ((HM.out.alloc _).then hmo (fun b hlt hb => by have h1 := HB.out b hb; omega)); have HB5 : Hid (∀ b, blk la5 b -> w.heap.size <= b) := hid (fun b hb => (hbo b hb).elim (fun e => HB.out b e) (fun e => by have h1 := HM.out.size; rw [World.size_alloc] at e; omega)); clear hown hmo hbo hn5 hr5)
     go_roundw
     case rel => exact ⟨k + 1, o ++ [(xk, xv)], la5, cap5, by omega, by rw [List.length_append]; rfl, by go_num, by rw [HTk.out, HG.out]; rfl, by rw [List.length_append]; simp; have := HMo.out; omega, by rw [List.length_append]; simp; omega, by rw [qFa, List.length_append]; exact HO5.out, HB5.out, HM5.out⟩
     case measure => simp [intOf]; omega
    | true =>
     have d1 : Op.bytesLess xk.toList key.toList = true := hg; have HG : Hid (geK key (xk, xv) = false) := hid (by unfold geK; rw [hg]; rfl)
     clear hg; go_wp2_with fail
     go_roundw
     case rel => exact ⟨k + 1, o, la, cap, by omega, rfl, by go_num, by rw [HTk.out, HG.out]; simp, HOm.out, by omega, HO.out, HB.out, HM.out⟩
     case measure => simp [intOf]; omega
   ·have d0 : decide ((o.length : Int) < most) = false := by simpa using hmo
    have HE : Hid (qGh l key most = o) := hid (qQv HOe.out HOm.out (.inr (by omega)))
    clear hmo; go_wp2_with fail
    go_ret; rw [HE.out]; exact ⟨la, cap, rfl, HO.out, HB.out, HM.out⟩
  ·have HE : Hid (qGh l key most = o) := hid (qQv HOe.out HOm.out (.inl (by omega)))
   go_wp2_with fail
   go_ret; rw [HE.out]; exact ⟨la, cap, rfl, HO.out, HB.out, HM.out⟩
end
section
open Go Go.RowKit
def pvE (x : Ent) : KV := (x.key, x.value)
def qXq (g : Int -> Option (List KV)) : List Ent -> Option (List KV)
 | [] => some []
 | x :: r => (g x.kid).bind fun a => (qXq g r).map (a ++ ·)
def qJq (look : Int -> Option NP) : Nat -> Int -> ByteArray -> Option (List KV)
 | 0, _, _ => none
 | f + 1, s, key => (look s).bind fun n => if n.1 then some (((n.2.drop (qBv key n.2)).map pvE).filter (geK key)) else qXq (fun s => qJq look f s key) (n.2.drop (qBv key n.2))
theorem qNv {look : Int -> Option NP} {f h : Nat} {key : ByteArray} : ∀ (b : List (TE (Tr h))), (∀ e ∈ b, qJq look f e.spot key = some ((flat h e.sub).filter (geK key))) -> qXq (fun s => qJq look f s key) (b.map eE) = some ((qAe b).filter (geK key))
 | [], _ => rfl
 | e :: b, k => by
  have h1 := k e List.mem_cons_self; have h2 := qNv b (fun x hx => k x (List.mem_cons_of_mem _ hx))
  show (qJq look f e.spot key).bind (fun a => (qXq (fun s => qJq look f s key) (b.map eE)).map (a ++ ·)) = _
  rw [h1, h2]; have e1 : qAe (e :: b) = flat h e.sub ++ qAe b := by unfold qAe; rw [List.flatMap_cons]
  rw [e1, List.filter_append]; rfl
theorem jBh {key : ByteArray} {p : KV} (h : kl p.1 key = true) : geK key p = false := by unfold geK; rw [h]; rfl
theorem qUi {look : Int -> Option NP} {m : Nat} (key : ByteArray) : ∀ (h : Nat) (s : Int) (t : Tr h), Sd look m h s t -> Asc (flat h t) -> qJq look (h + 1) s key = some ((flat h t).filter (geK key))
 | 0, s, l, hS, hf => by
  have hlk : look s = some (true, eOf 0 l) := (qGm.1 hS).1.1; have hg : qAw true (eOf 0 l) := (qGm.1 hS).1.2; have hne : l ≠ ([] : List KV) := fun e => hg.ne (by rw [e]; rfl)
  have hf : Asc l := hf; obtain ⟨a, e, b, rfl, hpl, hle, hgt⟩ := qEq (fun p : KV => p.1) key l hne hf
  have hi : qBv key (eOf 0 (a ++ e :: b)) = a.length := by
   refine Eq.trans ?_ hpl; unfold qBv; show (List.filter _ (List.map _ (a ++ e :: b))).length - 1 = _; rw [List.filter_map, List.length_map]; rfl
  have hdr : ((eOf 0 (a ++ e :: b)).drop a.length).map pvE = e :: b := by
   show ((List.map _ (a ++ e :: b)).drop a.length).map pvE = _; rw [<- List.map_drop, List.drop_left, List.map_map]; exact List.map_id _
  show (look s).bind _ = _; rw [hlk]; show some _ = _; rw [hi, hdr]; show some ((e :: b).filter (geK key)) = some ((a ++ e :: b).filter (geK key)); rw [List.filter_append, qBe (p := geK key) (l := a) (fun x hx => ?_), List.nil_append]
  have h1 : kl x.1 e.1 = true := (qBz.1 hf).2.2 x hx e List.mem_cons_self; refine jBh ?_; rcases hle with rfl | hle
  ·cases hx
  ·rcases hle with hle | hle
   ·rw [<- hle]; exact h1
   ·exact qDc h1 hle
 | h + 1, s, l, hS, hf => by
  obtain ⟨⟨hlk, hg⟩, hB⟩ := hS; have hB : Lowr look m (h + 1) l := hB; have hok : Ok l := qLf hB; have hf : Asc (qAe l) := hf; have hne : l ≠ [] := fun e => hg.ne (by rw [e]; rfl)
  obtain ⟨a, e, b, rfl, hpl, hle, hgt⟩ := qEq (fun e : TE (Tr h) => e.key) key l hne (qIy hok hf)
  have hi : qBv key (eOf (h + 1) (a ++ e :: b)) = a.length := (qJt key _).trans hpl; have hfl : qAe (a ++ e :: b) = qAe a ++ qAe (e :: b) := qAj _ _; have hdr : (eOf (h + 1) (a ++ e :: b)).drop a.length = (e :: b).map eE := by
   rw [qBm, <- List.map_drop, List.drop_left]
  have hlo : (qAe a).filter (geK key) = [] := qBe (fun p hp => by
   refine jBh ?_; rcases hle with rfl | hle
   ·simp [qAe] at hp
   ·obtain ⟨v0, r, hfe2⟩ := qGp hok (e := e) (List.mem_append_right _ List.mem_cons_self); have h1 := hf; rw [hfl] at h1; obtain ⟨_, _, hab⟩ := qBz.1 h1; have h4 : kl p.1 e.key = true := hab p hp (e.key, v0) (by
     have e1 : qAe (e :: b) = flat h e.sub ++ qAe b := by unfold qAe; rw [List.flatMap_cons]
     rw [e1, hfe2]; exact List.mem_append_left _ List.mem_cons_self)
    rcases hle with hle | hle
    ·rw [<- hle]; exact h4
    ·exact qDc h4 hle)
  have hsub : ∀ x ∈ e :: b, Asc (flat h x.sub) := fun x hx => by
   have hmem : x ∈ a ++ e :: b := List.mem_append_right _ hx; refine List.Pairwise.sublist ?_ hf; obtain ⟨p, q, hpq⟩ := List.append_of_mem hmem; rw [hpq, show p ++ x :: q = p ++ ([x] ++ q) from rfl, qAj, qAj]
   refine List.Sublist.trans ?_ (List.sublist_append_right _ _); have e1 : qAe [x] = flat h x.sub := by unfold qAe; simp
   rw [e1]; exact List.sublist_append_left _ _
  have hkids := qNv (look := look) (f := h + 1) (key := key) (e :: b) (fun x hx => qUi key h x.spot x.sub (hB x (List.mem_append_right _ hx)).1 (hsub x hx))
  show (look s).bind _ = _; rw [hlk]; show qXq (fun s => qJq look (h + 1) s key) ((eOf (h + 1) (a ++ e :: b)).drop (qBv key (eOf (h + 1) (a ++ e :: b)))) = some ((qAe (a ++ e :: b)).filter (geK key))
  rw [hi, hdr, hkids, hfl, List.filter_append, hlo, List.nil_append]
end
section
open Go Go.RowKit
section
variable {P : Program} {ops : Array Oper} {md : Region.Mode} {C : World -> Prop} {m : Nat}
theorem qWv {p : Prop} : Fence.wide.depth.isSome = true -> p := fun h => by cases h
theorem qIf {o : Oper} {a : Act} {K : Act -> Prop} {K' : Act -> World -> Prop} {Q' : Exit -> Act -> World -> Prop} {w : World} (hw : C w) (h : ∀ a w', C w' -> K a -> K' a w') (hh : o.quiet P a C K) : o.wpIn Fence.wide m P a w K' Q' := by
 obtain ⟨v, h1, h2⟩ := hh; have h3 := h1 w hw; unfold Oper.quietAt at h3; unfold Oper.wpIn; refine ⟨fun _ _ => trivial, ?_⟩
 rw [show Fence.wide.round = none from rfl, Oper.semAt_none]
 generalize (execOp a.eval o).run P w = r at *; cases r with
 | ok x w' =>
  cases x <;> simp only [Oper.quietUpon] at h3 <;> simp only [Oper.uponIn]
  case value u =>
   obtain ⟨e1, e2⟩ := h3; rw [e1, e2]; exact h _ _ hw h2
  case skip =>
   obtain ⟨e1, e2⟩ := h3; rw [e1, <- e2]; exact h _ _ hw h2
  case enter f args =>
   obtain ⟨e1, hc⟩ := h3; rw [e1]; exact ⟨qWv, callsIn_wide.2 (hc.mono fun e w'' ⟨he, hw''⟩ => by subst he; exact h _ _ hw'' h2)⟩
 | halt x w' => simp only [Oper.quietUpon] at h3
theorem qSr {i : Nat} {a : Act} {K : Act -> Prop} {K' : Act -> World -> Prop} {Q' : Exit -> Act -> World -> Prop} {w : World} (hC : C w) (h : ∀ a w', C w' -> K a -> K' a w') (hh : qOp P ops C i K a) : wpOpIn Fence.wide m P ops Q' i K' a w := by
 unfold qOp at hh; unfold wpOpIn; split
 ·rename_i ho; simp only [ho] at hh; exact h _ _ hC hh
 ·rename_i o ho
  simp only [ho] at hh; split
  ·rename_i hw; simp only [hw, if_true] at hh; exact qIf hC h hh
  ·rename_i hw; simp only [hw] at hh; exact ⟨fun _ _ => trivial, h _ _ hC hh⟩
theorem qJl {n g : Nat} {L : Array Bool -> Act -> Prop} {Q : Exit -> Act -> World -> Prop} (hL : ∀ listed a w, C w -> L listed a -> wpAnyIn Fence.wide m P md ops Q g listed a w) :
  ∀ (f : Nat) (listed : Array Bool) (a : Act) (w : World), C w -> qKk P md ops C n L f listed a -> wpAnyIn Fence.wide m P md ops Q (f + g) listed a w
 | 0, listed, a, w, hw, h => by rw [Nat.zero_add]; exact hL _ _ _ hw h
 | f + 1, listed, a, w, hw, h => by
  rw [show f + 1 + g = (f + g) + 1 by omega]
  exact ⟨fun h0 => absurd h0 h.1, fun i hi => qSr hw (fun a' w' hw' h' => qJl hL f _ a' w' hw' h') (h.2 i hi).2⟩
theorem qHr {F : Fence} {Q' : Exit -> Act -> World -> Prop} : ∀ (l : List Oper) (k : Nat) (listed : Array Bool) (a : Act) (w : World), (∀ j, l[j]? = ops[k + j]?) →
  Region.seqB md ops l.length k listed = true -> wpListIn F m P ops Q' l a w -> wpAnyIn F m P md ops Q' l.length listed a w
 | [], _, _, _, _, _, hB, h => ⟨by simpa [Region.seqB] using hB, h⟩
 | o :: l, k, listed, a, w, hl, hB, h => by
  have h0 : ops[k]? = some o := by simpa using (hl 0).symm
  simp only [List.length_cons, Region.seqB, Bool.and_eq_true, decide_eq_true_eq] at hB; refine ⟨fun h1 => (by rw [hB.1] at h1; cases h1), fun i hi => ?_⟩
  rw [hB.1] at hi; have hik : i = k := by simpa using hi
  subst hik; have hw : wpOpIn F m P ops Q' i (wpListIn F m P ops Q' l) a w := by unfold wpOpIn; simp only [h0]; exact h
  exact wpOpIn_mono (fun a' w' h' => qHr l (i + 1) _ a' w' (fun j => by have := hl (j + 1); simpa [Nat.add_assoc, Nat.add_comm 1 j] using this) hB.2 h') hw
end
theorem qHo {P : Program} {id m : Nat} {Q : Exit -> Act -> World -> Prop} {a : Act} {w : World} {l : List Oper} (n : Nat) (hm : P.follows .mixedOrders = true) (hB : Region.lexTailB .any l.toArray n = true)
  (h : wpQuiet P l.toArray (fun w' => ∃ x : Ext w, w' = x.val) (fun a' => ∀ w', (∃ x : Ext w, w' = x.val) -> wpListIn Fence.wide m P l.toArray Q (l.drop n) a' w') (l.take n) a) : (Code.region id l.toArray true).wpIn Fence.wide m P Q a w := by
 simp only [Region.lexTailB, Bool.and_eq_true, decide_eq_true_eq] at hB; obtain ⟨⟨⟨⟨hsel, hn⟩, hs⟩, hc⟩, hlex⟩ := hB; have htl : (l.take n).length = n := by simp at hn ⊢; omega
 have hdl : (l.drop n).length = l.toArray.size - n := by simp
 have inv0 : HeadInv .any l.toArray n (Array.replicate l.toArray.size false) :=
  ⟨by simp, fun j oj _ hl => (by rw [getD_replicate_false] at hl; cases hl), fun t _ ht => getD_in (by simpa using ht) (getD_replicate_false _ _)⟩
 have H := qPp (md := .any) (g := l.toArray.size - n) hsel hs hc hn (l.take n) 0 _ a (fun j hj => by
  have hj' : j < n := by rw [htl] at hj; exact hj
  simp [hj']) (by simpa using htl) inv0 (by rw [htl]; exact hlex) h
 refine wpIn_region_any hm ?_; have := qJl (m := m) (Q := Q) (g := l.toArray.size - n) (fun listed a' w' hC hL => by
  have := qHr (F := Fence.wide) (m := m) (md := .any) (Q' := Q) (l.drop n) n listed a' w' (fun j => by simp [List.getElem?_drop]) (by rw [hdl]; exact hL.1) (hL.2 w' hC)
  rwa [hdl] at this) _ _ _ { w with drawn := w.drawn + 1 } ⟨⟨_, (Mod.refl _ w).drew⟩, rfl⟩ H
 rw [htl, show n + (l.toArray.size - n) = l.toArray.size by omega] at this
 exact this
theorem qEn {F : Fence} {r : Nat} {P : Program} {ops : Array Oper} {rest : List Oper} {o : Oper} {a : Act} {w : World} {Q : Exit -> Act -> World -> Prop}
  (hg : o.guard = none) (s x : Operand) (t : TypeId) (hop : o.op = Op.call { callee := Callee.builtin Builtin.append, args := #[s, x], argTypes := #[t, t] })
  (e : TypeId) (i : TypeInfo) (z : Value) (size bytes : Nat) (h1 : P.underlying t = some (.slice e)) (h2 : P.info? e = some i) (hz : i.zero = some z) (h4 : i.size = size) (hby : i.bytes = bytes) (hzs : z.cells.size = size)
  (sa : Option Addr) (n cap : Nat) (xs : List Value) (hs : a.eval s = .slice sa n cap) (hown : Own w e size sa n cap xs)
  (xa : Option Addr) (m c : Nat) (news : List Value) (hx : a.eval x = .slice xa m c) (hsrc : Src w size xa m news) (h1c : ∀ u ∈ news, u.oneCell' = true)
  (h63 : n + m <= maxLen) (hbytes : (n + m) * bytes <= 140737488355328)
  (hK : ∀ sa' cap' w', Own w' e size sa' (n + m) cap' (xs ++ news) -> Mod (blk sa) w w' -> (∀ k, blk sa' k -> blk sa k \/ w.heap.size <= k) -> (sa' = none -> sa = none /\ m = 0) -> (n + m <= cap -> sa' = sa /\ cap' = cap) -> wpListIn F r P ops Q rest (a.put o.dst (.slice sa' (n + m) cap')) w') :
  wpListIn F r P ops Q (o :: rest) a w := by
 refine wpListIn_plain hg fun K hK' => ?_
 obtain ⟨sa', cap', w', hrun, r1, r2, r3, r4, r5⟩ := qHt (P := P) w t o.type e i z size bytes h1 h2 hz h4 hby hzs sa n cap xs hown xa m c news hsrc h1c h63 hbytes; unfold Oper.wpIn; refine ⟨?_, ?_⟩
 ·simp [Oper.about, hop, resolve, Target.leads, Sem.run_pure]
 ·rw [Oper.semAt_plain F _ _ (by rw [hop]; intro c hc'; cases hc')]
  simp [execOp, hop, resolve, invoke, builtin, hs, hx, hrun, Result.andThen]
  exact hK' _ _ (hK sa' cap' w' r1 r2 r3 r4 r5)
theorem qPm {T : Nat -> Prop} {W W' : World} (B : Nat) (h : Mod T W W') (ht : ∀ k o, T k -> W.heap[k]? = some o -> o.isCells = true) : KeepsFrom B W W' :=
 ⟨h.size, fun k o _ hk ho => (h.block k (lth hk) (fun e => by rw [ht k o e hk] at ho; cases ho)).trans hk⟩
end
end Go.Proofs.YtgbcibdfeeiilaaGreatDoor
