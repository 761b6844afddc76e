/- merged: TwE -/
import Derived.Test.YtgbcibdfeeiilaaGreatDoorMe17
import Derived.Test.YtgbcibdfeeiilaaGreatDoorMe28
import Derived.Test.YtgbcibdfeeiilaaGreatDoorMe29
import Derived.Test.YtgbcibdfeeiilaaGreatDoorMe26
namespace Go.Proofs.YtgbcibdfeeiilaaGreatDoor
section
open Go Go.RowKit
theorem qKj (t : TypeId) (a b : ByteArray) : binOp .leq t (.string a) (.string b) = pure (.bool (Op.bytesLess a.toList b.toList || a.toList == b.toList)) := by simp [binOp, Op.stringOp]
attribute [local go_sem] qKj
def LS (B : TB) (lb k : Nat) : Prop := TS B k \/ k = lb
def TM.with (T : TM) (R : RS) : TM := { T with nodes := R.nodes }
structure RdAt (w : World) (B : TB) (lb : Nat) (T : TM) (D : Dsk) (R : RS) : Prop where
 tree : qAp (LS B lb) w B (T.with R) D false
 least : w.heap[lb]? = some (.cells #[.string R.least] 9 (0, 0))
 apart : ¬ TS B lb
 ab : B.nb ≠ B.ab
def qSn (w : World) (B : TB) (lb : Nat) (T : TM) (D : Dsk) (o : Option (RS × Nat)) (e : Ending) (w' : World) : Prop :=
 Mod (LS B lb) w w' /\ match o with
 | some (R', n) => e = .returned (.tuple #[.int .i64 (n : Int), .int .i64 0]) /\ RdAt w' B lb T D R'
 | none => (∃ v, e = .returned (.tuple #[v, .int .i64 53])) /\ ∃ R', RdAt w' B lb T D R'
theorem RdAt.ext {w w' : World} {B : TB} {lb : Nat} {T : TM} {D : Dsk} {R : RS} (h : RdAt w B lb T D R) (hm : Mod (fun _ => False) w w') : RdAt w' B lb T D R :=
 ⟨h.tree.mod hm (fun _ e => e.elim) (fun _ e => e.elim), qAo hm h.least, h.apart, h.ab⟩
theorem RdAt.disk {w w' : World} {B : TB} {lb : Nat} {T : TM} {D : Dsk} {R : RS} (h : RdAt w B lb T D R) (hm : Mod (qBe B.d B.sa) w w') (hd : qAn w' B.d B.sa D) : RdAt w' B lb T D R :=
 ⟨qIt h.tree (fun _ e => .inl e) hm hd rfl, (hm.block _ (lth h.least) (fun e => h.apart (.inr (.inr (.inr (.inr e)))))).trans h.least, h.apart, h.ab⟩
set_option maxRecDepth 100000
set_option maxHeartbeats 1000000 in
theorem qUv {w : World} {B : TB} {lb : Nat} {T : TM} {D : Dsk} {R : RS} (h : RdAt w B lb T D R) (s : Int) (d : Nat) (hg : (R.nodes s).isSome = true \/ d = 0 \/ s < 1 \/ T.next <= s) :
  Calls Tryz.prog 67 #[.pointer (some ⟨B.tb, 0, none⟩), .int .i64 s, .int .i64 (d : Int), .pointer (some ⟨lb, 0, none⟩)] w (qSn w B lb T D none) := by
 obtain ⟨_, c1, _, _, _, _, c6, _⟩ := h.tree.cells; have HR := hid h; have hFin : ∀ w' v, Mod (fun _ => False) w w' -> qSn w B lb T D none (.returned (.tuple #[v, .int .i64 53])) w' := fun w' v hm => ⟨hm.mono (fun _ _ e => e.elim), ⟨_, rfl⟩, R, HR.out.ext hm⟩
 have HF := hid hFin; cases hn : R.nodes s with
 | some n =>
  obtain ⟨m, hlk, _⟩ := h.tree.nodes.get (s := s) (n := n) hn; have hl0 := hlk w (Mod.refl _ _) true; simp only [Nd.val, if_true] at hl0; clear h hg hn hlk hFin; go_enter Tryz.func67, Tryz.ntmps67
  go_wp2_with fail
  go_ret2; exact HF.out _ _ ((Mod.refl _ _).alloc _)
 | none =>
  have hl0 := h.tree.nodes.miss (s := s) hn true; simp only [qOu, if_true] at hl0; have hc1 : (w.alloc (.cells #[.bool false, .slice none 0 0, .slice none 0 0, .slice none 0 0] 116)).cell? ⟨B.tb, 1, none⟩ = some (.int .i64 T.next) := ((h.ext ((Mod.refl _ w).alloc (.cells #[.bool false, .slice none 0 0, .slice none 0 0, .slice none 0 0] 116))).tree.cells).2.1; rw [hn] at hg; have hg := hg.resolve_left (by simp)
  clear h hn hFin; by_cases h0 : d = 0
  ·subst h0; clear hg; go_enter Tryz.func67, Tryz.ntmps67
   go_wp2_with fail
   go_ret2; exact HF.out _ _ ((Mod.refl _ _).alloc _)
  ·have e0 : ((d : Int) == 0) = false := by rw [beq_eq_false_iff_ne]; omega
   have hg := hg.resolve_left h0; by_cases h1 : s < 1
   ·have e1 : decide (s < 1) = true := by simpa using h1
    clear hg h0 h1; go_enter Tryz.func67, Tryz.ntmps67
    go_wp2_with fail
    go_ret2; exact HF.out _ _ ((Mod.refl _ _).alloc _)
   ·have e1 : decide (s < 1) = false := by simpa using h1
    have e2 : decide (T.next <= s) = true := by simpa using hg.resolve_left h1
    clear hg h0 h1; go_enter Tryz.func67, Tryz.ntmps67
    go_wp2_with fail
    go_ret2; exact HF.out _ _ ((Mod.refl _ _).alloc _)
theorem jGu {bs : ByteArray} (hs : bs.size <= 1024) (h : decP bs = none) (z : World) : Calls Tryz.prog 92 #[.string bs] z fun e w' => e = .returned (.tuple #[.agg #[.bool false, .slice none 0 0, .slice none 0 0, .slice none 0 0], .int .i64 40]) /\ Mod (fun _ => False) z w' :=
 (jBo z (by omega)).mono fun e w' hd => by
  obtain ⟨hm, hd⟩ := hd; rw [h] at hd; exact ⟨hd, hm⟩
theorem qSt {bs : ByteArray} (hs : bs.size <= 1024) {leaf : Bool} {es : List Ent} (h : decP bs = some (leaf, es)) (z : World) : Calls Tryz.prog 92 #[.string bs] z fun e w' =>
  ∃ m : Nd, e = .returned (.tuple #[.agg #[.bool m.leaf, .slice m.ka m.keys.length m.kc, .slice m.va m.values.length m.vc, .slice m.ia m.kids.length m.ic], .int .i64 0]) /\ Has m leaf es /\ NdC w' m /\ (∀ b, m.bs b -> z.heap.size <= b /\ b < w'.heap.size) /\ Mod (fun _ => False) z w' :=
 (jBo z (by omega)).mono fun e w' hd => by
  obtain ⟨hm, hd⟩ := hd; rw [h] at hd; obtain ⟨m, h1, rfl, h3, h4, _, h6, h7⟩ := hd; exact ⟨m, rfl, h1, h3.ndc (h1.ok h3 (by omega) h6), fun b hb => ⟨h4 b hb, h3.lt hb⟩, hm⟩
theorem qUy {w w' : World} {B : TB} {lb : Nat} {T : TM} {D : Dsk} {R : RS} (h : RdAt w' B lb T D R) (hm : Mod (LS B lb) w w') (v : Value) : qSn w B lb T D none (.returned (.tuple #[v, .int .i64 53])) w' := ⟨hm, ⟨_, rfl⟩, R, h⟩
set_option maxHeartbeats 2000000 in
theorem qSw {w : World} {B : TB} {lb : Nat} {T : TM} {D : Dsk} {R : RS} (h : RdAt w B lb T D R) {s : Int} (d : Nat) {bs : ByteArray} (hn : R.nodes s = none) (h1 : 1 <= s) (h2 : s < T.next) (hrd : qCt B.room D s = (bs, 0)) (hsz : bs.size <= 1024)
  (hno : decP bs = none \/ ∃ leaf es, decP bs = some (leaf, es) /\ (es = [] \/ kl R.least (fk es) = false)) :
  Calls Tryz.prog 67 #[.pointer (some ⟨B.tb, 0, none⟩), .int .i64 s, .int .i64 ((d : Int) + 1), .pointer (some ⟨lb, 0, none⟩)] w (qSn w B lb T D none) := by
 have hma : Mod (fun _ => False) w (w.alloc (.cells #[.bool false, .slice none 0 0, .slice none 0 0, .slice none 0 0] 116)) := (Mod.refl _ _).alloc _
 obtain ⟨_, _, _, _, _, _, c6, _⟩ := h.tree.cells; have hl0 := h.tree.nodes.miss (s := s) hn true; simp only [qOu, if_true] at hl0; have h' := h.ext hma; obtain ⟨_, a1, _, _, a4, _⟩ := h'.tree.cells; change _ = some (Value.int .i64 T.next) at a1; have HJ := hid (qGv h'.tree.disk h'.tree.jr h'.tree.sep h'.tree.hn h'.tree.hr s); rw [hrd] at HJ; have HR := hid h'; have HMa := hid hma; have e0 : (((d : Int) + 1) == 0) = false := by rw [beq_eq_false_iff_ne]; omega
 have e1 : decide (s < 1) = false := by simpa using h1
 have e2 : decide (T.next <= s) = false := by simpa using h2
 rcases hno with hno | ⟨leaf, es, hdc, hno⟩
 ·have HDc := hid (jGu hsz hno); clear h h' hn h1 h2 hrd hsz hma hno; go_enter Tryz.func67, Tryz.ntmps67
  go_upto_region 8 with (first
   | (go_at_call 32; refine HJ.out.mono ?_; rintro e w2 ⟨rfl, hd2, hm2⟩; have HR2 := hid (HR.out.disk hm2 hd2); have HM2 := hid hm2; clear hd2 hm2)
   | (go_at_call 92; refine (HDc.out _).mono ?_; rintro e w3 ⟨rfl, hm3⟩; have HR3 := hid (HR2.out.ext hm3); have HM3 := hid hm3; clear hm3))
  have HMx := hid (((HMa.out.mono (fun _ _ e => e.elim)).trans (HM2.out.mono (fun _ _ e => .inl (.inr (.inr (.inr (.inr e))))))).trans (HM3.out.mono (fun _ _ e => e.elim)) : Mod (LS B lb) w w3)
  refine qAc (by kernel_rfl) (by kernel_rfl) ?_
  repeat (go_big_quiet_step (fail))
  refine wpQuiet_nil ?_; rintro _ ⟨y, rfl⟩; have hmy : Mod (fun _ => False) w3 y.val := ((Mod.refl _ _).alloc _).trans y.mod
  have HF := hid (fun v => qUy (HR3.out.ext hmy) (HMx.out.trans (hmy.mono (fun _ _ e => e.elim))) v)
  clear hmy; go_wp2_with fail
  go_ret2; exact HF.out _
 ·have HDc := hid (qSt hsz hdc); clear h h' hn h1 h2 hrd hsz hma; go_enter Tryz.func67, Tryz.ntmps67
  go_upto_region 8 with (first
   | (go_at_call 32; refine HJ.out.mono ?_; rintro e w2 ⟨rfl, hd2, hm2⟩; have HR2 := hid (HR.out.disk hm2 hd2); have HM2 := hid hm2; clear hd2 hm2)
   | (go_at_call 92; refine (HDc.out _).mono ?_; rintro e w3 ⟨m, rfl, hh, hat, hbs, hm3⟩; have HH := hid hh; have HN := hid hat; have HR3 := hid (HR2.out.ext hm3); have HM3 := hid hm3; clear hm3 hh hat hbs))
  have HMx := hid (((HMa.out.mono (fun _ _ e => e.elim)).trans (HM2.out.mono (fun _ _ e => .inl (.inr (.inr (.inr (.inr e))))))).trans (HM3.out.mono (fun _ _ e => e.elim)) : Mod (LS B lb) w w3)
  have hb4 : (w3.alloc (.cells #[.bool m.leaf, .slice m.ka m.keys.length m.kc, .slice m.va m.values.length m.vc, .slice m.ia m.kids.length m.ic] 116)).heap[w3.heap.size]? = some (.cells #[.bool m.leaf, .slice m.ka m.keys.length m.kc, .slice m.va m.values.length m.vc, .slice m.ia m.kids.length m.ic] 116 (0, 0)) := heap_alloc_new _ _; have hm4 : Mod (fun _ => False) w3 (w3.alloc (.cells #[.bool m.leaf, .slice m.ka m.keys.length m.kc, .slice m.va m.values.length m.vc, .slice m.ia m.kids.length m.ic] 116)) := (Mod.refl _ _).alloc _
  generalize w3.alloc (.cells #[.bool m.leaf, .slice m.ka m.keys.length m.kc, .slice m.va m.values.length m.vc, .slice m.ia m.kids.length m.ic] 116) = Z at *; have HM4 := hid hm4; have HRz := hid (HR3.out.ext hm4); obtain ⟨_, y1, _, _⟩ := cl4 hb4; have hkl : m.keys.length = es.length := by rw [HH.out.k, List.length_map]
  have HF := hid (fun (y : Ext Z) v => qUy (HRz.out.ext y.mod) ((HMx.out.trans (HM4.out.mono (fun _ _ e => e.elim))).trans (y.mod.mono (fun _ _ e => e.elim))) v)
  cases es with
  | nil =>
   have d0 : ((m.keys.length : Int) == 0) = true := by rw [hkl]; rfl
   have g1 := fun y : Ext Z => y.cell y1
   clear hm4 hb4 y1 hkl hno; refine qAc (by kernel_rfl) (by kernel_rfl) ?_
   repeat (go_big_quiet_step (fail))
   refine wpQuiet_nil ?_; rintro _ ⟨y, rfl⟩; clear g1; go_wp2_with fail
   go_ret2; exact HF.out y _
  | cons x es =>
   have hno : kl R.least x.key = false := hno.resolve_left (by simp)
   have d0 : ((m.keys.length : Int) == 0) = false := by rw [hkl, beq_eq_false_iff_ne]; simp; omega
   have d1 : (Op.bytesLess x.key.toList R.least.toList || x.key.toList == R.least.toList) = true := by
    cases hk : kl x.key R.least with
    | true => have hk : Op.bytesLess x.key.toList R.least.toList = true := hk; rw [hk]; rfl
    | false => rw [qJd hk hno]; simp
   have hg0 : m.keys[0]? = some x.key := by rw [HH.out.k]; rfl
   have hdk : ¬ m.keys.length <= 0 := by rw [hkl]; simp
   obtain ⟨gk, ok, hka, hkc⟩ := (HN.out.ext HM4.out).nd.k.one hg0; rw [hka] at y1; simp only [Nat.add_zero] at hkc; have yl : Z.cell? ⟨lb, 0, none⟩ = some (.string R.least) := by rw [cell_of_row _ _ _ _ _ _ HRz.out.least]; rfl
   have g1 := fun y : Ext Z => y.cell y1
   have g2 := fun y : Ext Z => y.cell hkc
   have g3 := fun y : Ext Z => y.cell yl
   clear hm4 hb4 y1 hkl hno hka hkc yl hg0; refine qAc (by kernel_rfl) (by kernel_rfl) ?_
   repeat (go_big_quiet_step (fail))
   refine wpQuiet_nil ?_; rintro _ ⟨y, rfl⟩; clear g1 g2 g3; go_wp2_with fail
   go_ret2; exact HF.out y _
theorem qAp.lt' {S : Nat -> Prop} {w : World} {B : TB} {T : TM} {D : Dsk} {off : Bool} (h : qAp S w B T D off) {k : Nat} (hk : TS B k) : k < w.heap.size := by
 rcases hk with hk | hk | hk | hk | hk
 ·rw [hk]; exact lth h.box
 ·obtain ⟨l, h1, _⟩ := h.nodes; rw [hk]; exact h1.lt
 ·obtain ⟨l, h1, _⟩ := h.after; rw [hk]; exact h1.lt
 ·rw [hk]; exact h.jr.lt
 ·exact h.disk.lt k hk
theorem RdAt.add {w w' : World} {B : TB} {lb : Nat} {T : TM} {D : Dsk} {R : RS} (h : RdAt w B lb T D R) {s : Int} {n : NP} (hm : Mod (fun k => k = B.nb) w w') (hf : qBh (LS B lb) w' B.nb (fset R.nodes s (some n))) : RdAt w' B lb T D (R.add s n) :=
 ⟨qQv (T := T.with R) h.tree h.ab.symm hm hf, (hm.block _ (lth h.least) (fun e => h.apart (by rw [e]; exact .inr (.inl rfl)))).trans h.least, h.apart, h.ab⟩
theorem RdAt.rise {w : World} {B : TB} {lb : Nat} {T : TM} {D : Dsk} {R : RS} (h : RdAt w B lb T D R) (k : ByteArray) : RdAt (w.setCell ⟨lb, 0, none⟩ (.string k)) B lb T D (R.rise k) := by
 have hm : Mod (fun i => i = lb) w (w.setCell ⟨lb, 0, none⟩ (.string k)) := Mod.setCell (S := fun i => i = lb) (p := ⟨lb, 0, none⟩) (Mod.refl _ _) (fun _ => rfl) _
 exact ⟨h.tree.mod hm (fun _ e => .inr e) (fun _ e => by rw [e]; exact h.apart), qAh h.least _, h.apart, h.ab⟩
theorem lk_at (x : Ent) (es : List Ent) : ((x :: es).map (·.key))[es.length]? = some (lk (x :: es)) := by
 unfold lk; rw [List.getElem?_map, List.getLast?_eq_getElem?]; simp only [List.length_cons, Nat.add_sub_cancel]; rw [List.getElem?_eq_getElem (by simp)]
 rfl
set_option maxHeartbeats 4000000 in
theorem qZg {w : World} {B : TB} {lb : Nat} {T : TM} {D : Dsk} {R : RS} (h : RdAt w B lb T D R) {s : Int} (d : Nat) {bs : ByteArray} (hn : R.nodes s = none) (h1 : 1 <= s) (h2 : s < T.next) (hrd : qCt B.room D s = (bs, 0)) (hsz : bs.size <= 1024) {x : Ent} {es : List Ent} (hdc : decP bs = some (true, x :: es)) (hle : kl R.least x.key = true) :
  Calls Tryz.prog 67 #[.pointer (some ⟨B.tb, 0, none⟩), .int .i64 s, .int .i64 ((d : Int) + 1), .pointer (some ⟨lb, 0, none⟩)] w (qSn w B lb T D (some ((R.add s (true, x :: es)).rise (lk (x :: es)), es.length + 1))) := by
 have hma : Mod (fun _ => False) w (w.alloc (.cells #[.bool false, .slice none 0 0, .slice none 0 0, .slice none 0 0] 116)) := (Mod.refl _ _).alloc _
 obtain ⟨_, _, _, _, _, _, c6, _⟩ := h.tree.cells; have hl0 := h.tree.nodes.miss (s := s) hn true; simp only [qOu, if_true] at hl0; have h' := h.ext hma; obtain ⟨_, a1, _, _, a4, _⟩ := h'.tree.cells; change _ = some (Value.int .i64 T.next) at a1; have HJ := hid (qGv h'.tree.disk h'.tree.jr h'.tree.sep h'.tree.hn h'.tree.hr s); rw [hrd] at HJ; have HR := hid h'; have HMa := hid hma; have e0 : (((d : Int) + 1) == 0) = false := by rw [beq_eq_false_iff_ne]; omega
 have e1 : decide (s < 1) = false := by simpa using h1
 have e2 : decide (T.next <= s) = false := by simpa using h2
 have HDc := hid (qSt hsz hdc); have HNn := hid hn; have HG := hid (qFs hdc (List.cons_ne_nil x es)); have HLk := hid hle; clear h h' hn h1 h2 hrd hsz hma hdc; go_enter Tryz.func67, Tryz.ntmps67
 go_upto_region 8 with (first
  | (go_at_call 32; refine HJ.out.mono ?_; rintro e w2 ⟨rfl, hd2, hm2⟩; have HR2 := hid (HR.out.disk hm2 hd2); have HM2 := hid hm2; clear hd2 hm2)
  | (go_at_call 92; refine (HDc.out _).mono ?_; rintro e w3 ⟨m, rfl, hh, hat, hbs, hm3⟩; have HH := hid hh; have HN := hid hat; have HR3 := hid (HR2.out.ext hm3); have HM3 := hid hm3; have HBs := hid hbs; clear hm3 hh hat hbs))
 have HM0 := hid (((HMa.out.mono (fun _ _ e => e.elim)).trans (HM2.out.mono (fun _ _ e => .inl (.inr (.inr (.inr (.inr e))))))).trans (HM3.out.mono (fun _ _ e => e.elim)) : Mod (LS B lb) w w3)
 have HOut : Hid (∀ b, m.bs b -> ¬ LS B lb b /\ b < w3.heap.size) := hid (fun b hb => ⟨fun e => by
  have h1 := (HBs.out b hb).1; rcases e with e | e
  ·have := HR2.out.tree.lt' e; omega
  ·have := lth HR2.out.least; omega, (HBs.out b hb).2⟩)
 have hb4 : (w3.alloc (.cells #[.bool m.leaf, .slice m.ka m.keys.length m.kc, .slice m.va m.values.length m.vc, .slice m.ia m.kids.length m.ic] 116)).heap[w3.heap.size]? = some (.cells #[.bool m.leaf, .slice m.ka m.keys.length m.kc, .slice m.va m.values.length m.vc, .slice m.ia m.kids.length m.ic] 116 (0, 0)) := heap_alloc_new _ _; have hm4 : Mod (fun _ => False) w3 (w3.alloc (.cells #[.bool m.leaf, .slice m.ka m.keys.length m.kc, .slice m.va m.values.length m.vc, .slice m.ia m.kids.length m.ic] 116)) := (Mod.refl _ _).alloc _
 have HQ : Hid (¬ LS B lb w3.heap.size) := hid (fun e => e.elim (fun e => by have := HR3.out.tree.lt' e; omega) (fun e => by have := lth HR3.out.least; omega))
 have HQw : Hid (w.heap.size <= w3.heap.size) := hid HM0.out.size; generalize w3.alloc (.cells #[.bool m.leaf, .slice m.ka m.keys.length m.kc, .slice m.va m.values.length m.vc, .slice m.ia m.kids.length m.ic] 116) = Z at *; have HMz := hid (HM0.out.trans (hm4.mono (fun _ _ e => e.elim)))
 have HRz := hid (HR3.out.ext hm4); have HNz := hid (HN.out.ext hm4); have HOz : Hid (∀ b, m.bs b -> ¬ LS B lb b /\ b < Z.heap.size) := hid (fun b hb => ⟨(HOut.out b hb).1, by have h1 := (HOut.out b hb).2; have h2 := hm4.size; omega⟩)
 obtain ⟨_, y1, _, _⟩ := cl4 hb4; have HBz := hid hb4; have hkl : m.keys.length = es.length + 1 := by rw [HH.out.k, List.length_map, List.length_cons]
 have d0 : ((m.keys.length : Int) == 0) = false := by rw [hkl, beq_eq_false_iff_ne]; omega
 have d1 : (Op.bytesLess x.key.toList R.least.toList || x.key.toList == R.least.toList) = false := by
  have h3 : Op.bytesLess R.least.toList x.key.toList = true := HLk.out; rw [show Op.bytesLess x.key.toList R.least.toList = false from qDs h3, Bool.false_or, beq_eq_false_iff_ne]
  intro e; rw [e] at h3; have h4 : Op.bytesLess R.least.toList R.least.toList = false := qEi _; rw [h4] at h3; cases h3
 have hg0 : m.keys[0]? = some x.key := by rw [HH.out.k]; rfl
 have hdk : ¬ m.keys.length <= 0 := by rw [hkl]; simp
 obtain ⟨gk, ok, hka, hkc⟩ := HNz.out.nd.k.one hg0; rw [hka] at y1; simp only [Nat.add_zero] at hkc; have yl : Z.cell? ⟨lb, 0, none⟩ = some (.string R.least) := by rw [cell_of_row _ _ _ _ _ _ HRz.out.least]; rfl
 have g1 := fun y : Ext Z => y.cell y1
 have g2 := fun y : Ext Z => y.cell hkc
 have g3 := fun y : Ext Z => y.cell yl
 have HKl := hid hkl; have HKa := hid hka; generalize w3.heap.size = q at *; clear hm4 hb4 y1 hkl hka hkc yl hg0 HOut HM0 HN HR3 HM3 HBs HM2 HR2 HMa HR HJ HDc; refine qAc (by kernel_rfl) (by kernel_rfl) ?_
 repeat (go_big_quiet_step (fail))
 refine wpQuiet_nil ?_; rintro _ ⟨y, rfl⟩; clear g1 g2 g3 d0 d1; have HRy := hid (HRz.out.ext y.mod); have HNy := hid (HNz.out.ext y.mod); have HOy : Hid (∀ b, m.bs b -> ¬ LS B lb b /\ b < y.val.heap.size) := hid (fun b hb => ⟨(HOz.out b hb).1, by have h1 := (HOz.out b hb).2; have h2 := y.mod.size; omega⟩)
 have HBy := hid (qAo y.mod HBz.out); have HMy := hid (HMz.out.trans (y.mod.mono (fun _ _ e => e.elim)))
 clear HRz HNz HOz HBz HMz; generalize y.val = Y at *; go_upto_region 10 with fail
 obtain ⟨_, _, _, _, _, _, t6, _⟩ := HRy.out.tree.cells; obtain ⟨y0, y1, y2, y3⟩ := cl4 HBy.out; have g6 := fun z : Ext Y => z.cell t6
 have g0 := fun z : Ext Y => z.cell y0
 have g1 := fun z : Ext Y => z.cell y1
 have g2 := fun z : Ext Y => z.cell y2
 have g3 := fun z : Ext Y => z.cell y3
 clear t6 y0 y1 y2 y3; refine qAm 6 (by kernel_rfl) (by kernel_rfl) ?_
 simp only [List.take_succ_cons, List.take_zero, List.drop_succ_cons, List.drop_zero]; repeat (go_big_quiet_step (fail))
 refine wpQuiet_nil ?_; rintro _ ⟨z, rfl⟩; have hz := HRy.out.ext z.mod; obtain ⟨lN, n1, n2, n3⟩ := id hz.tree.nodes; obtain ⟨w8, hup, hat8, hm8⟩ := qBf (P := Tryz.prog) KI Tryz.underlying76 n1 s m.val; have hup' : (Instr.mapUpdate 76 (.map (some B.nb)) (.int .i64 s) (.agg #[.bool m.leaf, .slice m.ka m.keys.length m.kc, .slice m.va m.values.length m.vc, .slice m.ia m.kids.length m.ic])).run Tryz.prog z.val = .ok () w8 := hup; have HR8 := hid (hz.add hm8 (qBh.put n2 n3 (s := s) (n := (true, x :: es)) (m := m) HG.out HH.out (HNy.out.ext z.mod) (fun b hb => ⟨(HOy.out b hb).1, by have h1 := (HOy.out b hb).2; have h2 := z.mod.size; omega⟩) (.inl (.inr (.inl rfl))) hat8 hm8))
 have HM8 := hid ((HMy.out.trans (z.mod.mono (fun _ _ e => e.elim))).trans (hm8.mono (fun k _ e => by rw [e]; exact .inl (.inr (.inl rfl)))) : Mod (LS B lb) w w8)
 have HN8 := hid (qBn (S := LS B lb) (HNy.out.ext z.mod) (fun b hb => (HOy.out b hb).1) hm8 (fun k e => by rw [e]; exact .inl (.inr (.inl rfl))))
 have HB8 : Hid (w8.heap[q]? = some (.cells #[.bool m.leaf, .slice m.ka m.keys.length m.kc, .slice m.va m.values.length m.vc, .slice m.ia m.kids.length m.ic] 116 (0, 0))) := hid ((hm8.block _ (lth (qAo z.mod HBy.out)) (fun e => HQ.out (by rw [e]; exact .inl (.inr (.inl rfl))))).trans (qAo z.mod HBy.out))
 have HO8 : Hid (∀ b, m.bs b -> ¬ LS B lb b /\ b < w8.heap.size) := hid (fun b hb => ⟨(HOy.out b hb).1, by have h1 := (HOy.out b hb).2; have h2 := z.mod.size; have h3 := hm8.size; omega⟩)
 clear hz n1 n2 n3 hup hat8 hm8 g6 g0 g1 g2 g3; obtain ⟨y0, y1, _, _⟩ := cl4 HB8.out; rw [show m.leaf = true from HH.out.l] at y0
 rw [HKa.out, HKl.out] at y1; have hgl : m.keys[es.length]? = some (lk (x :: es)) := by rw [HH.out.k]; exact lk_at x es
 obtain ⟨gk2, ok2, hka2, hkc2⟩ := HN8.out.nd.k.one hgl; have hkk : gk2 = gk /\ ok2 = ok := by rw [HKa.out] at hka2; cases hka2; exact ⟨rfl, rfl⟩
 obtain ⟨rfl, rfl⟩ := hkk; have fl := frozen_of_row w8 lb 0 _ _ HR8.out.least; have yl8 : w8.cell? ⟨lb, 0, none⟩ = some (.string R.least) := by rw [cell_of_row _ _ _ _ _ _ HR8.out.least]; rfl
 have q1 : (w8.setCell ⟨lb, 0, none⟩ (.string (lk (x :: es)))).cell? ⟨q, 1, none⟩ = some (.slice (some ⟨gk2, ok2, none⟩) (es.length + 1) m.kc) := by
  have hm : Mod (fun i => i = lb) w8 (w8.setCell ⟨lb, 0, none⟩ (.string (lk (x :: es)))) := Mod.setCell (S := fun i => i = lb) (p := ⟨lb, 0, none⟩) (Mod.refl _ _) (fun _ => rfl) _
  exact (hm.cell (p := ⟨q, 1, none⟩) (lth HB8.out) (fun e => HQ.out (.inr e))).trans y1
 have HFn := hid (HR8.out.rise (lk (x :: es))); have HMn := hid (HM8.out.setCell (p := ⟨lb, 0, none⟩) (fun _ => .inr rfl) (.string (lk (x :: es))))
 generalize lk (x :: es) = k9 at *; have hel : es.length <= 511 := by have h3 := HG.out.len; rw [List.length_cons] at h3; omega
 clear hka2 hgl; go_wp2_with fail
 go_ret2; exact ⟨HMn.out, rfl, HFn.out⟩
theorem qXm (W : World) (b : Bool) (ka va ia : Option Addr) (kn kc vn vc jn jc : Nat) : (Instr.field 116 (.agg #[.bool b, .slice ka kn kc, .slice va vn vc, .slice ia jn jc]) 1).run Tryz.prog W = .ok (.slice ka kn kc) W := by kernel_rfl
theorem qXl (W : World) (b : Bool) (ka va ia : Option Addr) (kn kc vn vc jn jc : Nat) : (Instr.field 116 (.agg #[.bool b, .slice ka kn kc, .slice va vn vc, .slice ia jn jc]) 0).run Tryz.prog W = .ok (.bool b) W := by kernel_rfl
attribute [local go_sem] qXm qXl
theorem jBi {α : Type} {l : List α} {i : Nat} {x : α} (h : l[i]? = some x) : l.drop i = x :: l.drop (i + 1) := by
 obtain ⟨hlt, rfl⟩ := List.getElem?_eq_some_iff.1 h; exact List.drop_eq_getElem_cons hlt
structure KRel (w wr : World) (B : TB) (lb : Nat) (T : TM) (D : Dsk) (f : Int -> RS -> Option (RS × Nat)) (o : Option (RS × Nat)) (q : Nat) (m : Nd) (es : List Ent) (i all : Nat) (Rr : RS) : Prop where
 go : qHs f (fkid es) (es.drop i) Rr all = o
 ri : RI T.next Rr
 at' : RdAt wr B lb T D Rr
 box : wr.heap[q]? = some (.cells #[.bool m.leaf, .slice m.ka m.keys.length m.kc, .slice m.va m.values.length m.vc, .slice m.ia m.kids.length m.ic] 116 (0, 0))
 nd : NdC wr m
 mod : Mod (LS B lb) w wr
 all : all <= 511 * Rr.dom.length
 first : 1 <= i -> (Rr.nodes (fkid es)).isSome = true
 le : i <= es.length
theorem qXg {f : Int -> RS -> Option (RS × Nat)} {first : Int} {x : Ent} {r : List Ent} {R : RS} {a : Nat} (h : f x.kid R = none) : qHs f first (x :: r) R a = none := by
 show (f x.kid R).bind _ = _; rw [h]; rfl
theorem qRv {f : Int -> RS -> Option (RS × Nat)} {first : Int} {x : Ent} {r : List Ent} {R R' : RS} {a c : Nat} (h : f x.kid R = some (R', c)) (hn : ¬ (fkN (R'.nodes x.kid) = x.key /\ qId (R'.nodes x.kid) = qId (R'.nodes first))) : qHs f first (x :: r) R a = none := by
 show (f x.kid R).bind _ = _; rw [h]; show (if _ then _ else _) = _
 rw [if_neg hn]
theorem jEr {f : Int -> RS -> Option (RS × Nat)} {first : Int} {x : Ent} {r : List Ent} {R R' : RS} {a c : Nat} (h : f x.kid R = some (R', c)) (hn : fkN (R'.nodes x.kid) = x.key /\ qId (R'.nodes x.kid) = qId (R'.nodes first)) : qHs f first (x :: r) R a = qHs f first r R' (a + c) := by
 show (f x.kid R).bind _ = _; rw [h]; show (if _ then _ else _) = _
 rw [if_pos hn]
set_option maxHeartbeats 4000000 in
theorem qWu {w : World} {B : TB} {lb : Nat} {T : TM} {D : Dsk} {R : RS} (h : RdAt w B lb T D R) {s : Int} (d : Nat) {bs : ByteArray} (hn : R.nodes s = none) (h1 : 1 <= s) (h2 : s < T.next) (hrd : qCt B.room D s = (bs, 0)) (hsz : bs.size <= 1024) {x : Ent} {es : List Ent} (hdc : decP bs = some (false, x :: es)) (hle : kl R.least x.key = true) (hri : RI T.next R) (hnx : T.next <= 16384) (hd : d <= 16) {rd : Int -> ByteArray}
  (ih : ∀ (s : Int) (R : RS) (w : World), RI T.next R -> RdAt w B lb T D R -> Calls Tryz.prog 67 #[.pointer (some ⟨B.tb, 0, none⟩), .int .i64 s, .int .i64 (d : Int), .pointer (some ⟨lb, 0, none⟩)] w (qSn w B lb T D (qDc rd T.next d s R))) :
  Calls Tryz.prog 67 #[.pointer (some ⟨B.tb, 0, none⟩), .int .i64 s, .int .i64 ((d : Int) + 1), .pointer (some ⟨lb, 0, none⟩)] w (qSn w B lb T D (qHs (qDc rd T.next d) (fkid (x :: es)) (x :: es) (R.add s (false, x :: es)) 0)) := by
 have HIh := hid ih; have HRA := hid (hri.add hn h1 h2 (n := (false, x :: es)) (qFs hdc (List.cons_ne_nil x es))); obtain ⟨o, ho⟩ : ∃ o, qHs (qDc rd T.next d) (fkid (x :: es)) (x :: es) (R.add s (false, x :: es)) 0 = o := ⟨_, rfl⟩; rw [ho]; have HOo := hid ho; have HNx := hid hnx; have HN1 : Hid (1 <= T.next) := hid (by omega)
 clear ih hri ho hnx; have hma : Mod (fun _ => False) w (w.alloc (.cells #[.bool false, .slice none 0 0, .slice none 0 0, .slice none 0 0] 116)) := (Mod.refl _ _).alloc _
 obtain ⟨_, _, _, _, _, _, c6, _⟩ := h.tree.cells; have hl0 := h.tree.nodes.miss (s := s) hn true; simp only [qOu, if_true] at hl0; have h' := h.ext hma; obtain ⟨_, a1, _, _, a4, _⟩ := h'.tree.cells; change _ = some (Value.int .i64 T.next) at a1; have HJ := hid (qGv h'.tree.disk h'.tree.jr h'.tree.sep h'.tree.hn h'.tree.hr s); rw [hrd] at HJ; have HR := hid h'; have HMa := hid hma; have e0 : (((d : Int) + 1) == 0) = false := by rw [beq_eq_false_iff_ne]; omega
 have e1 : decide (s < 1) = false := by simpa using h1
 have e2 : decide (T.next <= s) = false := by simpa using h2
 have HDc := hid (qSt hsz hdc); have HNn := hid hn; have HG := hid (qFs hdc (List.cons_ne_nil x es)); have HLk := hid hle; clear h h' hn h1 h2 hrd hsz hma hdc; go_enter Tryz.func67, Tryz.ntmps67
 go_upto_region 8 with (first
  | (go_at_call 32; refine HJ.out.mono ?_; rintro e w2 ⟨rfl, hd2, hm2⟩; have HR2 := hid (HR.out.disk hm2 hd2); have HM2 := hid hm2; clear hd2 hm2)
  | (go_at_call 92; refine (HDc.out _).mono ?_; rintro e w3 ⟨m, rfl, hh, hat, hbs, hm3⟩; have HH := hid hh; have HN := hid hat; have HR3 := hid (HR2.out.ext hm3); have HM3 := hid hm3; have HBs := hid hbs; clear hm3 hh hat hbs))
 have HM0 := hid (((HMa.out.mono (fun _ _ e => e.elim)).trans (HM2.out.mono (fun _ _ e => .inl (.inr (.inr (.inr (.inr e))))))).trans (HM3.out.mono (fun _ _ e => e.elim)) : Mod (LS B lb) w w3)
 have HOut : Hid (∀ b, m.bs b -> ¬ LS B lb b /\ b < w3.heap.size) := hid (fun b hb => ⟨fun e => by
  have h1 := (HBs.out b hb).1; rcases e with e | e
  ·have := HR2.out.tree.lt' e; omega
  ·have := lth HR2.out.least; omega, (HBs.out b hb).2⟩)
 have hb4 : (w3.alloc (.cells #[.bool m.leaf, .slice m.ka m.keys.length m.kc, .slice m.va m.values.length m.vc, .slice m.ia m.kids.length m.ic] 116)).heap[w3.heap.size]? = some (.cells #[.bool m.leaf, .slice m.ka m.keys.length m.kc, .slice m.va m.values.length m.vc, .slice m.ia m.kids.length m.ic] 116 (0, 0)) := heap_alloc_new _ _; have hm4 : Mod (fun _ => False) w3 (w3.alloc (.cells #[.bool m.leaf, .slice m.ka m.keys.length m.kc, .slice m.va m.values.length m.vc, .slice m.ia m.kids.length m.ic] 116)) := (Mod.refl _ _).alloc _
 have HQ : Hid (¬ LS B lb w3.heap.size) := hid (fun e => e.elim (fun e => by have := HR3.out.tree.lt' e; omega) (fun e => by have := lth HR3.out.least; omega))
 have HQw : Hid (w.heap.size <= w3.heap.size) := hid HM0.out.size; generalize w3.alloc (.cells #[.bool m.leaf, .slice m.ka m.keys.length m.kc, .slice m.va m.values.length m.vc, .slice m.ia m.kids.length m.ic] 116) = Z at *; have HMz := hid (HM0.out.trans (hm4.mono (fun _ _ e => e.elim)))
 have HRz := hid (HR3.out.ext hm4); have HNz := hid (HN.out.ext hm4); have HOz : Hid (∀ b, m.bs b -> ¬ LS B lb b /\ b < Z.heap.size) := hid (fun b hb => ⟨(HOut.out b hb).1, by have h1 := (HOut.out b hb).2; have h2 := hm4.size; omega⟩)
 obtain ⟨_, y1, _, _⟩ := cl4 hb4; have HBz := hid hb4; have hkl : m.keys.length = es.length + 1 := by rw [HH.out.k, List.length_map, List.length_cons]
 have d0 : ((m.keys.length : Int) == 0) = false := by rw [hkl, beq_eq_false_iff_ne]; omega
 have d1 : (Op.bytesLess x.key.toList R.least.toList || x.key.toList == R.least.toList) = false := by
  have h3 : Op.bytesLess R.least.toList x.key.toList = true := HLk.out; rw [show Op.bytesLess x.key.toList R.least.toList = false from qDs h3, Bool.false_or, beq_eq_false_iff_ne]
  intro e; rw [e] at h3; have h4 : Op.bytesLess R.least.toList R.least.toList = false := qEi _; rw [h4] at h3; cases h3
 have hg0 : m.keys[0]? = some x.key := by rw [HH.out.k]; rfl
 have hdk : ¬ m.keys.length <= 0 := by rw [hkl]; simp
 obtain ⟨gk, ok, hka, hkc⟩ := HNz.out.nd.k.one hg0; rw [hka] at y1; simp only [Nat.add_zero] at hkc; have yl : Z.cell? ⟨lb, 0, none⟩ = some (.string R.least) := by rw [cell_of_row _ _ _ _ _ _ HRz.out.least]; rfl
 have g1 := fun y : Ext Z => y.cell y1
 have g2 := fun y : Ext Z => y.cell hkc
 have g3 := fun y : Ext Z => y.cell yl
 have HKl := hid hkl; have HKa := hid hka; generalize w3.heap.size = q at *; clear hm4 hb4 y1 hkl hka hkc yl hg0 HOut HM0 HN HR3 HM3 HBs HM2 HR2 HMa HR HJ HDc; refine qAc (by kernel_rfl) (by kernel_rfl) ?_
 repeat (go_big_quiet_step (fail))
 refine wpQuiet_nil ?_; rintro _ ⟨y, rfl⟩; clear g1 g2 g3 d0 d1; have HRy := hid (HRz.out.ext y.mod); have HNy := hid (HNz.out.ext y.mod); have HOy : Hid (∀ b, m.bs b -> ¬ LS B lb b /\ b < y.val.heap.size) := hid (fun b hb => ⟨(HOz.out b hb).1, by have h1 := (HOz.out b hb).2; have h2 := y.mod.size; omega⟩)
 have HBy := hid (qAo y.mod HBz.out); have HMy := hid (HMz.out.trans (y.mod.mono (fun _ _ e => e.elim)))
 clear HRz HNz HOz HBz HMz; generalize y.val = Y at *; go_upto_region 10 with fail
 obtain ⟨_, _, _, _, _, _, t6, _⟩ := HRy.out.tree.cells; obtain ⟨y0, y1, y2, y3⟩ := cl4 HBy.out; have g6 := fun z : Ext Y => z.cell t6
 have g0 := fun z : Ext Y => z.cell y0
 have g1 := fun z : Ext Y => z.cell y1
 have g2 := fun z : Ext Y => z.cell y2
 have g3 := fun z : Ext Y => z.cell y3
 clear t6 y0 y1 y2 y3; refine qAm 6 (by kernel_rfl) (by kernel_rfl) ?_
 simp only [List.take_succ_cons, List.take_zero, List.drop_succ_cons, List.drop_zero]; repeat (go_big_quiet_step (fail))
 refine wpQuiet_nil ?_; rintro _ ⟨z, rfl⟩; have hz := HRy.out.ext z.mod; obtain ⟨lN, n1, n2, n3⟩ := id hz.tree.nodes; obtain ⟨w8, hup, hat8, hm8⟩ := qBf (P := Tryz.prog) KI Tryz.underlying76 n1 s m.val; have hup' : (Instr.mapUpdate 76 (.map (some B.nb)) (.int .i64 s) (.agg #[.bool m.leaf, .slice m.ka m.keys.length m.kc, .slice m.va m.values.length m.vc, .slice m.ia m.kids.length m.ic])).run Tryz.prog z.val = .ok () w8 := hup; have HR8 := hid (hz.add hm8 (qBh.put n2 n3 (s := s) (n := (false, x :: es)) (m := m) HG.out HH.out (HNy.out.ext z.mod) (fun b hb => ⟨(HOy.out b hb).1, by have h1 := (HOy.out b hb).2; have h2 := z.mod.size; omega⟩) (.inl (.inr (.inl rfl))) hat8 hm8))
 have HM8 := hid ((HMy.out.trans (z.mod.mono (fun _ _ e => e.elim))).trans (hm8.mono (fun k _ e => by rw [e]; exact .inl (.inr (.inl rfl)))) : Mod (LS B lb) w w8)
 have HN8 := hid (qBn (S := LS B lb) (HNy.out.ext z.mod) (fun b hb => (HOy.out b hb).1) hm8 (fun k e => by rw [e]; exact .inl (.inr (.inl rfl))))
 have HB8 : Hid (w8.heap[q]? = some (.cells #[.bool m.leaf, .slice m.ka m.keys.length m.kc, .slice m.va m.values.length m.vc, .slice m.ia m.kids.length m.ic] 116 (0, 0))) := hid ((hm8.block _ (lth (qAo z.mod HBy.out)) (fun e => HQ.out (by rw [e]; exact .inl (.inr (.inl rfl))))).trans (qAo z.mod HBy.out))
 have HO8 : Hid (∀ b, m.bs b -> ¬ LS B lb b /\ b < w8.heap.size) := hid (fun b hb => ⟨(HOy.out b hb).1, by have h1 := (HOy.out b hb).2; have h2 := z.mod.size; have h3 := hm8.size; omega⟩)
 clear hz n1 n2 n3 hup hat8 hm8 g6 g0 g1 g2 g3; have HK0 : Hid (KRel w w8 B lb T D (qDc rd T.next d) o q m (x :: es) 0 0 (R.add s (false, x :: es))) := hid ⟨HOo.out, HRA.out, HR8.out, HB8.out, HN8.out, HM8.out, Nat.zero_le _, (fun h => by omega), Nat.zero_le _⟩
 have HEs := hid HG.out.len; have hfk : x.kid = fkid (x :: es) := rfl; have HFk := hid hfk; have HH' : Hid (m.keys = (x :: es).map (·.key) /\ m.kids = (x :: es).map (·.kid)) := hid ⟨HH.out.k, HH.out.i⟩; obtain ⟨y0, _, _, y3⟩ := cl4 HB8.out; rw [show m.leaf = false from HH.out.l] at y0
 obtain ⟨gi, oi, hia, _⟩ := HN8.out.nd.i.one (i := 0) (x := x.kid) (by rw [HH.out.i]; rfl)
 rw [hia] at y3; have HIa := hid hia; clear HG HOo HRA HR8 HN8 HM8 HKl HKa hdk hfk hia; generalize x :: es = ee at *; have HKd : Hid (m.kids.length = ee.length) := hid (by rw [HH'.out.2, List.length_map])
 have HDd := hid hd; have HO : Hid (∀ b, m.bs b -> ¬ LS B lb b) := hid (fun b hb => (HO8.out b hb).1)
 clear HLk hd hle; go_upto_region 16 with fail
 have hee : ee.length <= 511 := HEs.out; have hdd : d <= 16 := HDd.out; clear y0 y3; go_loopw [15, 106] (fun sall si wr => ∃ (i all : Nat) (Rr : RS), sall = .int .i64 (all : Int) /\ si = .int .i64 (i : Int) /\ KRel w wr B lb T D (qDc rd T.next d) o q m ee i all Rr) (fun _ si _ => ee.length - (intOf si).toNat)
 case atStart => exact ⟨0, 0, _, rfl, rfl, HK0.out⟩
 case round =>
  obtain ⟨i, all, Rr, rfl, rfl, hrel⟩ := hrel; have HRel := hid hrel; have hile := hrel.le; have hall : all <= 511 * 16384 := by
   have h3 := hrel.all; have h4 := hrel.ri.len HN1.out; have h5 := HNx.out; omega
  clear hrel; by_cases hlt : i < ee.length
  ·obtain ⟨xk, hx⟩ : ∃ x, ee[i]? = some x := ⟨_, List.getElem?_eq_getElem hlt⟩; have hgo := HRel.out.go; rw [jBi hx] at hgo; have hgi : m.kids[i]? = some xk.kid := by rw [HH'.out.2, List.getElem?_map, hx]; rfl
   obtain ⟨g2, o2, hia2, hkc⟩ := HRel.out.nd.nd.i.one hgi; have hgg : g2 = gi /\ o2 = oi := by rw [HIa.out] at hia2; cases hia2; exact ⟨rfl, rfl⟩
   obtain ⟨rfl, rfl⟩ := hgg; have hkl : m.kids.length = ee.length := HKd.out; have d0 : decide ((i : Int) < (m.kids.length : Int)) = true := by simp; omega
   have d1 : decide (i < m.kids.length) = true := by simp; omega
   have hdi : ¬ m.kids.length <= i := by omega
   have HC := hid (HIh.out xk.kid Rr wr HRel.out.ri HRel.out.at'); have HX := hid hx; cases hq : qDc rd T.next d xk.kid Rr with
   | none =>
    have HNo : Hid (o = none) := hid (by rw [<- hgo]; exact qXg hq)
    rw [hq] at HC; clear hgo hgi hia2 hkl hx hq hlt; go_wp2_with (go_at_call 67; refine HC.out.mono ?_; rintro e w4 ⟨hm4, ⟨v, rfl⟩, R4, hr4⟩; have HF := hid (qUy hr4 (HRel.out.mod.trans hm4) (.int .i64 0)); clear hm4 hr4)
    go_ret2; rw [HNo.out]; exact HF.out
   | some qq =>
    obtain ⟨R', c⟩ := qq; rw [hq] at HC; have HInv := hid (qLz d _ _ _ _ HRel.out.ri hq); have HGo := hid hgo; have HQq := hid hq; clear hgo hgi hia2 hkl hx hq; go_upto_region 21 with (go_at_call 67; refine HC.out.mono ?_; rintro e w4 ⟨hm4, rfl, hr4⟩; have HM4 := hid hm4; have HR4 := hid hr4; clear hm4 hr4)
    obtain ⟨v1, v2, v3, v4⟩ := HInv.out; obtain ⟨nk, hnk⟩ := Option.isSome_iff_exists.1 v3; have hf0 : fkid ee = xk.kid \/ 1 <= i := by
     cases i with
     | zero => left; have h3 := HX.out; cases ee with | nil => cases h3 | cons y r => cases h3; rfl
     | succ i => right; omega
    have v5 : (R'.nodes (fkid ee)).isSome = true := by
     rcases hf0 with hf0 | hf0
     ·rw [hf0]; exact v3
     ·obtain ⟨y, hy⟩ := Option.isSome_iff_exists.1 (HRel.out.first hf0); rw [v2 _ _ hy]; rfl
    obtain ⟨nf, hnf⟩ := Option.isSome_iff_exists.1 v5; obtain ⟨mk, hlk, hhk, hatk, _⟩ := HR4.out.tree.nodes.get (s := xk.kid) (n := nk) hnk; obtain ⟨mf, hlf, hhf, _, _⟩ := HR4.out.tree.nodes.get (s := fkid ee) (n := nf) hnf; have hgk := v1.good _ _ hnk; have hN4 := qBn (S := LS B lb) HRel.out.nd (fun b hb => (HO.out b hb)) HM4.out (fun _ e => e)
    have hb4 : w4.heap[q]? = some (.cells #[.bool m.leaf, .slice m.ka m.keys.length m.kc, .slice m.va m.values.length m.vc, .slice m.ia m.kids.length m.ic] 116 (0, 0)) := (HM4.out.block _ (lth HRel.out.box) HQ.out).trans HRel.out.box; have hk0 : mk.keys[0]? = some (fk nk.2) := by
     rw [hhk.k]; cases hq2 : nk.2 with
     | nil => exact absurd hq2 hgk.ne
     | cons y r => rfl
    obtain ⟨ga, oa, hka, hkca⟩ := hatk.nd.k.one hk0; simp only [Nat.add_zero] at hkca; have hl0 : 0 < mk.keys.length := (List.getElem?_eq_some_iff.1 hk0).1; have hki : m.keys[i]? = some xk.key := by rw [HH'.out.1, List.getElem?_map, HX.out]; rfl
    obtain ⟨gm, om, hma, hkm⟩ := hN4.nd.k.one hki; have hli : i < m.keys.length := (List.getElem?_eq_some_iff.1 hki).1; have hdki : ¬ m.keys.length <= i := by omega
    have h0i : m.kids[0]? = some (fkid ee) := by
     rw [HH'.out.2]; have h3 := HX.out; cases ee with
     | nil => cases h3
     | cons y r => rfl
    obtain ⟨g3, o3, hia3, hkc3⟩ := hN4.nd.i.one h0i; have hgg : g3 = g2 /\ o3 = o2 := by rw [HIa.out] at hia3; cases hia3; exact ⟨rfl, rfl⟩
    obtain ⟨rfl, rfl⟩ := hgg; simp only [Nat.add_zero] at hkc3; have hd30 : 0 < m.kids.length := (List.getElem?_eq_some_iff.1 h0i).1; obtain ⟨_, _, _, _, _, _, t6, _⟩ := HR4.out.tree.cells; obtain ⟨y0, y1, y2, y3⟩ := cl4 hb4; rw [hma] at y1; rw [HIa.out] at y3; have hlk' := fun y : Ext w4 => hlk y.val y.mod false
    have hlf' := fun y : Ext w4 => hlf y.val y.mod false
    simp only [Nd.val, Bool.false_eq_true, if_false] at hlk' hlf'; rw [hka, show mk.leaf = nk.1 from hhk.l] at hlk'
    rw [show mf.leaf = nf.1 from hhf.l] at hlf'
    have g6 := fun y : Ext w4 => y.cell t6
    have g1 := fun y : Ext w4 => y.cell y1
    have ga3 := fun y : Ext w4 => y.cell y3
    have gka := fun y : Ext w4 => y.cell hkca
    have gkm := fun y : Ext w4 => y.cell hkm
    have gk3 := fun y : Ext w4 => y.cell hkc3
    have HB4 := hid hb4; have HN4 := hid hN4; have HKk : Hid (fkN (R'.nodes xk.kid) = fk nk.2 /\ qId (R'.nodes xk.kid) = nk.1 /\ qId (R'.nodes (fkid ee)) = nf.1) := hid ⟨by rw [hnk]; rfl, by rw [hnk]; rfl, by rw [hnf]; rfl⟩
    have HV1 := hid v1; have HV4 := hid v4; have HV5 := hid v5; obtain ⟨kf, hkf⟩ : ∃ kf, fk nk.2 = kf := ⟨_, rfl⟩; obtain ⟨b1, hb1⟩ : ∃ b, nk.1 = b := ⟨_, rfl⟩; obtain ⟨b2, hb2⟩ : ∃ b, nf.1 = b := ⟨_, rfl⟩; rw [hkf] at HKk gka; rw [hb1] at HKk hlk'; rw [hb2] at HKk hlf'; have HMx := hid (HRel.out.mod.trans HM4.out); have HF := hid (fun (y : Ext w4) v => qUy (HR4.out.ext y.mod) (HMx.out.trans (y.mod.mono (fun _ _ e => e.elim))) v)
    clear v1 v2 v3 v4 hnk hf0 v5 hnf hlk hhk hatk hlf hhf hgk hN4 hb4 hk0 hka hkca hki hma hkm hli h0i hia3 hkc3 t6 y0 y1 y2 y3 hkf hb1 hb2; by_cases he : kf = xk.key
    ·have c1 := beq_t he; by_cases hl : b1 = b2
     ·have HOk : Hid (qHs (qDc rd T.next d) (fkid ee) (ee.drop (i + 1)) R' (all + c) = o) := hid (by rw [<- HGo.out]; exact (jEr HQq.out ⟨HKk.out.1.trans he, HKk.out.2.1.trans (hl.trans HKk.out.2.2.symm)⟩).symm)
      refine qAc (by kernel_rfl) (by kernel_rfl) ?_
      repeat (go_big_quiet_step (fail))
      refine wpQuiet_nil ?_; rintro _ ⟨y, rfl⟩; clear hlk' hlf' g6 g1 ga3 gka gkm gk3; have hall2 : all + c <= 511 * 16384 := by
       have h3 := HRel.out.all; have h4 := HV4.out; have h5 := HV1.out.len HN1.out; have h6 := HNx.out; omega
      have HR5 : Hid (KRel w y.val B lb T D (qDc rd T.next d) o q m ee (i + 1) (all + c) R') := hid ⟨HOk.out, HV1.out, HR4.out.ext y.mod, qAo y.mod HB4.out, HN4.out.ext y.mod, HMx.out.trans (y.mod.mono (fun _ _ e => e.elim)), by have h3 := HRel.out.all; have h4 := HV4.out; omega, fun _ => HV5.out, by omega⟩
      generalize y.val = Y at *; have hc2 : c <= 511 * 16384 := by omega
      go_wp2_with fail
      go_roundw
      case rel => exact ⟨i + 1, all + c, R', by go_num, by go_num, HR5.out⟩
      case measure => simp [intOf]; omega
     ·have HNo : Hid (o = none) := hid (by rw [<- HGo.out]; exact qRv HQq.out (fun h => hl (HKk.out.2.1.symm.trans (h.2.trans HKk.out.2.2))))
      have hbb : (b1 = true /\ b2 = false) \/ (b1 = false /\ b2 = true) := by cases b1 <;> cases b2 <;> simp at hl ⊢
      clear hl; obtain ⟨h1, h2⟩ | ⟨h1, h2⟩ := hbb
      ·subst h1; subst h2; refine qAc (by kernel_rfl) (by kernel_rfl) ?_
       repeat (go_big_quiet_step (fail))
       refine wpQuiet_nil ?_; rintro _ ⟨y, rfl⟩; clear hlk' hlf' g6 g1 ga3 gka gkm gk3; go_wp2_with fail
       go_ret2; rw [HNo.out]; exact HF.out y _
      ·subst h1; subst h2; refine qAc (by kernel_rfl) (by kernel_rfl) ?_
       repeat (go_big_quiet_step (fail))
       refine wpQuiet_nil ?_; rintro _ ⟨y, rfl⟩; clear hlk' hlf' g6 g1 ga3 gka gkm gk3; go_wp2_with fail
       go_ret2; rw [HNo.out]; exact HF.out y _
    ·have c1 := beq_f he; have HNo : Hid (o = none) := hid (by rw [<- HGo.out]; exact qRv HQq.out (fun h => he (HKk.out.1.symm.trans h.1)))
     refine qAc (by kernel_rfl) (by kernel_rfl) ?_
     repeat (go_big_quiet_step (fail))
     refine wpQuiet_nil ?_; rintro _ ⟨y, rfl⟩; clear hlk' hlf' g6 g1 ga3 gka gkm gk3; go_wp2_with fail
     go_ret2; rw [HNo.out]; exact HF.out y _
  ·have hie : ee.drop i = [] := List.drop_eq_nil_of_le (by omega)
   have hgo := HRel.out.go; rw [hie] at hgo; have HOo : Hid (o = some (Rr, all)) := hid hgo.symm; have hkl : m.kids.length = ee.length := HKd.out; have d0 : decide ((i : Int) < (m.kids.length : Int)) = false := by simp; omega
   have d1 : decide (i < m.kids.length) = false := by simp; omega
   clear hgo hie hkl hlt; go_wp2_with fail
   go_ret2; rw [HOo.out]; exact ⟨HRel.out.mod, rfl, HRel.out.at'⟩
theorem qSx {rd : Int -> ByteArray} {next : Int} {d : Nat} {s : Int} {R : RS} (h : (R.nodes s).isSome = true \/ s < 1 \/ next <= s) : qDc rd next (d + 1) s R = none := by
 unfold qDc; rw [if_pos h]
theorem qYn {B : TB} {lb : Nat} {T : TM} {D : Dsk} {rd : Int -> ByteArray} (hrd : ∀ s, 1 <= s -> s < T.next -> qCt B.room D s = (rd s, 0)) (hsz : ∀ s, 1 <= s -> s < T.next -> (rd s).size <= 1024) (hnx : T.next <= 16384) : ∀ (d : Nat), d <= 16 -> ∀ (s : Int) (R : RS) (w : World), RI T.next R -> RdAt w B lb T D R →
  Calls Tryz.prog 67 #[.pointer (some ⟨B.tb, 0, none⟩), .int .i64 s, .int .i64 (d : Int), .pointer (some ⟨lb, 0, none⟩)] w (qSn w B lb T D (qDc rd T.next d s R)) := by
 intro d; induction d with
 | zero => intro _ s R w _ h; exact qUv h s 0 (.inr (.inl rfl))
 | succ d ih =>
  intro hd s R w hri h; by_cases hg : (R.nodes s).isSome = true \/ s < 1 \/ T.next <= s
  ·rw [qSx hg]; exact qUv h s (d + 1) (hg.elim .inl (fun e => .inr (.inr e)))
  ·have h1 : 1 <= s := by omega
   have h2 : s < T.next := by omega
   have hn : R.nodes s = none := by
    cases hq : R.nodes s with
    | none => rfl
    | some n => rw [hq] at hg; exact absurd (.inl rfl) hg
   have e : qDc rd T.next (d + 1) s R = match decP (rd s) with
    | none => none
    | some (leaf, es) => if es.isEmpty \/ kl R.least (fk es) = false then none else
     if leaf then some ((R.add s (leaf, es)).rise (lk es), es.length) else qHs (qDc rd T.next d) (fkid es) es (R.add s (leaf, es)) 0 := by
    rw [qDc, if_neg hg]; rfl
   rw [e]; have e2 : ((d + 1 : Nat) : Int) = (d : Int) + 1 := rfl; rw [e2]; clear e e2; cases hdc : decP (rd s) with
   | none => exact qSw h d hn h1 h2 (hrd s h1 h2) (hsz s h1 h2) (.inl hdc)
   | some q =>
    obtain ⟨leaf, es⟩ := q; simp only; cases es with
    | nil =>
     rw [if_pos (.inl rfl)]; exact qSw h d hn h1 h2 (hrd s h1 h2) (hsz s h1 h2) (.inr ⟨leaf, [], hdc, .inl rfl⟩)
    | cons x es =>
     cases hk : kl R.least x.key with
     | false =>
      rw [if_pos (.inr hk)]; exact qSw h d hn h1 h2 (hrd s h1 h2) (hsz s h1 h2) (.inr ⟨leaf, x :: es, hdc, .inr hk⟩)
     | true =>
      rw [if_neg (by rintro (h3 | h3); cases h3; have h4 : kl R.least x.key = false := h3; rw [hk] at h4; cases h4)]
      cases leaf with
      | true => exact qZg h d hn h1 h2 (hrd s h1 h2) (hsz s h1 h2) hdc hk
      | false => exact qWu h d hn h1 h2 (hrd s h1 h2) (hsz s h1 h2) hdc hk hri hnx (by omega) (ih (by omega))
end
end Go.Proofs.YtgbcibdfeeiilaaGreatDoor
