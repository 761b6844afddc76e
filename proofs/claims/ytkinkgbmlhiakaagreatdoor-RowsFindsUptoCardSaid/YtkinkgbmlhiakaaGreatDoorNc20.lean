/- merged: TwN -/
import Derived.Test.YtkinkgbmlhiakaaGreatDoorNc18
import Derived.Test.YtkinkgbmlhiakaaGreatDoorNc08
import Derived.Deep.DeepCutAuto
import Derived.Deep.CutBlock
namespace Go.Proofs.YtkinkgbmlhiakaaGreatDoor
section
open Go Go.RowKit
def jIo (S : Nat -> Prop) (w : World) (n : NP) (e : Ending) (w' : World) : Prop := ∃ m : Nd, e = .returned m.val /\ Has m n.1 n.2 /\ NdC w' m /\ (∀ k, m.bs k -> ¬ S k /\ k < w.heap.size) /\ Mod (fun _ => False) w w'
set_option maxRecDepth 100000
set_option maxHeartbeats 1000000 in
theorem qDx {S : Nat -> Prop} {w : World} {B : TB} {C : WB} {T : TM} {D : Dsk} {W : WM} (h : Ws S w B C T D W) {s : Int} {n : NP} (hn : W.look T s = some n) :
  Calls Tryz.prog 96 #[.pointer (some ⟨C.wb, 0, none⟩), .int .i64 s] w fun e w' => jIo S w n e w' := by
 have hz : Mod (fun _ => False) w (w.alloc (.cells #[.bool false, .slice none 0 0, .slice none 0 0, .slice none 0 0] 123)) := (Mod.refl _ _).alloc _
 have h1 := h.ext hz; obtain ⟨_, _, _, _, c4, c5, _⟩ := h1.cells; unfold WM.look at hn; cases hw : W.nodes s with
 | some n' =>
  rw [hw] at hn; simp only [Option.some.injEq] at hn; subst hn; obtain ⟨m, hlk0, hh, hat, hbs⟩ := h.work.nodes.get hw; have hlk := hlk0 _ hz true; simp only [Nd.val, if_true] at hlk; clear hlk0; have HH := hid hh; have HAt := hid hat; have HB := hid hbs; clear h h1 hw hh hat hbs c4; go_enter Tryz.func96, Tryz.ntmps96
  go_wp2
  refine bodyPost_ret (v := .agg #[.bool m.leaf, .slice m.ka m.keys.length m.kc, .slice m.va m.values.length m.vc, .slice m.ia m.kids.length m.ic]) (by simp only [results, Tryz.results96]; go_simp) rfl ⟨m, rfl, HH.out, ?_, HB.out, ?_⟩
  ·exact HAt.out.ext (((Mod.refl _ _).alloc _).alloc _)
  ·exact ((Mod.refl _ _).alloc _).alloc _
 | none =>
  rw [hw] at hn; simp only at hn; have hlk := h1.work.nodes.miss hw true; simp only [jCa, if_true] at hlk; have hz2 : Mod (fun _ => False) w ((w.alloc (.cells #[.bool false, .slice none 0 0, .slice none 0 0, .slice none 0 0] 123)).alloc (.cells #[.bool false, .slice none 0 0, .slice none 0 0, .slice none 0 0] 123)) := hz.alloc _
  have h2 := h.ext hz2; obtain ⟨_, _, _, _, d4, _⟩ := h2.cells; obtain ⟨_, _, _, _, _, _, e6, _⟩ := h2.tree.cells; obtain ⟨m, hlk0, hh, hat, hbs⟩ := h.tree.nodes.get hn; have hlk2 := hlk0 _ hz2 false; simp only [Nd.val, Bool.false_eq_true, if_false] at hlk2; clear hlk0; have HH := hid hh; have HAt := hid hat; have HB := hid hbs; clear h h1 h2 hz2 hw hn hh hat hbs c4; go_enter Tryz.func96, Tryz.ntmps96
  go_wp2
  refine bodyPost_ret (v := .agg #[.bool m.leaf, .slice m.ka m.keys.length m.kc, .slice m.va m.values.length m.vc, .slice m.ia m.kids.length m.ic]) (by simp only [results, Tryz.results96]; go_simp) rfl ⟨m, rfl, HH.out, ?_, HB.out, ?_⟩
  ·exact HAt.out.ext (((Mod.refl _ _).alloc _).alloc _)
  ·exact ((Mod.refl _ _).alloc _).alloc _
theorem Ws.nb_lt {S : Nat -> Prop} {w : World} {B : TB} {C : WB} {T : TM} {D : Dsk} {W : WM} (h : Ws S w B C T D W) : C.nb < w.heap.size := by obtain ⟨l, h1, _⟩ := h.work.nodes; exact h1.lt
theorem Ws.ab_lt {S : Nat -> Prop} {w : World} {B : TB} {C : WB} {T : TM} {D : Dsk} {W : WM} (h : Ws S w B C T D W) : C.ab < w.heap.size := by obtain ⟨l, h1, _⟩ := h.work.after; exact h1.lt
theorem Ws.kb_lt {S : Nat -> Prop} {w : World} {B : TB} {C : WB} {T : TM} {D : Dsk} {W : WM} (h : Ws S w B C T D W) : C.kb < w.heap.size := by obtain ⟨l, h1, _⟩ := h.work.taken; exact h1.lt
theorem Ws.lt {S : Nat -> Prop} {w : World} {B : TB} {C : WB} {T : TM} {D : Dsk} {W : WM} (h : Ws S w B C T D W) {k : Nat} (hk : MS B C k) : k < w.heap.size := by
 rcases hk with (hk | hk | hk | hk | hk) | (hk | hk | hk | hk)
 ·rw [hk]; exact lth h.tree.box
 ·obtain ⟨l, h1, _⟩ := h.tree.nodes; rw [hk]; exact h1.lt
 ·obtain ⟨l, h1, _⟩ := h.tree.after; rw [hk]; exact h1.lt
 ·rw [hk]; exact h.tree.jr.lt
 ·exact h.tree.disk.lt k hk
 ·rw [hk]; exact lth h.work.box
 ·rw [hk]; exact h.nb_lt
 ·rw [hk]; exact h.ab_lt
 ·rw [hk]; exact h.kb_lt
theorem qAf {w : World} {b o : Nat} {cur : Array Value} {t : TypeId} (h : w.heap[b]? = some (.cells cur t (0, 0))) (v : Value) : (w.setCell ⟨b, o, none⟩ v).heap[b]? = some (.cells (cur.setIfInBounds o v) t (0, 0)) := heap_setCell_same w b o cur t v h
set_option maxHeartbeats 1000000 in
theorem qHk {S : Nat -> Prop} {w : World} {B : TB} {C : WB} {T : TM} {D : Dsk} {W : WM} (h : Ws S w B C T D W) (s : Int) :
  Calls Tryz.prog 97 #[.pointer (some ⟨C.wb, 0, none⟩), .int .i64 s] w fun e w' => e = .returned (.tuple #[]) /\ Ws S w' B C T D (W.release s) /\ Mod (WS C) w w' := by
 obtain ⟨_, _, _, _, _, c5, _⟩ := h.cells; obtain ⟨l, hl1, hl2, hl3⟩ := id h.work.nodes; have HL1 := hid hl1; have HL2 := hid hl2; have HL3 := hid hl3; obtain ⟨w1, hdel, hat1, hm1⟩ := qDk (P := Tryz.prog) 0 KI Tryz.underlying81 hl1 s; have hdel' : (Builtin.delete_ #[81, 3] 0 #[.map (some C.nb), .int .i64 s]).run Tryz.prog w = .ok (.tuple #[]) w1 := hdel; have H1 := hid (h.setNodes hm1 (qBj.del HL1.out HL2.out HL3.out (h.sub _ (.inr (.inr (.inl rfl)))) hat1 hm1)); have HM1 : Hid (Mod (WS C) w w1) := hid (hm1.mono (fun k _ e => .inr (.inl e)))
 clear hl1 hl2 hl3 h hdel HL1 HL2 HL3 hat1 hm1; go_enter Tryz.func97, Tryz.ntmps97
 go_wp2_with fail
 clear c5 hdel'; have h1 := H1.out; obtain ⟨_, _, d2, _, _, _, d6, _⟩ := h1.cells; obtain ⟨la, ha1, ha2⟩ := id h1.work.after; have g2 := fun x : Ext w1 => x.cell d2
 have g6 := fun x : Ext w1 => x.cell d6
 have HA1 := hid ha1; have HA2 := hid ha2; clear h1 ha1 ha2; refine qAs 10 (by kernel_rfl) (by kernel_rfl) ?_
 simp only [List.take_succ_cons, List.take_zero, List.drop_succ_cons, List.drop_zero]; repeat (go_big_quiet_step ((fail)))
 refine wpQuiet_nil ?_; rintro _ ⟨y, rfl⟩; obtain ⟨w2, hup, hat2, hm2⟩ := qBt (P := Tryz.prog) KI Tryz.underlying82 (HA1.out.mod y.mod (fun e => e)) s (.int .i64 W.free)
 have hup' : (Instr.mapUpdate 82 (.map (some C.ab)) (.int .i64 s) (.int .i64 W.free)).run Tryz.prog y.val = .ok () w2 := hup; have h2 := (H1.out.ext y.mod).setAfter hm2 (qCc.put HA2.out hat2); have HM2 : Hid (Mod (WS C) w w2) := hid (HM1.out.then ((y.mod.mono (fun _ _ e => e.elim)).trans (hm2.mono (fun k _ e => .inr (.inr (.inl e))))) (fun _ _ e => e))
 obtain ⟨_, _, e2, _⟩ := h2.cells; have f2 := frozen_of_row w2 C.wb 2 _ _ h2.work.box; have H2 := hid h2; clear g2 g6 hup hat2 hm2 h2 H1 HM1 HA1 HA2 d2 d6; go_wp2_with fail
 go_end0; refine ⟨rfl, ?_, HM2.out.setCell (p := ⟨C.wb, 2, none⟩) (fun _ => .inl rfl) _⟩
 exact H2.out.box (Mod.setCell (S := fun k => k = C.wb) (p := ⟨C.wb, 2, none⟩) (Mod.refl _ _) (fun _ => rfl) _) (qAf H2.out.work.box _) rfl rfl rfl H2.out.work.nx
theorem Ws.cell1 {S : Nat -> Prop} {w : World} {B : TB} {C : WB} {T : TM} {D : Dsk} {W W' : WM} {o : Nat} {v : Value} (h : Ws S w B C T D W) (hb : (qHw B C W).setIfInBounds o v = qHw B C W') (h1 : W'.nodes = W.nodes) (h2 : W'.after = W.after) (h3 : W'.taken = W.taken) (hn : 0 <= W'.next) : Ws S (w.setCell ⟨C.wb, o, none⟩ v) B C T D W' :=
 h.box (Mod.setCell (S := fun k => k = C.wb) (p := ⟨C.wb, o, none⟩) (Mod.refl _ _) (fun _ => rfl) _) (by rw [qAf h.work.box, hb]) h1 h2 h3 hn
set_option maxHeartbeats 1000000 in
theorem jCp {S : Nat -> Prop} {w : World} {B : TB} {C : WB} {T : TM} {D : Dsk} {W : WM} (h : Ws S w B C T D W) (h0 : W.free = 0) (hb : W.next <= 1152921504606846975) :
  Calls Tryz.prog 104 #[.pointer (some ⟨C.wb, 0, none⟩)] w fun e w' => e = .returned (.int .i64 (W.take T (jlen B.room D : Int)).1) /\ Ws S w' B C T D (W.take T (jlen B.room D : Int)).2 /\ Mod (WS C) w w' := by
 have ht : W.take T (jlen B.room D : Int) = (W.next, { W with next := W.next + 1, full := W.full || decide ((jlen B.room D : Int) <= W.next) }) := by unfold WM.take; rw [if_pos h0]
 rw [ht]; have h1 : Ws S (w.setCell ⟨C.wb, 1, none⟩ (.int .i64 (W.next + 1))) B C T D { W with next := W.next + 1 } := h.cell1 (W' := { W with next := W.next + 1 }) rfl rfl rfl rfl (by have := h.work.nx; show 0 <= W.next + 1; omega)
 have hm1 : Mod (WS C) w (w.setCell ⟨C.wb, 1, none⟩ (.int .i64 (W.next + 1))) := Mod.setCell (p := ⟨C.wb, 1, none⟩) (Mod.refl _ _) (fun _ => .inl rfl) _
 obtain ⟨_, c1, c2, _⟩ := h.cells; obtain ⟨_, _, _, _, d4, _, _, _, d8⟩ := h1.cells; have f1 := frozen_of_row w C.wb 1 _ _ h.work.box; obtain ⟨_, _, _, _, e4, _⟩ := h1.tree.cells; have s1 : IntKind.i64.wrap (W.next + 1) = W.next + 1 := by rw [IntKind.wrap_i64]; have := h.work.nx; omega
 have HJ := hid (qKo h1.tree.disk h1.tree.jr h1.tree.hn h1.tree.hr); have HM1 := hid hm1; have H1 := hid h1; have f8 := frozen_of_row _ C.wb 8 _ _ h1.work.box; simp only [h0] at c2; clear ht h h1 hm1 h0; cases hfull : W.full with
 | true =>
  simp only [hfull] at d8; go_enter Tryz.func104, Tryz.ntmps104
  go_wp2_with fail
  go_ret; refine ⟨rfl, ?_, HM1.out.setCell (p := ⟨C.wb, 8, none⟩) (fun _ => .inl rfl) _⟩
  exact H1.out.cell1 rfl rfl rfl rfl H1.out.work.nx
 | false =>
  simp only [hfull] at d8; go_enter Tryz.func104, Tryz.ntmps104
  go_wp2_with (go_at_call 27; refine HJ.out.mono ?_; rintro e w2 ⟨rfl, hm2⟩; have HM2 := hid hm2; have h2 := H1.out.ext hm2; have H2 := hid h2; have f82 := frozen_of_row _ C.wb 8 _ _ h2.work.box; obtain ⟨_, _, _, _, _, _, _, _, d82⟩ := h2.cells; clear hm2 h2)
  go_ret; refine ⟨rfl, H2.out.cell1 rfl rfl rfl rfl H2.out.work.nx, (HM1.out.then (HM2.out.mono (fun _ _ e => e.elim)) (fun _ _ e => e)).setCell (p := ⟨C.wb, 8, none⟩) (fun _ => .inl rfl) _⟩
set_option maxHeartbeats 1000000 in
theorem jCo {S : Nat -> Prop} {w : World} {B : TB} {C : WB} {T : TM} {D : Dsk} {W : WM} (h : Ws S w B C T D W) (h0 : W.free ≠ 0) (L : Int) :
  Calls Tryz.prog 104 #[.pointer (some ⟨C.wb, 0, none⟩)] w fun e w' => e = .returned (.int .i64 (W.take T L).1) /\ Ws S w' B C T D (W.take T L).2 /\ Mod (WS C) w w' := by
 have ht : W.take T L = (W.free, { W with after := fset W.after W.free none, taken := fun x => decide (x = W.free) || W.taken x, free := (W.link T W.free).getD 0 }) := by unfold WM.take; rw [if_neg h0]
 rw [ht]; obtain ⟨_, _, c2, _, c4, _, c6, c7, _⟩ := h.cells; obtain ⟨_, _, _, _, _, _, _, e7, _⟩ := h.tree.cells; have hlk := h.work.after.look W.free true; have hlt := h.tree.after.look W.free false; simp only [if_true, Bool.false_eq_true, if_false] at hlk hlt; have d0 : (W.free == 0) = false := by rw [beq_eq_false_iff_ne]; exact h0
 obtain ⟨l, hl1, hl2⟩ := id h.work.after; obtain ⟨w1, hdel, hat1, hm1⟩ := qDk (P := Tryz.prog) 0 KI Tryz.underlying82 hl1 W.free; have hdel' : (Builtin.delete_ #[82, 3] 0 #[.map (some C.ab), .int .i64 W.free]).run Tryz.prog w = .ok (.tuple #[]) w1 := hdel; have h1 := h.setAfter hm1 (qCc.del hl1 hl2 hat1); have hm1' : Mod (WS C) w w1 := hm1.mono (fun k _ e => .inr (.inr (.inl e)))
 obtain ⟨x, hlk1⟩ := h1.work.taken.look W.free; obtain ⟨lt, ht1, ht2⟩ := id h1.work.taken; obtain ⟨w2, hup, hat2, hm2⟩ := qBt (P := Tryz.prog) KI Tryz.underlying82 ht1 W.free (.int .i64 (wrap64 (x + 1))); have hup' : (Instr.mapUpdate 82 (.map (some C.kb)) (.int .i64 W.free) (.int .i64 (wrap64 (x + 1)))).run Tryz.prog w1 = .ok () w2 := hup; have h2 := h1.setTaken hm2 (qFe.put ht2 hat2); have hm2' : Mod (WS C) w w2 := hm1'.then (hm2.mono (fun k _ e => .inr (.inr (.inr e)))) (fun _ _ e => e)
 obtain ⟨_, _, _, _, _, _, _, g7, _⟩ := h1.cells; obtain ⟨_, _, k2, _⟩ := h2.cells; have f2 := frozen_of_row w2 C.wb 2 _ _ h2.work.box; have H2 := hid h2; have HM2 := hid hm2'; clear ht h h0 hl1 hl2 hdel hat1 hm1 h1 hm1' ht1 ht2 hup hat2 hm2 h2 hm2'; cases ha : W.after W.free with
 | some y =>
  rw [ha] at hlk; simp only [Option.getD_some, Option.isSome_some] at hlk; have hy : (W.link T W.free).getD 0 = y := by unfold WM.link; rw [ha]; rfl
  clear hlt; go_enter Tryz.func104, Tryz.ntmps104
  go_wp2_with fail
  go_ret; exact ⟨rfl, H2.out.cell1 rfl rfl rfl rfl H2.out.work.nx, HM2.out.setCell (p := ⟨C.wb, 2, none⟩) (fun _ => .inl rfl) _⟩
 | none =>
  rw [ha] at hlk; simp only [Option.getD_none, Option.isSome_none] at hlk; have hy : (W.link T W.free).getD 0 = (T.after W.free).getD 0 := by unfold WM.link; rw [ha]
  go_enter Tryz.func104, Tryz.ntmps104
  go_wp2_with fail
  go_ret; exact ⟨rfl, H2.out.cell1 rfl rfl rfl rfl H2.out.work.nx, HM2.out.setCell (p := ⟨C.wb, 2, none⟩) (fun _ => .inl rfl) _⟩
theorem jCq {S : Nat -> Prop} {w : World} {B : TB} {C : WB} {T : TM} {D : Dsk} {W : WM} (h : Ws S w B C T D W) (hb : W.next <= 1152921504606846975) :
  Calls Tryz.prog 104 #[.pointer (some ⟨C.wb, 0, none⟩)] w fun e w' => e = .returned (.int .i64 (W.take T (jlen B.room D : Int)).1) /\ Ws S w' B C T D (W.take T (jlen B.room D : Int)).2 /\ Mod (WS C) w w' := by
 by_cases h0 : W.free = 0
 ·exact jCp h h0 hb
 ·exact jCo h h0 _
end
end Go.Proofs.YtkinkgbmlhiakaaGreatDoor
