/- merged: TwT TwB Srt -/
import Derived.Test.YtkinkgbmlhiakaaGreatDoorNd26
import Derived.Deep.LoopGhost
import Derived.Test.YtkinkgbmlhiakaaGreatDoorNd21
import Derived.BigQuiet
import Derived.Deep.QuietTactic
import Derived.Test.YtkinkgbmlhiakaaGreatDoorNd18
import Derived.Shelf.SlSortCmp.WholeK
import Derived.Shelf.Lay
import Derived.Ground.SlsfProg
namespace Go.Proofs.YtkinkgbmlhiakaaGreatDoor
section
open Go Go.RowKit
def qNa (S : Nat -> Prop) (w : World) (B : TB) (C : WB) (T : TM) (D : Dsk) (W' : WM) (e : Ending) (w' : World) : Prop := e = .returned (.tuple #[]) /\ Ws S w' B C T D W' /\ Mod (WS C) w w'
def jMe (S : Nat -> Prop) (w : World) (B : TB) (C : WB) (T : TM) (D : Dsk) (f : Nat) (W' : WM) (v : Value) (X : World) : Prop :=
 ∃ (W2 : WM) (p : ByteArray × Int) (r : qBo) (pa : Option Addr) (cap : Nat), v = .slice pa (p :: r).length cap /\ Lies X 2 pcs pa (p :: r) /\ Ws S X B C T D W2 /\ Mod (WS C) w X /\ (∀ k, blk pa k -> ¬ WS C k) /\ qFm T f (W2.at p.2) = some W'
structure jKs (S : Nat -> Prop) (w : World) (B : TB) (C : WB) (T : TM) (D : Dsk) (g : Nat) (W' : WM) (X : World) (W3 : WM) (m : Nd) (n : NP) (nb : Nat) : Prop where
 ws : Ws S X B C T D W3
 box : X.heap[nb]? = some (.cells #[.bool m.leaf, .slice m.ka m.keys.length m.kc, .slice m.va m.values.length m.vc, .slice m.ia m.kids.length m.ic] 123 (0, 0))
 lo : w.heap.size <= nb
 has : Has m n.1 n.2
 at' : NdC X m
 bs : ∀ k, m.bs k -> ¬ S k /\ k < X.heap.size
 look : W3.look T W3.root = some n
 down : qFm T g W3 = some W'
 mod : Mod (WS C) w X
theorem jIe : Has ⟨false, [], [], [], none, 0, none, 0, none, 0⟩ false [] := ⟨rfl, rfl, rfl, rfl⟩
theorem jMa (w : World) : NdC w ⟨false, [], [], [], none, 0, none, 0, none, 0⟩ := by
 have hg : Gd w ⟨false, [], [], [], none, 0, none, 0, none, 0⟩ := ⟨Own.nil _ _ _, Own.nil _ _ _, Own.nil _ _ _, fun b h => (qAj b h).elim, fun b h => (qAj b h).elim, fun b h => (qAj b h).elim⟩
 exact hg.ndc (jIe.ok hg (Nat.zero_le _) (fun x hx => by cases hx))
theorem qMo {T : TM} {f : Nat} {W W' : WM} (h : qFm T f W = some W') : ∃ g n, f = g + 1 /\ W.look T W.root = some n := by
 cases f with
 | zero => unfold qFm at h; cases h
 | succ g =>
  cases hl : W.look T W.root with
  | none => unfold qFm at h; simp only [hl] at h; cases h
  | some n => exact ⟨g, n, rfl, rfl⟩
theorem jDb {T : TM} {g : Nat} {W W' : WM} {n : NP} (hl : W.look T W.root = some n) (h : qFm T (g + 1) W = some W') : (∃ x, n = (false, [x]) /\ qFm T g ((W.release W.root).at x.kid) = some W') \/ ((∀ x, n ≠ (false, [x])) /\ W = W') := by
 unfold qFm at h; rw [hl] at h
 match n, hl, h with
 | (false, [x]), _, h => exact .inl ⟨x, rfl, h⟩
 | (true, es), _, h => exact .inr ⟨fun x e => (by cases e), Option.some.inj h⟩
 | (false, []), _, h => exact .inr ⟨fun x e => (by cases e), Option.some.inj h⟩
 | (false, _ :: _ :: _), _, h => exact .inr ⟨fun x e => (by cases e), Option.some.inj h⟩
theorem qTr (ps : qBo) : qAy [] 0 0 ps = ps.map qNk := by unfold qAy; simp
set_option maxRecDepth 100000
set_option maxHeartbeats 4000000 in
theorem jEr {S : Nat -> Prop} {w : World} {B : TB} {C : WB} {T : TM} {D : Dsk} {W : WM} (h : Ws S w B C T D W) (pa : Option Addr) (pcap : Nat) : Calls Tryz.prog 63 #[.pointer (some ⟨C.wb, 0, none⟩), .slice pa 0 pcap] w fun e w' => qNa S w B C T D (W.at 0) e w' := by
 have c0 := h.cells.1; have f0 := frozen_of_row w C.wb 0 _ _ h.work.box; have HW := hid h; clear h; go_enter Tryz.func63, Tryz.ntmps63
 go_wp2_with fail
 refine bodyPost_ret (results_none rfl _ _ _) rfl ?_; exact ⟨rfl, HW.out.cell1 (W' := W.at 0) rfl rfl rfl rfl HW.out.work.nx, Mod.setCell (p := ⟨C.wb, 0, none⟩) (Mod.refl _ _) (fun _ => .inl rfl) _⟩
set_option maxHeartbeats 4000000 in
theorem jEq {S : Nat -> Prop} {w : World} {B : TB} {C : WB} {T : TM} {D : Dsk} {W : WM} (hS : ∀ k, S k -> k < w.heap.size) (h : Ws S w B C T D W) {pa : Option Addr} (pcap : Nat) {ps : qBo} (hp : Lies w 2 pcs pa ps) (hpb : ∀ k, blk pa k -> ¬ WS C k) (hne : ps ≠ []) (hpl : ps.length <= 2 /\ ∀ p ∈ ps, p.1.size <= 48) {f : Nat} {W' : WM} (hk : topM T (jlen B.room D : Int) f W ps = some W') :
  Calls Tryz.prog 63 #[.pointer (some ⟨C.wb, 0, none⟩), .slice pa ps.length pcap] w fun e w' => qNa S w B C T D W' e w' := by
 have HW := hid h; have HSl := hid hS; have HSub := hid h.sub; have HP := hid hp; have HPb := hid hpb; have HPl := hid hpl; have HK := hid hk; have hpos : ps.length ≠ 0 := fun e => hne (List.length_eq_zero_iff.1 e)
 clear h hp hpl hk hne hS hpb; go_enter Tryz.func63, Tryz.ntmps63
 go_upto_if 14 with fail
 go_cut [1] (fun v wx => jMe S w B C T D f W' v wx)
 case first =>
  match ps, hpos, HP, HPl, HK with
  | [p], _, HP, HPl, HK =>
   go_wp2_with fail
   go_meet
   case rel => exact ⟨W, p, [], pa, pcap, rfl, HP.out, HW.out, Mod.refl _ _, HPb.out, HK.out⟩
  | p :: q :: r, _, HP, HPl, HK =>
   obtain ⟨⟨W2, ps2⟩, hk1, hk2⟩ := Option.bind_eq_some_iff.1 (show (qCb T (jlen B.room D : Int) W false ((p :: q :: r).map qNk) []).bind _ = some W' from HK.out)
   have HK1 := hid hk1; have HK2 := hid hk2; have HQs : Hid (∀ y ∈ p :: q :: r, 1 <= y.2 /\ y.2 <= 1152921504606846976) := hid (fun y hy => by
    have h1 := qOd hk1 (qNk y) (List.mem_map_of_mem hy); exact h1)
   have HInn := hid (qFu (w := w) (n := ⟨false, [], [], [], none, 0, none, 0, none, 0⟩) (es := []) jIe (jMa w) 0 0 (Nat.le_refl _) (Nat.le_refl _) (pcap := pcap) HP.out (by have := HPl.out.1; omega) (Nat.zero_le _) (fun y hy => by have h1 := HPl.out.2 y hy; have h2 := HQs.out y hy; omega) (fun y hy => by cases hy) (fun _ => ⟨rfl, rfl, rfl, rfl⟩))
   clear hk1 hk2; go_wp2_with (first
    | (go_at_call 95; refine HInn.out.mono ?_; rintro e w6 ⟨m6, rfl, hh6, hn6, hb6, hm6⟩; rw [qTr] at hh6; have HM6 := hid hm6; have HKp := hid (qFi (n := m6) (ss := []) (cap := 0) (a := none) (fun k e => by have h1 := HSl.out k e; have h2 := hm6.size; omega) (HW.out.ext hm6) hh6 hn6.nd (fun y hy => by obtain ⟨z, _, rfl⟩ := List.mem_map.1 hy; exact ⟨(fun h => by cases h), fun _ => rfl⟩) Lies.empty ⟨Nat.le_refl _, Nat.zero_le _⟩ (Nat.zero_le _) (fun k hk => (qAj k hk).elim) HK1.out); clear hh6 hn6 hb6 hm6; simp only [Nd.val])
    | (go_at_call 65; refine HKp.out.mono ?_; rintro e w7 ⟨qa, qcap, rfl, ho7, hb7, hw7, hm7⟩; have HO7 := hid ho7; have HB7 := hid hb7; have HW7 := hid hw7; have HM7 := hid hm7; clear ho7 hb7 hw7 hm7))
   go_meet
   case rel =>
    have h2 := HK2.out; cases ps2 with
    | nil => cases h2
    | cons p2 r2 => exact ⟨W2, p2, r2, qa, qcap, rfl, HO7.out.lies, HW7.out, (HM6.out.mono (fun _ _ e => e.elim)).trans HM7.out, fun k hk e => by have h1 := HB7.out k hk; have h3 := HW.out.lt (.inr e); have h4 := HM6.out.size; omega, h2⟩
 case rest =>
  obtain ⟨W2, p, r, qa, qcap, rfl, hl2, hw2, hm2, hb2, hd2⟩ := hcut; obtain ⟨gp, op, rfl⟩ := hl2.some (by simp)
  have hp2 := hl2.cell qTg (i := 0) (x := p) rfl (j := 1) rfl; simp only [Nat.zero_mul, Nat.add_zero] at hp2; obtain ⟨g, n, rfl, hlk⟩ := qMo hd2; have c0 := hw2.cells.1; have f0 := frozen_of_row wc C.wb 0 _ _ hw2.work.box; have HW3 := hid (hw2.cell1 (W' := W2.at p.2) (o := 0) (v := .int .i64 p.2) rfl rfl rfl rfl hw2.work.nx); have HM3 : Hid (Mod (WS C) w (wc.setCell ⟨C.wb, 0, none⟩ (.int .i64 p.2))) := hid (hm2.setCell (p := ⟨C.wb, 0, none⟩) (fun _ => .inl rfl) _)
  have HD2 := hid hd2; have HLk := hid hlk; clear hw2 hm2 hb2 hd2 hlk hl2; go_upto_region 5 with fail
  generalize wc.setCell ⟨C.wb, 0, none⟩ (.int .i64 p.2) = X at *; clear c0 f0 hp2; have c0 := HW3.out.cells.1; have HNo := hid (qEf HW3.out HLk.out); generalize W2.at p.2 = W3 at *; go_upto_region 6 with (go_at_call 96; refine HNo.out.mono ?_; rintro e w5 ⟨m, rfl, hh5, hn5, hb5, hm5⟩; have HH5 := hid hh5; have HN5 := hid hn5; have HB5 := hid hb5; have HM5 := hid hm5; clear hh5 hn5 hb5 hm5; simp only [Nd.val])
  go_loopg [4] (g + 1) (fun gg v wr => ∃ (W4 : WM) (m4 : Nd) (n4 : NP) (nb : Nat), v = .pointer (some ⟨nb, 0, none⟩) /\ jKs S w B C T D gg W' wr W4 m4 n4 nb)
  case atStart =>
   have hz : Mod (fun _ => False) w5 (w5.alloc (.cells #[.bool m.leaf, .slice m.ka m.keys.length m.kc, .slice m.va m.values.length m.vc, .slice m.ia m.kids.length m.ic] 123)) := (Mod.refl _ _).alloc _
   have hs1 := HM3.out.size; have hs2 := HM5.out.size; have hs3 := hz.size; exact ⟨W3, m, n, w5.heap.size, rfl, (HW3.out.ext HM5.out).ext hz, heap_alloc_new _ _, by omega, HH5.out, HN5.out.ext hz, fun k hk => ⟨(HB5.out k hk).1, by have := (HB5.out k hk).2; omega⟩, HLk.out, HD2.out, (HM3.out.trans (HM5.out.mono (fun _ _ e => e.elim))).trans (hz.mono (fun _ _ e => e.elim))⟩
  case round =>
   obtain ⟨W4, m4, n4, nb, rfl, hr⟩ := hrel; have HR := hid hr; obtain ⟨z0, z1, z2, z3⟩ := cl4 hr.box; obtain ⟨g', _, hg', _⟩ := qMo hr.down; subst hg'; rcases jDb hr.look hr.down with ⟨x, rfl, hd⟩ | ⟨hne, rfl⟩
   ·have hki : m4.kids = [x.kid] := by rw [hr.has.i]; rfl
    obtain ⟨gi, oi, hia, hkc⟩ := hr.at'.nd.i.one (i := 0) (x := x.kid) (by rw [hki]; rfl)
    simp only [Nat.add_zero] at hkc; have hkl : m4.kids.length = 1 := by rw [hki]; rfl
    have hgi : ¬ WS C gi := fun e => (hr.bs gi (.inr (.inr (by rw [hia]; exact qAc.2 rfl)))).1 (HSub.out gi (.inr e))
    have hnb : ¬ WS C nb := fun e => by have h1 := HW.out.lt (.inr e); have h2 := hr.lo; omega
    have c0 := hr.ws.cells.1; have HRel := hid (qIc hr.ws W4.root); have HD := hid hd; have HKc := hid hkc; have HGi := hid hgi; have HNb := hid hnb; have HIa := hid hia; have HKl := hid hkl; rw [hia, hkl] at z3; clear hr hki hkc hgi hnb hd hia hkl; go_upto_region 9 with (go_at_call 97; refine HRel.out.mono ?_; rintro e w6 ⟨rfl, hw6, hm6⟩; have HW6 := hid hw6; have HM6 := hid hm6; clear hw6 hm6)
    clear z0 z1 z2 z3 c0; have hb6 := (HM6.out.block nb (lth HR.out.box) HNb.out).trans HR.out.box; have HB6 := hid hb6; obtain ⟨z0, z1, z2, z3⟩ := cl4 hb6; rw [HIa.out, HKl.out] at z3; have hkc6 := (HM6.out.cell (World.block_lt_of_cell? _ _ HKc.out) HGi.out).trans HKc.out; have c0 := HW6.out.cells.1; have f0 := frozen_of_row w6 C.wb 0 _ _ HW6.out.work.box; have HWX := hid (HW6.out.cell1 (W' := (W4.release W4.root).at x.kid) (o := 0) (v := .int .i64 x.kid) rfl rfl rfl rfl HW6.out.work.nx); have hmx : Mod (WS C) w6 (w6.setCell ⟨C.wb, 0, none⟩ (.int .i64 x.kid)) := Mod.setCell (p := ⟨C.wb, 0, none⟩) (Mod.refl _ _) (fun _ => .inl rfl) _
    clear hb6; go_upto_region 10 with fail
    generalize w6.setCell ⟨C.wb, 0, none⟩ (.int .i64 x.kid) = X2 at *; clear z0 z1 z2 z3 hkc6 c0 f0; have HMX := hid ((HR.out.mod.trans HM6.out).trans hmx); have hbx := (hmx.block nb (lth HB6.out) HNb.out).trans HB6.out; obtain ⟨z0, z1, z2, z3⟩ := cl4 hbx; obtain ⟨g2, n2, hg2, hlk2⟩ := qMo HD.out; subst hg2; have HLk2 := hid hlk2; have HMa : Hid (Mod (fun _ => False) X2 (X2.alloc (.cells #[.bool m4.leaf, .slice m4.ka m4.keys.length m4.kc, .slice m4.va m4.values.length m4.vc, .slice m4.ia m4.kids.length m4.ic] 123))) := hid ((Mod.refl _ _).alloc _)
    have HBa : Hid ((X2.alloc (.cells #[.bool m4.leaf, .slice m4.ka m4.keys.length m4.kc, .slice m4.va m4.values.length m4.vc, .slice m4.ia m4.kids.length m4.ic] 123)).heap[X2.heap.size]? = some (.cells #[.bool m4.leaf, .slice m4.ka m4.keys.length m4.kc, .slice m4.va m4.values.length m4.vc, .slice m4.ia m4.kids.length m4.ic] 123 (0, 0))) := hid (heap_alloc_new _ _); have HWw : Hid (Ws (fun k => S k \/ k = X2.heap.size) X2 B C T D ((W4.release W4.root).at x.kid)) := hid (HWX.out.narrow (fun k hk e => e.resolve_right (by omega)) (fun k hk => .inl (HSub.out k hk)))
    have HNo2 := hid (qEf (HWw.out.ext HMa.out) HLk2.out); have hc0 := (HWw.out.ext HMa.out).cells.1; have hrt2 : ((W4.release W4.root).at x.kid).root = x.kid := rfl; have HWX0 := hid (fun k (hk : MS B C k) => HWX.out.lt hk)
    clear hmx hbx hlk2 hrt2; generalize (W4.release W4.root).at x.kid = W5 at *; go_upto_region 7 with fail
    clear z0 z1 z2 z3; generalize hXa : X2.alloc (.cells #[.bool m4.leaf, .slice m4.ka m4.keys.length m4.kc, .slice m4.va m4.values.length m4.vc, .slice m4.ia m4.kids.length m4.ic] 123) = Xa at *; clear hXa; go_wp2_with (go_at_call 96; refine HNo2.out.mono ?_; rintro e w8 ⟨m8, rfl, hh8, hn8, hb8, hm8⟩; have HH8 := hid hh8; have HN8 := hid hn8; have HB8 := hid hb8; have HM8 := hid hm8; have hb8' := qAq hm8 HBa.out; have HBb := hid hb8'; obtain ⟨z0, z1, z2, z3⟩ := cl4 hb8'; have f0 := frozen_of_row _ _ 0 _ _ hb8'; have f1 := frozen_of_row _ _ 1 _ _ hb8'; have f2 := frozen_of_row _ _ 2 _ _ hb8'; have f3 := frozen_of_row _ _ 3 _ _ hb8'; clear hh8 hn8 hb8 hm8 hb8'; simp only [Nd.val])
    go_roundg (g2 + 1)
    case measure => omega
    case rel =>
     have hx := qDk HBb.out (.bool m8.leaf) (.slice m8.ka m8.keys.length m8.kc) (.slice m8.va m8.values.length m8.vc) (.slice m8.ia m8.kids.length m8.ic); have hmx : Mod (fun k => k = X2.heap.size) w8 ((((w8.setCell ⟨X2.heap.size, 0, none⟩ (.bool m8.leaf)).setCell ⟨X2.heap.size, 1, none⟩ (.slice m8.ka m8.keys.length m8.kc)).setCell ⟨X2.heap.size, 2, none⟩ (.slice m8.va m8.values.length m8.vc)).setCell ⟨X2.heap.size, 3, none⟩ (.slice m8.ia m8.kids.length m8.ic)) := qBl (S := fun k => k = X2.heap.size) (Mod.refl _ _) (fun _ => rfl) _ _ _ _
     have hnms : ∀ k, MS B C k -> k ≠ X2.heap.size := fun k hk e => by have h1 := HWX0.out k hk; omega
     refine ⟨W5, m8, n2, X2.heap.size, rfl, (((HWw.out.ext HMa.out).ext HM8.out).priv hmx (fun k e => .inr e) (fun k e hk => hnms k hk e)).narrow (S' := S) (fun k _ e => .inl e) (fun k e => HSub.out k e), hx, HMX.out.size, HH8.out, qBq (S := fun k => S k \/ k = X2.heap.size) HN8.out (fun k hk => (HB8.out k hk).1) hmx (fun _ e => .inr e), fun k hk => ⟨fun e => (HB8.out k hk).1 (.inl e), by have h1 := (HB8.out k hk).2; have h2 := HM8.out.size; have h3 := hmx.size; omega⟩, HLk2.out, HD.out, ?_⟩
     exact ((HMX.out.trans (HMa.out.mono (fun _ _ e => e.elim))).trans (HM8.out.mono (fun _ _ e => e.elim))).then hmx (fun k hk e => by have := HMX.out.size; omega)
   ·have hkl : ¬ m4.kids.length = 1 := fun e => by
     rw [hr.has.i] at e; cases n4 with
     | mk leaf es =>
      cases leaf with
      | true => simp at e
      | false =>
       simp only [Bool.false_eq_true, if_false, List.length_map] at e; obtain ⟨x, hx⟩ := List.length_eq_one_iff.1 e; exact hne x (by rw [hx])
    clear hr hne; go_wp2_with fail
    go_end0; exact ⟨rfl, HR.out.ws, HR.out.mod⟩
theorem qXo {T : TM} {L : Int} {f : Nat} {W W' : WM} (h : topM T L f W [] = some W') : W' = W.at 0 := (Option.some.inj h).symm
theorem qZy {S : Nat -> Prop} {w : World} {B : TB} {C : WB} {T : TM} {D : Dsk} {W : WM} (hS : ∀ k, S k -> k < w.heap.size) (h : Ws S w B C T D W) {pa : Option Addr} (pcap : Nat) {ps : qBo} (hp : Lies w 2 pcs pa ps) (hpb : ∀ k, blk pa k -> ¬ WS C k) (hpl : ps.length <= 2 /\ ∀ p ∈ ps, p.1.size <= 48) {f : Nat} {W' : WM} (hk : topM T (jlen B.room D : Int) f W ps = some W') :
  Calls Tryz.prog 63 #[.pointer (some ⟨C.wb, 0, none⟩), .slice pa ps.length pcap] w fun e w' => qNa S w B C T D W' e w' := by
 cases ps with
 | nil => rw [qXo hk]; exact jEr h pa pcap
 | cons p r => exact jEq hS h pcap hp hpb (by simp) hpl hk
set_option maxHeartbeats 4000000 in
theorem jFz {S : Nat -> Prop} {w : World} {B : TB} {C : WB} {T : TM} {D : Dsk} {W : WM} {c : Cg} (hc : CgOk c) (hcn : -2305843009213693952 <= W.count /\ W.count <= 2305843009213693952) (hS : ∀ k, S k -> k < w.heap.size) (h : Ws S w B C T D W) (hr : W.root ≠ 0) {f : Nat} {W' : WM} (hk : oneM T (jlen B.room D : Int) f W c = some W') :
  Calls Tryz.prog 33 #[.pointer (some ⟨C.wb, 0, none⟩), .agg #[.string c.key, .string c.value, .bool c.gone]] w fun e w' => qNa S w B C T D W' e w' := by
 unfold oneM at hk; rw [if_pos hr] at hk; obtain ⟨⟨W1, ps⟩, hk1, hk2⟩ := Option.bind_eq_some_iff.1 hk; have hma : Mod (fun _ => False) w (w.alloc (.cells #[.string c.key, .string c.value, .bool c.gone] 113)) := (Mod.refl _ _).alloc _
 have hcb : (w.alloc (.cells #[.string c.key, .string c.value, .bool c.gone] 113)).heap[w.heap.size]? = some (.cells #[.string c.key, .string c.value, .bool c.gone] 113 (0, 0)) := heap_alloc_new _ _; have c0 := (h.ext hma).cells.1; obtain ⟨b0, b1, b2⟩ := qMs hcb; have d0 : (W.root == 0) = false := by rw [beq_eq_false_iff_ne]; exact hr
 have d1 : (W.root != 0) = true := by simpa using hr
 have HW := hid h; have HSl := hid hS; have HMa := hid hma; have HK1 := hid hk1; have HK2 := hid hk2; have HCk := hid hc; have HCn := hid hcn; have HPl := hid (qGg (fun es h2 => qEz h h2) hk1)
 clear h hS hma hcb hk hk1 hk2 hc hcn; go_enter Tryz.func33, Tryz.ntmps33
 go_wp2_with fail
 generalize (w.alloc (.cells #[.string c.key, .string c.value, .bool c.gone] 113)) = X at *; have HS : Hid (∀ y, Mod (fun _ => False) X y -> y.cell? ⟨C.wb, 0, none⟩ = some (.int .i64 W.root) /\ y.cell? ⟨w.heap.size, 0, none⟩ = some (.string c.key) /\ y.cell? ⟨w.heap.size, 1, none⟩ = some (.string c.value) /\ y.cell? ⟨w.heap.size, 2, none⟩ = some (.bool c.gone)) := hid (fun y hy => ⟨(hy.cell (World.block_lt_of_cell? _ _ c0) (fun h => h)).trans c0, (hy.cell (World.block_lt_of_cell? _ _ b0) (fun h => h)).trans b0, (hy.cell (World.block_lt_of_cell? _ _ b1) (fun h => h)).trans b1, (hy.cell (World.block_lt_of_cell? _ _ b2) (fun h => h)).trans b2⟩)
 have HMyz : Hid (Mod (fun _ => False) X X.drew) := hid (Mod.refl _ _).drew
 have HMy : Hid (Mod (fun _ => False) w X.drew) := hid (HMa.out.trans HMyz.out)
 clear c0 b0 b1 b2; refine qBw (S := qAa 8 (fun y => y.cell? ⟨C.wb, 0, none⟩ = some (.int .i64 W.root) /\ y.cell? ⟨w.heap.size, 0, none⟩ = some (.string c.key) /\ y.cell? ⟨w.heap.size, 1, none⟩ = some (.string c.value) /\ y.cell? ⟨w.heap.size, 2, none⟩ = some (.bool c.gone))) (by kernel_rfl) (qAa.all (HS.out _ HMyz.out)) (fun hHeld => ?_)
 generalize X.drew = Y0 at *; refine aTk (v := .pointer (some ⟨C.wb, 0, none⟩)) (d := 11) 0 rfl rfl (by kernel_rfl) (by kernel_rfl) (by kernel_rfl) (fun _ _ _ h => h) (fun l w h => qAa.same (by decide) h) (fun l j w h => qAa.mono h j) (Or.inl ⟨by rfl, fun w' _ => by go_simp⟩) hHeld (fun hU => ?_)
 clear hHeld; have hHeld := hU; clear hU; simp only [Act.put, sTA, sC0, sC1]; refine aTk (v := .pointer (some ⟨C.wb, 0, none⟩)) (d := 12) 1 rfl rfl (by kernel_rfl) (by kernel_rfl) (by kernel_rfl) (fun _ _ _ h => h) (fun l w h => qAa.same (by decide) h) (fun l j w h => qAa.mono h j) (Or.inl ⟨by rfl, fun w' _ => by go_simp⟩) hHeld (fun hU => ?_)
 clear hHeld; have hHeld := hU; clear hU; simp only [Act.put, sTA, sC0, sC1]; refine aTk (v := .pointer (some ⟨C.wb, 0, none⟩)) (d := 13) 2 rfl rfl (by kernel_rfl) (by kernel_rfl) (by kernel_rfl) (fun _ _ _ h => h) (fun l w h => qAa.same (by decide) h) (fun l j w h => qAa.mono h j) (Or.inl ⟨by rfl, fun w' _ => by go_simp⟩) hHeld (fun hU => ?_)
 clear hHeld; have hHeld := hU; clear hU; simp only [Act.put, sTA, sC0, sC1]; refine aTk (v := .pointer (some ⟨C.wb, 0, none⟩)) (d := 14) 3 rfl rfl (by kernel_rfl) (by kernel_rfl) (by kernel_rfl) (fun _ _ _ h => h) (fun l w h => qAa.same (by decide) h) (fun l j w h => qAa.mono h j) (Or.inl ⟨by rfl, fun w' _ => by go_simp⟩) hHeld (fun hU => ?_)
 clear hHeld; have hHeld := hU; clear hU; simp only [Act.put, sTA, sC0, sC1]; refine aTk (v := .pointer (some ⟨C.wb, 0, none⟩)) (d := 15) 4 rfl rfl (by kernel_rfl) (by kernel_rfl) (by kernel_rfl) (fun _ _ _ h => h) (fun l w h => qAa.same (by decide) h) (fun l j w h => qAa.mono h j) (Or.inl ⟨by rfl, fun w' _ => by go_simp⟩) hHeld (fun hU => ?_)
 clear hHeld; have hHeld := hU; clear hU; simp only [Act.put, sTA, sC0, sC1]; refine aTk (v := .pointer (some ⟨C.wb, 0, none⟩)) (d := 16) 5 rfl rfl (by kernel_rfl) (by kernel_rfl) (by kernel_rfl) (fun _ _ _ h => h) (fun l w h => qAa.same (by decide) h) (fun l j w h => qAa.mono h j) (Or.inl ⟨by rfl, fun w' _ => by go_simp⟩) hHeld (fun hU => ?_)
 clear hHeld; have hHeld := hU; clear hU; simp only [Act.put, sTA, sC0, sC1]; refine aTk (v := .int .i64 W.root) (d := 17) 6 rfl rfl (by kernel_rfl) (by kernel_rfl) (by kernel_rfl) (fun _ _ _ h => h) (fun l w h => qAa.same (by decide) h) (fun l j w h => qAa.mono h j) (Or.inl ⟨by rfl, fun w' hT => by (obtain ⟨l', hz', hu', hC', hS'⟩ := hT; obtain ⟨c1, c2, c3, c4⟩ := hS' (hC'.later (i := 6) (j := 8) rfl (by rw [hz']; decide) (by kernel_rfl) hu'); go_simp)⟩) hHeld (fun hU => ?_)
 clear hHeld; have hHeld := hU; clear hU; simp only [Act.put, sTA, sC0, sC1]; refine aTk (v := .agg #[.string c.key, .string c.value, .bool c.gone]) (d := 18) 7 rfl rfl (by kernel_rfl) (by kernel_rfl) (by kernel_rfl) (fun _ _ _ h => h) (fun l w h => qAa.same (by decide) h) (fun l j w h => qAa.mono h j) (Or.inl ⟨by rfl, fun w' hT => by (obtain ⟨l', hz', hu', hC', hS'⟩ := hT; obtain ⟨c1, c2, c3, c4⟩ := hS' (hC'.later (i := 7) (j := 8) rfl (by rw [hz']; decide) (by kernel_rfl) hu'); go_simp)⟩) hHeld (fun hU => ?_)
 clear hHeld; have hHeld := hU; clear hU; simp only [Act.put, sTA, sC0, sC1]; refine aRd (rs := [8]) (by kernel_rfl) (by simp) (AllL.cons rfl (by kernel_rfl) hHeld (fun K hK => ?_) AllL.nil)
 go_simp; refine (qOn HCk.out HCn.out f S Y0 W.root W1 ps (fun k e => by have h1 := HSl.out k e; have h2 := HMy.out.size; omega) (HW.out.ext HMy.out) HK1.out).mono ?_
 rintro e w5 ⟨pa, pcap, rfl, ho5, hb5, hw5, hm5⟩; have HM5 := hid ((HMy.out.mono (T := WS C) (fun _ _ e => e.elim)).trans hm5)
 have HTop := hid (qZy (fun k e => by have h1 := HSl.out k e; have h2 := HM5.out.size; omega) hw5 pcap ho5.lies (fun k hk e => by have h1 := hb5 k hk; have h2 := HW.out.lt (.inr e); have h3 := HMy.out.size; omega) HPl.out HK2.out)
 clear ho5 hb5 hw5 hm5; refine hK.out _ _ (fun hu => absurd (show true = false from hu) (by decide)) (fun hU => ?_)
 clear hK K hHeld; have hHeld := hU; clear hU; try simp only [Act.put, sTA, sC0, sC1]
 refine aRd (rs := [9]) (by kernel_rfl) (by simp) (AllL.cons rfl (by kernel_rfl) hHeld (fun K hK => ?_) AllL.nil)
 go_simp; refine HTop.out.mono ?_; rintro e w6 ⟨rfl, hw6, hm6⟩; have HW6 := hid hw6; have HM6 := hid hm6; clear hw6 hm6; refine hK.out _ _ (fun hu => absurd (show true = false from hu) (by decide)) (fun hU => ?_)
 clear hK K hHeld; have hHeld := hU; clear hU; try simp only [Act.put, sTA, sC0, sC1]
 refine qBc (by kernel_rfl) ?_ _
 clear hHeld; go_wp2_with fail
 go_end0; exact ⟨rfl, HW6.out, HM5.out.trans HM6.out⟩
set_option maxHeartbeats 4000000 in
theorem jGa {S : Nat -> Prop} {w : World} {B : TB} {C : WB} {T : TM} {D : Dsk} {W : WM} {c : Cg} (h : Ws S w B C T D W) (hr : W.root = 0) (hg : c.gone = true) :
  Calls Tryz.prog 33 #[.pointer (some ⟨C.wb, 0, none⟩), .agg #[.string c.key, .string c.value, .bool c.gone]] w fun e w' => qNa S w B C T D W e w' := by
 have hma : Mod (fun _ => False) w (w.alloc (.cells #[.string c.key, .string c.value, .bool c.gone] 113)) := (Mod.refl _ _).alloc _
 have hcb : (w.alloc (.cells #[.string c.key, .string c.value, .bool c.gone] 113)).heap[w.heap.size]? = some (.cells #[.string c.key, .string c.value, .bool c.gone] 113 (0, 0)) := heap_alloc_new _ _; have c0 := (h.ext hma).cells.1; obtain ⟨b0, b1, b2⟩ := qMs hcb; have HW := hid h; have HMa := hid hma; rw [hr] at c0; rw [hg] at b2 c0 b0 b1 HMa ⊢; clear h hma hcb; go_enter Tryz.func33, Tryz.ntmps33
 go_wp2_with fail
 go_end0; exact ⟨rfl, HW.out.ext HMa.out, HMa.out.mono (fun _ _ e => e.elim)⟩
set_option maxHeartbeats 4000000 in
theorem jJd {S : Nat -> Prop} {w : World} {B : TB} {C : WB} {T : TM} {D : Dsk} {W : WM} {c : Cg} (hc : CgOk c) (hcn : -2305843009213693952 <= W.count /\ W.count <= 2305843009213693952) (hS : ∀ k, S k -> k < w.heap.size) (h : Ws S w B C T D W) (hr : W.root = 0) (hg : c.gone = false) {f : Nat} {W' : WM} (hk : oneM T (jlen B.room D : Int) f W c = some W') :
  Calls Tryz.prog 33 #[.pointer (some ⟨C.wb, 0, none⟩), .agg #[.string c.key, .string c.value, .bool c.gone]] w fun e w' => qNa S w B C T D W' e w' := by
 unfold oneM at hk; rw [if_neg (fun e => e hr), hg] at hk
 obtain ⟨⟨W1, ps⟩, hk1, hk2⟩ := Option.bind_eq_some_iff.1 hk; have hma : Mod (fun _ => False) w (w.alloc (.cells #[.string c.key, .string c.value, .bool c.gone] 113)) := (Mod.refl _ _).alloc _
 have hcb : (w.alloc (.cells #[.string c.key, .string c.value, .bool c.gone] 113)).heap[w.heap.size]? = some (.cells #[.string c.key, .string c.value, .bool c.gone] 113 (0, 0)) := heap_alloc_new _ _; obtain ⟨c0, _, _, c3, _⟩ := (h.ext hma).cells; have f3 := frozen_of_row _ C.wb 3 _ _ (h.ext hma).work.box; obtain ⟨b0, b1, b2⟩ := qMs hcb; have s1 : IntKind.i64.wrap (W.count + 1) = W.count + 1 := by rw [IntKind.wrap_i64]; omega
 have HW := hid h; have HSl := hid hS; have HMa := hid hma; have HCb := hid hcb; have HK1 := hid hk1; have HK2 := hid hk2; have HCk := hid hc; have HPl := hid (qBa hk1); rw [hr] at c0; rw [hg] at b2 c0 c3 f3 b0 b1 HMa HCb ⊢; clear h hS hma hcb hk hk1 hk2 hc; go_enter Tryz.func33, Tryz.ntmps33
 go_upto_region 5 with fail
 have HWX : Hid (Ws S ((w.alloc (.cells #[.string c.key, .string c.value, .bool false] 113)).setCell ⟨C.wb, 3, none⟩ (.int .i64 (W.count + 1))) B C T D (W.add 1)) := hid ((HW.out.ext HMa.out).cell1 (W' := W.add 1) (o := 3) (v := .int .i64 (W.count + 1)) rfl rfl rfl rfl HW.out.work.nx); have hmx : Mod (WS C) w ((w.alloc (.cells #[.string c.key, .string c.value, .bool false] 113)).setCell ⟨C.wb, 3, none⟩ (.int .i64 (W.count + 1))) := (HMa.out.mono (fun _ _ e => e.elim)).setCell (p := ⟨C.wb, 3, none⟩) (fun _ => .inl rfl) _
 have hcw : w.heap.size ≠ C.wb := fun e => by have := HW.out.lt (.inr (.inl rfl)); omega
 have hbx : ((w.alloc (.cells #[.string c.key, .string c.value, .bool false] 113)).setCell ⟨C.wb, 3, none⟩ (.int .i64 (W.count + 1))).heap[w.heap.size]? = some (.cells #[.string c.key, .string c.value, .bool false] 113 (0, 0)) := (Below.heap_setCell _ _ _ _ hcw).trans HCb.out; generalize (w.alloc (.cells #[.string c.key, .string c.value, .bool false] 113)).setCell ⟨C.wb, 3, none⟩ (.int .i64 (W.count + 1)) = X at *; clear c0 c3 f3 b0 b1 b2 s1; obtain ⟨b0, b1, b2⟩ := qMs hbx; have b1' : (X.alloc (.cells #[.string c.key] 9)).cell? ⟨w.heap.size, 1, none⟩ = some (.string c.value) := (Mod.cell (S := fun _ => False) ((Mod.refl _ _).alloc _) (World.block_lt_of_cell? _ _ b1) (fun e => e)).trans b1
 have HMX := hid hmx; have hy : Mod (fun _ => False) X ((X.alloc (.cells #[.string c.key] 9)).alloc (.cells #[.string c.value] 9)) := ((Mod.refl _ _).alloc _).alloc _
 have hk0 : ((X.alloc (.cells #[.string c.key] 9)).alloc (.cells #[.string c.value] 9)).heap[X.heap.size]? = some (.cells #[.string c.key] 9 (0, 0)) := qAq ((Mod.refl _ _).alloc _) (heap_alloc_new X _); have hv0 : ((X.alloc (.cells #[.string c.key] 9)).alloc (.cells #[.string c.value] 9)).heap[X.heap.size + 1]? = some (.cells #[.string c.value] 9 (0, 0)) := by
  have := heap_alloc_new (X.alloc (.cells #[.string c.key] 9)) (.cells #[.string c.value] 9); rw [World.size_alloc] at this; exact this
 have hok : Own ((X.alloc (.cells #[.string c.key] 9)).alloc (.cells #[.string c.value] 9)) 9 1 (some ⟨X.heap.size, 0, none⟩) 1 1 ([c.key].flatMap scs) := ⟨rfl, Nat.le_refl _, by unfold maxLen; omega, .inr ⟨_, 0, _, rfl, hk0, by simp, rfl⟩⟩
 have hov : Own ((X.alloc (.cells #[.string c.key] 9)).alloc (.cells #[.string c.value] 9)) 9 1 (some ⟨X.heap.size + 1, 0, none⟩) 1 1 ([c.value].flatMap scs) := ⟨rfl, Nat.le_refl _, by unfold maxLen; omega, .inr ⟨_, 0, _, rfl, hv0, by simp, rfl⟩⟩
 have hgd : Gd ((X.alloc (.cells #[.string c.key] 9)).alloc (.cells #[.string c.value] 9)) ⟨true, [c.key], [c.value], [], some ⟨X.heap.size, 0, none⟩, 1, some ⟨X.heap.size + 1, 0, none⟩, 1, none, 0⟩ := ⟨hok, hov, Own.nil _ _ _, fun b h1 h2 => by rw [qAc] at h1 h2; omega, fun b _ h => (qAj b h).elim, fun b _ h => (qAj b h).elim⟩
 have hha : Has ⟨true, [c.key], [c.value], [], some ⟨X.heap.size, 0, none⟩, 1, some ⟨X.heap.size + 1, 0, none⟩, 1, none, 0⟩ true [⟨c.key, c.value, 0⟩] := ⟨rfl, rfl, rfl, rfl⟩; have hnd := hha.ok hgd (by simp) (fun y hy => by
  rw [List.mem_singleton] at hy; subst hy; have h1 := HCk.out.key; have h2 := HCk.out.value; unfold Ent.Ok; show c.key.size <= _ /\ c.value.size <= _ /\ (-9223372036854775808 : Int) <= 0 /\ (0 : Int) <= 9223372036854775807; omega)
 have HKp := hid (show Calls Tryz.prog 65 #[.pointer (some ⟨C.wb, 0, none⟩), .agg #[.bool true, .slice (some ⟨X.heap.size, 0, none⟩) 1 1, .slice (some ⟨X.heap.size + 1, 0, none⟩) 1 1, .slice none 0 0], .slice none 0 0] _ _ from qFi (n := ⟨true, [c.key], [c.value], [], some ⟨X.heap.size, 0, none⟩, 1, some ⟨X.heap.size + 1, 0, none⟩, 1, none, 0⟩) (ss := []) (cap := 0) (a := none) (fun k e => by have h1 := HSl.out k e; have h2 := hmx.size; have h3 := hy.size; omega) (HWX.out.ext hy) hha hnd (fun y hy => by rw [List.mem_singleton] at hy; subst hy; exact ⟨fun _ => rfl, (fun h => by cases h)⟩) Lies.empty ⟨Nat.le_refl _, Nat.zero_le _⟩ (Nat.zero_le _) (fun k hk => (qAj k hk).elim) HK1.out)
 have HMy := hid (hmx.trans (hy.mono (T := WS C) (fun _ _ e => e.elim)))
 clear hmx hcw hbx hy hk0 hv0 hok hov hgd hha hnd; go_wp2_with (first
  | (go_at_call 65; refine HKp.out.mono ?_; rintro e w7 ⟨qa, qcap, rfl, ho7, hb7, hw7, hm7⟩; have HM7 := hid hm7; have HTop := hid (qZy (fun k e => by have h1 := HSl.out k e; have h2 := HMy.out.size; have h3 := hm7.size; omega) hw7 qcap ho7.lies (fun k hk e => by have h1 := hb7 k hk; have h2 := HW.out.lt (.inr e); have h3 := HMy.out.size; omega) HPl.out HK2.out); clear ho7 hb7 hw7 hm7)
  | (go_at_call 63; refine HTop.out.mono ?_; rintro e w8 ⟨rfl, hw8, hm8⟩; have HW8 := hid hw8; have HM8 := hid hm8; clear hw8 hm8))
 go_end0; exact ⟨rfl, HW8.out, (HMy.out.trans HM7.out).trans HM8.out⟩
theorem jFy {S : Nat -> Prop} {w : World} {B : TB} {C : WB} {T : TM} {D : Dsk} {W : WM} {c : Cg} (hc : CgOk c) (hcn : -2305843009213693952 <= W.count /\ W.count <= 2305843009213693952) (hS : ∀ k, S k -> k < w.heap.size) (h : Ws S w B C T D W) {f : Nat} {W' : WM} (hk : oneM T (jlen B.room D : Int) f W c = some W') :
  Calls Tryz.prog 33 #[.pointer (some ⟨C.wb, 0, none⟩), .agg #[.string c.key, .string c.value, .bool c.gone]] w fun e w' => qNa S w B C T D W' e w' := by
 by_cases hr : W.root = 0
 ·cases hg : c.gone with
  | true =>
   unfold oneM at hk; rw [if_neg (fun e => e hr), hg] at hk
   have := Option.some.inj hk; subst this; have := jGa (c := c) h hr hg; rw [hg] at this; exact this
  | false =>
   have := jJd hc hcn hS h hr hg hk; rw [hg] at this; exact this
 ·exact jFz hc hcn hS h hr hk
end
section
open Go Go.RowKit
theorem jEx (a b c d : Nat) : (((⟨#[84]⟩ ++ ba (uvar a)) ++ ba (uvar b)) ++ ba (uvar c)) ++ ba (uvar d) = ba (84 :: [a, b, c, d].flatMap uvar) := by
 have e : (⟨#[84]⟩ : ByteArray) = ba [84] := rfl; rw [e, qBf, qBf, qBf, qBf]; simp
set_option maxRecDepth 100000
set_option maxHeartbeats 2000000 in
theorem qXr (w : World) {a b c d : Int} (ha : 0 <= a /\ a <= 1152921504606846976) (hb : 0 <= b /\ b <= 1152921504606846976) (hc : 0 <= c /\ c <= 1152921504606846976) (hd : 0 <= d /\ d <= 1152921504606846976) :
  Calls Tryz.prog 68 #[.agg #[.int .i64 a, .int .i64 b, .int .i64 c, .int .i64 d]] w fun e w' => e = .returned (.string (ba (stL a b c d))) /\ Mod (fun _ => False) w w' := by
 obtain ⟨a, rfl⟩ : ∃ n : Nat, a = (n : Int) := ⟨a.toNat, by omega⟩
 obtain ⟨b, rfl⟩ : ∃ n : Nat, b = (n : Int) := ⟨b.toNat, by omega⟩
 obtain ⟨c, rfl⟩ : ∃ n : Nat, c = (n : Int) := ⟨c.toNat, by omega⟩
 obtain ⟨d, rfl⟩ : ∃ n : Nat, d = (n : Int) := ⟨d.toNat, by omega⟩
 have HU := hid (fun (n : Nat) (v : World) (h : n <= 1152921504606846976) => qEm n v (by omega))
 have hm : Mod (fun _ => False) w (w.alloc (.cells #[.int .i64 (a : Int), .int .i64 (b : Int), .int .i64 (c : Int), .int .i64 (d : Int)] 80)) := (Mod.refl _ _).alloc _
 have hbx : (w.alloc (.cells #[.int .i64 (a : Int), .int .i64 (b : Int), .int .i64 (c : Int), .int .i64 (d : Int)] 80)).heap[w.heap.size]? = some (.cells #[.int .i64 (a : Int), .int .i64 (b : Int), .int .i64 (c : Int), .int .i64 (d : Int)] 80 (0, 0)) := heap_alloc_new _ _
 obtain ⟨x0, x1, x2, x3⟩ : (w.alloc (.cells #[.int .i64 (a : Int), .int .i64 (b : Int), .int .i64 (c : Int), .int .i64 (d : Int)] 80)).cell? ⟨w.heap.size, 0, none⟩ = some (.int .i64 (a : Int)) /\ (w.alloc (.cells #[.int .i64 (a : Int), .int .i64 (b : Int), .int .i64 (c : Int), .int .i64 (d : Int)] 80)).cell? ⟨w.heap.size, 1, none⟩ = some (.int .i64 (b : Int)) /\ (w.alloc (.cells #[.int .i64 (a : Int), .int .i64 (b : Int), .int .i64 (c : Int), .int .i64 (d : Int)] 80)).cell? ⟨w.heap.size, 2, none⟩ = some (.int .i64 (c : Int)) /\ (w.alloc (.cells #[.int .i64 (a : Int), .int .i64 (b : Int), .int .i64 (c : Int), .int .i64 (d : Int)] 80)).cell? ⟨w.heap.size, 3, none⟩ = some (.int .i64 (d : Int)) := by
  refine ⟨?_, ?_, ?_, ?_⟩ <;> (rw [cell_of_row _ _ _ _ _ _ hbx]; rfl)
 have HM := hid hm; have sa : IntKind.u64.wrap (a : Int) = (a : Int) := by simp [IntKind.wrap, IntKind.bits, IntKind.signed]; omega
 have sb : IntKind.u64.wrap (b : Int) = (b : Int) := by simp [IntKind.wrap, IntKind.bits, IntKind.signed]; omega
 have sc : IntKind.u64.wrap (c : Int) = (c : Int) := by simp [IntKind.wrap, IntKind.bits, IntKind.signed]; omega
 have sd : IntKind.u64.wrap (d : Int) = (d : Int) := by simp [IntKind.wrap, IntKind.bits, IntKind.signed]; omega
 have la : (ba (uvar a)).size <= 10 := by rw [qAf]; exact qAs (by omega)
 have lb : (ba (uvar b)).size <= 10 := by rw [qAf]; exact qAs (by omega)
 have lc : (ba (uvar c)).size <= 10 := by rw [qAf]; exact qAs (by omega)
 have ld : (ba (uvar d)).size <= 10 := by rw [qAf]; exact qAs (by omega)
 have HA := hid ha; have HBd := hid hb; have HCd := hid hc; have HDd := hid hd; clear hm hbx ha hb hc hd; go_enter Tryz.func68, Tryz.ntmps68
 go_wp2_with fail
 generalize w.alloc (.cells #[.int .i64 (a : Int), .int .i64 (b : Int), .int .i64 (c : Int), .int .i64 (d : Int)] 80) = V at *; have g0 := fun x : Ext V => x.cell x0
 have g1 := fun x : Ext V => x.cell x1
 have g2 := fun x : Ext V => x.cell x2
 have g3 := fun x : Ext V => x.cell x3
 clear x0 x1 x2 x3; refine qAm (by kernel_rfl) (by kernel_rfl) ?_
 repeat (go_big_quiet_step ((first | (go_at_call 67; with_reducible exact qBe (HU.out a _ (by have := HA.out; omega))) | (go_at_call 67; with_reducible exact qBe (HU.out b _ (by have := HBd.out; omega))) | (go_at_call 67; with_reducible exact qBe (HU.out c _ (by have := HCd.out; omega))) | (go_at_call 67; with_reducible exact qBe (HU.out d _ (by have := HDd.out; omega))))))
 refine wpQuiet_nil ?_; rintro _ ⟨y, rfl⟩; go_wp2_with fail
 go_ret; refine ⟨?_, HM.out.trans y.mod⟩; rw [jEx]; rfl
end
section
open Go Go.RowKit Go.Shelf Go.Lib Go.Sort
shelf_lay_g SlLaysF0.n6 Slsf 6 at Tryz 69 as Tryz.sortCh
abbrev ChgB := { c : Chg // -2305843009213693952 <= c.pos /\ c.pos <= 2305843009213693952 }
instance : Inhabited ChgB := ⟨⟨⟨0, ⟨#[]⟩⟩, by decide⟩⟩
def encB (x : ChgB) : List Value := [.int .i64 x.1.pos, .string x.1.data]
def cmpB (x y : ChgB) : Int := x.1.pos - y.1.pos
theorem qPn (x y : ChgB) : ltOf cmpB x y = decide (x.1.pos < y.1.pos) := by
 unfold ltOf cmpB; by_cases h : x.1.pos < y.1.pos
 ·rw [decide_eq_true h, decide_eq_true (by omega)]
 ·rw [decide_eq_false h, decide_eq_false (by omega)]
theorem swoB : SWO (ltOf cmpB) where
 irrefl x := by rw [qPn]; simp
 trans x y z h1 h2 := by rw [qPn] at *; simp at *; omega
 ntrans x y z h1 h2 := by rw [qPn] at *; simp at *; omega
theorem closB (x y : ChgB) (W : World) : Calls Tryz.prog 70 #[.agg #[.int .i64 x.1.pos, .string x.1.data], .agg #[.int .i64 y.1.pos, .string y.1.data]] W fun e w' => e = .returned (.int .i64 (cmpB x y)) /\ ∃ q os', w' = grow (W.drewN q) os' := by
 have s1 : IntKind.i64.wrap (x.1.pos - y.1.pos) = cmpB x y := by have := x.2; have := y.2; rw [IntKind.wrap_i64]; unfold cmpB; omega
 go_enter Tryz.func70, Tryz.ntmps70
 go_wp2
 go_ret; exact ⟨rfl, 0, _, by rw [alloc_eq_grow, alloc_eq_grow, grow_grow]; rfl⟩
theorem jJo (w : World) : (isAgg 167).run Tryz.prog w = .ok true w := by kernel_rfl
theorem jLd (w : World) : (Go.sizeOf 167).run Tryz.prog w = .ok 2 w := by kernel_rfl
theorem jBl {w : World} {g off n : Nat} {F : Array Value} {os : Array Obj} : Mod (fun k => k = g) w (grow (putRow id (Sort.ahead w n) g off F) os) := by
 refine ⟨rfl, rfl, rfl, ?_, fun k hk hn => ?_⟩
 ·simp [grow, putRow, mapBlock, Sort.ahead]
 ·have hg : g ≠ k := fun e => hn e.symm
  simp only [grow, putRow, mapBlock, Sort.ahead]; rw [Array.getElem?_append_left (by simpa using hk), Array.getElem?_modify]
  rw [if_neg hg]
theorem qWq {cs : List Chg} {j : Nat} {u : Value} (h : (cs.flatMap Chg.cs)[j]? = some u) : ∃ c, cs[j / 2]? = some c /\ (Chg.cs c)[j % 2]? = some u := by
 have e : j = j / 2 * 2 + j % 2 := by omega
 rw [e, qJi qIm cs (j / 2) (j % 2) (by omega)] at h
 exact Option.bind_eq_some_iff.1 h
def bnd : (cs : List Chg) -> (∀ c ∈ cs, -2305843009213693952 <= c.pos /\ c.pos <= 2305843009213693952) -> List ChgB
 | [], _ => []
 | c :: r, h => ⟨c, h c List.mem_cons_self⟩ :: bnd r (fun x hx => h x (List.mem_cons_of_mem _ hx))
theorem jDs : ∀ (cs : List Chg) (h : ∀ c ∈ cs, -2305843009213693952 <= c.pos /\ c.pos <= 2305843009213693952), (bnd cs h).map (fun x : ChgB => x.1) = cs
 | [], _ => rfl
 | c :: r, h => by
  unfold bnd; rw [List.map_cons, jDs r]
theorem jDw (d : Array ChgB) {i : Nat} {c : Chg} (h : (d.toList.map fun x : ChgB => x.1)[i]? = some c) : i < d.size /\ (d[i]!).1 = c := by
 rw [List.getElem?_map] at h; obtain ⟨x, hx, rfl⟩ := Option.map_eq_some_iff.1 h; obtain ⟨hi, rfl⟩ := List.getElem?_eq_some_iff.1 hx; have hi' : i < d.size := by simpa using hi
 refine ⟨hi', ?_⟩; rw [getElem!_pos d i hi']; rfl
theorem jDp {w : World} {g off : Nat} {d : Array ChgB} (h : HoldsK encB 2 w g off d) {j : Nat} {u : Value} (hu : ((d.toList.map fun x : ChgB => x.1).flatMap Chg.cs)[j]? = some u) : w.cell? ⟨g, off + j, none⟩ = some u := by
 obtain ⟨c, hc, hq⟩ := qWq hu; obtain ⟨hi, he⟩ := jDw d hc; have hj : j < (flatK encB 2 d).size := by rw [size_flatK]; omega
 have h1 := (h j hj).1; rw [h1, get_flatK encB 2 d j (by rw [size_flatK] at hj; exact hj)]
 congr 1
 show (encB d[j / 2]!)[j % 2]! = u; have e2 : encB d[j / 2]! = Chg.cs c := by unfold encB Chg.cs; rw [he]
 rw [e2]; obtain ⟨hl, hv⟩ := List.getElem?_eq_some_iff.1 hq; rw [getElem!_pos (Chg.cs c) (j % 2) hl]; exact hv
set_option maxRecDepth 100000
theorem jEz {w : World} {g off cap : Nat} {cs : List Chg} (h : Own w 167 2 (some ⟨g, off, none⟩) cs.length cap (cs.flatMap Chg.cs)) (hb : ∀ c ∈ cs, -2305843009213693952 <= c.pos /\ c.pos <= 2305843009213693952) (hl : cs.length <= 1152921504606846976) :
  Calls Tryz.prog 69 #[.slice (some ⟨g, off, none⟩) cs.length cap, .func (.func 70) #[] #[]] w fun e w' => e = .returned (.tuple #[]) /\ ∃ cs' : List Chg, cs'.Perm cs /\ cs'.Pairwise (fun a b => a.pos <= b.pos) /\ Lies w' 2 Chg.cs (some ⟨g, off, none⟩) cs' /\ Mod (fun k => k = g) w w' := by
 obtain ⟨d, hd⟩ : ∃ d : Array ChgB, d = (bnd cs hb).toArray := ⟨_, rfl⟩; have hdm : d.toList.map (fun x : ChgB => x.1) = cs := by rw [hd, List.toList_toArray, jDs]
 have hds : d.size = cs.length := by rw [<- hdm, List.length_map, Array.length_toList]
 have hH : HoldsK encB 2 w g off d := fun j hj => by
  rw [size_flatK] at hj; refine ⟨?_, h.frozen _⟩; have hlen : (cs.flatMap Chg.cs).length = cs.length * 2 := qDo qIm cs; obtain ⟨u, hu⟩ : ∃ u, (cs.flatMap Chg.cs)[j]? = some u := ⟨_, List.getElem?_eq_getElem (by omega)⟩
  have h1 := h.src.2.2 _ rfl j u hu; rw [Addr.add_lit] at h1; rw [h1, get_flatK encB 2 d j hj]; congr 1
  obtain ⟨c, hc, hq⟩ := qWq hu; rw [<- hdm] at hc; obtain ⟨hi, he⟩ := jDw d hc; have e2 : encB d[j / 2]! = Chg.cs c := by unfold encB Chg.cs; rw [he]
  show u = (encB d[j / 2]!)[j % 2]!; rw [e2]; obtain ⟨hl, hv⟩ := List.getElem?_eq_some_iff.1 hq; rw [getElem!_pos (Chg.cs c) (j % 2) hl]; exact hv.symm
 have eg : ∀ args w, (callFunc 70 args).run Tryz.prog w = .ok (.enter 70 args) w := enters_of Tryz.func70 (by kernel_rfl) rfl
 have hlt := h.lt g (qAc.2 rfl); have hcon := AnyQ.slices_SortFunc Tryz.sortCh 2 jJo jLd encB (fun _ => rfl) (fun x v hv => by simp [encB] at hv; rcases hv with rfl | rfl <;> rfl) cmpB swoB 70 #[] g off cap d w eg (fun m os dk _ x y => closB x y _) hH hlt (by omega)
 change Calls Tryz.prog 69 _ _ _ at hcon; rw [hds] at hcon; refine hcon.mono ?_; rintro e w' ⟨rfl, d', n, os, hp, hs, rfl⟩; obtain ⟨p1, _, p3⟩ := hp; have hsz : d'.size = cs.length := p1.trans hds; rw [<- hds] at p3 hs; have hperm : d'.toList.Perm d.toList := by
  have e1 : d'.extract 0 d.size = d' := by rw [<- p1]; exact Array.extract_size
  have e2 : d.extract 0 d.size = d := Array.extract_size; rw [e1, e2] at p3; exact p3
 have hH' : HoldsK encB 2 (sortWorldK encB 2 w g off n d' os) g off d' := fun j hj => by
  have h0 : HoldsK encB 2 (Sort.ahead w n) g off d := hH; have h1 := (holdsK_putRowK encB 2 (Sort.ahead w n) g off d d' h0 p1) j hj; have hb2 : (⟨g, off + j, none⟩ : Addr).block < (putRowK encB 2 (Sort.ahead w n) g off d').heap.size := by
   show g < _; unfold putRowK; rw [Go.Sort.size_putRow]; exact hlt
  exact ⟨by rw [<- h1.1]; exact cell?_grow _ _ _ hb2, by rw [<- h1.2]; exact frozen?_grow _ _ _ hb2⟩
 refine ⟨rfl, d'.toList.map (fun x : ChgB => x.1), ?_, ?_, ⟨⟨?_, (fun h => by cases h), fun a ha j u hu => ?_⟩, (fun _ a ha => by cases ha; rfl), fun b _ hk => ?_⟩, jBl⟩
 ·rw [<- hdm]; exact hperm.map _
 ·refine List.pairwise_iff_getElem.2 (fun i j hi hj hij => ?_)
  rw [List.length_map, Array.length_toList] at hi hj; have h1 := hs i j (Nat.zero_le _) hij (by omega)
  rw [qPn, decide_eq_false_iff_not, getElem!_pos d' i hi, getElem!_pos d' j hj] at h1; rw [List.getElem_map, List.getElem_map, Array.getElem_toList, Array.getElem_toList]; omega
 ·rw [qDo qIm]
 ·cases ha
  rw [Addr.add_lit]; exact jDp hH' hu
 ·rw [qAc] at hk; subst hk; exact Nat.lt_of_lt_of_le hlt (jBl (w := w) (g := g) (off := off) (n := n) (F := flatK encB 2 d') (os := os)).size
end
end Go.Proofs.YtkinkgbmlhiakaaGreatDoor
