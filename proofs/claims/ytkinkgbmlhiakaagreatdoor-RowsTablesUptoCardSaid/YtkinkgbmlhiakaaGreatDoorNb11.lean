/- merged: TrO TrP RdT Push DecL TrR JrKp TrS -/
import Derived.Test.YtkinkgbmlhiakaaGreatDoorNb10
import Derived.Test.YtkinkgbmlhiakaaGreatDoorNb04
import Derived.IntWalk
import Derived.Test.YtkinkgbmlhiakaaGreatDoorNb05
import Derived.Test.YtkinkgbmlhiakaaGreatDoorNb07
import Derived.Test.YtkinkgbmlhiakaaGreatDoorNb08
import Derived.Test.YtkinkgbmlhiakaaGreatDoorNb03
namespace Go.Proofs.YtkinkgbmlhiakaaGreatDoor
section
open Go Go.RowKit
theorem qUd {T : TM} {W : WM} {U R F : List Int} (h : Acc T W U R F) (s : Int) : Acc T (W.at s) U R F := ⟨h.chain, h.cnt, h.used, h.free, h.out, h.pos⟩
structure Rt (T : TM) (m : Nat) (W : WM) (l : List KV) (H h : Nat) (t : Tr h) (F : List Int) : Prop where
 nz : W.root ≠ 0
 le : h <= H
 sd : Sd (W.look T) m h W.root t
 two : m ≠ 0 -> 0 < h -> 2 <= tlen h t
 fl : flat h t = l
 acc : Acc T W (secs h W.root t) [] F
theorem qOf {T : TM} {m : Nat} (hm : m = 0 \/ m = 250) : ∀ (h f : Nat) (W : WM) (t : Tr h) (F : List Int), h < f -> Acc T W (secs h W.root t) [] F -> Sd (W.look T) m h W.root t →
  ∃ (W' : WM) (h' : Nat) (t' : Tr h') (F' : List Int), qEr T f W = some W' /\ Rt T m W' (flat h t) h h' t' F' /\ W'.count = W.count /\ W'.next = W.next /\ W'.full = W.full /\ (secs h' W'.root t').length <= (secs h W.root t).length ∧
   (m ≠ 0 -> ∀ x, (W'.nodes x ≠ none \/ W'.after x ≠ none) -> x = W.root \/ (W.nodes x ≠ none \/ W.after x ≠ none))
 | _, 0, _, _, _, h, _, _ => absurd h (Nat.not_lt_zero _)
 | 0, f + 1, W, t, F, _, hA, hS => by
  have hnz : W.root ≠ 0 := by have := hA.spot (x := W.root) (.inl (by rw [qEa]; exact List.mem_cons_self)); omega
  refine ⟨W, 0, t, F, ?_, ⟨hnz, Nat.le_refl _, hS, fun _ h => by omega, rfl, hA⟩, rfl, rfl, rfl, Nat.le_refl _, fun _ _ h => .inr h⟩
  have := hS.1; simp only [qEr, this]
 | h + 1, f + 1, W, l, F, hlt, hA, hS => by
  have hnz : W.root ≠ 0 := by have := hA.spot (x := W.root) (.inl (by rw [qEa]; exact List.mem_cons_self)); omega
  have hlk := hS.1.1; have hne : l ≠ ([] : List (TE (Tr h))) := fun e => hS.1.2.ne (by rw [e]; rfl)
  match l, hne, hlk, hA, hS with
  | [e], _, hlk, hA, hS =>
   obtain ⟨h1, h2, h3⟩ := hS.2 e (.head _); have hsec : secs (h + 1) W.root ([e] : List (TE (Tr h))) = W.root :: secs h e.spot e.sub := by
    show W.root :: qAn [e] = _; rw [qCt, qDp, List.append_nil]
   rw [hsec] at hA; have hA2 : Acc T ((W.release W.root).at e.spot) (secs h e.spot e.sub) [] (W.root :: F) := qUd (Acc.release hA) e.spot; have hroot : ∀ x ∈ secs h e.spot e.sub, x ≠ W.root := fun x hx he => by
    have h4 := hA.cnt x; rw [<- he, List.count_cons_self] at h4; have := List.count_pos_iff.2 hx; split at h4 <;> omega
   have hS2 : Sd (((W.release W.root).at e.spot).look T) m h e.spot e.sub := qEk h1 (fun x hx => qJc (hroot x hx))
   obtain ⟨W', h', t', F', k1, k2, k3, k4, k5, k6, k7⟩ := qOf hm h f ((W.release W.root).at e.spot) e.sub (W.root :: F) (by omega) hA2 hS2
   refine ⟨W', h', t', F', ?_, ⟨k2.nz, by have := k2.le; omega, k2.sd, k2.two, ?_, k2.acc⟩, k3, k4, k5, ?_, fun hm0 x hx => ?_⟩
   ·have e1 : eOf (h + 1) ([e] : List (TE (Tr h))) = [eE e] := rfl; rw [e1] at hlk; simp only [qEr, hlk]; exact k1
   ·rw [k2.fl]; show flat h e.sub = qAj [e]; simp [qAj]
   ·rw [hsec, List.length_cons]; have : (secs h' W'.root t').length <= (secs h e.spot e.sub).length := k6; omega
   ·
    have hstop : qEr T f ((W.release W.root).at e.spot) = some ((W.release W.root).at e.spot) := by
     have hm2 : m = 250 := hm.resolve_left hm0; subst hm2; cases f with
     | zero => exact absurd hlt (by omega)
     | succ f =>
      have hlk2 := (qKm hS2).1; have e5 : ((W.release W.root).at e.spot).root = e.spot := rfl; cases h with
      | zero =>
       simp only [qEr, e5, hlk2]; rfl
      | succ h =>
       have hmany := qYn hS2 h3; unfold tlen at hmany; obtain ⟨x1, x2, r, he⟩ : ∃ x1 x2 r, eOf (h + 1) e.sub = x1 :: x2 :: r := by
        match hq : eOf (h + 1) e.sub, hmany with
        | x1 :: x2 :: r, _ => exact ⟨x1, x2, r, rfl⟩
        | [_], hmany => simp at hmany
        | [], hmany => simp at hmany
       rw [he] at hlk2; simp only [qEr, e5, hlk2]; rfl
    rw [hstop] at k1; cases k1
    by_cases ex : x = W.root
    ·exact .inl ex
    ·simp only [WM.at, WM.release, qAz _ _ ex] at hx; exact .inr hx
  | e1 :: e2 :: r, _, hlk, hA, hS =>
   refine ⟨W, h + 1, (e1 :: e2 :: r : List (TE (Tr h))), F, ?_, ⟨hnz, Nat.le_refl _, hS, fun _ _ => ?_, rfl, hA⟩, rfl, rfl, rfl, Nat.le_refl _, fun _ _ h => .inr h⟩
   ·have e1' : eOf (h + 1) (e1 :: e2 :: r : List (TE (Tr h))) = eE e1 :: eE e2 :: r.map eE := rfl; rw [e1'] at hlk; simp only [qEr, hlk]
   ·show 2 <= (List.map _ (e1 :: e2 :: r)).length; simp
def WI (T : TM) (m : Nat) (W : WM) (l : List KV) (H N : Nat) : Prop :=
 qDd l /\ W.count = l.length /\ ((W.root = 0 /\ l = [] /\ N = 0 /\ ∃ F, Acc T W [] [] F) \/ ∃ (h : Nat) (t : Tr h) (F : List Int), Rt T m W l H h t F /\ (secs h W.root t).length = N)
structure Onx (m : Nat) (L : Int) (W W' : WM) (k n x : Nat) : Prop where
 lo : W.next <= W'.next
 hi : W'.next <= W.next + k
 mono : W.full = true -> W'.full = true
 full : W'.full = true -> W.full = true \/ L <= (n : Int)
 top : W'.next <= W.next \/ W'.next <= (n : Int) + 1
 room : W'.full = false -> W'.next <= W.next \/ W'.next <= L
 touch : m ≠ 0 -> ∃ X : List Int, X.length <= x /\ ∀ y, (W'.nodes y ≠ none \/ W'.after y ≠ none) -> y ∈ X \/ (W.nodes y ≠ none \/ W.after y ≠ none)
theorem qXa {T : TM} {L : Int} {m h : Nat} (hm : m = 0 \/ m = 250) {W W1 : WM} {ps : List (TE (Tr h))} {new : List KV} {n : Nat} {F1 X1 : List Int} {f : Nat} (hf : h + 1 < f)
  (fo : Fo (W1.look T) m h ps) (fl : qAj ps = new) (two : ps.length <= 2) (big : ps.length = 2 -> ∀ e ∈ ps, 250 <= wtN h e.sub) (hA : Acc T W1 (qAn ps) [] F1) (hk : Kept T W W1 L [] (h + 1) n X1) (hu : (qAn ps).length <= n) (hx : X1.length <= 3 * h + 2) (hxs : ∀ e ∈ ps, e.spot ∈ X1)
  (hf2 : qDd new) (hc : W1.count = new.length) (hn : W1.next + 2 <= 1152921504606846976) :
  ∃ (W' : WM) (N : Nat), topM T L f W1 (ps.map pt) = some W' /\ WI T m W' new (h + 1) N /\ N <= n + 1 /\ Onx m L W W' (h + 2) (n + 1) (3 * h + 3) := by
 match ps, two, fo, fl, big, hA, hu, hxs with
 | [], _, _, fl, _, hA, _, _ =>
  have hnew : new = [] := fl.symm; refine ⟨W1.at 0, 0, rfl, ⟨hf2, hc, .inl ⟨rfl, hnew, rfl, F1, qUd hA 0⟩⟩, Nat.zero_le _, ⟨hk.lo, by have h1 : W1.next <= _ := hk.hi; show W1.next <= _; omega, hk.mono, fun h => (hk.full h).imp id (fun h => by omega), hk.top.imp id (fun h => ?_), hk.room, fun _ => ⟨X1, by omega, hk.touch⟩⟩⟩
  have h1 : W1.next <= _ := h; show W1.next <= _; omega
 | [p], _, fo, fl, _, hA, hu, hxs =>
  obtain ⟨s1, s2⟩ := fo p List.mem_cons_self; have hps : qAn [p] = secs h p.spot p.sub := by rw [qCt, qDp, List.append_nil]
  rw [hps] at hA hu; obtain ⟨W', h', t', F', k1, k2, k3, k4, k5, k6, k7⟩ := qOf hm h f (W1.at p.spot) p.sub F1 (by omega) (qUd hA p.spot) s1
  have hfl : flat h p.sub = new := by rw [<- fl]; simp [qAj]
  have e1 : (W1.at p.spot).next = W1.next := rfl; have e2 : (W1.at p.spot).full = W1.full := rfl; rw [e1] at k4; rw [e2] at k5; refine ⟨W', (secs h' W'.root t').length, k1, ⟨hf2, k3.trans hc, .inr ⟨h', t', F', ⟨k2.nz, by have := k2.le; omega, k2.sd, k2.two, k2.fl.trans hfl, k2.acc⟩, rfl⟩⟩, ?_, ⟨by rw [k4]; exact hk.lo, by rw [k4]; have := hk.hi; omega, fun h => by rw [k5]; exact hk.mono h, fun h => (hk.full (by rw [<- k5]; exact h)).imp id (fun h => by omega), by rw [k4]; exact hk.top.imp id (fun h => by omega), fun h => by rw [k4]; exact hk.room (by rw [<- k5]; exact h), fun h0 => ⟨X1, by omega, fun y hy => ?_⟩⟩⟩
  ·have : (secs h' W'.root t').length <= (secs h p.spot p.sub).length := k6; omega
  ·rcases k7 h0 y hy with h8 | h8
   ·exact .inl (by rw [h8]; exact hxs p List.mem_cons_self)
   ·exact hk.touch y h8
 | [p, q], _, fo, fl, big, hA, hu, hxs =>
  have hB : Lowr (W1.look T) m (h + 1) ([p, q] : List (TE (Tr h))) := fun e he => by
   have he : e ∈ [p, q] := he; refine ⟨(fo e he).1, (fo e he).2, ?_⟩; have := big rfl e he; rcases hm with rfl | rfl <;> omega
  have hA2 : Acc T W1 [] (qDa (h + 1) ([p, q] : List (TE (Tr h))) ++ []) F1 := hA.move (fun z => by
   rw [qIl]; simp only [List.count_append, List.count_nil]; omega)
  have hflat : qDd (flat (h + 1) ([p, q] : List (TE (Tr h)))) := by
   show qDd (qAj [p, q]); rw [fl]; exact hf2
  have hent : ∀ e ∈ [p, q], (entL false (eE e)).length <= 58 := fun e he => by
   obtain ⟨v, r, hfe⟩ := qGu (fun e he => ⟨qOr (fo e he).1, (fo e he).2⟩ : Ok [p, q]) he
   have hmem : (e.key, v) ∈ qAj [p, q] := by
    unfold qAj; exact List.mem_flatMap.2 ⟨e, he, by rw [hfe]; exact List.mem_cons_self⟩
   rw [fl] at hmem; refine qKv (leaf := false) (hf2.ok _ hmem).1.2 (Nat.zero_le _) (fun _ => ?_)
   have := hA.spot (x := e.spot) (.inl (by
    unfold qAn; exact List.mem_flatMap.2 ⟨e, he, by rw [qEa]; exact List.mem_cons_self⟩))
   show e.spot <= _; omega
  have hw : wt false (eOf (h + 1) ([p, q] : List (TE (Tr h)))) <= 116 := by
   have h1 := hent p List.mem_cons_self; have h2 := hent q (List.mem_cons_of_mem _ List.mem_cons_self); rw [qBh, List.map_cons, List.map_cons, List.map_nil, qEp, qGq]; omega
  have hb : (qAm (lf (h + 1)) (eOf (h + 1) ([p, q] : List (TE (Tr h))))).length <= 1024 := by
   have h1 : (eOf (h + 1) ([p, q] : List (TE (Tr h)))).length = 2 := rfl; have h2 := qDm (leaf := false) (es := eOf (h + 1) ([p, q] : List (TE (Tr h)))) (by rw [h1]; omega)
   rw [h1] at h2; show (qAm false _).length <= _; rw [h2]; simp only [show ¬ (127 : Nat) < 2 by omega, if_false]
   omega
  obtain ⟨W2, ps2, F2, k1, k2, k3, k4, k5, _, k6, k7, k8, k9, k10, k11⟩ := qYy (L := L) (h := h + 1) (m := m) (t := ([p, q] : List (TE (Tr h)))) hA2 hB hflat (by show wt false _ <= _; omega) hn
  have h1 := k6 hb
  match ps2, h1, k1, k2, k3, k5, k7, k8, k10, k11 with
  | [], _, _, _, k3, _, _, _, _, _ =>
   exfalso
   have h2 : flat (h + 1) ([p, q] : List (TE (Tr h))) = [] := k3.symm; obtain ⟨v, r, hfe⟩ := qGu (fun e he => ⟨qOr (fo e he).1, (fo e he).2⟩ : Ok [p, q]) (e := p) List.mem_cons_self
   have h3 : qAj [p, q] = flat h p.sub ++ (flat h q.sub ++ []) := by unfold qAj; rw [List.flatMap_cons, List.flatMap_cons, List.flatMap_nil]
   have h4 : qAj [p, q] = [] := h2; rw [h3, hfe] at h4; cases h4
  | [r], _, k1, k2, k3, k5, k7, k8, k10, k11 =>
   obtain ⟨s1, s2⟩ := k2 r List.mem_cons_self; have hps : qAn [r] = secs (h + 1) r.spot r.sub := by rw [qCt, qDp, List.append_nil]
   rw [hps] at k7 k11 k8; obtain ⟨W', h', t', F', r1, r2, r3, r4, r5, r6, r7⟩ := qOf hm (h + 1) f (W2.at r.spot) r.sub F2 (by omega) (qUd k7 r.spot) s1
   have hfl : flat (h + 1) r.sub = new := by
    have h2 : qAj [r] = flat (h + 1) r.sub := by simp [qAj]
    rw [<- h2, k3]; exact fl
   have e1 : (W2.at r.spot).next = W2.next := rfl; have e2 : (W2.at r.spot).full = W2.full := rfl; rw [e1] at r4; rw [e2] at r5; have hlen : (secs (h + 1) r.spot r.sub).length <= n + 1 := by
    rw [k11, qIl]; simp only [List.length_cons, List.length_nil]; omega
   have hkk : Kept T W W2 L [] (h + 2) (n + 1) (r.spot :: X1) := qIm (R2 := []) hk k8 (fun x h => h) (fun x h => h) (by simp) (by omega) (by simp only [List.length_nil]; omega) (fun x hx => List.mem_cons_of_mem _ hx) (fun x hx => by
    simp at hx
    rw [hx]; exact List.mem_cons_self)
   refine ⟨W', (secs h' W'.root t').length, ?_, ⟨hf2, r3.trans (k9.trans hc), .inr ⟨h', t', F', ⟨r2.nz, r2.le, r2.sd, r2.two, r2.fl.trans hfl, r2.acc⟩, rfl⟩⟩, ?_, ⟨by rw [r4]; exact hkk.lo, by rw [r4]; exact hkk.hi, fun h => by rw [r5]; exact hkk.mono h, fun h => hkk.full (by rw [<- r5]; exact h), by rw [r4]; exact hkk.top, fun h => by rw [r4]; exact hkk.room (by rw [<- r5]; exact h), fun h0 => ⟨r.spot :: X1, by rw [List.length_cons]; omega, fun y hy => ?_⟩⟩⟩
   ·show ((qBt T L W1 false ((([p, q] : List (TE (Tr h))).map pt).map qLn) []).bind _) = _; have e3 : (([p, q] : List (TE (Tr h))).map pt).map qLn = eOf (h + 1) ([p, q] : List (TE (Tr h))) := rfl; have k1' : qBt T L W1 false (eOf (h + 1) ([p, q] : List (TE (Tr h)))) [] = some (W2, [r].map pt) := k1; rw [e3, k1']; exact r1
   ·have : (secs h' W'.root t').length <= (secs (h + 1) r.spot r.sub).length := r6; omega
   ·rcases r7 h0 y hy with h8 | h8
    ·exact .inl (by rw [h8]; exact List.mem_cons_self)
    ·exact hkk.touch y h8
theorem qYg {T : TM} {L : Int} {c : Cg} {m : Nat} (hm : m = 0 \/ m = 250) (hc : CgOk c) {W : WM} {l : List KV} {H N f : Nat} (hW : WI T m W l H N) (hf : H < f) (hn : W.next + (H + 4) <= 1152921504606846976) :
  ∃ (W' : WM) (N' : Nat), oneM T L f W c = some W' /\ WI T m W' (chg c l) (H + 1) N' /\ N' <= N + H + 2 /\ Onx m L W W' (H + 2) (N + H + 2) (3 * H + 3) := by
 obtain ⟨hfl, hcn, hroot⟩ := hW; rcases hroot with ⟨h0, rfl, rfl, F, hA⟩ | ⟨h, t, F, hR, hN⟩
 ·cases hg : c.gone with
  | true =>
   have hch : chg c [] = [] := by unfold chg Cg.put; rw [hg]; rfl
   refine ⟨W, 0, ?_, ⟨by rw [hch]; exact hfl, by rw [hch]; exact hcn, .inl ⟨h0, hch, rfl, F, hA⟩⟩, Nat.zero_le _, ⟨Int.le_refl _, by omega, fun h => h, fun h => .inl h, .inl (Int.le_refl _), fun _ => .inl (Int.le_refl _), fun _ => ⟨[], Nat.zero_le _, fun _ h => .inr h⟩⟩⟩
   unfold oneM; rw [if_neg (fun h => h h0), hg]
   rfl
  | false =>
   have hch : chg c [] = [(c.key, c.value)] := by unfold chg Cg.put; rw [hg]; rfl
   have hok := qDd.chg hfl hc; rw [hch] at hok ⊢; have hA2 : Acc T (W.add 1) [] (qDa 0 ([(c.key, c.value)] : List KV) ++ []) F := ⟨hA.chain, hA.cnt, hA.used, hA.free, hA.out, hA.pos⟩; have hw : wt true [(⟨c.key, c.value, 0⟩ : Ent)] <= 251 := by
    rw [qGq]; exact qKv (leaf := true) hc.key hc.value (fun h => by cases h)
   have hb : (qAm true [(⟨c.key, c.value, 0⟩ : Ent)]).length <= 1024 := by
    have h2 := qDm (leaf := true) (es := [(⟨c.key, c.value, 0⟩ : Ent)]) (by simp)
    rw [h2]; simp only [List.length_cons, List.length_nil, show ¬ (127 : Nat) < 0 + 1 by omega, if_false]
    omega
   obtain ⟨W1, ps, F1, k1, k2, k3, k4, k5, kb, k6, k7, k8, k9, k10, k11⟩ := qYy (L := L) (h := 0) (m := m) (t := ([(c.key, c.value)] : List KV)) hA2 trivial hok (by show wt true _ <= _; exact Nat.le_trans hw (by omega)) (by show W.next + 2 <= _; omega)
   have h1 := k6 hb; have hk8 : Kept T W W1 L [] (0 + 1) 1 (ps.map (·.spot)) := by
    have hk : Kept T (W.add 1) W1 L [] (ps.length - 0) ((qAn ps).length + 0) ([] ++ (ps.map (·.spot)).drop 0) := k8; have hl : (qAn ps).length <= 1 := by rw [k11]; show 0 + ps.length <= 1; omega
    refine ⟨fun x hx => (by cases hx), hk.root, hk.lo, ?_, hk.mono, fun h => (hk.full h).imp id (fun h => by omega), hk.top.imp id (fun h => ?_), hk.room, fun x hx => ?_⟩
    ·have h2 : W1.next <= W.next + ((ps.length - 0 : Nat) : Int) := hk.hi; omega
    ·have h2 : W1.next <= _ := h; omega
    ·rcases hk.touch x hx with h3 | h3
     ·exact .inl (by simpa using h3)
     ·exact .inr h3
   obtain ⟨W', N', r1, r2, r3, r4⟩ := qXa (L := L) (W := W) (f := f + 1) (n := 1) hm (by omega) k2 k3 k4 kb k7 hk8 (by rw [k11]; show 0 + ps.length <= 1; omega) (by rw [List.length_map]; omega) (fun e he => List.mem_map_of_mem he) hok (by
     have h2 : W1.count = W.count + 1 := k9; rw [h2, hcn]; rfl) (by have h2 : W1.next <= W.next + (0 + 1 : Nat) := hk8.hi; omega)
   refine ⟨W', N', ?_, ⟨r2.1, r2.2.1, ?_⟩, by omega, ⟨r4.lo, by have := r4.hi; omega, r4.mono, fun h => (r4.full h).imp id (fun h => by omega), r4.top.imp id (fun h => by omega), r4.room, fun h0 => ?_⟩⟩
   ·unfold oneM; rw [if_neg (fun h => h h0), hg]
    simp only [Bool.false_eq_true, if_false]; have k1' : qBt T L (W.add 1) true [(⟨c.key, c.value, 0⟩ : Ent)] [] = some (W1, ps.map pt) := k1; rw [k1']; exact r1
   ·rcases r2.2.2 with h | ⟨h', t', F', hR', hN'⟩
    ·exact .inl h
    ·exact .inr ⟨h', t', F', ⟨hR'.nz, by have := hR'.le; omega, hR'.sd, hR'.two, hR'.fl, hR'.acc⟩, hN'⟩
   ·obtain ⟨X, x1, x2⟩ := r4.touch h0; exact ⟨X, by omega, x2⟩
 ·have hle := hR.le; have hflt : qDd (flat h t) := by rw [hR.fl]; exact hfl
  obtain ⟨W1, ps, F1, X1, k1, k2⟩ := qMu (T := T) (L := L) (c := c) hm hc h f W W.root t [] F (by omega) hR.acc hR.sd hR.two hflt (by omega)
  rw [hR.fl] at k2; have hn1 : W1.next + 2 <= 1152921504606846976 := by have := k2.kept.hi; omega
  obtain ⟨W', N', r1, r2, r3, r4⟩ := qXa (L := L) (W := W) (f := f + 1) hm (by omega) k2.fo k2.fl k2.two k2.big k2.acc k2.kept (by have := k2.use; simpa using this) k2.x k2.xs (hfl.chg hc) (by have := k2.cnt; omega) hn1
  have hnn : (secs h W.root t).length + ([] : List Int).length + (h + 1) + 1 <= N + H + 2 := by rw [hN]; simp only [List.length_nil]; omega
  refine ⟨W', N', ?_, ⟨r2.1, r2.2.1, ?_⟩, by omega, ⟨r4.lo, by have := r4.hi; omega, r4.mono, fun h => (r4.full h).imp id (fun h => by omega), r4.top.imp id (fun h => by omega), r4.room, fun h0 => ?_⟩⟩
  ·unfold oneM; rw [if_pos hR.nz, k1]; exact r1
  ·rcases r2.2.2 with h | ⟨h', t', F', hR', hN'⟩
   ·exact .inl h
   ·exact .inr ⟨h', t', F', ⟨hR'.nz, by have := hR'.le; omega, hR'.sd, hR'.two, hR'.fl, hR'.acc⟩, hN'⟩
  ·obtain ⟨X, x1, x2⟩ := r4.touch h0; exact ⟨X, by omega, x2⟩
end
section
open Go Go.RowKit
theorem qKx {T : TM} {W : WM} {x : Int} (ha : W.after x = none) : (W.done T).nodes x = W.look T x := by
 unfold WM.done WM.look; simp only [ha]; rfl
theorem qKy {T : TM} {W : WM} {x : Int} (hn : W.nodes x = none) (ht : W.after x = none -> W.taken x = false) : (W.done T).after x = W.link T x := by
 unfold WM.done WM.link; simp only [hn]; cases ha : W.after x with
 | some y => rfl
 | none => simp [ht ha]
theorem qTt {T : TM} {W : WM} {U F : List Int} (h : Acc T W U [] F) : Acc (W.done T) (W.done T).begin U [] F := by
 refine ⟨?_, h.cnt, fun x hx => ⟨rfl, fun _ => ⟨rfl, ?_⟩⟩, fun x hx => ⟨rfl, fun _ => ⟨rfl, ?_⟩⟩, fun x hx => ⟨rfl, rfl, rfl, ?_, ?_⟩, h.pos⟩
 ·refine qHe h.chain (fun x hx => ?_)
  obtain ⟨h1, h2⟩ := h.free x hx; show (W.done T).after x = _; exact qKy h1 (fun e => (h2 e).1)
 ·obtain ⟨h1, h2⟩ := h.used x hx; show (W.done T).after x = none; cases hn : W.nodes x with
  | some n => unfold WM.done; simp [hn]
  | none =>
   obtain ⟨h3, h4⟩ := h2 hn; rw [qKy hn (fun _ => h3)]
   unfold WM.link; rw [h1]; exact h4
 ·obtain ⟨h1, h2⟩ := h.free x hx; show (W.done T).nodes x = none; cases ha : W.after x with
  | some y => unfold WM.done; simp [h1, ha]
  | none =>
   rw [qKx ha]; unfold WM.look; rw [h1]; exact (h2 ha).2
 ·obtain ⟨h1, h2, h3, h4, h5⟩ := h.out x hx; show (W.done T).nodes x = none; rw [qKx h2]; unfold WM.look; rw [h1]; exact h4
 ·obtain ⟨h1, h2, h3, h4, h5⟩ := h.out x hx; show (W.done T).after x = none; rw [qKy h1 (fun _ => h3)]
  unfold WM.link; rw [h2]; exact h5
def TI (T : TM) (m : Nat) (l : List KV) (H N : Nat) : Prop := WI T m T.begin l H N
theorem jDx {T : TM} {W : WM} {m : Nat} {l : List KV} {H N : Nat} (h : WI T m W l H N) : TI (W.done T) m l H N := by
 obtain ⟨h1, h2, h3⟩ := h; refine ⟨h1, h2, ?_⟩; rcases h3 with ⟨h4, h5, h6, F, h7⟩ | ⟨ht, t, F, h4, h5⟩
 ·exact .inl ⟨h4, h5, h6, F, qTt h7⟩
 ·refine .inr ⟨ht, t, F, ⟨h4.nz, h4.le, ?_, h4.two, h4.fl, qTt h4.acc⟩, h5⟩; refine qEk h4.sd (fun x hx => ?_)
  show (W.done T).nodes x = _; exact qKx ((h4.acc.used x (.inl hx)).1)
def newT : TM := ⟨0, 1, 0, 0, fun _ => none, fun _ => none⟩
theorem jFs (m H : Nat) : TI newT m [] H 0 := by
 refine ⟨⟨List.Pairwise.nil, (fun _ h => by cases h)⟩, rfl, .inl ⟨rfl, rfl, rfl, [], ⟨rfl, fun x => ?_, fun x hx => ?_, (fun x hx => by cases hx), fun x hx => ⟨rfl, rfl, rfl, rfl, rfl⟩, Int.le_refl _⟩⟩⟩
 ·have : ¬ (1 <= x /\ x < (newT.begin).next) := fun h => by
   have h2 : x < 1 := h.2; omega
  rw [if_neg this]; rfl
 ·rcases hx with hx | hx <;> cases hx
def chgs (cs : List Cg) (l : List KV) : List KV := cs.foldl (fun l c => chg c l) l
def qQi (W : WM) (y : Int) : Prop := W.nodes y ≠ none \/ W.after y ≠ none
structure Allx (L : Int) (W W' : WM) (N N' k : Nat) : Prop where
 lo : W.next <= W'.next
 hi : W'.next <= W.next + 32 * k
 mono : W.full = true -> W'.full = true
 use : N' <= N + 32 * k
 sharp : W.full = false -> W.next <= L -> L <= 16384 -> (W'.full = true -> L <= (N : Int) + 8 * k) /\ (W'.full = false -> W'.next <= L /\ N' <= N + 8 * k /\ ∃ X : List Int, X.length <= 21 * k /\ ∀ y, qQi W' y -> y ∈ X \/ qQi W y)
theorem jAu {T : TM} {L : Int} : ∀ (cs : List Cg) (W : WM) (l : List KV) (H N : Nat), (∀ c ∈ cs, CgOk c) -> WI T 250 W l H N -> W.next + 32 * cs.length <= 576460752303423488 →
  ∃ (W' : WM) (N' : Nat), allM T L 70 cs W = some W' /\ WI T 250 W' (chgs cs l) 26 N' /\ Allx L W W' N N' cs.length
 | [], W, l, H, N, _, hW, hn => by
  have hs := hW.spots; simp only [List.length_nil] at hn; exact ⟨W, N, rfl, hW.high 26 (by omega), Int.le_refl _, by simp, fun h => h, by simp, fun hf hl _ => ⟨fun h => (by rw [hf] at h; cases h), fun _ => ⟨hl, by simp, [], by simp, fun y hy => .inr hy⟩⟩⟩
 | c :: cs, W, l, H, N, hc, hW, hn => by
  have hs := hW.spots; simp only [List.length_cons] at hn; have hW1 := hW.high 26 (by omega)
  obtain ⟨W1, N1, k1, k2, k3, k4⟩ := qYg (L := L) (f := 70) (.inr rfl) (hc c List.mem_cons_self) hW1 (by omega) (by omega)
  have hhi := k4.hi; obtain ⟨W', N', r1, r2, r3⟩ := jAu (L := L) cs W1 (chg c l) _ N1 (fun x hx => hc x (List.mem_cons_of_mem _ hx)) k2 (by omega)
  have rhi := r3.hi; have rlo := r3.lo; have ruse := r3.use; have klo := k4.lo; refine ⟨W', N', ?_, r2, Int.le_trans klo rlo, ?_, fun h => r3.mono (k4.mono h), ?_, fun hf hl hL => ?_⟩
  ·show (oneM T L 70 W c).bind _ = _; rw [k1]; exact r1
  ·simp only [List.length_cons]; omega
  ·simp only [List.length_cons]; omega
  ·simp only [List.length_cons]; have hW6 := hW.high 6 (by omega)
   obtain ⟨W2, N2, j1, j2, j3, j4⟩ := qYg (L := L) (f := 70) (.inr rfl) (hc c List.mem_cons_self) hW6 (by omega) (by omega)
   rw [k1] at j1; cases j1
   have hN : N1 = N2 := by
    obtain ⟨_, _, a⟩ := k2; obtain ⟨_, _, b⟩ := j2; rcases a with ⟨a1, _, a3, _⟩ | ⟨h1, t1, F1, a1, a2⟩
    ·rcases b with ⟨b1, _, b3, _⟩ | ⟨h2, t2, F2, b1, _⟩
     ·rw [a3, b3]
     ·exact absurd a1 b1.nz
    ·rcases b with ⟨b1, _, b3, _⟩ | ⟨h2, t2, F2, b1, b2⟩
     ·exact absurd b1 a1.nz
     ·have hF : F1 = F2 := by
       have u : ∀ {A B : List Int} {f : Int}, qWj (W1.link T) f A -> qWj (W1.link T) f B -> A = B := by
        intro A; induction A with
        | nil =>
         intro B f h1 h2; cases B with
         | nil => rfl
         | cons y r => exact absurd (h2.1.symm.trans h1) h2.2.1
        | cons x r ih =>
         intro B f h1 h2; cases B with
         | nil => exact absurd (h1.1.symm.trans h2) h1.2.1
         | cons y q =>
          obtain ⟨e1, _, z1, g1, g2⟩ := h1; obtain ⟨e2, _, z2, g3, g4⟩ := h2; subst e1; subst e2; rw [g1] at g3; cases g3
          rw [ih g2 g4]
       exact u a1.acc.chain b1.acc.chain
      have l1 := a1.acc.len; have l2 := b1.acc.len; rw [hF] at l1; omega
   subst hN; cases hf1 : W1.full with
   | true =>
    have hL2 := (j4.full hf1).resolve_left (by rw [hf]; exact Bool.false_ne_true)
    have hm := r3.mono hf1; exact ⟨fun _ => by omega, fun h => (by rw [hm] at h; cases h)⟩
   | false =>
    have hn1 : W1.next <= L := (j4.room hf1).elim (fun h => by omega) id
    obtain ⟨q1, q2⟩ := r3.sharp hf1 hn1 hL; refine ⟨fun h => ?_, fun h => ?_⟩
    ·have := q1 h; omega
    ·obtain ⟨p1, p2, X, p3, p4⟩ := q2 h; obtain ⟨Y, y1, y2⟩ := j4.touch (by omega)
     refine ⟨p1, by omega, Y ++ X, by rw [List.length_append]; omega, fun y hy => ?_⟩
     rcases p4 y hy with h5 | h5
     ·exact .inl (List.mem_append_right _ h5)
     ·exact (y2 y h5).imp (fun h6 => List.mem_append_left _ h6) id
theorem jAq {T : TM} {L : Int} (cs : List Cg) {l : List KV} {H N : Nat} (hc : ∀ c ∈ cs, CgOk c) (h : TI T 250 l H N) (hn : T.next + 32 * cs.length <= 576460752303423488) :
  ∃ (W' : WM) (N' : Nat), allM T L 70 cs T.begin = some W' /\ WI T 250 W' (chgs cs l) 26 N' /\ Allx L T.begin W' N N' cs.length := jAu cs T.begin l H N hc h hn
end
section
open Go Go.RowKit
structure RT where
 t : ByteArray
 n : Nat
 e : Nat
def rtOf (s : ByteArray) (at' : Nat) (x : RU) : RT :=
 if x.e = 0 then (if s.size < at' + x.n + x.v then ⟨⟨#[]⟩, 0, 20⟩ else ⟨s.extract (at' + x.n) (at' + x.n + x.v), at' + x.n + x.v, 0⟩) else ⟨⟨#[]⟩, 0, x.e⟩
def rdT (s : ByteArray) (at' : Nat) : RT := rtOf s at' (rdU 0 (s.data.toList.drop at'))
def rtV (x : RT) : Value := .tuple #[.string x.t, .int .i64 (x.n : Int), .int .i64 (x.e : Int)]
theorem jHr (s : ByteArray) (at' : Nat) (he : (rdU 0 (s.data.toList.drop at')).e = 0) : at' + (rdU 0 (s.data.toList.drop at')).n <= s.size /\ 1 <= (rdU 0 (s.data.toList.drop at')).n /\ (rdU 0 (s.data.toList.drop at')).v < 18446744073709551616 := by
 obtain ⟨h1, h2, _, h4⟩ := qFr (s.data.toList.drop at') 0; have h3 := h2 he; have h5 := h4 (by omega)
 rw [Nat.pow_zero, Nat.mul_one] at h5; have h6 : qEu = 18446744073709551616 := by decide
 rw [List.length_drop, Array.length_toList] at h1; have h7 : s.data.size = s.size := rfl; omega
set_option maxRecDepth 100000
set_option maxHeartbeats 2000000 in
theorem qPe (s : ByteArray) (at' : Nat) (w : World) (hs : s.size <= maxLen) : Calls Tryz.prog 94 #[.string s, .int .i64 (at' : Int)] w fun e w' => e = .returned (rtV (rdT s at')) /\ w = w' := by
 have HU := hid (qEl s at' w hs); unfold rdT; unfold maxLen at hs; have hin := jHr s at'; generalize rdU 0 (s.data.toList.drop at') = x at *; obtain ⟨v, n, er⟩ := x; by_cases he : er = 0
 ·subst he; obtain ⟨h1, h2, h3⟩ := hin rfl; simp only at h1 h2 h3; clear hin; have hv : ruV at' ⟨v, n, 0⟩ = .tuple #[.int .u64 (v : Int), .int .i64 ((at' + n : Nat) : Int), .int .i64 0] := by unfold ruV; simp
  have hr : rtOf s at' ⟨v, n, 0⟩ = if s.size < at' + n + v then ⟨⟨#[]⟩, 0, 20⟩ else ⟨s.extract (at' + n) (at' + n + v), at' + n + v, 0⟩ := rfl
  rw [hv] at HU; rw [hr]; clear hv hr; generalize at' + n = m at *; have hwr : IntKind.u64.wrap ((s.size : Int) - (m : Int)) = (s.size : Int) - (m : Int) := by rw [IntKind.wrap_u64]; omega
  by_cases hbig : s.size < m + v
  ·have d : decide ((s.size : Int) - (m : Int) < (v : Int)) = true := by rw [decide_eq_true_iff]; omega
   rw [if_pos hbig]; go_enter Tryz.func94, Tryz.ntmps94
   go_wp2_with fail
   refine HU.out.mono ?_; rintro e w' ⟨rfl, rfl⟩; go_wp2_with fail
   exact bodyPost_ret (v := .tuple #[.string ⟨#[]⟩, .int .i64 0, .int .i64 20]) (by simp [results, Tryz.results94, go_sem]) rfl ⟨rfl, rfl⟩
  ·have d : decide ((s.size : Int) - (m : Int) < (v : Int)) = false := by rw [decide_eq_false_iff_not]; omega
   have hv2 : IntKind.i64.wrap (v : Int) = (v : Int) := IntWalk.i64_in _ (by omega)
   have hsl : ∀ w : World, (Instr.slice 9 (.string s) (some (.int .i64 (m : Int))) (some (.int .i64 ((m : Int) + (v : Int)))) none).run Tryz.prog w = .ok (.string (s.extract m (m + v))) w := fun w => by
    have := run_slice_string (P := Tryz.prog) w 9 s .i64 .i64 (m : Int) ((m : Int) + (v : Int)) Tryz.underlying9 (by omega) (by omega) (by omega)
    rw [show ((m : Int) + (v : Int)).toNat = m + v by omega, show ((m : Int)).toNat = m by omega] at this
    exact this
   have e5 : ((m + v : Nat) : Int) = (m : Int) + (v : Int) := by omega
   have HE5 := hid e5; clear e5; rw [if_neg hbig]; go_enter Tryz.func94, Tryz.ntmps94
   go_wp2_with fail
   refine HU.out.mono ?_; rintro e w' ⟨rfl, rfl⟩; go_wp2_with fail
   exact bodyPost_ret (v := .tuple #[.string (s.extract m (m + v)), .int .i64 ((m : Int) + (v : Int)), .int .i64 0]) (by simp [results, Tryz.results94, go_sem]) rfl ⟨by unfold rtV; rw [HE5.out]; rfl, rfl⟩
 ·have hv : ruV at' ⟨v, n, er⟩ = .tuple #[.int .u64 0, .int .i64 0, .int .i64 (er : Int)] := by unfold ruV; rw [if_neg he]
  rw [hv] at HU; clear hv hin; have HA : Hid (rtOf s at' ⟨v, n, er⟩ = ⟨⟨#[]⟩, 0, er⟩) := hid (by unfold rtOf; rw [if_neg he])
  have hne : ((er : Int) != 0) = true := by rw [bne_iff_ne]; omega
  rw [HA.out]; clear HA; go_enter Tryz.func94, Tryz.ntmps94
  go_wp2_with fail
  refine HU.out.mono ?_; rintro e w' ⟨rfl, rfl⟩; go_wp2_with fail
  exact bodyPost_ret (v := .tuple #[.string ⟨#[]⟩, .int .i64 0, .int .i64 (er : Int)]) (by simp [results, Tryz.results94, go_sem]) rfl ⟨rfl, rfl⟩
end
section
open Go Go.RowKit
def Bx (w : World) (b : Nat) (m : Nd) : Prop := w.heap[b]? = some (.cells #[.bool m.leaf, .slice m.ka m.keys.length m.kc, .slice m.va m.values.length m.vc, .slice m.ia m.kids.length m.ic] 123 (0, 0))
structure Hold (w : World) (L B : Nat) (m : Nd) : Prop where
 box : Bx w B m
 gd : Gd w m
 bs : ∀ b, m.bs b -> L <= b /\ b ≠ B
 lb : L <= B
end
section
open Go Go.RowKit
def pre (es : List Ent) (o : Option (List Ent × Nat)) : Option (List Ent × Nat) := o.map fun q => (es ++ q.1, q.2)
def cn (leaf : Bool) (es : List Ent) : Nd := ⟨leaf, es.map (·.key), if leaf then es.map (·.value) else [], if leaf then [] else es.map (·.kid), none, 0, none, 0, none, 0⟩
end
section
open Go Go.RowKit
def lk (es : List Ent) : ByteArray := match es.getLast? with | some x => x.key | none => emp
end
section
open Go Go.RowKit
theorem jFj {D : Dsk} (h : D.off = false) (i : Nat) (hi : i < D.secs.length) : qDe D (i : Int) = (sec D i, 0) := by
 have : qBc D i = 0 := by unfold qBc; rw [h]; simp; omega
 rw [qSu, if_neg (by simp [this])]
 rfl
def upc (c : Nat -> ByteArray) (cs : List Chg) (q : Nat) : ByteArray := match cs.find? (fun x => x.pos.toNat == q) with
 | some x => pad x.data
 | none => c q
theorem qSi {c : Nat -> ByteArray} {cs : List Chg} {q : Nat} (h : q ∉ places cs) : upc c cs q = c q := by
 unfold upc; rw [List.find?_eq_none.2 (fun x hx => by
  intro he; exact h (List.mem_map.2 ⟨x, hx, by simpa using he⟩))]
theorem qMz {c : Nat -> ByteArray} : ∀ {cs : List Chg} {m : Nat} {x : Chg}, (places cs).Nodup -> cs[m]? = some x -> upc c cs x.pos.toNat = pad x.data
 | [], m, x => fun _ h => by simp at h
 | y :: r, m, x => fun hd h => by
  have hd2 : (y.pos.toNat :: places r).Nodup := hd; cases m with
  | zero =>
   simp only [List.getElem?_cons_zero, Option.some.injEq] at h; subst h; unfold upc; rw [List.find?_cons]; simp
  | succ m =>
   simp only [List.getElem?_cons_succ] at h; have hne : y.pos.toNat ≠ x.pos.toNat := fun e => (List.nodup_cons.1 hd2).1 (by rw [e]; exact List.mem_map.2 ⟨x, List.mem_of_getElem? h, rfl⟩)
   have ih := qMz (c := c) (List.nodup_cons.1 hd2).2 h; unfold upc at *; rw [List.find?_cons]; have hb : (y.pos.toNat == x.pos.toNat) = false := by rw [beq_eq_false_iff_ne]; exact hne
   rw [hb]; exact ih
end
section
open Go Go.RowKit
def stL (root next free count : Int) : List UInt8 := 84 :: [root.toNat, next.toNat, free.toNat, count.toNat].flatMap uvar
def stB (W : WM) : ByteArray := ba (stL W.root W.next W.free W.count)
def frB (y : Int) : ByteArray := ba (70 :: uvar y.toNat)
noncomputable def ndB (n : NP) : ByteArray := if qPx (cn n.1 n.2) then ba (qAm n.1 n.2) else ⟨#[]⟩
noncomputable def qDs (W : WM) (x : Int) : Option ByteArray := if x = 0 then some (stB W) else match W.nodes x with | some n => some (ndB n) | none => (W.after x).map frB
structure Laid (W : WM) (cs : List Chg) (ln : List (Int × NP)) (la : List (Int × Int)) : Prop where
 n1 : (ln.map (·.1)).Nodup
 n2 : ∀ x n, (x, n) ∈ ln ↔ W.nodes x = some n
 a1 : (la.map (·.1)).Nodup
 a2 : ∀ x y, (x, y) ∈ la ↔ W.after x = some y
 perm : cs.Perm (ln.map (fun p => ⟨p.1, ndB p.2⟩) ++ (la.map (fun p => ⟨p.1, frB p.2⟩) ++ [⟨0, stB W⟩]))
 sort : cs.Pairwise (fun a b => a.pos <= b.pos)
structure qJi (W : WM) (cs : List Chg) : Prop where
 mem : ∀ c : Chg, c ∈ cs ↔ qDs W c.pos = some c.data
 nodup : (cs.map (·.pos)).Nodup
theorem qRm {α : Type} {l : List (Int × α)} {x : Int} (h : x ∈ l.map (·.1)) : ∃ y, (x, y) ∈ l := by
 obtain ⟨p, hp, rfl⟩ := List.mem_map.1 h; exact ⟨p.2, hp⟩
theorem qHs {T : TM} {W : WM} {U F : List Int} {cs : List Chg} {ln : List (Int × NP)} {la : List (Int × Int)} (hA : Acc T W U [] F) (h : Laid W cs ln la) : qJi W cs := by
 have h0 : W.nodes 0 = none /\ W.after 0 = none := by
  have := hA.out 0 (by omega)
  exact ⟨this.1, this.2.1⟩
 have hx : ∀ x n, W.nodes x = some n -> W.after x = none := fun x n hn => by
  by_cases hu : x ∈ U
  ·exact (hA.used x (.inl hu)).1
  ·by_cases hf : x ∈ F
   ·have := (hA.free x hf).1; rw [hn] at this; cases this
   ·have hc := hA.cnt x; rw [List.count_eq_zero.2 hu, List.count_eq_zero.2 hf] at hc; have hout : ¬ (1 <= x /\ x < W.next) := fun h => by rw [if_pos h] at hc; simp at hc
    exact (hA.out x hout).2.1
 constructor
 ·intro c; obtain ⟨x, d⟩ := c; rw [h.perm.mem_iff, List.mem_append, List.mem_append]; show _ ↔ qDs W x = some d; unfold qDs; constructor
  ·rintro (hm | hm | hm)
   ·obtain ⟨p, hp, he⟩ := List.mem_map.1 hm; cases he
    have hn := (h.n2 p.1 p.2).1 hp; have hz : p.1 ≠ 0 := fun e => by rw [e, h0.1] at hn; cases hn
    rw [if_neg hz, hn]
   ·obtain ⟨p, hp, he⟩ := List.mem_map.1 hm; cases he
    have ha := (h.a2 p.1 p.2).1 hp; have hz : p.1 ≠ 0 := fun e => by rw [e, h0.2] at ha; cases ha
    rw [if_neg hz]; cases hn : W.nodes p.1 with
    | some n => rw [hx _ _ hn] at ha; cases ha
    | none => simp only; rw [ha]; rfl
   ·rw [List.mem_singleton] at hm; cases hm
    rw [if_pos rfl]
  ·intro hd; by_cases hz : x = 0
   ·rw [if_pos hz] at hd; cases hd
    exact .inr (.inr (by rw [hz]; exact List.mem_singleton.2 rfl))
   ·rw [if_neg hz] at hd; cases hn : W.nodes x with
    | some n =>
     rw [hn] at hd; cases hd
     exact .inl (List.mem_map.2 ⟨(x, n), (h.n2 x n).2 hn, rfl⟩)
    | none =>
     rw [hn] at hd; obtain ⟨y, hy, rfl⟩ := Option.map_eq_some_iff.1 hd; exact .inr (.inl (List.mem_map.2 ⟨(x, y), (h.a2 x y).2 hy, rfl⟩))
 ·have hp := h.perm.map (·.pos); refine hp.nodup_iff.2 ?_; rw [List.map_append, List.map_append, List.map_map, List.map_map]; show ((ln.map (fun p : Int × NP => p.1)) ++ ((la.map (fun p : Int × Int => p.1)) ++ [0])).Nodup
  refine List.nodup_append.2 ⟨h.n1, List.nodup_append.2 ⟨h.a1, by simp, fun a ha b hb e => ?_⟩, fun a ha b hb e => ?_⟩
  ·rw [List.mem_singleton] at hb; obtain ⟨y, hy⟩ := qRm ha; have := (h.a2 _ _).1 hy; rw [e, hb, h0.2] at this; cases this
  ·subst e; obtain ⟨n, hn⟩ := qRm ha; have hn := (h.n2 _ _).1 hn; rcases List.mem_append.1 hb with hb | hb
   ·obtain ⟨y, hy⟩ := qRm hb; have := (h.a2 _ _).1 hy; rw [hx _ _ hn] at this; cases this
   ·rw [List.mem_singleton] at hb; rw [hb, h0.1] at hn; cases hn
theorem jCx {W : WM} {cs : List Chg} {ln : List (Int × NP)} {la : List (Int × Int)} (h : Laid W cs ln la) : cs.length = ln.length + la.length + 1 := by
 rw [h.perm.length_eq]; simp
 omega
theorem qKk : ∀ {l m : List Int}, l.Nodup -> (∀ x ∈ l, x ∈ m) -> l.length <= m.length
 | [], _, _, _ => Nat.zero_le _
 | a :: l, m, hn, hs => by
  obtain ⟨h1, h2⟩ := List.nodup_cons.1 hn; have ha := hs a List.mem_cons_self; have ih := qKk (m := m.erase a) h2 (fun x hx => (List.mem_erase_of_ne (fun e => h1 (by rw [<- e]; exact hx))).2 (hs x (List.mem_cons_of_mem _ hx)))
  have hp := List.length_pos_of_mem ha; rw [List.length_erase_of_mem ha] at ih; rw [List.length_cons]; omega
theorem qVg {W : WM} {cs : List Chg} {X : List Int} (h : qJi W cs) (hX : ∀ y, qQi W y -> y ∈ X) : cs.length <= X.length + 1 := by
 have h1 : (cs.map (·.pos)).length <= (0 :: X).length := by
  refine qKk h.nodup (fun x hx => ?_)
  obtain ⟨c, hc, rfl⟩ := List.mem_map.1 hx; have hd := (h.mem c).1 hc; unfold qDs at hd; by_cases hz : c.pos = 0
  ·rw [hz]; exact List.mem_cons_self
  ·rw [if_neg hz] at hd; refine List.mem_cons_of_mem _ (hX _ ?_); cases hn : W.nodes c.pos with
   | some n => exact .inl (by rw [hn]; exact fun e => by cases e)
   | none =>
    rw [hn] at hd; obtain ⟨y, hy, _⟩ := Option.map_eq_some_iff.1 hd; exact .inr (by rw [hy]; exact fun e => by cases e)
 rw [List.length_map, List.length_cons] at h1; exact h1
theorem qMt {len : Nat} : ∀ (cs : List Chg) (met : List Nat), (∀ c ∈ cs, 0 <= c.pos /\ c.pos < len /\ c.data.size <= 1024) -> (places cs).Nodup -> (∀ c ∈ cs, c.pos.toNat ∉ met) -> qBy len met cs = 0
 | [], _, _, _, _ => rfl
 | c :: r, met, h, hn, hm => by
  obtain ⟨h1, h2, h3⟩ := h c List.mem_cons_self; have hn : (c.pos.toNat :: places r).Nodup := hn; obtain ⟨n1, n2⟩ := List.nodup_cons.1 hn; rw [qBy, if_neg (by omega), if_neg (by omega), if_neg (hm c List.mem_cons_self)]
  refine qMt r _ (fun x hx => h x (List.mem_cons_of_mem _ hx)) n2 (fun x hx hh => ?_)
  rcases List.mem_append.1 hh with hh | hh
  ·exact hm x (List.mem_cons_of_mem _ hx) hh
  ·rw [List.mem_singleton] at hh; exact n1 (by rw [<- hh]; exact List.mem_map.2 ⟨x, hx, rfl⟩)
def rdOf (c : Nat -> ByteArray) (x : Int) : ByteArray := c x.toNat
structure DT (L : Nat) (c : Nat -> ByteArray) (T : TM) : Prop where
 size : ∀ q, q < L -> (c q).size <= 1024
 nodes : ∀ x n, T.nodes x = some n -> ∃ r, (rdOf c x).data.toList = qAm n.1 n.2 ++ r /\ AllZ r
 after : ∀ x y, T.after x = some y -> ∃ r, (rdOf c x).data.toList = 70 :: (uvar y.toNat ++ r) /\ AllZ r
 state : (T = newT /\ AllZ (c 0).data.toList) \/ ∃ r, (c 0).data.toList = stL T.root T.next T.free T.count ++ r /\ AllZ r
theorem qNl {s : ByteArray} : ∃ r, (pad s).data.toList = s.data.toList ++ r /\ AllZ r := ⟨_, qNn s, qId _⟩
structure jEm (W : WM) (L : Nat) : Prop where
 next : W.next <= (L : Int)
 le : L <= 16384
 nodes : ∀ x n, W.nodes x = some n -> qPx (cn n.1 n.2) = true /\ qGp n.1 n.2 /\ 1 <= x /\ x < W.next
 after : ∀ x y, W.after x = some y -> 1 <= x /\ x < W.next /\ 0 <= y /\ y <= 16384
 nums : 0 <= W.root /\ W.root <= 16384 /\ 1 <= W.next /\ 0 <= W.free /\ W.free <= 16384 /\ 0 <= W.count /\ W.count <= 16777216
theorem qFs {W : WM} {L : Nat} {cs : List Chg} (hf : jEm W L) (h : qJi W cs) : (places cs).Nodup := by
 have h1 : places cs = (cs.map (·.pos)).map Int.toNat := by unfold places; rw [List.map_map]; rfl
 rw [h1]; refine List.Pairwise.map _ (fun a b hab => hab) ?_
 refine (List.pairwise_iff_getElem.1 h.nodup |> fun hp => List.pairwise_iff_getElem.2 (fun i j hi hj hij he => ?_))
 have h2 := hp i j hi hj hij; rw [List.length_map] at hi hj; rw [List.getElem_map, List.getElem_map] at h2 he; have p1 := (hf.data ((h.mem cs[i]).1 (List.getElem_mem hi))).1; have p2 := (hf.data ((h.mem cs[j]).1 (List.getElem_mem hj))).1; omega
theorem qVh {W : WM} {L : Nat} {cs : List Chg} (hf : jEm W L) (h : qJi W cs) : qBy L [] cs = 0 :=
 qMt cs [] (fun c hc => hf.data ((h.mem c).1 hc)) (qFs hf h) (fun _ _ h => by cases h)
theorem qGe {W : WM} {L : Nat} {cs : List Chg} (hf : jEm W L) (h : qJi W cs) (c : Nat -> ByteArray) {x : Int} (hx : 0 <= x) : rdOf (upc c cs) x = match qDs W x with | some d => pad d | none => rdOf c x := by
 cases hd : qDs W x with
 | some d =>
  have hm := (h.mem ⟨x, d⟩).2 hd; obtain ⟨m, hm⟩ := List.mem_iff_getElem?.1 hm; exact qMz (qFs hf h) hm
 | none =>
  refine qSi (fun hh => ?_)
  obtain ⟨y, hy, he⟩ := List.mem_map.1 hh; have hy2 := (h.mem y).1 hy; have p1 := (hf.data hy2).1; have : y.pos = x := by omega
  rw [this, hd] at hy2; cases hy2
theorem jGk {T : TM} {W : WM} {L : Nat} {cs : List Chg} {c : Nat -> ByteArray} (hT : DT L c T) (hf : jEm W L) (h : qJi W cs) (ho : ∀ x, ¬ 1 <= x -> T.nodes x = none /\ T.after x = none) : DT L (upc c cs) (W.done T) := by
 refine ⟨fun q hq => ?_, fun x n hn => ?_, fun x y hy => ?_, .inr ?_⟩
 ·have := qGe hf h c (x := (q : Int)) (by omega)
  unfold rdOf at this; rw [Int.toNat_natCast] at this; rw [this]; cases hd : qDs W (q : Int) with
  | some d => exact Nat.le_of_eq (qNm (hf.data hd).2.2)
  | none => exact hT.size q hq
 ·
  unfold WM.done at hn; simp only at hn; cases hw : W.nodes x with
  | some n' =>
   rw [hw] at hn; cases hn
   obtain ⟨h1, h2, h3, h4⟩ := hf.nodes x n hw; have hd : qDs W x = some (ba (qAm n.1 n.2)) := by
    unfold qDs; rw [if_neg (by omega), hw]
    show some (ndB n) = _; unfold ndB; rw [if_pos h1]
   rw [qGe hf h c (by omega), hd]
   obtain ⟨r, k1, k2⟩ := qNl (s := ba (qAm n.1 n.2)); exact ⟨r, by rw [k1, qCs], k2⟩
  | none =>
   rw [hw] at hn; simp only at hn; cases ha : W.after x with
   | some y => rw [ha] at hn; simp at hn
   | none =>
    rw [ha] at hn; simp at hn
    have hx : 1 <= x := by
     by_cases hx : 1 <= x
     ·exact hx
     ·rw [(ho x hx).1] at hn; cases hn
    have hd : qDs W x = none := by unfold qDs; rw [if_neg (by omega), hw]; simp only; rw [ha]; rfl
    rw [qGe hf h c (by omega), hd]
    exact hT.nodes x n hn
 ·unfold WM.done at hy; simp only at hy; cases hw : W.nodes x with
  | some n' => rw [hw] at hy; simp at hy
  | none =>
   rw [hw] at hy; simp at hy
   cases ha : W.after x with
   | some z =>
    rw [ha] at hy; simp at hy
    subst hy; obtain ⟨h1, h2, h3, h4⟩ := hf.after x z ha; have hd : qDs W x = some (frB z) := by unfold qDs; rw [if_neg (by omega), hw]; simp only; rw [ha]; rfl
    rw [qGe hf h c (by omega), hd]
    obtain ⟨r, k1, k2⟩ := qNl (s := frB z); refine ⟨r, ?_, k2⟩; rw [k1]; unfold frB; rw [qCs]; rfl
   | none =>
    rw [ha] at hy; simp at hy
    have hx : 1 <= x := by
     by_cases hx : 1 <= x
     ·exact hx
     ·rw [(ho x hx).2] at hy; simp at hy
    have hd : qDs W x = none := by unfold qDs; rw [if_neg (by omega), hw]; simp only; rw [ha]; rfl
    rw [qGe hf h c (by omega), hd]
    exact hT.after x y hy.2
 ·have hd : qDs W 0 = some (stB W) := by unfold qDs; rw [if_pos rfl]
  have := qGe hf h c (x := 0) (by omega)
  rw [hd] at this; obtain ⟨r, k1, k2⟩ := qNl (s := stB W); refine ⟨r, ?_, k2⟩; have e : upc c cs 0 = pad (stB W) := this; rw [e, k1]; unfold stB; rw [qCs]; rfl
end
end Go.Proofs.YtkinkgbmlhiakaaGreatDoor
