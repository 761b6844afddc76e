/- merged: TrO TuA -/
import Derived.Test.YtgbcibdfeeiilaaGreatDoorMe12
namespace Go.Proofs.YtgbcibdfeeiilaaGreatDoor
section
open Go Go.RowKit
theorem qKv {T : TM} {W : WM} {U R F : List Int} (h : Acc T W U R F) (s : Int) : Acc T (W.at s) U R F := ⟨h.chain, h.cnt, h.used, h.free, h.out, h.pos⟩
structure Rt (T : TM) (m : Nat) (W : WM) (l : List KV) (H h : Nat) (t : Tr h) (F : List Int) : Prop where
 nz : W.root ≠ 0
 le : h <= H
 sd : Sd (W.look T) m h W.root t
 two : m ≠ 0 -> 0 < h -> 2 <= tlen h t
 fl : flat h t = l
 acc : Acc T W (secs h W.root t) [] F
theorem qQd {T : TM} {m : Nat} (hm : m = 0 \/ m = 250) : ∀ (h f : Nat) (W : WM) (t : Tr h) (F : List Int), h < f -> Acc T W (secs h W.root t) [] F -> Sd (W.look T) m h W.root t →
  ∃ (W' : WM) (h' : Nat) (t' : Tr h') (F' : List Int), qEl T f W = some W' /\ Rt T m W' (flat h t) h h' t' F' /\ W'.count = W.count /\ W'.next = W.next /\ W'.full = W.full /\ (secs h' W'.root t').length <= (secs h W.root t).length ∧
   (m ≠ 0 -> ∀ x, (W'.nodes x ≠ none \/ W'.after x ≠ none) -> x = W.root \/ (W.nodes x ≠ none \/ W.after x ≠ none))
 | _, 0, _, _, _, h, _, _ => absurd h (Nat.not_lt_zero _)
 | 0, f + 1, W, t, F, _, hA, hS => by
  have hnz : W.root ≠ 0 := by have := hA.spot (x := W.root) (.inl (by rw [qCx]; exact List.mem_cons_self)); omega
  refine ⟨W, 0, t, F, ?_, ⟨hnz, Nat.le_refl _, hS, fun _ h => by omega, rfl, hA⟩, rfl, rfl, rfl, Nat.le_refl _, fun _ _ h => .inr h⟩
  have := hS.1; simp only [qEl, this]
 | h + 1, f + 1, W, l, F, hlt, hA, hS => by
  have hnz : W.root ≠ 0 := by have := hA.spot (x := W.root) (.inl (by rw [qCx]; exact List.mem_cons_self)); omega
  have hlk := hS.1.1; have hne : l ≠ ([] : List (TE (Tr h))) := fun e => hS.1.2.ne (by rw [e]; rfl)
  match l, hne, hlk, hA, hS with
  | [e], _, hlk, hA, hS =>
   obtain ⟨h1, h2, h3⟩ := hS.2 e (.head _); have hsec : secs (h + 1) W.root ([e] : List (TE (Tr h))) = W.root :: secs h e.spot e.sub := by
    show W.root :: qAi [e] = _; rw [qBi, qCl, List.append_nil]
   rw [hsec] at hA; have hA2 : Acc T ((W.release W.root).at e.spot) (secs h e.spot e.sub) [] (W.root :: F) := qKv (Acc.release hA) e.spot; have hroot : ∀ x ∈ secs h e.spot e.sub, x ≠ W.root := fun x hx he => by
    have h4 := hA.cnt x; rw [<- he, List.count_cons_self] at h4; have := List.count_pos_iff.2 hx; split at h4 <;> omega
   have hS2 : Sd (((W.release W.root).at e.spot).look T) m h e.spot e.sub := qFb h1 (fun x hx => qGs (hroot x hx))
   obtain ⟨W', h', t', F', k1, k2, k3, k4, k5, k6, k7⟩ := qQd hm h f ((W.release W.root).at e.spot) e.sub (W.root :: F) (by omega) hA2 hS2
   refine ⟨W', h', t', F', ?_, ⟨k2.nz, by have := k2.le; omega, k2.sd, k2.two, ?_, k2.acc⟩, k3, k4, k5, ?_, fun hm0 x hx => ?_⟩
   ·have e1 : eOf (h + 1) ([e] : List (TE (Tr h))) = [eE e] := rfl; rw [e1] at hlk; simp only [qEl, hlk]; exact k1
   ·rw [k2.fl]; show flat h e.sub = qAf [e]; simp [qAf]
   ·rw [hsec, List.length_cons]; have : (secs h' W'.root t').length <= (secs h e.spot e.sub).length := k6; omega
   ·
    have hstop : qEl T f ((W.release W.root).at e.spot) = some ((W.release W.root).at e.spot) := by
     have hm2 : m = 250 := hm.resolve_left hm0; subst hm2; cases f with
     | zero => exact absurd hlt (by omega)
     | succ f =>
      have hlk2 := (qMh hS2).1; have e5 : ((W.release W.root).at e.spot).root = e.spot := rfl; cases h with
      | zero =>
       simp only [qEl, e5, hlk2]; rfl
      | succ h =>
       have hmany := jAa hS2 h3; unfold tlen at hmany; obtain ⟨x1, x2, r, he⟩ : ∃ x1 x2 r, eOf (h + 1) e.sub = x1 :: x2 :: r := by
        match hq : eOf (h + 1) e.sub, hmany with
        | x1 :: x2 :: r, _ => exact ⟨x1, x2, r, rfl⟩
        | [_], hmany => simp at hmany
        | [], hmany => simp at hmany
       rw [he] at hlk2; simp only [qEl, e5, hlk2]; rfl
    rw [hstop] at k1; cases k1
    by_cases ex : x = W.root
    ·exact .inl ex
    ·simp only [WM.at, WM.release, qAd _ _ ex] at hx; exact .inr hx
  | e1 :: e2 :: r, _, hlk, hA, hS =>
   refine ⟨W, h + 1, (e1 :: e2 :: r : List (TE (Tr h))), F, ?_, ⟨hnz, Nat.le_refl _, hS, fun _ _ => ?_, rfl, hA⟩, rfl, rfl, rfl, Nat.le_refl _, fun _ _ h => .inr h⟩
   ·have e1' : eOf (h + 1) (e1 :: e2 :: r : List (TE (Tr h))) = eE e1 :: eE e2 :: r.map eE := rfl; rw [e1'] at hlk; simp only [qEl, hlk]
   ·show 2 <= (List.map _ (e1 :: e2 :: r)).length; simp
def WI (T : TM) (m : Nat) (W : WM) (l : List KV) (H N : Nat) : Prop :=
 qAy l /\ W.count = l.length /\ ((W.root = 0 /\ l = [] /\ N = 0 /\ ∃ F, Acc T W [] [] F) \/ ∃ (h : Nat) (t : Tr h) (F : List Int), Rt T m W l H h t F /\ (secs h W.root t).length = N)
structure Onx (m : Nat) (L : Int) (W W' : WM) (k n x : Nat) : Prop where
 lo : W.next <= W'.next
 hi : W'.next <= W.next + k
 mono : W.full = true -> W'.full = true
 full : W'.full = true -> W.full = true \/ L <= (n : Int)
 top : W'.next <= W.next \/ W'.next <= (n : Int) + 1
 room : W'.full = false -> W'.next <= W.next \/ W'.next <= L
 touch : m ≠ 0 -> ∃ X : List Int, X.length <= x /\ ∀ y, (W'.nodes y ≠ none \/ W'.after y ≠ none) -> y ∈ X \/ (W.nodes y ≠ none \/ W.after y ≠ none)
theorem qYo {T : TM} {L : Int} {m h : Nat} (hm : m = 0 \/ m = 250) {W W1 : WM} {ps : List (TE (Tr h))} {new : List KV} {n : Nat} {F1 X1 : List Int} {f : Nat} (hf : h + 1 < f)
  (fo : Fo (W1.look T) m h ps) (fl : qAf ps = new) (two : ps.length <= 2) (big : ps.length = 2 -> ∀ e ∈ ps, 250 <= wtN h e.sub) (hA : Acc T W1 (qAi ps) [] F1) (hk : Kept T W W1 L [] (h + 1) n X1) (hu : (qAi ps).length <= n) (hx : X1.length <= 3 * h + 2) (hxs : ∀ e ∈ ps, e.spot ∈ X1)
  (hf2 : qAy new) (hc : W1.count = new.length) (hn : W1.next + 2 <= 1152921504606846976) :
  ∃ (W' : WM) (N : Nat), topM T L f W1 (ps.map pt) = some W' /\ WI T m W' new (h + 1) N /\ N <= n + 1 /\ Onx m L W W' (h + 2) (n + 1) (3 * h + 3) := by
 match ps, two, fo, fl, big, hA, hu, hxs with
 | [], _, _, fl, _, hA, _, _ =>
  have hnew : new = [] := fl.symm; refine ⟨W1.at 0, 0, rfl, ⟨hf2, hc, .inl ⟨rfl, hnew, rfl, F1, qKv hA 0⟩⟩, Nat.zero_le _, ⟨hk.lo, by have h1 : W1.next <= _ := hk.hi; show W1.next <= _; omega, hk.mono, fun h => (hk.full h).imp id (fun h => by omega), hk.top.imp id (fun h => ?_), hk.room, fun _ => ⟨X1, by omega, hk.touch⟩⟩⟩
  have h1 : W1.next <= _ := h; show W1.next <= _; omega
 | [p], _, fo, fl, _, hA, hu, hxs =>
  obtain ⟨s1, s2⟩ := fo p List.mem_cons_self; have hps : qAi [p] = secs h p.spot p.sub := by rw [qBi, qCl, List.append_nil]
  rw [hps] at hA hu; obtain ⟨W', h', t', F', k1, k2, k3, k4, k5, k6, k7⟩ := qQd hm h f (W1.at p.spot) p.sub F1 (by omega) (qKv hA p.spot) s1
  have hfl : flat h p.sub = new := by rw [<- fl]; simp [qAf]
  have e1 : (W1.at p.spot).next = W1.next := rfl; have e2 : (W1.at p.spot).full = W1.full := rfl; rw [e1] at k4; rw [e2] at k5; refine ⟨W', (secs h' W'.root t').length, k1, ⟨hf2, k3.trans hc, .inr ⟨h', t', F', ⟨k2.nz, by have := k2.le; omega, k2.sd, k2.two, k2.fl.trans hfl, k2.acc⟩, rfl⟩⟩, ?_, ⟨by rw [k4]; exact hk.lo, by rw [k4]; have := hk.hi; omega, fun h => by rw [k5]; exact hk.mono h, fun h => (hk.full (by rw [<- k5]; exact h)).imp id (fun h => by omega), by rw [k4]; exact hk.top.imp id (fun h => by omega), fun h => by rw [k4]; exact hk.room (by rw [<- k5]; exact h), fun h0 => ⟨X1, by omega, fun y hy => ?_⟩⟩⟩
  ·have : (secs h' W'.root t').length <= (secs h p.spot p.sub).length := k6; omega
  ·rcases k7 h0 y hy with h8 | h8
   ·exact .inl (by rw [h8]; exact hxs p List.mem_cons_self)
   ·exact hk.touch y h8
 | [p, q], _, fo, fl, big, hA, hu, hxs =>
  have hB : Lowr (W1.look T) m (h + 1) ([p, q] : List (TE (Tr h))) := fun e he => by
   have he : e ∈ [p, q] := he; refine ⟨(fo e he).1, (fo e he).2, ?_⟩; have := big rfl e he; rcases hm with rfl | rfl <;> omega
  have hA2 : Acc T W1 [] (qDr (h + 1) ([p, q] : List (TE (Tr h))) ++ []) F1 := hA.move (fun z => by
   rw [qKb]; simp only [List.count_append, List.count_nil]; omega)
  have hflat : qAy (flat (h + 1) ([p, q] : List (TE (Tr h)))) := by
   show qAy (qAf [p, q]); rw [fl]; exact hf2
  have hent : ∀ e ∈ [p, q], (entL false (eE e)).length <= 58 := fun e he => by
   obtain ⟨v, r, hfe⟩ := qHw (fun e he => ⟨qLr (fo e he).1, (fo e he).2⟩ : Ok [p, q]) he
   have hmem : (e.key, v) ∈ qAf [p, q] := by
    unfold qAf; exact List.mem_flatMap.2 ⟨e, he, by rw [hfe]; exact List.mem_cons_self⟩
   rw [fl] at hmem; refine qHa (leaf := false) (hf2.ok _ hmem).1.2 (Nat.zero_le _) (fun _ => ?_)
   have := hA.spot (x := e.spot) (.inl (by
    unfold qAi; exact List.mem_flatMap.2 ⟨e, he, by rw [qCx]; exact List.mem_cons_self⟩))
   show e.spot <= _; omega
  have hw : wt false (eOf (h + 1) ([p, q] : List (TE (Tr h)))) <= 116 := by
   have h1 := hent p List.mem_cons_self; have h2 := hent q (List.mem_cons_of_mem _ List.mem_cons_self); rw [qBq, List.map_cons, List.map_cons, List.map_nil, qDm, qFj]; omega
  have hb : (qAg (lf (h + 1)) (eOf (h + 1) ([p, q] : List (TE (Tr h))))).length <= 1024 := by
   have h1 : (eOf (h + 1) ([p, q] : List (TE (Tr h)))).length = 2 := rfl; have h2 := qCs (leaf := false) (es := eOf (h + 1) ([p, q] : List (TE (Tr h)))) (by rw [h1]; omega)
   rw [h1] at h2; show (qAg false _).length <= _; rw [h2]; simp only [show ¬ (127 : Nat) < 2 by omega, if_false]
   omega
  obtain ⟨W2, ps2, F2, k1, k2, k3, k4, k5, _, k6, k7, k8, k9, k10, k11⟩ := jAn (L := L) (h := h + 1) (m := m) (t := ([p, q] : List (TE (Tr h)))) hA2 hB hflat (by show wt false _ <= _; omega) hn
  have h1 := k6 hb
  match ps2, h1, k1, k2, k3, k5, k7, k8, k10, k11 with
  | [], _, _, _, k3, _, _, _, _, _ =>
   exfalso
   have h2 : flat (h + 1) ([p, q] : List (TE (Tr h))) = [] := k3.symm; obtain ⟨v, r, hfe⟩ := qHw (fun e he => ⟨qLr (fo e he).1, (fo e he).2⟩ : Ok [p, q]) (e := p) List.mem_cons_self
   have h3 : qAf [p, q] = flat h p.sub ++ (flat h q.sub ++ []) := by unfold qAf; rw [List.flatMap_cons, List.flatMap_cons, List.flatMap_nil]
   have h4 : qAf [p, q] = [] := h2; rw [h3, hfe] at h4; cases h4
  | [r], _, k1, k2, k3, k5, k7, k8, k10, k11 =>
   obtain ⟨s1, s2⟩ := k2 r List.mem_cons_self; have hps : qAi [r] = secs (h + 1) r.spot r.sub := by rw [qBi, qCl, List.append_nil]
   rw [hps] at k7 k11 k8; obtain ⟨W', h', t', F', r1, r2, r3, r4, r5, r6, r7⟩ := qQd hm (h + 1) f (W2.at r.spot) r.sub F2 (by omega) (qKv k7 r.spot) s1
   have hfl : flat (h + 1) r.sub = new := by
    have h2 : qAf [r] = flat (h + 1) r.sub := by simp [qAf]
    rw [<- h2, k3]; exact fl
   have e1 : (W2.at r.spot).next = W2.next := rfl; have e2 : (W2.at r.spot).full = W2.full := rfl; rw [e1] at r4; rw [e2] at r5; have hlen : (secs (h + 1) r.spot r.sub).length <= n + 1 := by
    rw [k11, qKb]; simp only [List.length_cons, List.length_nil]; omega
   have hkk : Kept T W W2 L [] (h + 2) (n + 1) (r.spot :: X1) := qKc (R2 := []) hk k8 (fun x h => h) (fun x h => h) (by simp) (by omega) (by simp only [List.length_nil]; omega) (fun x hx => List.mem_cons_of_mem _ hx) (fun x hx => by
    simp at hx
    rw [hx]; exact List.mem_cons_self)
   refine ⟨W', (secs h' W'.root t').length, ?_, ⟨hf2, r3.trans (k9.trans hc), .inr ⟨h', t', F', ⟨r2.nz, r2.le, r2.sd, r2.two, r2.fl.trans hfl, r2.acc⟩, rfl⟩⟩, ?_, ⟨by rw [r4]; exact hkk.lo, by rw [r4]; exact hkk.hi, fun h => by rw [r5]; exact hkk.mono h, fun h => hkk.full (by rw [<- r5]; exact h), by rw [r4]; exact hkk.top, fun h => by rw [r4]; exact hkk.room (by rw [<- r5]; exact h), fun h0 => ⟨r.spot :: X1, by rw [List.length_cons]; omega, fun y hy => ?_⟩⟩⟩
   ·show ((qBu T L W1 false ((([p, q] : List (TE (Tr h))).map pt).map qKz) []).bind _) = _; have e3 : (([p, q] : List (TE (Tr h))).map pt).map qKz = eOf (h + 1) ([p, q] : List (TE (Tr h))) := rfl; have k1' : qBu T L W1 false (eOf (h + 1) ([p, q] : List (TE (Tr h)))) [] = some (W2, [r].map pt) := k1; rw [e3, k1']; exact r1
   ·have : (secs h' W'.root t').length <= (secs (h + 1) r.spot r.sub).length := r6; omega
   ·rcases r7 h0 y hy with h8 | h8
    ·exact .inl (by rw [h8]; exact List.mem_cons_self)
    ·exact hkk.touch y h8
theorem qTe {T : TM} {L : Int} {c : Cg} {m : Nat} (hm : m = 0 \/ m = 250) (hc : CgOk c) {W : WM} {l : List KV} {H N f : Nat} (hW : WI T m W l H N) (hf : H < f) (hn : W.next + (H + 4) <= 1152921504606846976) :
  ∃ (W' : WM) (N' : Nat), oneM T L f W c = some W' /\ WI T m W' (chg c l) (H + 1) N' /\ N' <= N + H + 2 /\ Onx m L W W' (H + 2) (N + H + 2) (3 * H + 3) := by
 obtain ⟨hfl, hcn, hroot⟩ := hW; rcases hroot with ⟨h0, rfl, rfl, F, hA⟩ | ⟨h, t, F, hR, hN⟩
 ·cases hg : c.gone with
  | true =>
   have hch : chg c [] = [] := by unfold chg Cg.put; rw [hg]; rfl
   refine ⟨W, 0, ?_, ⟨by rw [hch]; exact hfl, by rw [hch]; exact hcn, .inl ⟨h0, hch, rfl, F, hA⟩⟩, Nat.zero_le _, ⟨Int.le_refl _, by omega, fun h => h, fun h => .inl h, .inl (Int.le_refl _), fun _ => .inl (Int.le_refl _), fun _ => ⟨[], Nat.zero_le _, fun _ h => .inr h⟩⟩⟩
   unfold oneM; rw [if_neg (fun h => h h0), hg]
   rfl
  | false =>
   have hch : chg c [] = [(c.key, c.value)] := by unfold chg Cg.put; rw [hg]; rfl
   have hok := qAy.chg hfl hc; rw [hch] at hok ⊢; have hA2 : Acc T (W.add 1) [] (qDr 0 ([(c.key, c.value)] : List KV) ++ []) F := ⟨hA.chain, hA.cnt, hA.used, hA.free, hA.out, hA.pos⟩; have hw : wt true [(⟨c.key, c.value, 0⟩ : Ent)] <= 251 := by
    rw [qFj]; exact qHa (leaf := true) hc.key hc.value (fun h => by cases h)
   have hb : (qAg true [(⟨c.key, c.value, 0⟩ : Ent)]).length <= 1024 := by
    have h2 := qCs (leaf := true) (es := [(⟨c.key, c.value, 0⟩ : Ent)]) (by simp)
    rw [h2]; simp only [List.length_cons, List.length_nil, show ¬ (127 : Nat) < 0 + 1 by omega, if_false]
    omega
   obtain ⟨W1, ps, F1, k1, k2, k3, k4, k5, kb, k6, k7, k8, k9, k10, k11⟩ := jAn (L := L) (h := 0) (m := m) (t := ([(c.key, c.value)] : List KV)) hA2 trivial hok (by show wt true _ <= _; exact Nat.le_trans hw (by omega)) (by show W.next + 2 <= _; omega)
   have h1 := k6 hb; have hk8 : Kept T W W1 L [] (0 + 1) 1 (ps.map (·.spot)) := by
    have hk : Kept T (W.add 1) W1 L [] (ps.length - 0) ((qAi ps).length + 0) ([] ++ (ps.map (·.spot)).drop 0) := k8; have hl : (qAi ps).length <= 1 := by rw [k11]; show 0 + ps.length <= 1; omega
    refine ⟨fun x hx => (by cases hx), hk.root, hk.lo, ?_, hk.mono, fun h => (hk.full h).imp id (fun h => by omega), hk.top.imp id (fun h => ?_), hk.room, fun x hx => ?_⟩
    ·have h2 : W1.next <= W.next + ((ps.length - 0 : Nat) : Int) := hk.hi; omega
    ·have h2 : W1.next <= _ := h; omega
    ·rcases hk.touch x hx with h3 | h3
     ·exact .inl (by simpa using h3)
     ·exact .inr h3
   obtain ⟨W', N', r1, r2, r3, r4⟩ := qYo (L := L) (W := W) (f := f + 1) (n := 1) hm (by omega) k2 k3 k4 kb k7 hk8 (by rw [k11]; show 0 + ps.length <= 1; omega) (by rw [List.length_map]; omega) (fun e he => List.mem_map_of_mem he) hok (by
     have h2 : W1.count = W.count + 1 := k9; rw [h2, hcn]; rfl) (by have h2 : W1.next <= W.next + (0 + 1 : Nat) := hk8.hi; omega)
   refine ⟨W', N', ?_, ⟨r2.1, r2.2.1, ?_⟩, by omega, ⟨r4.lo, by have := r4.hi; omega, r4.mono, fun h => (r4.full h).imp id (fun h => by omega), r4.top.imp id (fun h => by omega), r4.room, fun h0 => ?_⟩⟩
   ·unfold oneM; rw [if_neg (fun h => h h0), hg]
    simp only [Bool.false_eq_true, if_false]; have k1' : qBu T L (W.add 1) true [(⟨c.key, c.value, 0⟩ : Ent)] [] = some (W1, ps.map pt) := k1; rw [k1']; exact r1
   ·rcases r2.2.2 with h | ⟨h', t', F', hR', hN'⟩
    ·exact .inl h
    ·exact .inr ⟨h', t', F', ⟨hR'.nz, by have := hR'.le; omega, hR'.sd, hR'.two, hR'.fl, hR'.acc⟩, hN'⟩
   ·obtain ⟨X, x1, x2⟩ := r4.touch h0; exact ⟨X, by omega, x2⟩
 ·have hle := hR.le; have hflt : qAy (flat h t) := by rw [hR.fl]; exact hfl
  obtain ⟨W1, ps, F1, X1, k1, k2⟩ := qOo (T := T) (L := L) (c := c) hm hc h f W W.root t [] F (by omega) hR.acc hR.sd hR.two hflt (by omega)
  rw [hR.fl] at k2; have hn1 : W1.next + 2 <= 1152921504606846976 := by have := k2.kept.hi; omega
  obtain ⟨W', N', r1, r2, r3, r4⟩ := qYo (L := L) (W := W) (f := f + 1) hm (by omega) k2.fo k2.fl k2.two k2.big k2.acc k2.kept (by have := k2.use; simpa using this) k2.x k2.xs (hfl.chg hc) (by have := k2.cnt; omega) hn1
  have hnn : (secs h W.root t).length + ([] : List Int).length + (h + 1) + 1 <= N + H + 2 := by rw [hN]; simp only [List.length_nil]; omega
  refine ⟨W', N', ?_, ⟨r2.1, r2.2.1, ?_⟩, by omega, ⟨r4.lo, by have := r4.hi; omega, r4.mono, fun h => (r4.full h).imp id (fun h => by omega), r4.top.imp id (fun h => by omega), r4.room, fun h0 => ?_⟩⟩
  ·unfold oneM; rw [if_pos hR.nz, k1]; exact r1
  ·rcases r2.2.2 with h | ⟨h', t', F', hR', hN'⟩
   ·exact .inl h
   ·exact .inr ⟨h', t', F', ⟨hR'.nz, by have := hR'.le; omega, hR'.sd, hR'.two, hR'.fl, hR'.acc⟩, hN'⟩
  ·obtain ⟨X, x1, x2⟩ := r4.touch h0; exact ⟨X, by omega, x2⟩
end
section
open Go Go.RowKit
structure UK where
 key : ByteArray
 spot : Int
 fl : List KV
 us : List Int
def ueE (x : UK) : Ent := ⟨x.key, emp, x.spot⟩
def upt (x : UK) : ByteArray × Int := (x.key, x.spot)
def ufl (k : List UK) : List KV := k.flatMap (·.fl)
def uus (k : List UK) : List Int := k.flatMap (·.us)
theorem qBo (x : UK) (k : List UK) : ufl (x :: k) = x.fl ++ ufl k := by unfold ufl; rw [List.flatMap_cons]
theorem qBb (a b : List UK) : ufl (a ++ b) = ufl a ++ ufl b := by unfold ufl; rw [List.flatMap_append]
theorem qDf (x : UK) (k : List UK) : uus (x :: k) = x.us ++ uus k := by unfold uus; rw [List.flatMap_cons]
theorem qDj (a b : List UK) : uus (a ++ b) = uus a ++ uus b := by unfold uus; rw [List.flatMap_append]
theorem qLv : ufl [] = [] := rfl
theorem qHz : uus [] = [] := rfl
def Cu (look : Int -> Option NP) (u : Bool) : Nat -> Bool -> List Ent -> List KV -> List Int -> Prop
 | 0, b, es, fl, ks => b = true /\ es = eOf 0 fl /\ ks = []
 | h + 1, b, es, fl, ks => (b = true /\ es = eOf 0 fl /\ ks = []) ∨
   (b = false /\ ∃ k : List UK, es = k.map ueE /\ fl = ufl k /\ ks = uus k /\ (u = true -> ∃ b0, ∀ x ∈ k, ∃ es', look x.spot = some (b0, es')) ∧
    ∀ x ∈ k, ∃ b' es' ks', look x.spot = some (b', es') /\ qAu b' es' /\ Cu look u h b' es' x.fl ks' /\ x.us = x.spot :: ks' /\ fk es' = x.key)
def Su (look : Int -> Option NP) (u : Bool) (h : Nat) (x : UK) : Prop :=
 ∃ b' es' ks', look x.spot = some (b', es') /\ qAu b' es' /\ Cu look u h b' es' x.fl ks' /\ x.us = x.spot :: ks' /\ fk es' = x.key
theorem qIi {look : Int -> Option NP} {u : Bool} (h : Nat) (fl : List KV) : Cu look u h true (eOf 0 fl) fl [] := by
 cases h with
 | zero => exact ⟨rfl, rfl, rfl⟩
 | succ h => exact .inl ⟨rfl, rfl, rfl⟩
theorem qGe {look : Int -> Option NP} {u : Bool} {h : Nat} {es : List Ent} {fl : List KV} {ks : List Int} (k : Cu look u h true es fl ks) : es = eOf 0 fl /\ ks = [] := by
 cases h with
 | zero => exact k.2
 | succ h =>
  rcases k with k | k
  ·exact k.2
  ·cases k.1
theorem qEe {look : Int -> Option NP} {u : Bool} {h : Nat} {es : List Ent} {fl : List KV} {ks : List Int} (k : Cu look u h false es fl ks) :
  ∃ g, h = g + 1 /\ ∃ k : List UK, es = k.map ueE /\ fl = ufl k /\ ks = uus k /\ (u = true -> ∃ b0, ∀ x ∈ k, ∃ es', look x.spot = some (b0, es')) /\ ∀ x ∈ k, Su look u g x := by
 cases h with
 | zero => cases k.1
 | succ h =>
  rcases k with k | k
  ·cases k.1
  ·exact ⟨h, rfl, k.2⟩
theorem qMv {look : Int -> Option NP} {h : Nat} {k : List UK} (hk : ∀ x ∈ k, Su look false h x) : Cu look false (h + 1) false (k.map ueE) (ufl k) (uus k) :=
 .inr ⟨rfl, k, rfl, rfl, rfl, (fun e => by cases e), hk⟩
theorem Su.mem {look : Int -> Option NP} {u : Bool} {h : Nat} {x : UK} (k : Su look u h x) : x.spot ∈ x.us := by
 obtain ⟨_, _, _, _, _, _, h4, _⟩ := k; rw [h4]; exact List.mem_cons_self
theorem qDq {k : List UK} {x : UK} (hx : x ∈ k) {z : Int} (hz : z ∈ x.us) : z ∈ uus k := List.mem_flatMap.2 ⟨x, hx, hz⟩
theorem qTh {k : List UK} {x : UK} (hx : x ∈ k) {z : KV} (hz : z ∈ x.fl) : z ∈ ufl k := List.mem_flatMap.2 ⟨x, hx, hz⟩
theorem qJn {look look' : Int -> Option NP} {u : Bool} : ∀ {h : Nat} {b : Bool} {es : List Ent} {fl : List KV} {ks : List Int}, Cu look u h b es fl ks -> (∀ z ∈ ks, look' z = look z) -> Cu look' u h b es fl ks
 | 0, _, _, _, _, k, _ => k
 | h + 1, _, _, _, _, .inl k, _ => .inl k
 | h + 1, _, _, _, _, .inr ⟨h1, k, h2, h3, h4, h5, h6⟩, hl => .inr ⟨h1, k, h2, h3, h4,
   (fun e => by
    obtain ⟨b0, h7⟩ := h5 e; refine ⟨b0, fun x hx => ?_⟩
    obtain ⟨es', h8⟩ := h7 x hx; have hs : Su look u h x := h6 x hx; exact ⟨es', (hl _ (by rw [h4]; exact qDq hx hs.mem)).trans h8⟩),
   fun x hx => by
    have hs : Su look u h x := h6 x hx; obtain ⟨b', es', ks', q1, q2, q3, q4, q5⟩ := h6 x hx; exact ⟨b', es', ks', (hl _ (by rw [h4]; exact qDq hx hs.mem)).trans q1, q2, qJn q3 (fun z hz => hl z (by rw [h4]; exact qDq hx (by rw [q4]; exact List.mem_cons_of_mem _ hz))), q4, q5⟩⟩
theorem Su.congr {look look' : Int -> Option NP} {u : Bool} {h : Nat} {x : UK} (k : Su look u h x) (hl : ∀ z ∈ x.us, look' z = look z) : Su look' u h x := by
 obtain ⟨b', es', ks', q1, q2, q3, q4, q5⟩ := k; exact ⟨b', es', ks', (hl _ (by rw [q4]; exact List.mem_cons_self)).trans q1, q2, qJn q3 (fun z hz => hl z (by rw [q4]; exact List.mem_cons_of_mem _ hz)), q4, q5⟩
theorem jBs {look : Int -> Option NP} {u : Bool} : ∀ {h : Nat} {b : Bool} {es : List Ent} {fl : List KV} {ks : List Int}, Cu look u h b es fl ks -> Cu look false h b es fl ks
 | 0, _, _, _, _, k => k
 | h + 1, _, _, _, _, .inl k => .inl k
 | h + 1, _, _, _, _, .inr ⟨h1, k, h2, h3, h4, _, h6⟩ => .inr ⟨h1, k, h2, h3, h4, (fun e => by cases e), fun x hx => by
   obtain ⟨b', es', ks', q1, q2, q3, q4, q5⟩ := h6 x hx; exact ⟨b', es', ks', q1, q2, jBs q3, q4, q5⟩⟩
theorem Su.weak {look : Int -> Option NP} {u : Bool} {h : Nat} {x : UK} (k : Su look u h x) : Su look false h x := by
 obtain ⟨b', es', ks', q1, q2, q3, q4, q5⟩ := k; exact ⟨b', es', ks', q1, q2, jBs q3, q4, q5⟩
theorem jJr {look : Int -> Option NP} {u : Bool} : ∀ {h : Nat} {b : Bool} {es : List Ent} {fl : List KV} {ks : List Int}, Cu look u h b es fl ks -> Cu look u (h + 1) b es fl ks
 | 0, _, _, _, _, k => .inl k
 | h + 1, _, _, _, _, .inl k => .inl k
 | h + 1, _, _, _, _, .inr ⟨h1, k, h2, h3, h4, h5, h6⟩ => .inr ⟨h1, k, h2, h3, h4, h5, fun x hx => by
   obtain ⟨b', es', ks', q1, q2, q3, q4, q5⟩ := h6 x hx; exact ⟨b', es', ks', q1, q2, jJr q3, q4, q5⟩⟩
theorem Su.up {look : Int -> Option NP} {u : Bool} {h : Nat} {x : UK} (k : Su look u h x) : Su look u (h + 1) x := by
 obtain ⟨b', es', ks', q1, q2, q3, q4, q5⟩ := k; exact ⟨b', es', ks', q1, q2, jJr q3, q4, q5⟩
theorem jBu {look : Int -> Option NP} {h : Nat} {b : Bool} {e1 e2 : List Ent} {f1 f2 : List KV} {k1 k2 : List Int} (a : Cu look false h b e1 f1 k1) (c : Cu look false h b e2 f2 k2) : Cu look false h b (e1 ++ e2) (f1 ++ f2) (k1 ++ k2) := by
 cases b with
 | true =>
  obtain ⟨rfl, rfl⟩ := qGe a; obtain ⟨rfl, rfl⟩ := qGe c; have := qIi (look := look) (u := false) h (f1 ++ f2); have e : eOf 0 (f1 ++ f2) = eOf 0 f1 ++ eOf 0 f2 := List.map_append; rw [e] at this; exact this
 | false =>
  obtain ⟨g, rfl, x, rfl, rfl, rfl, _, h1⟩ := qEe a; obtain ⟨g', e, y, rfl, rfl, rfl, _, h2⟩ := qEe c; cases e
  rw [<- List.map_append, <- qBb, <- qDj]; exact qMv (fun z hz => (List.mem_append.1 hz).elim (h1 z) (h2 z))
theorem jJs {look : Int -> Option NP} {h : Nat} {b : Bool} {es : List Ent} {fl : List KV} {ks : List Int} (a : Cu look false h b es fl ks) (i : Nat) :
  ∃ f1 f2 k1 k2, fl = f1 ++ f2 /\ ks = k1 ++ k2 /\ Cu look false h b (es.take i) f1 k1 /\ Cu look false h b (es.drop i) f2 k2 := by
 cases b with
 | true =>
  obtain ⟨rfl, rfl⟩ := qGe a; refine ⟨fl.take i, fl.drop i, [], [], (List.take_append_drop i fl).symm, rfl, ?_, ?_⟩
  ·have e : (eOf 0 fl).take i = eOf 0 (fl.take i) := List.map_take.symm; rw [e]; exact qIi h _
  ·have e : (eOf 0 fl).drop i = eOf 0 (fl.drop i) := List.map_drop.symm; rw [e]; exact qIi h _
 | false =>
  obtain ⟨g, rfl, x, rfl, rfl, rfl, _, h1⟩ := qEe a; refine ⟨ufl (x.take i), ufl (x.drop i), uus (x.take i), uus (x.drop i), by rw [<- qBb, List.take_append_drop], by rw [<- qDj, List.take_append_drop], ?_, ?_⟩
  ·rw [<- List.map_take]; exact qMv (fun z hz => h1 z (List.mem_of_mem_take hz))
  ·rw [<- List.map_drop]; exact qMv (fun z hz => h1 z (List.mem_of_mem_drop hz))
def OkU (k : List UK) : Prop := ∀ x ∈ k, ∃ v r, x.fl = (x.key, v) :: r
theorem qVy {look : Int -> Option NP} {u : Bool} : ∀ {h : Nat} {b : Bool} {es : List Ent} {fl : List KV} {ks : List Int}, es ≠ [] -> Cu look u h b es fl ks -> ∃ v r, fl = (fk es, v) :: r
 | h, true, es, fl, ks, hne, k => by
  obtain ⟨rfl, _⟩ := qGe k; cases fl with
  | nil => exact absurd rfl hne
  | cons p r => exact ⟨p.2, r, rfl⟩
 | h, false, es, fl, ks, hne, k => by
  obtain ⟨g, rfl, x, rfl, rfl, _, _, h1⟩ := qEe k; cases x with
  | nil => exact absurd rfl hne
  | cons y r =>
   obtain ⟨b', es', ks', _, q2, q3, _, q5⟩ := h1 y List.mem_cons_self; obtain ⟨v, t, hf⟩ := qVy q2.ne q3; refine ⟨v, t ++ ufl r, ?_⟩; rw [qBo, hf, q5]; rfl
theorem Su.first {look : Int -> Option NP} {u : Bool} {h : Nat} {x : UK} (k : Su look u h x) : ∃ v r, x.fl = (x.key, v) :: r := by
 obtain ⟨b', es', ks', _, q2, q3, _, q5⟩ := k; obtain ⟨v, r, hf⟩ := qVy q2.ne q3; rw [q5] at hf; exact ⟨v, r, hf⟩
theorem oku {look : Int -> Option NP} {u : Bool} {h : Nat} {k : List UK} (hk : ∀ x ∈ k, Su look u h x) : OkU k := fun x hx => (hk x hx).first
theorem jGr {l : List UK} (k : OkU l) (ha : Asc (ufl l)) {e : UK} (he : e ∈ l) {p : KV} (hp : p ∈ e.fl) : p.1 = e.key \/ kl e.key p.1 = true := by
 obtain ⟨v, r, hf⟩ := k e he; have hs : Asc e.fl := by
  have : List.Sublist e.fl (ufl l) := by
   obtain ⟨a, b, rfl⟩ := List.append_of_mem he; rw [qBb, qBo]; exact (List.sublist_append_left _ _).trans (List.sublist_append_right _ _)
  exact ha.sublist this
 rw [hf] at hs hp; rcases List.mem_cons.1 hp with rfl | hp
 ·exact .inl rfl
 ·exact .inr ((List.pairwise_cons.1 hs).1 p hp)
theorem jGs {c : Cg} {a b : List UK} {e : UK} (k : OkU (a ++ e :: b)) (ha : Asc (ufl (a ++ e :: b)))
  (h1 : a = [] \/ e.key = c.key \/ kl e.key c.key = true) (h2 : ∀ x ∈ b, kl c.key x.key = true) :
  chg c (ufl (a ++ e :: b)) = ufl a ++ (chg c e.fl ++ ufl b) := by
 rw [qBb, qBo]; have ha' := ha; rw [qBb, qBo] at ha'; obtain ⟨_, _, hab⟩ := qBv.1 ha'; refine jCa (fun p hp => ?_) (fun p hp => ?_)
 ·rcases h1 with rfl | h1
  ·cases hp
  ·obtain ⟨v, r, hf⟩ := k e (List.mem_append_right _ List.mem_cons_self); have h3 : kl p.1 e.key = true := hab p hp (e.key, v) (List.mem_append_left _ (by rw [hf]; exact List.mem_cons_self))
   rcases h1 with h1 | h1
   ·rw [<- h1]; exact h3
   ·exact qCa h3 h1
 ·obtain ⟨x, hx, hp⟩ := List.mem_flatMap.1 hp; have h3 := h2 x hx; rcases jGr k ha (List.mem_append_right _ (List.mem_cons_of_mem _ hx)) hp with h4 | h4
  ·rw [h4]; exact h3
  ·exact qCa h3 h4
theorem qIq : ∀ {l : List UK}, OkU l -> Asc (ufl l) -> l.Pairwise (fun a b => kl a.key b.key = true)
 | [], _, _ => List.Pairwise.nil
 | e :: r, k, ha => by
  rw [qBo] at ha; obtain ⟨_, h2, h3⟩ := qBv.1 ha; have hr : OkU r := fun x hx => k x (List.mem_cons_of_mem _ hx)
  refine List.pairwise_cons.2 ⟨fun b hb => ?_, qIq hr h2⟩
  obtain ⟨v, q, hf⟩ := k e List.mem_cons_self; obtain ⟨v', q', hf'⟩ := hr b hb; exact h3 (e.key, v) (by rw [hf]; exact List.mem_cons_self) (b.key, v') (qTh hb (by rw [hf']; exact List.mem_cons_self))
theorem jIc {look : Int -> Option NP} {u : Bool} {h : Nat} {b : Bool} {es : List Ent} {fl : List KV} {ks : List Int} (hf : qAy fl) (hB : Cu look u h b es fl ks) (hs : ∀ x ∈ ks, 1 <= x /\ x <= 1152921504606846976) (hw : wt b es <= 1380) : qNo b es := by
 cases b with
 | true =>
  obtain ⟨rfl, _⟩ := qGe hB; have hk : (eOf 0 fl).map (·.key) = fl.map (·.1) := List.map_map; refine ⟨?_, fun x hx => ?_, fun x hx => ?_, fun h => (by cases h), hw⟩
  ·rw [hk]; refine qBt.2 ⟨List.Pairwise.map _ (fun _ _ h => h) hf.asc, fun k hk => ?_⟩
   obtain ⟨p, hp, rfl⟩ := List.mem_map.1 hk; exact (hf.ok p hp).1
  ·obtain ⟨p, hp, rfl⟩ := List.mem_map.1 hx; exact ⟨fun _ => rfl, fun h => by cases h⟩
  ·obtain ⟨p, hp, rfl⟩ := List.mem_map.1 hx; exact (hf.ok p hp).2
 | false =>
  obtain ⟨g, rfl, l, rfl, rfl, rfl, _, h1⟩ := qEe hB; have hok := oku h1; have hk : (l.map ueE).map (·.key) = l.map (·.key) := List.map_map; refine ⟨?_, fun x hx => ?_, fun x hx => ?_, fun _ x hx => ?_, hw⟩
  ·rw [hk]; refine qBt.2 ⟨List.Pairwise.map _ (fun _ _ h => h) (qIq hok hf.asc), fun k hk => ?_⟩
   obtain ⟨e, he, rfl⟩ := List.mem_map.1 hk; obtain ⟨v, r, hfl⟩ := hok e he; exact (hf.ok (e.key, v) (qTh he (by rw [hfl]; exact List.mem_cons_self))).1
  ·obtain ⟨p, hp, rfl⟩ := List.mem_map.1 hx; exact ⟨fun h => (by cases h), fun _ => rfl⟩
  ·obtain ⟨p, hp, rfl⟩ := List.mem_map.1 hx; exact Nat.zero_le _
  ·obtain ⟨e, he, rfl⟩ := List.mem_map.1 hx; exact hs e.spot (qDq he (h1 e he).mem)
structure KpU (T : TM) (W W' : WM) (L : Int) (R : List Int) (k : Nat) : Prop where
 other : ∀ x ∈ R, W'.look T x = W.look T x
 root : W'.root = W.root
 hi : W'.next <= W.next + k
 lo : W.next <= W'.next
 mono : W.full = true -> W'.full = true
 room : W'.full = false -> W'.next <= W.next \/ W'.next <= L
theorem KpU.trans {T : TM} {W W1 W2 : WM} {L : Int} {R R1 R2 : List Int} {k1 k2 k : Nat} (a : KpU T W W1 L R1 k1) (b : KpU T W1 W2 L R2 k2) (h1 : ∀ x ∈ R, x ∈ R1) (h2 : ∀ x ∈ R, x ∈ R2) (hk : k1 + k2 <= k) : KpU T W W2 L R k := by
 have a1 := a.lo; have a2 := a.hi; have b1 := b.lo; have b2 := b.hi; refine ⟨fun x hx => (b.other x (h2 x hx)).trans (a.other x (h1 x hx)), b.root.trans a.root, by omega, by omega, fun h => b.mono (a.mono h), fun h => ?_⟩
 have h1f : W1.full = false := by
  cases hh : W1.full with
  | false => rfl
  | true => have := b.mono hh; rw [h] at this; cases this
 rcases b.room h with h3 | h3
 ·rcases a.room h1f with h4 | h4
  ·exact .inl (by omega)
  ·exact .inr (by omega)
 ·exact .inr h3
theorem jAm {T : TM} {W : WM} {L : Int} {h : Nat} {b : Bool} {es : List Ent} {fl : List KV} {ks R ss F : List Int} (hA : Acc T W ss (ks ++ R) F) (hB : Cu (W.look T) false h b es fl ks) (hf : qAy fl) (hw : wt b es <= 1380) (hn : W.next + 2 <= 1152921504606846976) :
  ∃ (W' : WM) (ps : List UK) (F' : List Int), qBu T L W b es ss = some (W', ps.map upt) /\ (∀ x ∈ ps, Su (W'.look T) false h x) /\ (∀ x ∈ ps, ∃ e, W'.look T x.spot = some (b, e)) /\ ufl ps = fl /\ ps.length <= 2 ∧
   Acc T W' (uus ps) R F' /\ KpU T W W' L R (ps.length - ss.length) /\ W'.count = W.count /\ ((qAg b es).length <= 1024 -> ps.length <= 1) := by
 have hspot : ∀ x ∈ ks, 1 <= x /\ x <= 1152921504606846976 := fun x hx => by
  have := hA.spot (x := x) (.inr (.inr (List.mem_append_left _ hx))); omega
 have hS := jIc hf hB hspot hw; have hkeep : ∀ {W' : WM} {k n : Nat} {X : List Int}, Kept T W W' L (ks ++ R) k n X -> KpU T W W' L R k := fun {W' k n X} hk => ⟨fun x hx => hk.other x (List.mem_append_right _ hx), hk.root, hk.hi, hk.lo, hk.mono, hk.room⟩
 by_cases hne : es = []
 ·obtain ⟨W', ats, F', h1, h2, h3, h4, _, h6, h7⟩ := qDk (T := T) (L := L) (leaf := b) [] ss W (ks ++ R) F hA (fun x hx => by cases hx) (by show W.next + 0 <= _; omega)
  have h0 : ats = [] := List.eq_nil_of_length_eq_zero h2; subst h0; subst hne; have he : fl = [] /\ ks = [] := by
   cases b with
   | true =>
    obtain ⟨e1, e2⟩ := qGe hB; exact ⟨List.map_eq_nil_iff.1 e1.symm, e2⟩
   | false =>
    obtain ⟨g, rfl, k, e1, rfl, rfl, _⟩ := qEe hB; have := List.map_eq_nil_iff.1 e1.symm; subst this; exact ⟨rfl, rfl⟩
  obtain ⟨rfl, rfl⟩ := he; refine ⟨W', [], F', ?_, fun e he => (by cases he), fun e he => (by cases he), rfl, by simp, h4, hkeep h6, h7, fun _ => by simp⟩
  unfold qBu; rw [if_pos rfl, h1]; rfl
 ·rcases qQz hS hne with ⟨h1, hg⟩ | ⟨i, h1, hlo, hhi, hg1, hg2, hb1, hb2⟩
  ·obtain ⟨W', ats, F', k1, k2, k3, k4, k5, k6, k7⟩ := qDk (T := T) (L := L) (leaf := b) [es] ss W (ks ++ R) F hA (fun x hx => by rw [List.mem_singleton] at hx; subst hx; exact hg) (by simp only [List.length_cons, List.length_nil]; omega)
   match ats, k2 with
   | [a], _ =>
    have hlk := k5 (es, a) List.mem_cons_self; have hB' : Cu (W'.look T) false h b es fl ks := qJn hB (fun x hx => k6.other x (List.mem_append_left _ hx))
    have hp : uus [(⟨fk es, a, fl, a :: ks⟩ : UK)] = a :: ks := by unfold uus; simp
    refine ⟨W', [⟨fk es, a, fl, a :: ks⟩], F', ?_, ?_, ?_, by simp [ufl], by simp, ?_, hkeep k6, k7, fun _ => by simp⟩
    ·unfold qBu; rw [if_neg hne, h1, k1]; rfl
    ·intro e he; rw [List.mem_singleton] at he; subst he; exact ⟨b, es, ks, hlk, hg, hB', rfl, rfl⟩
    ·intro e he; rw [List.mem_singleton] at he; subst he; exact ⟨es, hlk⟩
    ·rw [hp]; exact k4.move (fun x => by simp only [List.count_cons, List.count_append, List.count_nil]; omega)
  ·obtain ⟨W', ats, F', k1, k2, k3, k4, k5, k6, k7⟩ := qDk (T := T) (L := L) (leaf := b) [es.take i, es.drop i] ss W (ks ++ R) F hA (fun x hx => by
    rcases List.mem_cons.1 hx with rfl | hx
    ·exact hg1
    ·rw [List.mem_singleton] at hx; subst hx; exact hg2) (by simp only [List.length_cons, List.length_nil]; omega)
   match ats, k2 with
   | [a, c], _ =>
    have hl1 := k5 (es.take i, a) List.mem_cons_self; have hl2 := k5 (es.drop i, c) (List.mem_cons_of_mem _ List.mem_cons_self); obtain ⟨f1, f2, ks1, ks2, rfl, rfl, c1, c2⟩ := jJs hB i; have hB1 : Cu (W'.look T) false h b (es.take i) f1 ks1 := qJn c1 (fun x hx => k6.other x (List.mem_append_left _ (List.mem_append_left _ hx)))
    have hB2 : Cu (W'.look T) false h b (es.drop i) f2 ks2 := qJn c2 (fun x hx => k6.other x (List.mem_append_left _ (List.mem_append_right _ hx)))
    have hp : uus [(⟨fk (es.take i), a, f1, a :: ks1⟩ : UK), ⟨fk (es.drop i), c, f2, c :: ks2⟩] = (a :: ks1) ++ (c :: ks2) := by unfold uus; simp
    refine ⟨W', [⟨fk (es.take i), a, f1, a :: ks1⟩, ⟨fk (es.drop i), c, f2, c :: ks2⟩], F', ?_, ?_, ?_, by simp [ufl], by simp, ?_, hkeep k6, k7, fun hle => ?_⟩
    ·unfold qBu; rw [if_neg hne, h1, k1]; rfl
    ·intro e he; rcases List.mem_cons.1 he with rfl | he
     ·exact ⟨b, _, ks1, hl1, hg1, hB1, rfl, rfl⟩
     ·rw [List.mem_singleton] at he; subst he; exact ⟨b, _, ks2, hl2, hg2, hB2, rfl, rfl⟩
    ·intro e he; rcases List.mem_cons.1 he with rfl | he
     ·exact ⟨_, hl1⟩
     ·rw [List.mem_singleton] at he; subst he; exact ⟨_, hl2⟩
    ·rw [hp]; exact k4.move (fun x => by
      simp only [List.count_cons, List.count_append, List.count_nil]; omega)
    ·exfalso
     have : qDo b es = [es] := by unfold qDo; rw [if_pos (.inr hle)]
     rw [this] at h1; have := congrArg List.length h1; simp at this
end
end Go.Proofs.YtgbcibdfeeiilaaGreatDoor
