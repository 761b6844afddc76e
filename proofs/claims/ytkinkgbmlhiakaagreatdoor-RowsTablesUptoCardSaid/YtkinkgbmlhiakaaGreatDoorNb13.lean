/- merged: TrO TrP RdT Push DecL TrR JrKp -/
import Derived.Test.YtkinkgbmlhiakaaGreatDoorNb12
import Derived.Test.YtkinkgbmlhiakaaGreatDoorNb04
import Derived.IntWalk
import Derived.Test.YtkinkgbmlhiakaaGreatDoorNb06
import Derived.Test.YtkinkgbmlhiakaaGreatDoorNb08
import Derived.Test.YtkinkgbmlhiakaaGreatDoorNb10
import Derived.Test.YtkinkgbmlhiakaaGreatDoorNb03
namespace Go.Proofs.YtkinkgbmlhiakaaGreatDoor
section
open Go Go.RowKit
theorem qVq {T : TM} {W : WM} {U R F : List Int} (h : Acc T W U R F) (s : Int) : Acc T (W.at s) U R F := ⟨h.chain, h.cnt, h.used, h.free, h.out, h.pos⟩
structure Rt (T : TM) (m : Nat) (W : WM) (l : List KV) (H h : Nat) (t : Tr h) (F : List Int) : Prop where
 nz : W.root ≠ 0
 le : h <= H
 sd : Sd (W.look T) m h W.root t
 two : m ≠ 0 -> 0 < h -> 2 <= tlen h t
 fl : flat h t = l
 acc : Acc T W (secs h W.root t) [] F
theorem qPj {T : TM} {m : Nat} (hm : m = 0 \/ m = 250) : ∀ (h f : Nat) (W : WM) (t : Tr h) (F : List Int), h < f -> Acc T W (secs h W.root t) [] F -> Sd (W.look T) m h W.root t →
  ∃ (W' : WM) (h' : Nat) (t' : Tr h') (F' : List Int), qFb T f W = some W' /\ Rt T m W' (flat h t) h h' t' F' /\ W'.count = W.count /\ W'.next = W.next /\ W'.full = W.full /\ (secs h' W'.root t').length <= (secs h W.root t).length ∧
   (m ≠ 0 -> ∀ x, (W'.nodes x ≠ none \/ W'.after x ≠ none) -> x = W.root \/ (W.nodes x ≠ none \/ W.after x ≠ none))
 | _, 0, _, _, _, h, _, _ => absurd h (Nat.not_lt_zero _)
 | 0, f + 1, W, t, F, _, hA, hS => by
  have hnz : W.root ≠ 0 := by have := hA.spot (x := W.root) (.inl (by rw [qDe]; exact List.mem_cons_self)); omega
  refine ⟨W, 0, t, F, ?_, ⟨hnz, Nat.le_refl _, hS, fun _ h => by omega, rfl, hA⟩, rfl, rfl, rfl, Nat.le_refl _, fun _ _ h => .inr h⟩
  have := hS.1; simp only [qFb, this]
 | h + 1, f + 1, W, l, F, hlt, hA, hS => by
  have hnz : W.root ≠ 0 := by have := hA.spot (x := W.root) (.inl (by rw [qDe]; exact List.mem_cons_self)); omega
  have hlk := hS.1.1; have hne : l ≠ ([] : List (TE (Tr h))) := fun e => hS.1.2.ne (by rw [e]; rfl)
  match l, hne, hlk, hA, hS with
  | [e], _, hlk, hA, hS =>
   obtain ⟨h1, h2, h3⟩ := hS.2 e (.head _); have hsec : secs (h + 1) W.root ([e] : List (TE (Tr h))) = W.root :: secs h e.spot e.sub := by
    show W.root :: qAl [e] = _; rw [qBn, qCe, List.append_nil]
   rw [hsec] at hA; have hA2 : Acc T ((W.release W.root).at e.spot) (secs h e.spot e.sub) [] (W.root :: F) := qVq (Acc.release hA) e.spot; have hroot : ∀ x ∈ secs h e.spot e.sub, x ≠ W.root := fun x hx he => by
    have h4 := hA.cnt x; rw [<- he, List.count_cons_self] at h4; have := List.count_pos_iff.2 hx; split at h4 <;> omega
   have hS2 : Sd (((W.release W.root).at e.spot).look T) m h e.spot e.sub := qEu h1 (fun x hx => qKe (hroot x hx))
   obtain ⟨W', h', t', F', k1, k2, k3, k4, k5, k6, k7⟩ := qPj hm h f ((W.release W.root).at e.spot) e.sub (W.root :: F) (by omega) hA2 hS2
   refine ⟨W', h', t', F', ?_, ⟨k2.nz, by have := k2.le; omega, k2.sd, k2.two, ?_, k2.acc⟩, k3, k4, k5, ?_, fun hm0 x hx => ?_⟩
   ·have e1 : eOf (h + 1) ([e] : List (TE (Tr h))) = [eE e] := rfl; rw [e1] at hlk; simp only [qFb, hlk]; exact k1
   ·rw [k2.fl]; show flat h e.sub = qAf [e]; simp [qAf]
   ·rw [hsec, List.length_cons]; have : (secs h' W'.root t').length <= (secs h e.spot e.sub).length := k6; omega
   ·
    have hstop : qFb T f ((W.release W.root).at e.spot) = some ((W.release W.root).at e.spot) := by
     have hm2 : m = 250 := hm.resolve_left hm0; subst hm2; cases f with
     | zero => exact absurd hlt (by omega)
     | succ f =>
      have hlk2 := (qLl hS2).1; have e5 : ((W.release W.root).at e.spot).root = e.spot := rfl; cases h with
      | zero =>
       simp only [qFb, e5, hlk2]; rfl
      | succ h =>
       have hmany := jAi hS2 h3; unfold tlen at hmany; obtain ⟨x1, x2, r, he⟩ : ∃ x1 x2 r, eOf (h + 1) e.sub = x1 :: x2 :: r := by
        match hq : eOf (h + 1) e.sub, hmany with
        | x1 :: x2 :: r, _ => exact ⟨x1, x2, r, rfl⟩
        | [_], hmany => simp at hmany
        | [], hmany => simp at hmany
       rw [he] at hlk2; simp only [qFb, e5, hlk2]; rfl
    rw [hstop] at k1; cases k1
    by_cases ex : x = W.root
    ·exact .inl ex
    ·simp only [WM.at, WM.release, qAm _ _ ex] at hx; exact .inr hx
  | e1 :: e2 :: r, _, hlk, hA, hS =>
   refine ⟨W, h + 1, (e1 :: e2 :: r : List (TE (Tr h))), F, ?_, ⟨hnz, Nat.le_refl _, hS, fun _ _ => ?_, rfl, hA⟩, rfl, rfl, rfl, Nat.le_refl _, fun _ _ h => .inr h⟩
   ·have e1' : eOf (h + 1) (e1 :: e2 :: r : List (TE (Tr h))) = eE e1 :: eE e2 :: r.map eE := rfl; rw [e1'] at hlk; simp only [qFb, hlk]
   ·show 2 <= (List.map _ (e1 :: e2 :: r)).length; simp
def WI (T : TM) (m : Nat) (W : WM) (l : List KV) (H N : Nat) : Prop :=
 qCw l /\ W.count = l.length /\ ((W.root = 0 /\ l = [] /\ N = 0 /\ ∃ F, Acc T W [] [] F) \/ ∃ (h : Nat) (t : Tr h) (F : List Int), Rt T m W l H h t F /\ (secs h W.root t).length = N)
structure Onx (m : Nat) (L : Int) (W W' : WM) (k n x : Nat) : Prop where
 lo : W.next <= W'.next
 hi : W'.next <= W.next + k
 mono : W.full = true -> W'.full = true
 full : W'.full = true -> W.full = true \/ L <= (n : Int)
 top : W'.next <= W.next \/ W'.next <= (n : Int) + 1
 room : W'.full = false -> W'.next <= W.next \/ W'.next <= L
 touch : m ≠ 0 -> ∃ X : List Int, X.length <= x /\ ∀ y, (W'.nodes y ≠ none \/ W'.after y ≠ none) -> y ∈ X \/ (W.nodes y ≠ none \/ W.after y ≠ none)
theorem qYp {T : TM} {L : Int} {m h : Nat} (hm : m = 0 \/ m = 250) {W W1 : WM} {ps : List (TE (Tr h))} {new : List KV} {n : Nat} {F1 X1 : List Int} {f : Nat} (hf : h + 1 < f)
  (fo : Fo (W1.look T) m h ps) (fl : qAf ps = new) (two : ps.length <= 2) (big : ps.length = 2 -> ∀ e ∈ ps, 250 <= wtN h e.sub) (hA : Acc T W1 (qAl ps) [] F1) (hk : Kept T W W1 L [] (h + 1) n X1) (hu : (qAl ps).length <= n) (hx : X1.length <= 3 * h + 2) (hxs : ∀ e ∈ ps, e.spot ∈ X1)
  (hf2 : qCw new) (hc : W1.count = new.length) (hn : W1.next + 2 <= 1152921504606846976) :
  ∃ (W' : WM) (N : Nat), topM T L f W1 (ps.map pt) = some W' /\ WI T m W' new (h + 1) N /\ N <= n + 1 /\ Onx m L W W' (h + 2) (n + 1) (3 * h + 3) := by
 match ps, two, fo, fl, big, hA, hu, hxs with
 | [], _, _, fl, _, hA, _, _ =>
  have hnew : new = [] := fl.symm; refine ⟨W1.at 0, 0, rfl, ⟨hf2, hc, .inl ⟨rfl, hnew, rfl, F1, qVq hA 0⟩⟩, Nat.zero_le _, ⟨hk.lo, by have h1 : W1.next <= _ := hk.hi; show W1.next <= _; omega, hk.mono, fun h => (hk.full h).imp id (fun h => by omega), hk.top.imp id (fun h => ?_), hk.room, fun _ => ⟨X1, by omega, hk.touch⟩⟩⟩
  have h1 : W1.next <= _ := h; show W1.next <= _; omega
 | [p], _, fo, fl, _, hA, hu, hxs =>
  obtain ⟨s1, s2⟩ := fo p List.mem_cons_self; have hps : qAl [p] = secs h p.spot p.sub := by rw [qBn, qCe, List.append_nil]
  rw [hps] at hA hu; obtain ⟨W', h', t', F', k1, k2, k3, k4, k5, k6, k7⟩ := qPj hm h f (W1.at p.spot) p.sub F1 (by omega) (qVq hA p.spot) s1
  have hfl : flat h p.sub = new := by rw [<- fl]; simp [qAf]
  have e1 : (W1.at p.spot).next = W1.next := rfl; have e2 : (W1.at p.spot).full = W1.full := rfl; rw [e1] at k4; rw [e2] at k5; refine ⟨W', (secs h' W'.root t').length, k1, ⟨hf2, k3.trans hc, .inr ⟨h', t', F', ⟨k2.nz, by have := k2.le; omega, k2.sd, k2.two, k2.fl.trans hfl, k2.acc⟩, rfl⟩⟩, ?_, ⟨by rw [k4]; exact hk.lo, by rw [k4]; have := hk.hi; omega, fun h => by rw [k5]; exact hk.mono h, fun h => (hk.full (by rw [<- k5]; exact h)).imp id (fun h => by omega), by rw [k4]; exact hk.top.imp id (fun h => by omega), fun h => by rw [k4]; exact hk.room (by rw [<- k5]; exact h), fun h0 => ⟨X1, by omega, fun y hy => ?_⟩⟩⟩
  ·have : (secs h' W'.root t').length <= (secs h p.spot p.sub).length := k6; omega
  ·rcases k7 h0 y hy with h8 | h8
   ·exact .inl (by rw [h8]; exact hxs p List.mem_cons_self)
   ·exact hk.touch y h8
 | [p, q], _, fo, fl, big, hA, hu, hxs =>
  have hB : Lowr (W1.look T) m (h + 1) ([p, q] : List (TE (Tr h))) := fun e he => by
   have he : e ∈ [p, q] := he; refine ⟨(fo e he).1, (fo e he).2, ?_⟩; have := big rfl e he; rcases hm with rfl | rfl <;> omega
  have hA2 : Acc T W1 [] (qDo (h + 1) ([p, q] : List (TE (Tr h))) ++ []) F1 := hA.move (fun z => by
   rw [qJl]; simp only [List.count_append, List.count_nil]; omega)
  have hflat : qCw (flat (h + 1) ([p, q] : List (TE (Tr h)))) := by
   show qCw (qAf [p, q]); rw [fl]; exact hf2
  have hent : ∀ e ∈ [p, q], (entL false (eE e)).length <= 58 := fun e he => by
   obtain ⟨v, r, hfe⟩ := qHh (fun e he => ⟨qOb (fo e he).1, (fo e he).2⟩ : Ok [p, q]) he
   have hmem : (e.key, v) ∈ qAf [p, q] := by
    unfold qAf; exact List.mem_flatMap.2 ⟨e, he, by rw [hfe]; exact List.mem_cons_self⟩
   rw [fl] at hmem; refine qJv (leaf := false) (hf2.ok _ hmem).1.2 (Nat.zero_le _) (fun _ => ?_)
   have := hA.spot (x := e.spot) (.inl (by
    unfold qAl; exact List.mem_flatMap.2 ⟨e, he, by rw [qDe]; exact List.mem_cons_self⟩))
   show e.spot <= _; omega
  have hw : wt false (eOf (h + 1) ([p, q] : List (TE (Tr h)))) <= 116 := by
   have h1 := hent p List.mem_cons_self; have h2 := hent q (List.mem_cons_of_mem _ List.mem_cons_self); rw [qBk, List.map_cons, List.map_cons, List.map_nil, qEz, qHd]; omega
  have hb : (qAn (lf (h + 1)) (eOf (h + 1) ([p, q] : List (TE (Tr h))))).length <= 1024 := by
   have h1 : (eOf (h + 1) ([p, q] : List (TE (Tr h)))).length = 2 := rfl; have h2 := qDy (leaf := false) (es := eOf (h + 1) ([p, q] : List (TE (Tr h)))) (by rw [h1]; omega)
   rw [h1] at h2; show (qAn false _).length <= _; rw [h2]; simp only [show ¬ (127 : Nat) < 2 by omega, if_false]
   omega
  obtain ⟨W2, ps2, F2, k1, k2, k3, k4, k5, _, k6, k7, k8, k9, k10, k11⟩ := jAt (L := L) (h := h + 1) (m := m) (t := ([p, q] : List (TE (Tr h)))) hA2 hB hflat (by show wt false _ <= _; omega) hn
  have h1 := k6 hb
  match ps2, h1, k1, k2, k3, k5, k7, k8, k10, k11 with
  | [], _, _, _, k3, _, _, _, _, _ =>
   exfalso
   have h2 : flat (h + 1) ([p, q] : List (TE (Tr h))) = [] := k3.symm; obtain ⟨v, r, hfe⟩ := qHh (fun e he => ⟨qOb (fo e he).1, (fo e he).2⟩ : Ok [p, q]) (e := p) List.mem_cons_self
   have h3 : qAf [p, q] = flat h p.sub ++ (flat h q.sub ++ []) := by unfold qAf; rw [List.flatMap_cons, List.flatMap_cons, List.flatMap_nil]
   have h4 : qAf [p, q] = [] := h2; rw [h3, hfe] at h4; cases h4
  | [r], _, k1, k2, k3, k5, k7, k8, k10, k11 =>
   obtain ⟨s1, s2⟩ := k2 r List.mem_cons_self; have hps : qAl [r] = secs (h + 1) r.spot r.sub := by rw [qBn, qCe, List.append_nil]
   rw [hps] at k7 k11 k8; obtain ⟨W', h', t', F', r1, r2, r3, r4, r5, r6, r7⟩ := qPj hm (h + 1) f (W2.at r.spot) r.sub F2 (by omega) (qVq k7 r.spot) s1
   have hfl : flat (h + 1) r.sub = new := by
    have h2 : qAf [r] = flat (h + 1) r.sub := by simp [qAf]
    rw [<- h2, k3]; exact fl
   have e1 : (W2.at r.spot).next = W2.next := rfl; have e2 : (W2.at r.spot).full = W2.full := rfl; rw [e1] at r4; rw [e2] at r5; have hlen : (secs (h + 1) r.spot r.sub).length <= n + 1 := by
    rw [k11, qJl]; simp only [List.length_cons, List.length_nil]; omega
   have hkk : Kept T W W2 L [] (h + 2) (n + 1) (r.spot :: X1) := qJm (R2 := []) hk k8 (fun x h => h) (fun x h => h) (by simp) (by omega) (by simp only [List.length_nil]; omega) (fun x hx => List.mem_cons_of_mem _ hx) (fun x hx => by
    simp at hx
    rw [hx]; exact List.mem_cons_self)
   refine ⟨W', (secs h' W'.root t').length, ?_, ⟨hf2, r3.trans (k9.trans hc), .inr ⟨h', t', F', ⟨r2.nz, r2.le, r2.sd, r2.two, r2.fl.trans hfl, r2.acc⟩, rfl⟩⟩, ?_, ⟨by rw [r4]; exact hkk.lo, by rw [r4]; exact hkk.hi, fun h => by rw [r5]; exact hkk.mono h, fun h => hkk.full (by rw [<- r5]; exact h), by rw [r4]; exact hkk.top, fun h => by rw [r4]; exact hkk.room (by rw [<- r5]; exact h), fun h0 => ⟨r.spot :: X1, by rw [List.length_cons]; omega, fun y hy => ?_⟩⟩⟩
   ·show ((qBy T L W1 false ((([p, q] : List (TE (Tr h))).map pt).map qMr) []).bind _) = _; have e3 : (([p, q] : List (TE (Tr h))).map pt).map qMr = eOf (h + 1) ([p, q] : List (TE (Tr h))) := rfl; have k1' : qBy T L W1 false (eOf (h + 1) ([p, q] : List (TE (Tr h)))) [] = some (W2, [r].map pt) := k1; rw [e3, k1']; exact r1
   ·have : (secs h' W'.root t').length <= (secs (h + 1) r.spot r.sub).length := r6; omega
   ·rcases r7 h0 y hy with h8 | h8
    ·exact .inl (by rw [h8]; exact List.mem_cons_self)
    ·exact hkk.touch y h8
theorem jAa {T : TM} {L : Int} {c : Cg} {m : Nat} (hm : m = 0 \/ m = 250) (hc : CgOk c) {W : WM} {l : List KV} {H N f : Nat} (hW : WI T m W l H N) (hf : H < f) (hn : W.next + (H + 4) <= 1152921504606846976) :
  ∃ (W' : WM) (N' : Nat), oneM T L f W c = some W' /\ WI T m W' (chg c l) (H + 1) N' /\ N' <= N + H + 2 /\ Onx m L W W' (H + 2) (N + H + 2) (3 * H + 3) := by
 obtain ⟨hfl, hcn, hroot⟩ := hW; rcases hroot with ⟨h0, rfl, rfl, F, hA⟩ | ⟨h, t, F, hR, hN⟩
 ·cases hg : c.gone with
  | true =>
   have hch : chg c [] = [] := by unfold chg Cg.put; rw [hg]; rfl
   refine ⟨W, 0, ?_, ⟨by rw [hch]; exact hfl, by rw [hch]; exact hcn, .inl ⟨h0, hch, rfl, F, hA⟩⟩, Nat.zero_le _, ⟨Int.le_refl _, by omega, fun h => h, fun h => .inl h, .inl (Int.le_refl _), fun _ => .inl (Int.le_refl _), fun _ => ⟨[], Nat.zero_le _, fun _ h => .inr h⟩⟩⟩
   unfold oneM; rw [if_neg (fun h => h h0), hg]
   rfl
  | false =>
   have hch : chg c [] = [(c.key, c.value)] := by unfold chg Cg.put; rw [hg]; rfl
   have hok := qCw.chg hfl hc; rw [hch] at hok ⊢; have hA2 : Acc T (W.add 1) [] (qDo 0 ([(c.key, c.value)] : List KV) ++ []) F := ⟨hA.chain, hA.cnt, hA.used, hA.free, hA.out, hA.pos⟩; have hw : wt true [(⟨c.key, c.value, 0⟩ : Ent)] <= 251 := by
    rw [qHd]; exact qJv (leaf := true) hc.key hc.value (fun h => by cases h)
   have hb : (qAn true [(⟨c.key, c.value, 0⟩ : Ent)]).length <= 1024 := by
    have h2 := qDy (leaf := true) (es := [(⟨c.key, c.value, 0⟩ : Ent)]) (by simp)
    rw [h2]; simp only [List.length_cons, List.length_nil, show ¬ (127 : Nat) < 0 + 1 by omega, if_false]
    omega
   obtain ⟨W1, ps, F1, k1, k2, k3, k4, k5, kb, k6, k7, k8, k9, k10, k11⟩ := jAt (L := L) (h := 0) (m := m) (t := ([(c.key, c.value)] : List KV)) hA2 trivial hok (by show wt true _ <= _; exact Nat.le_trans hw (by omega)) (by show W.next + 2 <= _; omega)
   have h1 := k6 hb; have hk8 : Kept T W W1 L [] (0 + 1) 1 (ps.map (·.spot)) := by
    have hk : Kept T (W.add 1) W1 L [] (ps.length - 0) ((qAl ps).length + 0) ([] ++ (ps.map (·.spot)).drop 0) := k8; have hl : (qAl ps).length <= 1 := by rw [k11]; show 0 + ps.length <= 1; omega
    refine ⟨fun x hx => (by cases hx), hk.root, hk.lo, ?_, hk.mono, fun h => (hk.full h).imp id (fun h => by omega), hk.top.imp id (fun h => ?_), hk.room, fun x hx => ?_⟩
    ·have h2 : W1.next <= W.next + ((ps.length - 0 : Nat) : Int) := hk.hi; omega
    ·have h2 : W1.next <= _ := h; omega
    ·rcases hk.touch x hx with h3 | h3
     ·exact .inl (by simpa using h3)
     ·exact .inr h3
   obtain ⟨W', N', r1, r2, r3, r4⟩ := qYp (L := L) (W := W) (f := f + 1) (n := 1) hm (by omega) k2 k3 k4 kb k7 hk8 (by rw [k11]; show 0 + ps.length <= 1; omega) (by rw [List.length_map]; omega) (fun e he => List.mem_map_of_mem he) hok (by
     have h2 : W1.count = W.count + 1 := k9; rw [h2, hcn]; rfl) (by have h2 : W1.next <= W.next + (0 + 1 : Nat) := hk8.hi; omega)
   refine ⟨W', N', ?_, ⟨r2.1, r2.2.1, ?_⟩, by omega, ⟨r4.lo, by have := r4.hi; omega, r4.mono, fun h => (r4.full h).imp id (fun h => by omega), r4.top.imp id (fun h => by omega), r4.room, fun h0 => ?_⟩⟩
   ·unfold oneM; rw [if_neg (fun h => h h0), hg]
    simp only [Bool.false_eq_true, if_false]; have k1' : qBy T L (W.add 1) true [(⟨c.key, c.value, 0⟩ : Ent)] [] = some (W1, ps.map pt) := k1; rw [k1']; exact r1
   ·rcases r2.2.2 with h | ⟨h', t', F', hR', hN'⟩
    ·exact .inl h
    ·exact .inr ⟨h', t', F', ⟨hR'.nz, by have := hR'.le; omega, hR'.sd, hR'.two, hR'.fl, hR'.acc⟩, hN'⟩
   ·obtain ⟨X, x1, x2⟩ := r4.touch h0; exact ⟨X, by omega, x2⟩
 ·have hle := hR.le; have hflt : qCw (flat h t) := by rw [hR.fl]; exact hfl
  obtain ⟨W1, ps, F1, X1, k1, k2⟩ := qNw (T := T) (L := L) (c := c) hm hc h f W W.root t [] F (by omega) hR.acc hR.sd hR.two hflt (by omega)
  rw [hR.fl] at k2; have hn1 : W1.next + 2 <= 1152921504606846976 := by have := k2.kept.hi; omega
  obtain ⟨W', N', r1, r2, r3, r4⟩ := qYp (L := L) (W := W) (f := f + 1) hm (by omega) k2.fo k2.fl k2.two k2.big k2.acc k2.kept (by have := k2.use; simpa using this) k2.x k2.xs (hfl.chg hc) (by have := k2.cnt; omega) hn1
  have hnn : (secs h W.root t).length + ([] : List Int).length + (h + 1) + 1 <= N + H + 2 := by rw [hN]; simp only [List.length_nil]; omega
  refine ⟨W', N', ?_, ⟨r2.1, r2.2.1, ?_⟩, by omega, ⟨r4.lo, by have := r4.hi; omega, r4.mono, fun h => (r4.full h).imp id (fun h => by omega), r4.top.imp id (fun h => by omega), r4.room, fun h0 => ?_⟩⟩
  ·unfold oneM; rw [if_pos hR.nz, k1]; exact r1
  ·rcases r2.2.2 with h | ⟨h', t', F', hR', hN'⟩
   ·exact .inl h
   ·exact .inr ⟨h', t', F', ⟨hR'.nz, by have := hR'.le; omega, hR'.sd, hR'.two, hR'.fl, hR'.acc⟩, hN'⟩
  ·obtain ⟨X, x1, x2⟩ := r4.touch h0; exact ⟨X, by omega, x2⟩
end
section
open Go Go.RowKit
theorem qLx {T : TM} {W : WM} {x : Int} (ha : W.after x = none) : (W.done T).nodes x = W.look T x := by
 unfold WM.done WM.look; simp only [ha]; rfl
theorem qLy {T : TM} {W : WM} {x : Int} (hn : W.nodes x = none) (ht : W.after x = none -> W.taken x = false) : (W.done T).after x = W.link T x := by
 unfold WM.done WM.link; simp only [hn]; cases ha : W.after x with
 | some y => rfl
 | none => simp [ht ha]
theorem qVd {T : TM} {W : WM} {U F : List Int} (h : Acc T W U [] F) : Acc (W.done T) (W.done T).begin U [] F := by
 refine ⟨?_, h.cnt, fun x hx => ⟨rfl, fun _ => ⟨rfl, ?_⟩⟩, fun x hx => ⟨rfl, fun _ => ⟨rfl, ?_⟩⟩, fun x hx => ⟨rfl, rfl, rfl, ?_, ?_⟩, h.pos⟩
 ·refine qFx h.chain (fun x hx => ?_)
  obtain ⟨h1, h2⟩ := h.free x hx; show (W.done T).after x = _; exact qLy h1 (fun e => (h2 e).1)
 ·obtain ⟨h1, h2⟩ := h.used x hx; show (W.done T).after x = none; cases hn : W.nodes x with
  | some n => unfold WM.done; simp [hn]
  | none =>
   obtain ⟨h3, h4⟩ := h2 hn; rw [qLy hn (fun _ => h3)]
   unfold WM.link; rw [h1]; exact h4
 ·obtain ⟨h1, h2⟩ := h.free x hx; show (W.done T).nodes x = none; cases ha : W.after x with
  | some y => unfold WM.done; simp [h1, ha]
  | none =>
   rw [qLx ha]; unfold WM.look; rw [h1]; exact (h2 ha).2
 ·obtain ⟨h1, h2, h3, h4, h5⟩ := h.out x hx; show (W.done T).nodes x = none; rw [qLx h2]; unfold WM.look; rw [h1]; exact h4
 ·obtain ⟨h1, h2, h3, h4, h5⟩ := h.out x hx; show (W.done T).after x = none; rw [qLy h1 (fun _ => h3)]
  unfold WM.link; rw [h2]; exact h5
def TI (T : TM) (m : Nat) (l : List KV) (H N : Nat) : Prop := WI T m T.begin l H N
theorem qVc {T : TM} {W : WM} {m : Nat} {l : List KV} {H N : Nat} (h : WI T m W l H N) : TI (W.done T) m l H N := by
 obtain ⟨h1, h2, h3⟩ := h; refine ⟨h1, h2, ?_⟩; rcases h3 with ⟨h4, h5, h6, F, h7⟩ | ⟨ht, t, F, h4, h5⟩
 ·exact .inl ⟨h4, h5, h6, F, qVd h7⟩
 ·refine .inr ⟨ht, t, F, ⟨h4.nz, h4.le, ?_, h4.two, h4.fl, qVd h4.acc⟩, h5⟩; refine qEu h4.sd (fun x hx => ?_)
  show (W.done T).nodes x = _; exact qLx ((h4.acc.used x (.inl hx)).1)
def newT : TM := ⟨0, 1, 0, 0, fun _ => none, fun _ => none⟩
theorem jHt (m H : Nat) : TI newT m [] H 0 := by
 refine ⟨⟨List.Pairwise.nil, (fun _ h => by cases h)⟩, rfl, .inl ⟨rfl, rfl, rfl, [], ⟨rfl, fun x => ?_, fun x hx => ?_, (fun x hx => by cases hx), fun x hx => ⟨rfl, rfl, rfl, rfl, rfl⟩, Int.le_refl _⟩⟩⟩
 ·have : ¬ (1 <= x /\ x < (newT.begin).next) := fun h => by
   have h2 : x < 1 := h.2; omega
  rw [if_neg this]; rfl
 ·rcases hx with hx | hx <;> cases hx
theorem qQg {look : Int -> Option NP} : ∀ {h : Nat} {s : Int} {t : Tr h}, Sd look 250 h s t -> 250 <= wtN h t -> 5 ^ h <= (secs h s t).length
 | 0, _, _, _, _ => Nat.le_refl _
 | h + 1, s, l, k, hw => by
  have hl : 5 <= (eOf (h + 1) l).length := qBj.many k.1.2 hw; have hl2 : 5 <= List.length (α := TE (Tr h)) l := by
   have e : (eOf (h + 1) l).length = List.length (α := TE (Tr h)) l := List.length_map ..; omega
  have aux : ∀ r : List (TE (Tr h)), (∀ e ∈ r, Sd look 250 h e.spot e.sub /\ 250 <= wtN h e.sub) -> r.length * 5 ^ h <= (qAl r).length := by
   intro r; induction r with
   | nil => intro _; simp [qCe]
   | cons e r ih =>
    intro hr; rw [qBn, List.length_append, List.length_cons, Nat.add_mul]; have h1 := qQg (hr e List.mem_cons_self).1 (hr e List.mem_cons_self).2; have h2 := ih (fun x hx => hr x (List.mem_cons_of_mem _ hx))
    omega
  have h1 := aux l (fun e he => ⟨(k.2 e he).1, (k.2 e he).2.2⟩)
  have h2 : 5 * 5 ^ h <= List.length (α := TE (Tr h)) l * 5 ^ h := Nat.mul_le_mul_right _ hl2; show 5 ^ (h + 1) <= (s :: qAl l).length; rw [List.length_cons, Nat.pow_succ]; omega
theorem jDr {look : Int -> Option NP} {h : Nat} {s : Int} {t : Tr (h + 1)} (k : Sd look 250 (h + 1) s t) (h2 : 2 <= tlen (h + 1) t) : 2 * 5 ^ h <= (secs (h + 1) s t).length := by
 have hl2 : 2 <= List.length (α := TE (Tr h)) t := by
  have e : (eOf (h + 1) t).length = List.length (α := TE (Tr h)) t := List.length_map ..; unfold tlen at h2; omega
 have aux : ∀ r : List (TE (Tr h)), (∀ e ∈ r, Sd look 250 h e.spot e.sub /\ 250 <= wtN h e.sub) -> r.length * 5 ^ h <= (qAl r).length := by
  intro r; induction r with
  | nil => intro _; simp [qCe]
  | cons e r ih =>
   intro hr; rw [qBn, List.length_append, List.length_cons, Nat.add_mul]; have h1 := qQg (hr e List.mem_cons_self).1 (hr e List.mem_cons_self).2; have h2 := ih (fun x hx => hr x (List.mem_cons_of_mem _ hx))
   omega
 have h1 := aux t (fun e he => ⟨(k.2 e he).1, (k.2 e he).2.2⟩)
 have h2 : 2 * 5 ^ h <= List.length (α := TE (Tr h)) t * 5 ^ h := Nat.mul_le_mul_right _ hl2; show 2 * 5 ^ h <= (s :: qAl t).length; rw [List.length_cons]; omega
theorem WI.high {T : TM} {W : WM} {l : List KV} {H N : Nat} (h : WI T 250 W l H N) (k : Nat) (hk : N < 2 * 5 ^ k) : WI T 250 W l k N := by
 obtain ⟨h1, h2, h3⟩ := h; refine ⟨h1, h2, ?_⟩; rcases h3 with h4 | ⟨ht, t, F, h4, h5⟩
 ·exact .inl h4
 ·refine .inr ⟨ht, t, F, ⟨h4.nz, ?_, h4.sd, h4.two, h4.fl, h4.acc⟩, h5⟩; cases ht with
  | zero => exact Nat.zero_le _
  | succ g =>
   have h6 := jDr h4.sd (h4.two (by omega) (by omega))
   by_cases hg : g + 1 <= k
   ·exact hg
   ·have : 5 ^ k <= 5 ^ g := Nat.pow_le_pow_right (by omega) (by omega)
    omega
theorem WI.spots {T : TM} {m : Nat} {W : WM} {l : List KV} {H N : Nat} (h : WI T m W l H N) : (N : Int) <= W.next - 1 /\ 1 <= W.next := by
 obtain ⟨_, _, h3⟩ := h; rcases h3 with ⟨_, _, rfl, F, hA⟩ | ⟨ht, t, F, h4, h5⟩
 ·have := hA.len; have := hA.pos; simp only [List.length_nil] at *; omega
 ·have := h4.acc.len; have := h4.acc.pos; simp only [List.length_nil] at *; omega
def chgs (cs : List Cg) (l : List KV) : List KV := cs.foldl (fun l c => chg c l) l
def qMv (W : WM) (y : Int) : Prop := W.nodes y ≠ none \/ W.after y ≠ none
structure Allx (L : Int) (W W' : WM) (N N' k : Nat) : Prop where
 lo : W.next <= W'.next
 hi : W'.next <= W.next + 32 * k
 mono : W.full = true -> W'.full = true
 use : N' <= N + 32 * k
 sharp : W.full = false -> W.next <= L -> L <= 16384 -> (W'.full = true -> L <= (N : Int) + 8 * k) /\ (W'.full = false -> W'.next <= L /\ N' <= N + 8 * k /\ ∃ X : List Int, X.length <= 21 * k /\ ∀ y, qMv W' y -> y ∈ X \/ qMv W y)
theorem jCt {T : TM} {L : Int} : ∀ (cs : List Cg) (W : WM) (l : List KV) (H N : Nat), (∀ c ∈ cs, CgOk c) -> WI T 250 W l H N -> W.next + 32 * cs.length <= 576460752303423488 →
  ∃ (W' : WM) (N' : Nat), allM T L 70 cs W = some W' /\ WI T 250 W' (chgs cs l) 26 N' /\ Allx L W W' N N' cs.length
 | [], W, l, H, N, _, hW, hn => by
  have hs := hW.spots; simp only [List.length_nil] at hn; exact ⟨W, N, rfl, hW.high 26 (by omega), Int.le_refl _, by simp, fun h => h, by simp, fun hf hl _ => ⟨fun h => (by rw [hf] at h; cases h), fun _ => ⟨hl, by simp, [], by simp, fun y hy => .inr hy⟩⟩⟩
 | c :: cs, W, l, H, N, hc, hW, hn => by
  have hs := hW.spots; simp only [List.length_cons] at hn; have hW1 := hW.high 26 (by omega)
  obtain ⟨W1, N1, k1, k2, k3, k4⟩ := jAa (L := L) (f := 70) (.inr rfl) (hc c List.mem_cons_self) hW1 (by omega) (by omega)
  have hhi := k4.hi; obtain ⟨W', N', r1, r2, r3⟩ := jCt (L := L) cs W1 (chg c l) _ N1 (fun x hx => hc x (List.mem_cons_of_mem _ hx)) k2 (by omega)
  have rhi := r3.hi; have rlo := r3.lo; have ruse := r3.use; have klo := k4.lo; refine ⟨W', N', ?_, r2, Int.le_trans klo rlo, ?_, fun h => r3.mono (k4.mono h), ?_, fun hf hl hL => ?_⟩
  ·show (oneM T L 70 W c).bind _ = _; rw [k1]; exact r1
  ·simp only [List.length_cons]; omega
  ·simp only [List.length_cons]; omega
  ·simp only [List.length_cons]; have hW6 := hW.high 6 (by omega)
   obtain ⟨W2, N2, j1, j2, j3, j4⟩ := jAa (L := L) (f := 70) (.inr rfl) (hc c List.mem_cons_self) hW6 (by omega) (by omega)
   rw [k1] at j1; cases j1
   have hN : N1 = N2 := by
    obtain ⟨_, _, a⟩ := k2; obtain ⟨_, _, b⟩ := j2; rcases a with ⟨a1, _, a3, _⟩ | ⟨h1, t1, F1, a1, a2⟩
    ·rcases b with ⟨b1, _, b3, _⟩ | ⟨h2, t2, F2, b1, _⟩
     ·rw [a3, b3]
     ·exact absurd a1 b1.nz
    ·rcases b with ⟨b1, _, b3, _⟩ | ⟨h2, t2, F2, b1, b2⟩
     ·exact absurd b1 a1.nz
     ·have hF : F1 = F2 := by
       have u : ∀ {A B : List Int} {f : Int}, qMl (W1.link T) f A -> qMl (W1.link T) f B -> A = B := by
        intro A; induction A with
        | nil =>
         intro B f h1 h2; cases B with
         | nil => rfl
         | cons y r => exact absurd (h2.1.symm.trans h1) h2.2.1
        | cons x r ih =>
         intro B f h1 h2; cases B with
         | nil => exact absurd (h1.1.symm.trans h2) h1.2.1
         | cons y q =>
          obtain ⟨e1, _, z1, g1, g2⟩ := h1; obtain ⟨e2, _, z2, g3, g4⟩ := h2; subst e1; subst e2; rw [g1] at g3; cases g3
          rw [ih g2 g4]
       exact u a1.acc.chain b1.acc.chain
      have l1 := a1.acc.len; have l2 := b1.acc.len; rw [hF] at l1; omega
   subst hN; cases hf1 : W1.full with
   | true =>
    have hL2 := (j4.full hf1).resolve_left (by rw [hf]; exact Bool.false_ne_true)
    have hm := r3.mono hf1; exact ⟨fun _ => by omega, fun h => (by rw [hm] at h; cases h)⟩
   | false =>
    have hn1 : W1.next <= L := (j4.room hf1).elim (fun h => by omega) id
    obtain ⟨q1, q2⟩ := r3.sharp hf1 hn1 hL; refine ⟨fun h => ?_, fun h => ?_⟩
    ·have := q1 h; omega
    ·obtain ⟨p1, p2, X, p3, p4⟩ := q2 h; obtain ⟨Y, y1, y2⟩ := j4.touch (by omega)
     refine ⟨p1, by omega, Y ++ X, by rw [List.length_append]; omega, fun y hy => ?_⟩
     rcases p4 y hy with h5 | h5
     ·exact .inl (List.mem_append_right _ h5)
     ·exact (y2 y h5).imp (fun h6 => List.mem_append_left _ h6) id
theorem jCp {T : TM} {L : Int} (cs : List Cg) {l : List KV} {H N : Nat} (hc : ∀ c ∈ cs, CgOk c) (h : TI T 250 l H N) (hn : T.next + 32 * cs.length <= 576460752303423488) :
  ∃ (W' : WM) (N' : Nat), allM T L 70 cs T.begin = some W' /\ WI T 250 W' (chgs cs l) 26 N' /\ Allx L T.begin W' N N' cs.length := jCt cs T.begin l H N hc h hn
end
section
open Go Go.RowKit
structure RT where
 t : ByteArray
 n : Nat
 e : Nat
def rtOf (s : ByteArray) (at' : Nat) (x : RU) : RT :=
 if x.e = 0 then (if s.size < at' + x.n + x.v then ⟨⟨#[]⟩, 0, 20⟩ else ⟨s.extract (at' + x.n) (at' + x.n + x.v), at' + x.n + x.v, 0⟩) else ⟨⟨#[]⟩, 0, x.e⟩
def rdT (s : ByteArray) (at' : Nat) : RT := rtOf s at' (rdU 0 (s.data.toList.drop at'))
def rtV (x : RT) : Value := .tuple #[.string x.t, .int .i64 (x.n : Int), .int .i64 (x.e : Int)]
theorem jJw (s : ByteArray) (at' : Nat) (he : (rdU 0 (s.data.toList.drop at')).e = 0) : at' + (rdU 0 (s.data.toList.drop at')).n <= s.size /\ 1 <= (rdU 0 (s.data.toList.drop at')).n /\ (rdU 0 (s.data.toList.drop at')).v < 18446744073709551616 := by
 obtain ⟨h1, h2, _, h4⟩ := qGc (s.data.toList.drop at') 0; have h3 := h2 he; have h5 := h4 (by omega)
 rw [Nat.pow_zero, Nat.mul_one] at h5; have h6 : qFf = 18446744073709551616 := by decide
 rw [List.length_drop, Array.length_toList] at h1; have h7 : s.data.size = s.size := rfl; omega
set_option maxRecDepth 100000
set_option maxHeartbeats 2000000 in
theorem qQj (s : ByteArray) (at' : Nat) (w : World) (hs : s.size <= maxLen) : Calls Tryz.prog 94 #[.string s, .int .i64 (at' : Int)] w fun e w' => e = .returned (rtV (rdT s at')) /\ w = w' := by
 have HU := hid (qEv s at' w hs); unfold rdT; unfold maxLen at hs; have hin := jJw s at'; generalize rdU 0 (s.data.toList.drop at') = x at *; obtain ⟨v, n, er⟩ := x; by_cases he : er = 0
 ·subst he; obtain ⟨h1, h2, h3⟩ := hin rfl; simp only at h1 h2 h3; clear hin; have hv : ruV at' ⟨v, n, 0⟩ = .tuple #[.int .u64 (v : Int), .int .i64 ((at' + n : Nat) : Int), .int .i64 0] := by unfold ruV; simp
  have hr : rtOf s at' ⟨v, n, 0⟩ = if s.size < at' + n + v then ⟨⟨#[]⟩, 0, 20⟩ else ⟨s.extract (at' + n) (at' + n + v), at' + n + v, 0⟩ := rfl
  rw [hv] at HU; rw [hr]; clear hv hr; generalize at' + n = m at *; have hwr : IntKind.u64.wrap ((s.size : Int) - (m : Int)) = (s.size : Int) - (m : Int) := by rw [IntKind.wrap_u64]; omega
  by_cases hbig : s.size < m + v
  ·have d : decide ((s.size : Int) - (m : Int) < (v : Int)) = true := by rw [decide_eq_true_iff]; omega
   rw [if_pos hbig]; go_enter Tryz.func94, Tryz.ntmps94
   go_wp2_with fail
   refine HU.out.mono ?_; rintro e w' ⟨rfl, rfl⟩; go_wp2_with fail
   exact bodyPost_ret (v := .tuple #[.string ⟨#[]⟩, .int .i64 0, .int .i64 20]) (by simp [results, Tryz.results94, go_sem]) rfl ⟨rfl, rfl⟩
  ·have d : decide ((s.size : Int) - (m : Int) < (v : Int)) = false := by rw [decide_eq_false_iff_not]; omega
   have hv2 : IntKind.i64.wrap (v : Int) = (v : Int) := IntWalk.i64_in _ (by omega)
   have hsl : ∀ w : World, (Instr.slice 9 (.string s) (some (.int .i64 (m : Int))) (some (.int .i64 ((m : Int) + (v : Int)))) none).run Tryz.prog w = .ok (.string (s.extract m (m + v))) w := fun w => by
    have := run_slice_string (P := Tryz.prog) w 9 s .i64 .i64 (m : Int) ((m : Int) + (v : Int)) Tryz.underlying9 (by omega) (by omega) (by omega)
    rw [show ((m : Int) + (v : Int)).toNat = m + v by omega, show ((m : Int)).toNat = m by omega] at this
    exact this
   have e5 : ((m + v : Nat) : Int) = (m : Int) + (v : Int) := by omega
   have HE5 := hid e5; clear e5; rw [if_neg hbig]; go_enter Tryz.func94, Tryz.ntmps94
   go_wp2_with fail
   refine HU.out.mono ?_; rintro e w' ⟨rfl, rfl⟩; go_wp2_with fail
   exact bodyPost_ret (v := .tuple #[.string (s.extract m (m + v)), .int .i64 ((m : Int) + (v : Int)), .int .i64 0]) (by simp [results, Tryz.results94, go_sem]) rfl ⟨by unfold rtV; rw [HE5.out]; rfl, rfl⟩
 ·have hv : ruV at' ⟨v, n, er⟩ = .tuple #[.int .u64 0, .int .i64 0, .int .i64 (er : Int)] := by unfold ruV; rw [if_neg he]
  rw [hv] at HU; clear hv hin; have HA : Hid (rtOf s at' ⟨v, n, er⟩ = ⟨⟨#[]⟩, 0, er⟩) := hid (by unfold rtOf; rw [if_neg he])
  have hne : ((er : Int) != 0) = true := by rw [bne_iff_ne]; omega
  rw [HA.out]; clear HA; go_enter Tryz.func94, Tryz.ntmps94
  go_wp2_with fail
  refine HU.out.mono ?_; rintro e w' ⟨rfl, rfl⟩; go_wp2_with fail
  exact bodyPost_ret (v := .tuple #[.string ⟨#[]⟩, .int .i64 0, .int .i64 (er : Int)]) (by simp [results, Tryz.results94, go_sem]) rfl ⟨rfl, rfl⟩
end
section
open Go Go.RowKit
def Bx (w : World) (b : Nat) (m : Nd) : Prop := w.heap[b]? = some (.cells #[.bool m.leaf, .slice m.ka m.keys.length m.kc, .slice m.va m.values.length m.vc, .slice m.ia m.kids.length m.ic] 123 (0, 0))
theorem Bx.cells {w : World} {b : Nat} {m : Nd} (h : Bx w b m) : w.cell? ⟨b, 0, none⟩ = some (.bool m.leaf) /\ w.cell? ⟨b, 1, none⟩ = some (.slice m.ka m.keys.length m.kc) /\ w.cell? ⟨b, 2, none⟩ = some (.slice m.va m.values.length m.vc) /\ w.cell? ⟨b, 3, none⟩ = some (.slice m.ia m.kids.length m.ic) := cl4 h
theorem Bx.lt {w : World} {b : Nat} {m : Nd} (h : Bx w b m) : b < w.heap.size := lth h
theorem Bx.mod {w w' : World} {b : Nat} {m : Nd} {S : Nat -> Prop} (h : Bx w b m) (hm : Mod S w w') (hs : ¬ S b) : Bx w' b m := (hm.block b h.lt hs).trans h
structure Hold (w : World) (L B : Nat) (m : Nd) : Prop where
 box : Bx w B m
 gd : Gd w m
 bs : ∀ b, m.bs b -> L <= b /\ b ≠ B
 lb : L <= B
theorem Hold.ext {w w' : World} {L B : Nat} {m : Nd} (h : Hold w L B m) (hm : Mod (fun _ => False) w w') : Hold w' L B m :=
 ⟨h.box.mod hm (fun h => h), h.gd.ext hm (fun _ _ h => h), h.bs, h.lb⟩
end
section
open Go Go.RowKit
def pre (es : List Ent) (o : Option (List Ent × Nat)) : Option (List Ent × Nat) := o.map fun q => (es ++ q.1, q.2)
def cn (leaf : Bool) (es : List Ent) : Nd := ⟨leaf, es.map (·.key), if leaf then es.map (·.value) else [], if leaf then [] else es.map (·.kid), none, 0, none, 0, none, 0⟩
theorem Has.cn_ents {m : Nd} {leaf : Bool} {es : List Ent} (h : Has m leaf es) : m.ents = (cn leaf es).ents := by
 unfold Nd.ents; rw [h.k]; show (List.range (es.map (·.key)).length).map (qCg m) = (List.range (es.map (·.key)).length).map (qCg (cn leaf es)); apply List.map_congr_left; intro i _; unfold qCg qBp qEe; rw [h.k, h.v, h.i, h.l]; rfl
theorem Has.cn_enc {m : Nd} {leaf : Bool} {es : List Ent} (h : Has m leaf es) : qIt m = qIt (cn leaf es) := by
 have hf : fitB m = fitB (cn leaf es) := by
  have : FitP m ↔ FitP (cn leaf es) := by
   unfold FitP qSa; rw [h.k, h.v, h.i, h.l]; exact Iff.rfl
  cases hb : fitB (cn leaf es) with
  | true => exact qIp (this.2 (qVa.1 hb))
  | false => exact qJu (fun hp => by rw [qIp (this.1 hp)] at hb; cases hb)
 unfold qIt; rw [hf, h.cn_ents, h.l]; rfl
end
section
open Go Go.RowKit
def lk (es : List Ent) : ByteArray := match es.getLast? with | some x => x.key | none => emp
theorem jBd {leaf : Bool} {es : List Ent} (h : qBj leaf es) (hk : leaf = false -> ∀ x ∈ es, x.kid < 16384) : qIt (cn leaf es) = true := by
 have hh : Has (cn leaf es) leaf es := ⟨rfl, rfl, rfl, rfl⟩; unfold qIt; rw [Bool.and_eq_true, qVa, decide_eq_true_eq, hh.ents h.clean]; refine ⟨⟨h.keys, ?_⟩, h.bytes⟩; have hpos : 0 < es.length := List.length_pos_iff.2 h.ne; unfold qSa cn; cases leaf with
 | true =>
  simp only [if_true, List.length_map, List.length_nil, decide_true, Bool.true_and, Bool.not_eq_true']; rw [List.any_eq_false]; intro s hs; obtain ⟨x, hx, rfl⟩ := List.mem_map.1 hs; have := h.values x hx; unfold qLm; simp
  omega
 | false =>
  simp only [Bool.false_eq_true, if_false, List.length_map, List.length_nil, decide_true, Bool.true_and, Bool.not_eq_true', Bool.and_eq_true, decide_eq_true_eq]; refine ⟨hpos, ?_⟩; rw [List.any_eq_false]; intro s hs; obtain ⟨x, hx, rfl⟩ := List.mem_map.1 hs; have h1 := h.kids rfl x hx; have h2 := hk rfl x hx; unfold outB; simp
  omega
theorem qGm {link : Int -> Option Int} : ∀ {l : List Int} {s : Int}, qMl link s l -> (s = 0 /\ l = []) \/ (s ∈ l /\ s ≠ 0)
 | [], _, h => .inl ⟨h, rfl⟩
 | _ :: _, _, h => .inr ⟨by rw [h.1]; exact List.mem_cons_self, by rw [h.1]; exact h.2.1⟩
theorem qHi : ∀ {l : List Int}, (∀ x, l.count x <= 1) -> l.Nodup
 | [], _ => List.nodup_nil
 | a :: l, h => by
  refine List.nodup_cons.2 ⟨fun hm => ?_, qHi (fun x => ?_)⟩
  ·have h1 := h a; rw [List.count_cons_self] at h1; have := List.count_pos_iff.2 hm; omega
  ·have h1 := h x; rw [List.count_cons] at h1; omega
end
section
open Go Go.RowKit
theorem jHk {D : Dsk} (h : D.off = false) (i : Nat) (hi : i < D.secs.length) : qDf D (i : Int) = (sec D i, 0) := by
 have : qBe D i = 0 := by unfold qBe; rw [h]; simp; omega
 rw [qOk, if_neg (by simp [this])]
 rfl
def upc (c : Nat -> ByteArray) (cs : List Chg) (q : Nat) : ByteArray := match cs.find? (fun x => x.pos.toNat == q) with
 | some x => pad x.data
 | none => c q
theorem qTp {c : Nat -> ByteArray} {cs : List Chg} {q : Nat} (h : q ∉ places cs) : upc c cs q = c q := by
 unfold upc; rw [List.find?_eq_none.2 (fun x hx => by
  intro he; exact h (List.mem_map.2 ⟨x, hx, by simpa using he⟩))]
theorem qOc {c : Nat -> ByteArray} : ∀ {cs : List Chg} {m : Nat} {x : Chg}, (places cs).Nodup -> cs[m]? = some x -> upc c cs x.pos.toNat = pad x.data
 | [], m, x => fun _ h => by simp at h
 | y :: r, m, x => fun hd h => by
  have hd2 : (y.pos.toNat :: places r).Nodup := hd; cases m with
  | zero =>
   simp only [List.getElem?_cons_zero, Option.some.injEq] at h; subst h; unfold upc; rw [List.find?_cons]; simp
  | succ m =>
   simp only [List.getElem?_cons_succ] at h; have hne : y.pos.toNat ≠ x.pos.toNat := fun e => (List.nodup_cons.1 hd2).1 (by rw [e]; exact List.mem_map.2 ⟨x, List.mem_of_getElem? h, rfl⟩)
   have ih := qOc (c := c) (List.nodup_cons.1 hd2).2 h; unfold upc at *; rw [List.find?_cons]; have hb : (y.pos.toNat == x.pos.toNat) = false := by rw [beq_eq_false_iff_ne]; exact hne
   rw [hb]; exact ih
end
end Go.Proofs.YtkinkgbmlhiakaaGreatDoor
