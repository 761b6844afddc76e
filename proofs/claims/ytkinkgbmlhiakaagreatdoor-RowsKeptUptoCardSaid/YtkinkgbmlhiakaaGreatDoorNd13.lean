/- merged: TrO TrP RoL Td1 Td2 Td3 RoB RwL -/
import Derived.Test.YtkinkgbmlhiakaaGreatDoorNd12
import Derived.Test.YtkinkgbmlhiakaaGreatDoorNd07
import Derived.Test.YtkinkgbmlhiakaaGreatDoorNd01
import Derived.Test.YtkinkgbmlhiakaaGreatDoorNd03
namespace Go.Proofs.YtkinkgbmlhiakaaGreatDoor
section
open Go Go.RowKit
theorem qWx {T : TM} {W : WM} {U R F : List Int} (h : Acc T W U R F) (s : Int) : Acc T (W.at s) U R F := ⟨h.chain, h.cnt, h.used, h.free, h.out, h.pos⟩
structure Rt (T : TM) (m : Nat) (W : WM) (l : List KV) (H h : Nat) (t : Tr h) (F : List Int) : Prop where
 nz : W.root ≠ 0
 le : h <= H
 sd : Sd (W.look T) m h W.root t
 two : m ≠ 0 -> 0 < h -> 2 <= tlen h t
 fl : flat h t = l
 acc : Acc T W (secs h W.root t) [] F
theorem qQf {T : TM} {m : Nat} (hm : m = 0 \/ m = 250) : ∀ (h f : Nat) (W : WM) (t : Tr h) (F : List Int), h < f -> Acc T W (secs h W.root t) [] F -> Sd (W.look T) m h W.root t →
  ∃ (W' : WM) (h' : Nat) (t' : Tr h') (F' : List Int), qFm T f W = some W' /\ Rt T m W' (flat h t) h h' t' F' /\ W'.count = W.count /\ W'.next = W.next /\ W'.full = W.full /\ (secs h' W'.root t').length <= (secs h W.root t).length ∧
   (m ≠ 0 -> ∀ x, (W'.nodes x ≠ none \/ W'.after x ≠ none) -> x = W.root \/ (W.nodes x ≠ none \/ W.after x ≠ none))
 | _, 0, _, _, _, h, _, _ => absurd h (Nat.not_lt_zero _)
 | 0, f + 1, W, t, F, _, hA, hS => by
  have hnz : W.root ≠ 0 := by have := hA.spot (x := W.root) (.inl (by rw [qDl]; exact List.mem_cons_self)); omega
  refine ⟨W, 0, t, F, ?_, ⟨hnz, Nat.le_refl _, hS, fun _ h => by omega, rfl, hA⟩, rfl, rfl, rfl, Nat.le_refl _, fun _ _ h => .inr h⟩
  have := hS.1; simp only [qFm, this]
 | h + 1, f + 1, W, l, F, hlt, hA, hS => by
  have hnz : W.root ≠ 0 := by have := hA.spot (x := W.root) (.inl (by rw [qDl]; exact List.mem_cons_self)); omega
  have hlk := hS.1.1; have hne : l ≠ ([] : List (TE (Tr h))) := fun e => hS.1.2.ne (by rw [e]; rfl)
  match l, hne, hlk, hA, hS with
  | [e], _, hlk, hA, hS =>
   obtain ⟨h1, h2, h3⟩ := hS.2 e (.head _); have hsec : secs (h + 1) W.root ([e] : List (TE (Tr h))) = W.root :: secs h e.spot e.sub := by
    show W.root :: qAl [e] = _; rw [qBn, qCh, List.append_nil]
   rw [hsec] at hA; have hA2 : Acc T ((W.release W.root).at e.spot) (secs h e.spot e.sub) [] (W.root :: F) := qWx (Acc.release hA) e.spot; have hroot : ∀ x ∈ secs h e.spot e.sub, x ≠ W.root := fun x hx he => by
    have h4 := hA.cnt x; rw [<- he, List.count_cons_self] at h4; have := List.count_pos_iff.2 hx; split at h4 <;> omega
   have hS2 : Sd (((W.release W.root).at e.spot).look T) m h e.spot e.sub := qFf h1 (fun x hx => qLb (hroot x hx))
   obtain ⟨W', h', t', F', k1, k2, k3, k4, k5, k6, k7⟩ := qQf hm h f ((W.release W.root).at e.spot) e.sub (W.root :: F) (by omega) hA2 hS2
   refine ⟨W', h', t', F', ?_, ⟨k2.nz, by have := k2.le; omega, k2.sd, k2.two, ?_, k2.acc⟩, k3, k4, k5, ?_, fun hm0 x hx => ?_⟩
   ·have e1 : eOf (h + 1) ([e] : List (TE (Tr h))) = [eE e] := rfl; rw [e1] at hlk; simp only [qFm, hlk]; exact k1
   ·rw [k2.fl]; show flat h e.sub = qAg [e]; simp [qAg]
   ·rw [hsec, List.length_cons]; have : (secs h' W'.root t').length <= (secs h e.spot e.sub).length := k6; omega
   ·
    have hstop : qFm T f ((W.release W.root).at e.spot) = some ((W.release W.root).at e.spot) := by
     have hm2 : m = 250 := hm.resolve_left hm0; subst hm2; cases f with
     | zero => exact absurd hlt (by omega)
     | succ f =>
      have hlk2 := (qMe hS2).1; have e5 : ((W.release W.root).at e.spot).root = e.spot := rfl; cases h with
      | zero =>
       simp only [qFm, e5, hlk2]; rfl
      | succ h =>
       have hmany := jBn hS2 h3; unfold tlen at hmany; obtain ⟨x1, x2, r, he⟩ : ∃ x1 x2 r, eOf (h + 1) e.sub = x1 :: x2 :: r := by
        match hq : eOf (h + 1) e.sub, hmany with
        | x1 :: x2 :: r, _ => exact ⟨x1, x2, r, rfl⟩
        | [_], hmany => simp at hmany
        | [], hmany => simp at hmany
       rw [he] at hlk2; simp only [qFm, e5, hlk2]; rfl
    rw [hstop] at k1; cases k1
    by_cases ex : x = W.root
    ·exact .inl ex
    ·simp only [WM.at, WM.release, qAn _ _ ex] at hx; exact .inr hx
  | e1 :: e2 :: r, _, hlk, hA, hS =>
   refine ⟨W, h + 1, (e1 :: e2 :: r : List (TE (Tr h))), F, ?_, ⟨hnz, Nat.le_refl _, hS, fun _ _ => ?_, rfl, hA⟩, rfl, rfl, rfl, Nat.le_refl _, fun _ _ h => .inr h⟩
   ·have e1' : eOf (h + 1) (e1 :: e2 :: r : List (TE (Tr h))) = eE e1 :: eE e2 :: r.map eE := rfl; rw [e1'] at hlk; simp only [qFm, hlk]
   ·show 2 <= (List.map _ (e1 :: e2 :: r)).length; simp
def WI (T : TM) (m : Nat) (W : WM) (l : List KV) (H N : Nat) : Prop :=
 qDb l /\ W.count = l.length /\ ((W.root = 0 /\ l = [] /\ N = 0 /\ ∃ F, Acc T W [] [] F) \/ ∃ (h : Nat) (t : Tr h) (F : List Int), Rt T m W l H h t F /\ (secs h W.root t).length = N)
structure Onx (m : Nat) (L : Int) (W W' : WM) (k n x : Nat) : Prop where
 lo : W.next <= W'.next
 hi : W'.next <= W.next + k
 mono : W.full = true -> W'.full = true
 full : W'.full = true -> W.full = true \/ L <= (n : Int)
 top : W'.next <= W.next \/ W'.next <= (n : Int) + 1
 room : W'.full = false -> W'.next <= W.next \/ W'.next <= L
 touch : m ≠ 0 -> ∃ X : List Int, X.length <= x /\ ∀ y, (W'.nodes y ≠ none \/ W'.after y ≠ none) -> y ∈ X \/ (W.nodes y ≠ none \/ W.after y ≠ none)
theorem qZx {T : TM} {L : Int} {m h : Nat} (hm : m = 0 \/ m = 250) {W W1 : WM} {ps : List (TE (Tr h))} {new : List KV} {n : Nat} {F1 X1 : List Int} {f : Nat} (hf : h + 1 < f)
  (fo : Fo (W1.look T) m h ps) (fl : qAg ps = new) (two : ps.length <= 2) (big : ps.length = 2 -> ∀ e ∈ ps, 250 <= wtN h e.sub) (hA : Acc T W1 (qAl ps) [] F1) (hk : Kept T W W1 L [] (h + 1) n X1) (hu : (qAl ps).length <= n) (hx : X1.length <= 3 * h + 2) (hxs : ∀ e ∈ ps, e.spot ∈ X1)
  (hf2 : qDb new) (hc : W1.count = new.length) (hn : W1.next + 2 <= 1152921504606846976) :
  ∃ (W' : WM) (N : Nat), topM T L f W1 (ps.map pt) = some W' /\ WI T m W' new (h + 1) N /\ N <= n + 1 /\ Onx m L W W' (h + 2) (n + 1) (3 * h + 3) := by
 match ps, two, fo, fl, big, hA, hu, hxs with
 | [], _, _, fl, _, hA, _, _ =>
  have hnew : new = [] := fl.symm; refine ⟨W1.at 0, 0, rfl, ⟨hf2, hc, .inl ⟨rfl, hnew, rfl, F1, qWx hA 0⟩⟩, Nat.zero_le _, ⟨hk.lo, by have h1 : W1.next <= _ := hk.hi; show W1.next <= _; omega, hk.mono, fun h => (hk.full h).imp id (fun h => by omega), hk.top.imp id (fun h => ?_), hk.room, fun _ => ⟨X1, by omega, hk.touch⟩⟩⟩
  have h1 : W1.next <= _ := h; show W1.next <= _; omega
 | [p], _, fo, fl, _, hA, hu, hxs =>
  obtain ⟨s1, s2⟩ := fo p List.mem_cons_self; have hps : qAl [p] = secs h p.spot p.sub := by rw [qBn, qCh, List.append_nil]
  rw [hps] at hA hu; obtain ⟨W', h', t', F', k1, k2, k3, k4, k5, k6, k7⟩ := qQf hm h f (W1.at p.spot) p.sub F1 (by omega) (qWx hA p.spot) s1
  have hfl : flat h p.sub = new := by rw [<- fl]; simp [qAg]
  have e1 : (W1.at p.spot).next = W1.next := rfl; have e2 : (W1.at p.spot).full = W1.full := rfl; rw [e1] at k4; rw [e2] at k5; refine ⟨W', (secs h' W'.root t').length, k1, ⟨hf2, k3.trans hc, .inr ⟨h', t', F', ⟨k2.nz, by have := k2.le; omega, k2.sd, k2.two, k2.fl.trans hfl, k2.acc⟩, rfl⟩⟩, ?_, ⟨by rw [k4]; exact hk.lo, by rw [k4]; have := hk.hi; omega, fun h => by rw [k5]; exact hk.mono h, fun h => (hk.full (by rw [<- k5]; exact h)).imp id (fun h => by omega), by rw [k4]; exact hk.top.imp id (fun h => by omega), fun h => by rw [k4]; exact hk.room (by rw [<- k5]; exact h), fun h0 => ⟨X1, by omega, fun y hy => ?_⟩⟩⟩
  ·have : (secs h' W'.root t').length <= (secs h p.spot p.sub).length := k6; omega
  ·rcases k7 h0 y hy with h8 | h8
   ·exact .inl (by rw [h8]; exact hxs p List.mem_cons_self)
   ·exact hk.touch y h8
 | [p, q], _, fo, fl, big, hA, hu, hxs =>
  have hB : Lowr (W1.look T) m (h + 1) ([p, q] : List (TE (Tr h))) := fun e he => by
   have he : e ∈ [p, q] := he; refine ⟨(fo e he).1, (fo e he).2, ?_⟩; have := big rfl e he; rcases hm with rfl | rfl <;> omega
  have hA2 : Acc T W1 [] (qDv (h + 1) ([p, q] : List (TE (Tr h))) ++ []) F1 := hA.move (fun z => by
   rw [qKi]; simp only [List.count_append, List.count_nil]; omega)
  have hflat : qDb (flat (h + 1) ([p, q] : List (TE (Tr h)))) := by
   show qDb (qAg [p, q]); rw [fl]; exact hf2
  have hent : ∀ e ∈ [p, q], (entL false (eE e)).length <= 58 := fun e he => by
   obtain ⟨v, r, hfe⟩ := qGs (fun e he => ⟨qOu (fo e he).1, (fo e he).2⟩ : Ok [p, q]) he
   have hmem : (e.key, v) ∈ qAg [p, q] := by
    unfold qAg; exact List.mem_flatMap.2 ⟨e, he, by rw [hfe]; exact List.mem_cons_self⟩
   rw [fl] at hmem; refine qKr (leaf := false) (hf2.ok _ hmem).1.2 (Nat.zero_le _) (fun _ => ?_)
   have := hA.spot (x := e.spot) (.inl (by
    unfold qAl; exact List.mem_flatMap.2 ⟨e, he, by rw [qDl]; exact List.mem_cons_self⟩))
   show e.spot <= _; omega
  have hw : wt false (eOf (h + 1) ([p, q] : List (TE (Tr h)))) <= 116 := by
   have h1 := hent p List.mem_cons_self; have h2 := hent q (List.mem_cons_of_mem _ List.mem_cons_self); rw [qBi, List.map_cons, List.map_cons, List.map_nil, qFk, qHt]; omega
  have hb : (qAo (lf (h + 1)) (eOf (h + 1) ([p, q] : List (TE (Tr h))))).length <= 1024 := by
   have h1 : (eOf (h + 1) ([p, q] : List (TE (Tr h)))).length = 2 := rfl; have h2 := qEh (leaf := false) (es := eOf (h + 1) ([p, q] : List (TE (Tr h)))) (by rw [h1]; omega)
   rw [h1] at h2; show (qAo false _).length <= _; rw [h2]; simp only [show ¬ (127 : Nat) < 2 by omega, if_false]
   omega
  obtain ⟨W2, ps2, F2, k1, k2, k3, k4, k5, _, k6, k7, k8, k9, k10, k11⟩ := jBz (L := L) (h := h + 1) (m := m) (t := ([p, q] : List (TE (Tr h)))) hA2 hB hflat (by show wt false _ <= _; omega) hn
  have h1 := k6 hb
  match ps2, h1, k1, k2, k3, k5, k7, k8, k10, k11 with
  | [], _, _, _, k3, _, _, _, _, _ =>
   exfalso
   have h2 : flat (h + 1) ([p, q] : List (TE (Tr h))) = [] := k3.symm; obtain ⟨v, r, hfe⟩ := qGs (fun e he => ⟨qOu (fo e he).1, (fo e he).2⟩ : Ok [p, q]) (e := p) List.mem_cons_self
   have h3 : qAg [p, q] = flat h p.sub ++ (flat h q.sub ++ []) := by unfold qAg; rw [List.flatMap_cons, List.flatMap_cons, List.flatMap_nil]
   have h4 : qAg [p, q] = [] := h2; rw [h3, hfe] at h4; cases h4
  | [r], _, k1, k2, k3, k5, k7, k8, k10, k11 =>
   obtain ⟨s1, s2⟩ := k2 r List.mem_cons_self; have hps : qAl [r] = secs (h + 1) r.spot r.sub := by rw [qBn, qCh, List.append_nil]
   rw [hps] at k7 k11 k8; obtain ⟨W', h', t', F', r1, r2, r3, r4, r5, r6, r7⟩ := qQf hm (h + 1) f (W2.at r.spot) r.sub F2 (by omega) (qWx k7 r.spot) s1
   have hfl : flat (h + 1) r.sub = new := by
    have h2 : qAg [r] = flat (h + 1) r.sub := by simp [qAg]
    rw [<- h2, k3]; exact fl
   have e1 : (W2.at r.spot).next = W2.next := rfl; have e2 : (W2.at r.spot).full = W2.full := rfl; rw [e1] at r4; rw [e2] at r5; have hlen : (secs (h + 1) r.spot r.sub).length <= n + 1 := by
    rw [k11, qKi]; simp only [List.length_cons, List.length_nil]; omega
   have hkk : Kept T W W2 L [] (h + 2) (n + 1) (r.spot :: X1) := qKj (R2 := []) hk k8 (fun x h => h) (fun x h => h) (by simp) (by omega) (by simp only [List.length_nil]; omega) (fun x hx => List.mem_cons_of_mem _ hx) (fun x hx => by
    simp at hx
    rw [hx]; exact List.mem_cons_self)
   refine ⟨W', (secs h' W'.root t').length, ?_, ⟨hf2, r3.trans (k9.trans hc), .inr ⟨h', t', F', ⟨r2.nz, r2.le, r2.sd, r2.two, r2.fl.trans hfl, r2.acc⟩, rfl⟩⟩, ?_, ⟨by rw [r4]; exact hkk.lo, by rw [r4]; exact hkk.hi, fun h => by rw [r5]; exact hkk.mono h, fun h => hkk.full (by rw [<- r5]; exact h), by rw [r4]; exact hkk.top, fun h => by rw [r4]; exact hkk.room (by rw [<- r5]; exact h), fun h0 => ⟨r.spot :: X1, by rw [List.length_cons]; omega, fun y hy => ?_⟩⟩⟩
   ·show ((qCb T L W1 false ((([p, q] : List (TE (Tr h))).map pt).map qNk) []).bind _) = _; have e3 : (([p, q] : List (TE (Tr h))).map pt).map qNk = eOf (h + 1) ([p, q] : List (TE (Tr h))) := rfl; have k1' : qCb T L W1 false (eOf (h + 1) ([p, q] : List (TE (Tr h)))) [] = some (W2, [r].map pt) := k1; rw [e3, k1']; exact r1
   ·have : (secs h' W'.root t').length <= (secs (h + 1) r.spot r.sub).length := r6; omega
   ·rcases r7 h0 y hy with h8 | h8
    ·exact .inl (by rw [h8]; exact List.mem_cons_self)
    ·exact hkk.touch y h8
theorem jBh {T : TM} {L : Int} {c : Cg} {m : Nat} (hm : m = 0 \/ m = 250) (hc : CgOk c) {W : WM} {l : List KV} {H N f : Nat} (hW : WI T m W l H N) (hf : H < f) (hn : W.next + (H + 4) <= 1152921504606846976) :
  ∃ (W' : WM) (N' : Nat), oneM T L f W c = some W' /\ WI T m W' (chg c l) (H + 1) N' /\ N' <= N + H + 2 /\ Onx m L W W' (H + 2) (N + H + 2) (3 * H + 3) := by
 obtain ⟨hfl, hcn, hroot⟩ := hW; rcases hroot with ⟨h0, rfl, rfl, F, hA⟩ | ⟨h, t, F, hR, hN⟩
 ·cases hg : c.gone with
  | true =>
   have hch : chg c [] = [] := by unfold chg Cg.put; rw [hg]; rfl
   refine ⟨W, 0, ?_, ⟨by rw [hch]; exact hfl, by rw [hch]; exact hcn, .inl ⟨h0, hch, rfl, F, hA⟩⟩, Nat.zero_le _, ⟨Int.le_refl _, by omega, fun h => h, fun h => .inl h, .inl (Int.le_refl _), fun _ => .inl (Int.le_refl _), fun _ => ⟨[], Nat.zero_le _, fun _ h => .inr h⟩⟩⟩
   unfold oneM; rw [if_neg (fun h => h h0), hg]
   rfl
  | false =>
   have hch : chg c [] = [(c.key, c.value)] := by unfold chg Cg.put; rw [hg]; rfl
   have hok := qDb.chg hfl hc; rw [hch] at hok ⊢; have hA2 : Acc T (W.add 1) [] (qDv 0 ([(c.key, c.value)] : List KV) ++ []) F := ⟨hA.chain, hA.cnt, hA.used, hA.free, hA.out, hA.pos⟩; have hw : wt true [(⟨c.key, c.value, 0⟩ : Ent)] <= 251 := by
    rw [qHt]; exact qKr (leaf := true) hc.key hc.value (fun h => by cases h)
   have hb : (qAo true [(⟨c.key, c.value, 0⟩ : Ent)]).length <= 1024 := by
    have h2 := qEh (leaf := true) (es := [(⟨c.key, c.value, 0⟩ : Ent)]) (by simp)
    rw [h2]; simp only [List.length_cons, List.length_nil, show ¬ (127 : Nat) < 0 + 1 by omega, if_false]
    omega
   obtain ⟨W1, ps, F1, k1, k2, k3, k4, k5, kb, k6, k7, k8, k9, k10, k11⟩ := jBz (L := L) (h := 0) (m := m) (t := ([(c.key, c.value)] : List KV)) hA2 trivial hok (by show wt true _ <= _; exact Nat.le_trans hw (by omega)) (by show W.next + 2 <= _; omega)
   have h1 := k6 hb; have hk8 : Kept T W W1 L [] (0 + 1) 1 (ps.map (·.spot)) := by
    have hk : Kept T (W.add 1) W1 L [] (ps.length - 0) ((qAl ps).length + 0) ([] ++ (ps.map (·.spot)).drop 0) := k8; have hl : (qAl ps).length <= 1 := by rw [k11]; show 0 + ps.length <= 1; omega
    refine ⟨fun x hx => (by cases hx), hk.root, hk.lo, ?_, hk.mono, fun h => (hk.full h).imp id (fun h => by omega), hk.top.imp id (fun h => ?_), hk.room, fun x hx => ?_⟩
    ·have h2 : W1.next <= W.next + ((ps.length - 0 : Nat) : Int) := hk.hi; omega
    ·have h2 : W1.next <= _ := h; omega
    ·rcases hk.touch x hx with h3 | h3
     ·exact .inl (by simpa using h3)
     ·exact .inr h3
   obtain ⟨W', N', r1, r2, r3, r4⟩ := qZx (L := L) (W := W) (f := f + 1) (n := 1) hm (by omega) k2 k3 k4 kb k7 hk8 (by rw [k11]; show 0 + ps.length <= 1; omega) (by rw [List.length_map]; omega) (fun e he => List.mem_map_of_mem he) hok (by
     have h2 : W1.count = W.count + 1 := k9; rw [h2, hcn]; rfl) (by have h2 : W1.next <= W.next + (0 + 1 : Nat) := hk8.hi; omega)
   refine ⟨W', N', ?_, ⟨r2.1, r2.2.1, ?_⟩, by omega, ⟨r4.lo, by have := r4.hi; omega, r4.mono, fun h => (r4.full h).imp id (fun h => by omega), r4.top.imp id (fun h => by omega), r4.room, fun h0 => ?_⟩⟩
   ·unfold oneM; rw [if_neg (fun h => h h0), hg]
    simp only [Bool.false_eq_true, if_false]; have k1' : qCb T L (W.add 1) true [(⟨c.key, c.value, 0⟩ : Ent)] [] = some (W1, ps.map pt) := k1; rw [k1']; exact r1
   ·rcases r2.2.2 with h | ⟨h', t', F', hR', hN'⟩
    ·exact .inl h
    ·exact .inr ⟨h', t', F', ⟨hR'.nz, by have := hR'.le; omega, hR'.sd, hR'.two, hR'.fl, hR'.acc⟩, hN'⟩
   ·obtain ⟨X, x1, x2⟩ := r4.touch h0; exact ⟨X, by omega, x2⟩
 ·have hle := hR.le; have hflt : qDb (flat h t) := by rw [hR.fl]; exact hfl
  obtain ⟨W1, ps, F1, X1, k1, k2⟩ := qOm (T := T) (L := L) (c := c) hm hc h f W W.root t [] F (by omega) hR.acc hR.sd hR.two hflt (by omega)
  rw [hR.fl] at k2; have hn1 : W1.next + 2 <= 1152921504606846976 := by have := k2.kept.hi; omega
  obtain ⟨W', N', r1, r2, r3, r4⟩ := qZx (L := L) (W := W) (f := f + 1) hm (by omega) k2.fo k2.fl k2.two k2.big k2.acc k2.kept (by have := k2.use; simpa using this) k2.x k2.xs (hfl.chg hc) (by have := k2.cnt; omega) hn1
  have hnn : (secs h W.root t).length + ([] : List Int).length + (h + 1) + 1 <= N + H + 2 := by rw [hN]; simp only [List.length_nil]; omega
  refine ⟨W', N', ?_, ⟨r2.1, r2.2.1, ?_⟩, by omega, ⟨r4.lo, by have := r4.hi; omega, r4.mono, fun h => (r4.full h).imp id (fun h => by omega), r4.top.imp id (fun h => by omega), r4.room, fun h0 => ?_⟩⟩
  ·unfold oneM; rw [if_pos hR.nz, k1]; exact r1
  ·rcases r2.2.2 with h | ⟨h', t', F', hR', hN'⟩
   ·exact .inl h
   ·exact .inr ⟨h', t', F', ⟨hR'.nz, by have := hR'.le; omega, hR'.sd, hR'.two, hR'.fl, hR'.acc⟩, hN'⟩
  ·obtain ⟨X, x1, x2⟩ := r4.touch h0; exact ⟨X, by omega, x2⟩
end
section
open Go Go.RowKit
theorem qMp {T : TM} {W : WM} {x : Int} (ha : W.after x = none) : (W.done T).nodes x = W.look T x := by
 unfold WM.done WM.look; simp only [ha]; rfl
theorem qMq {T : TM} {W : WM} {x : Int} (hn : W.nodes x = none) (ht : W.after x = none -> W.taken x = false) : (W.done T).after x = W.link T x := by
 unfold WM.done WM.link; simp only [hn]; cases ha : W.after x with
 | some y => rfl
 | none => simp [ht ha]
theorem qWk {T : TM} {W : WM} {U F : List Int} (h : Acc T W U [] F) : Acc (W.done T) (W.done T).begin U [] F := by
 refine ⟨?_, h.cnt, fun x hx => ⟨rfl, fun _ => ⟨rfl, ?_⟩⟩, fun x hx => ⟨rfl, fun _ => ⟨rfl, ?_⟩⟩, fun x hx => ⟨rfl, rfl, rfl, ?_, ?_⟩, h.pos⟩
 ·refine qGh h.chain (fun x hx => ?_)
  obtain ⟨h1, h2⟩ := h.free x hx; show (W.done T).after x = _; exact qMq h1 (fun e => (h2 e).1)
 ·obtain ⟨h1, h2⟩ := h.used x hx; show (W.done T).after x = none; cases hn : W.nodes x with
  | some n => unfold WM.done; simp [hn]
  | none =>
   obtain ⟨h3, h4⟩ := h2 hn; rw [qMq hn (fun _ => h3)]
   unfold WM.link; rw [h1]; exact h4
 ·obtain ⟨h1, h2⟩ := h.free x hx; show (W.done T).nodes x = none; cases ha : W.after x with
  | some y => unfold WM.done; simp [h1, ha]
  | none =>
   rw [qMp ha]; unfold WM.look; rw [h1]; exact (h2 ha).2
 ·obtain ⟨h1, h2, h3, h4, h5⟩ := h.out x hx; show (W.done T).nodes x = none; rw [qMp h2]; unfold WM.look; rw [h1]; exact h4
 ·obtain ⟨h1, h2, h3, h4, h5⟩ := h.out x hx; show (W.done T).after x = none; rw [qMq h1 (fun _ => h3)]
  unfold WM.link; rw [h2]; exact h5
def TI (T : TM) (m : Nat) (l : List KV) (H N : Nat) : Prop := WI T m T.begin l H N
theorem qWj {T : TM} {W : WM} {m : Nat} {l : List KV} {H N : Nat} (h : WI T m W l H N) : TI (W.done T) m l H N := by
 obtain ⟨h1, h2, h3⟩ := h; refine ⟨h1, h2, ?_⟩; rcases h3 with ⟨h4, h5, h6, F, h7⟩ | ⟨ht, t, F, h4, h5⟩
 ·exact .inl ⟨h4, h5, h6, F, qWk h7⟩
 ·refine .inr ⟨ht, t, F, ⟨h4.nz, h4.le, ?_, h4.two, h4.fl, qWk h4.acc⟩, h5⟩; refine qFf h4.sd (fun x hx => ?_)
  show (W.done T).nodes x = _; exact qMp ((h4.acc.used x (.inl hx)).1)
def newT : TM := ⟨0, 1, 0, 0, fun _ => none, fun _ => none⟩
theorem jJf (m H : Nat) : TI newT m [] H 0 := by
 refine ⟨⟨List.Pairwise.nil, (fun _ h => by cases h)⟩, rfl, .inl ⟨rfl, rfl, rfl, [], ⟨rfl, fun x => ?_, fun x hx => ?_, (fun x hx => by cases hx), fun x hx => ⟨rfl, rfl, rfl, rfl, rfl⟩, Int.le_refl _⟩⟩⟩
 ·have : ¬ (1 <= x /\ x < (newT.begin).next) := fun h => by
   have h2 : x < 1 := h.2; omega
  rw [if_neg this]; rfl
 ·rcases hx with hx | hx <;> cases hx
theorem qRc {look : Int -> Option NP} : ∀ {h : Nat} {s : Int} {t : Tr h}, Sd look 250 h s t -> 250 <= wtN h t -> 5 ^ h <= (secs h s t).length
 | 0, _, _, _, _ => Nat.le_refl _
 | h + 1, s, l, k, hw => by
  have hl : 5 <= (eOf (h + 1) l).length := qBg.many k.1.2 hw; have hl2 : 5 <= List.length (α := TE (Tr h)) l := by
   have e : (eOf (h + 1) l).length = List.length (α := TE (Tr h)) l := List.length_map ..; omega
  have aux : ∀ r : List (TE (Tr h)), (∀ e ∈ r, Sd look 250 h e.spot e.sub /\ 250 <= wtN h e.sub) -> r.length * 5 ^ h <= (qAl r).length := by
   intro r; induction r with
   | nil => intro _; simp [qCh]
   | cons e r ih =>
    intro hr; rw [qBn, List.length_append, List.length_cons, Nat.add_mul]; have h1 := qRc (hr e List.mem_cons_self).1 (hr e List.mem_cons_self).2; have h2 := ih (fun x hx => hr x (List.mem_cons_of_mem _ hx))
    omega
  have h1 := aux l (fun e he => ⟨(k.2 e he).1, (k.2 e he).2.2⟩)
  have h2 : 5 * 5 ^ h <= List.length (α := TE (Tr h)) l * 5 ^ h := Nat.mul_le_mul_right _ hl2; show 5 ^ (h + 1) <= (s :: qAl l).length; rw [List.length_cons, Nat.pow_succ]; omega
theorem jFc {look : Int -> Option NP} {h : Nat} {s : Int} {t : Tr (h + 1)} (k : Sd look 250 (h + 1) s t) (h2 : 2 <= tlen (h + 1) t) : 2 * 5 ^ h <= (secs (h + 1) s t).length := by
 have hl2 : 2 <= List.length (α := TE (Tr h)) t := by
  have e : (eOf (h + 1) t).length = List.length (α := TE (Tr h)) t := List.length_map ..; unfold tlen at h2; omega
 have aux : ∀ r : List (TE (Tr h)), (∀ e ∈ r, Sd look 250 h e.spot e.sub /\ 250 <= wtN h e.sub) -> r.length * 5 ^ h <= (qAl r).length := by
  intro r; induction r with
  | nil => intro _; simp [qCh]
  | cons e r ih =>
   intro hr; rw [qBn, List.length_append, List.length_cons, Nat.add_mul]; have h1 := qRc (hr e List.mem_cons_self).1 (hr e List.mem_cons_self).2; have h2 := ih (fun x hx => hr x (List.mem_cons_of_mem _ hx))
   omega
 have h1 := aux t (fun e he => ⟨(k.2 e he).1, (k.2 e he).2.2⟩)
 have h2 : 2 * 5 ^ h <= List.length (α := TE (Tr h)) t * 5 ^ h := Nat.mul_le_mul_right _ hl2; show 2 * 5 ^ h <= (s :: qAl t).length; rw [List.length_cons]; omega
theorem WI.high {T : TM} {W : WM} {l : List KV} {H N : Nat} (h : WI T 250 W l H N) (k : Nat) (hk : N < 2 * 5 ^ k) : WI T 250 W l k N := by
 obtain ⟨h1, h2, h3⟩ := h; refine ⟨h1, h2, ?_⟩; rcases h3 with h4 | ⟨ht, t, F, h4, h5⟩
 ·exact .inl h4
 ·refine .inr ⟨ht, t, F, ⟨h4.nz, ?_, h4.sd, h4.two, h4.fl, h4.acc⟩, h5⟩; cases ht with
  | zero => exact Nat.zero_le _
  | succ g =>
   have h6 := jFc h4.sd (h4.two (by omega) (by omega))
   by_cases hg : g + 1 <= k
   ·exact hg
   ·have : 5 ^ k <= 5 ^ g := Nat.pow_le_pow_right (by omega) (by omega)
    omega
theorem WI.spots {T : TM} {m : Nat} {W : WM} {l : List KV} {H N : Nat} (h : WI T m W l H N) : (N : Int) <= W.next - 1 /\ 1 <= W.next := by
 obtain ⟨_, _, h3⟩ := h; rcases h3 with ⟨_, _, rfl, F, hA⟩ | ⟨ht, t, F, h4, h5⟩
 ·have := hA.len; have := hA.pos; simp only [List.length_nil] at *; omega
 ·have := h4.acc.len; have := h4.acc.pos; simp only [List.length_nil] at *; omega
def chgs (cs : List Cg) (l : List KV) : List KV := cs.foldl (fun l c => chg c l) l
def qNo (W : WM) (y : Int) : Prop := W.nodes y ≠ none \/ W.after y ≠ none
structure Allx (L : Int) (W W' : WM) (N N' k : Nat) : Prop where
 lo : W.next <= W'.next
 hi : W'.next <= W.next + 32 * k
 mono : W.full = true -> W'.full = true
 use : N' <= N + 32 * k
 sharp : W.full = false -> W.next <= L -> L <= 16384 -> (W'.full = true -> L <= (N : Int) + 8 * k) /\ (W'.full = false -> W'.next <= L /\ N' <= N + 8 * k /\ ∃ X : List Int, X.length <= 21 * k /\ ∀ y, qNo W' y -> y ∈ X \/ qNo W y)
theorem jEb {T : TM} {L : Int} : ∀ (cs : List Cg) (W : WM) (l : List KV) (H N : Nat), (∀ c ∈ cs, CgOk c) -> WI T 250 W l H N -> W.next + 32 * cs.length <= 576460752303423488 →
  ∃ (W' : WM) (N' : Nat), allM T L 70 cs W = some W' /\ WI T 250 W' (chgs cs l) 26 N' /\ Allx L W W' N N' cs.length
 | [], W, l, H, N, _, hW, hn => by
  have hs := hW.spots; simp only [List.length_nil] at hn; exact ⟨W, N, rfl, hW.high 26 (by omega), Int.le_refl _, by simp, fun h => h, by simp, fun hf hl _ => ⟨fun h => (by rw [hf] at h; cases h), fun _ => ⟨hl, by simp, [], by simp, fun y hy => .inr hy⟩⟩⟩
 | c :: cs, W, l, H, N, hc, hW, hn => by
  have hs := hW.spots; simp only [List.length_cons] at hn; have hW1 := hW.high 26 (by omega)
  obtain ⟨W1, N1, k1, k2, k3, k4⟩ := jBh (L := L) (f := 70) (.inr rfl) (hc c List.mem_cons_self) hW1 (by omega) (by omega)
  have hhi := k4.hi; obtain ⟨W', N', r1, r2, r3⟩ := jEb (L := L) cs W1 (chg c l) _ N1 (fun x hx => hc x (List.mem_cons_of_mem _ hx)) k2 (by omega)
  have rhi := r3.hi; have rlo := r3.lo; have ruse := r3.use; have klo := k4.lo; refine ⟨W', N', ?_, r2, Int.le_trans klo rlo, ?_, fun h => r3.mono (k4.mono h), ?_, fun hf hl hL => ?_⟩
  ·show (oneM T L 70 W c).bind _ = _; rw [k1]; exact r1
  ·simp only [List.length_cons]; omega
  ·simp only [List.length_cons]; omega
  ·simp only [List.length_cons]; have hW6 := hW.high 6 (by omega)
   obtain ⟨W2, N2, j1, j2, j3, j4⟩ := jBh (L := L) (f := 70) (.inr rfl) (hc c List.mem_cons_self) hW6 (by omega) (by omega)
   rw [k1] at j1; cases j1
   have hN : N1 = N2 := by
    obtain ⟨_, _, a⟩ := k2; obtain ⟨_, _, b⟩ := j2; rcases a with ⟨a1, _, a3, _⟩ | ⟨h1, t1, F1, a1, a2⟩
    ·rcases b with ⟨b1, _, b3, _⟩ | ⟨h2, t2, F2, b1, _⟩
     ·rw [a3, b3]
     ·exact absurd a1 b1.nz
    ·rcases b with ⟨b1, _, b3, _⟩ | ⟨h2, t2, F2, b1, b2⟩
     ·exact absurd b1 a1.nz
     ·have hF : F1 = F2 := by
       have u : ∀ {A B : List Int} {f : Int}, qNe (W1.link T) f A -> qNe (W1.link T) f B -> A = B := by
        intro A; induction A with
        | nil =>
         intro B f h1 h2; cases B with
         | nil => rfl
         | cons y r => exact absurd (h2.1.symm.trans h1) h2.2.1
        | cons x r ih =>
         intro B f h1 h2; cases B with
         | nil => exact absurd (h1.1.symm.trans h2) h1.2.1
         | cons y q =>
          obtain ⟨e1, _, z1, g1, g2⟩ := h1; obtain ⟨e2, _, z2, g3, g4⟩ := h2; subst e1; subst e2; rw [g1] at g3; cases g3
          rw [ih g2 g4]
       exact u a1.acc.chain b1.acc.chain
      have l1 := a1.acc.len; have l2 := b1.acc.len; rw [hF] at l1; omega
   subst hN; cases hf1 : W1.full with
   | true =>
    have hL2 := (j4.full hf1).resolve_left (by rw [hf]; exact Bool.false_ne_true)
    have hm := r3.mono hf1; exact ⟨fun _ => by omega, fun h => (by rw [hm] at h; cases h)⟩
   | false =>
    have hn1 : W1.next <= L := (j4.room hf1).elim (fun h => by omega) id
    obtain ⟨q1, q2⟩ := r3.sharp hf1 hn1 hL; refine ⟨fun h => ?_, fun h => ?_⟩
    ·have := q1 h; omega
    ·obtain ⟨p1, p2, X, p3, p4⟩ := q2 h; obtain ⟨Y, y1, y2⟩ := j4.touch (by omega)
     refine ⟨p1, by omega, Y ++ X, by rw [List.length_append]; omega, fun y hy => ?_⟩
     rcases p4 y hy with h5 | h5
     ·exact .inl (List.mem_append_right _ h5)
     ·exact (y2 y h5).imp (fun h6 => List.mem_append_left _ h6) id
theorem jDx {T : TM} {L : Int} (cs : List Cg) {l : List KV} {H N : Nat} (hc : ∀ c ∈ cs, CgOk c) (h : TI T 250 l H N) (hn : T.next + 32 * cs.length <= 576460752303423488) :
  ∃ (W' : WM) (N' : Nat), allM T L 70 cs T.begin = some W' /\ WI T 250 W' (chgs cs l) 26 N' /\ Allx L T.begin W' N N' cs.length := jEb cs T.begin l H N hc h hn
end
section
open Go Go.RowKit
theorem qDu {c : Cg} {l : List KV} {p : KV} : p ∈ chg c l ↔ (p ∈ l /\ p.1 ≠ c.key) \/ (c.gone = false /\ p = (c.key, c.value)) := by
 unfold chg Cg.put; rw [List.mem_append, List.mem_append, List.mem_filter, List.mem_filter]; constructor
 ·rintro (⟨h1, h2⟩ | h | ⟨h1, h2⟩)
  ·exact .inl ⟨h1, qPr h2⟩
  ·cases hg : c.gone with
   | true => rw [hg] at h; cases h
   | false => rw [hg] at h; exact .inr ⟨rfl, List.mem_singleton.1 h⟩
  ·exact .inl ⟨h1, (qPr h2).symm⟩
 ·rintro (⟨h1, h2⟩ | ⟨h1, rfl⟩)
  ·cases ha : kl p.1 c.key with
   | true => exact .inl ⟨h1, by simp⟩
   | false =>
    cases hb : kl c.key p.1 with
    | true => exact .inr (.inr ⟨h1, by simp⟩)
    | false => exact absurd (qHl ha hb) h2
  ·rw [h1]; exact .inr (.inl List.mem_cons_self)
theorem qUj : ∀ {a b : List KV}, Asc a -> Asc b -> (∀ p, p ∈ a ↔ p ∈ b) -> a = b
 | [], [], _, _, _ => rfl
 | [], y :: b, _, _, h => by have := (h y).2 List.mem_cons_self; cases this
 | x :: a, [], _, _, h => by have := (h x).1 List.mem_cons_self; cases this
 | x :: a, y :: b, ha, hb, h => by
  obtain ⟨a1, a2⟩ := List.pairwise_cons.1 ha; obtain ⟨b1, b2⟩ := List.pairwise_cons.1 hb; have hxy : x = y := by
   rcases List.mem_cons.1 ((h x).1 List.mem_cons_self) with e | e
   ·exact e
   ·rcases List.mem_cons.1 ((h y).2 List.mem_cons_self) with e2 | e2
    ·exact e2.symm
    ·have h1 := a1 y e2; rw [qDw (b1 x e)] at h1; cases h1
  subst hxy; refine congrArg _ (qUj a2 b2 (fun p => ⟨fun hp => ?_, fun hp => ?_⟩))
  ·rcases List.mem_cons.1 ((h p).1 (List.mem_cons_of_mem _ hp)) with e | e
   ·subst e; have := a1 p hp; rw [qBz] at this; cases this
   ·exact e
  ·rcases List.mem_cons.1 ((h p).2 (List.mem_cons_of_mem _ hp)) with e | e
   ·subst e; have := b1 p hp; rw [qBz] at this; cases this
   ·exact e
theorem qHa (c : Cg) (cs : List Cg) (l : List KV) : chgs (c :: cs) l = chgs cs (chg c l) := rfl
theorem qWu : ∀ (cs : List Cg) {l : List KV}, Asc l -> Asc (chgs cs l)
 | [], _, h => h
 | c :: cs, _, h => qWu cs (jDv (c := c) h)
structure PK where
 k : ByteArray
 v : ByteArray
 x : ByteArray
def qGl : Option PK -> Option PK -> List Cg
 | none, none => []
 | none, some q => ⟨q.k, q.v, false⟩ :: (if q.x.toList.isEmpty = true then [] else [⟨q.x, ⟨#[]⟩, false⟩])
 | some p, none => ⟨p.k, ⟨#[]⟩, true⟩ :: (if p.x.toList.isEmpty = true then [] else [⟨p.x, ⟨#[]⟩, true⟩])
 | some p, some q => ⟨q.k, q.v, false⟩ :: (if q.x.toList.isEmpty = true \/ p.x.toList = q.x.toList then [] else [⟨q.x, ⟨#[]⟩, false⟩, ⟨p.x, ⟨#[]⟩, true⟩])
def qRb : Option PK -> KV -> Prop
 | none, _ => False
 | some q, p => p = (q.k, q.v) \/ (q.x.toList.isEmpty = false /\ p = (q.x, ⟨#[]⟩))
structure PKok (q : PK) (idx : Bool) : Prop where
 ne : q.x.toList.isEmpty = false -> q.k ≠ q.x
 idx : q.x.toList.isEmpty = !idx
theorem qNq {P Q : Option PK} {idx : Bool} (hP : ∀ p, P = some p -> PKok p idx) (hQ : ∀ q, Q = some q -> PKok q idx) (hk : ∀ p q, P = some p -> Q = some q -> p.k = q.k)
  (hd : ∀ p q, P = some p -> Q = some q -> q.x.toList.isEmpty = false -> p.k ≠ q.x) {l : List KV} (h : ∀ p, p ∈ l ↔ qRb P p) : ∀ p, p ∈ chgs (qGl P Q) l ↔ qRb Q p := by
 intro r; cases P with
 | none =>
  have hl : ∀ p, p ∉ l := fun p hp => (h p).1 hp
  cases Q with
  | none => exact ⟨fun hp => (hl r hp).elim, fun hp => hp.elim⟩
  | some q =>
   have hq := hQ q rfl; show r ∈ chgs (_ :: _) l ↔ (r = (q.k, q.v) \/ _); rw [qHa]; cases hx : q.x.toList.isEmpty with
   | true =>
    rw [if_pos rfl]; show r ∈ chg _ l ↔ _; rw [qDu]; constructor
    ·rintro (⟨h1, _⟩ | ⟨_, h1⟩)
     ·exact (hl r h1).elim
     ·exact .inl h1
    ·rintro (h1 | ⟨h1, _⟩)
     ·exact .inr ⟨rfl, h1⟩
     ·cases h1
   | false =>
    rw [if_neg (by decide)]
    show r ∈ chg _ (chg _ l) ↔ _; rw [qDu, qDu]; have hne := hq.ne hx; constructor
    ·rintro (⟨⟨h1, _⟩ | ⟨_, h1⟩, _⟩ | ⟨_, h1⟩)
     ·exact (hl r h1).elim
     ·exact .inl h1
     ·exact .inr ⟨rfl, h1⟩
    ·rintro (h1 | ⟨_, h1⟩)
     ·exact .inl ⟨.inr ⟨rfl, h1⟩, by rw [h1]; exact hne⟩
     ·exact .inr ⟨rfl, h1⟩
 | some p =>
  have hp := hP p rfl; cases Q with
  | none =>
   show r ∈ chgs (_ :: _) l ↔ False; rw [qHa]; cases hx : p.x.toList.isEmpty with
   | true =>
    rw [if_pos rfl]; show r ∈ chg _ l ↔ _; rw [qDu, h]; constructor
    ·rintro (⟨h1 | ⟨h1, _⟩, h2⟩ | ⟨h1, _⟩)
     ·exact h2 (by rw [h1])
     ·rw [hx] at h1; cases h1
     ·cases h1
    ·exact fun e => e.elim
   | false =>
    rw [if_neg (by decide)]
    show r ∈ chg _ (chg _ l) ↔ _; rw [qDu, qDu, h]; constructor
    ·rintro (⟨⟨h1 | ⟨_, h1⟩, h2⟩ | ⟨h1, _⟩, h3⟩ | ⟨h1, _⟩)
     ·exact h2 (by rw [h1])
     ·exact h3 (by rw [h1])
     ·cases h1
     ·cases h1
    ·exact fun e => e.elim
  | some q =>
   have hq := hQ q rfl; have hkk := hk p q rfl rfl; have hdd := hd p q rfl rfl; have hi : p.x.toList.isEmpty = q.x.toList.isEmpty := by rw [hp.idx, hq.idx]
   show r ∈ chgs (_ :: _) l ↔ (r = (q.k, q.v) \/ _); rw [qHa]; cases hx : q.x.toList.isEmpty with
   | true =>
    rw [if_pos (.inl rfl)]; show r ∈ chg _ l ↔ _; rw [qDu, h]; constructor
    ·rintro (⟨h1 | ⟨h1, _⟩, h2⟩ | ⟨_, h1⟩)
     ·exact (h2 (by rw [h1]; exact hkk)).elim
     ·rw [hi, hx] at h1; cases h1
     ·exact .inl h1
    ·rintro (h1 | ⟨h1, _⟩)
     ·exact .inr ⟨rfl, h1⟩
     ·cases h1
   | false =>
    have hne := hq.ne hx; have hpx : p.x.toList.isEmpty = false := by rw [hi, hx]
    have hnp := hp.ne hpx; by_cases he : p.x.toList = q.x.toList
    ·have he' : p.x = q.x := toList_inj he; rw [if_pos (.inr he)]; show r ∈ chg _ l ↔ _; rw [qDu, h]; constructor
     ·rintro (⟨h1 | ⟨_, h1⟩, h2⟩ | ⟨_, h1⟩)
      ·exact (h2 (by rw [h1]; exact hkk)).elim
      ·exact .inr ⟨rfl, by rw [h1, he']⟩
      ·exact .inl h1
     ·rintro (h1 | ⟨_, h1⟩)
      ·exact .inr ⟨rfl, h1⟩
      ·exact .inl ⟨.inr ⟨hpx, by rw [h1, he']⟩, by rw [h1]; exact hne.symm⟩
    ·have he' : p.x ≠ q.x := fun e => he (by rw [e])
     rw [if_neg (fun e => e.elim (fun e => by cases e) he)]
     show r ∈ chg _ (chg _ (chg _ l)) ↔ _; rw [qDu, qDu, qDu, h]; constructor
     ·rintro (⟨⟨⟨h1 | ⟨_, h1⟩, h2⟩ | ⟨_, h1⟩, h3⟩ | ⟨_, h1⟩, h4⟩ | ⟨h1, _⟩)
      ·exact (h2 (by rw [h1]; exact hkk)).elim
      ·exact (h4 (by rw [h1])).elim
      ·exact .inl h1
      ·exact .inr ⟨rfl, h1⟩
      ·cases h1
     ·rintro (h1 | ⟨_, h1⟩)
      ·exact .inl ⟨.inl ⟨.inr ⟨rfl, h1⟩, by rw [h1]; exact hne⟩, by rw [h1]; show q.k ≠ p.x; rw [<- hkk]; exact hnp⟩
      ·exact .inl ⟨.inr ⟨rfl, h1⟩, by rw [h1]; exact he'.symm⟩
end
section
open Go Go.RowKit
theorem qFw (t : TypeId) (a b : ByteArray) : binOp .geq t (.string a) (.string b) = pure (.bool (!Op.bytesLess a.toList b.toList)) := by simp [binOp, Op.stringOp]
attribute [local go_sem] qFw
abbrev kcs (p : KV) : List Value := [.string p.1, .string p.2]
theorem qIf (p : KV) : (kcs p).length = 2 := rfl
abbrev ccs (c : Cg) : List Value := [.string c.key, .string c.value, .bool c.gone]
theorem qKu (c : Cg) : (ccs c).length = 3 := rfl
theorem qVn {w : World} (x y : ByteArray) (t : TypeId) : Src (w.alloc (.cells #[.string x, .string y] t)) 2 (some ⟨w.heap.size, 0, none⟩) 1 [.string x, .string y] := qAw (heap_alloc_new w _) rfl
theorem qVo {x y : ByteArray} : ∀ u ∈ ([.string x, .string y] : List Value), u.oneCell' = true := by
 intro u hu; simp at hu; rcases hu with rfl | rfl <;> rfl
theorem qRm {w : World} {t : TypeId} {size n cap : Nat} {la : Option Addr} {xs : List Value} (h : Own w t size la n cap xs) (o : Obj) : Own (w.alloc o) t size la n cap xs := h.mod (S := fun _ => False) ((Mod.refl _ w).alloc o) (fun _ _ e => e)
theorem jGp (o : List KV) (x y : ByteArray) : (o ++ [(x, y)]).flatMap kcs = o.flatMap kcs ++ [.string x, .string y] := by rw [List.flatMap_append]; rfl
end
section
open Go Go.RowKit
def qNj (l : List KV) (key : ByteArray) : Value :=
 match l.find? (fun p => decide (p.1 = key)) with
 | some p => .tuple #[.string p.2, .bool true]
 | none => .tuple #[.string ⟨#[]⟩, .bool false]
theorem qRf {l : List KV} {k : Nat} {x : KV} {key : ByteArray} (hx : l[k]? = some x) (hk : x.1 = key) (hb : ∀ p ∈ l.take k, p.1 ≠ key) : qNj l key = .tuple #[.string x.2, .bool true] := by
 obtain ⟨hlt, rfl⟩ := List.getElem?_eq_some_iff.1 hx; have e : l = l.take k ++ l[k] :: l.drop (k + 1) := by rw [List.getElem_cons_drop, List.take_append_drop]
 have h1 : (l.take k).find? (fun p => decide (p.1 = key)) = none := List.find?_eq_none.2 (fun p hp => by simpa using hb p hp)
 have h2 : (l.take k ++ l[k] :: l.drop (k + 1)).find? (fun p => decide (p.1 = key)) = some l[k] := by rw [List.find?_append, h1, Option.none_or, List.find?_cons_of_pos (by simpa using hk)]
 rw [<- e] at h2; unfold qNj; rw [h2]
theorem jAp {l : List KV} {key : ByteArray} (hb : ∀ p ∈ l, p.1 ≠ key) : qNj l key = .tuple #[.string ⟨#[]⟩, .bool false] := by
 have h1 : l.find? (fun p => decide (p.1 = key)) = none := List.find?_eq_none.2 (fun p hp => by simpa using hb p hp)
 unfold qNj; rw [h1]
def qDg (l : List KV) : Nat := (l.map (fun p => p.1.size + p.2.size + 4)).sum
theorem qRj : ∀ (l : List KV), (∀ p ∈ l, p.1.size <= 48 /\ p.2.size <= 200) -> qDg l <= 252 * l.length
 | [], _ => by simp [qDg]
 | p :: l, h => by
  have h1 := h p List.mem_cons_self; have h2 := qRj l (fun q hq => h q (List.mem_cons_of_mem _ hq))
  unfold qDg at h2 ⊢; rw [List.map_cons, List.sum_cons, List.length_cons]; omega
end
section
open Go Go.RowKit
attribute [local go_sem] qFw
def geK (key : ByteArray) (p : KV) : Bool := !kl p.1 key
def qSw (l : List KV) (key : ByteArray) (most : Int) : List KV := (l.filter (geK key)).take most.toNat
end
section
open Go Go.RowKit
theorem qVv : ∀ (s t a : List UInt8), Op.bytesLess a s = false -> Op.bytesLess (s ++ t) a = false -> s <+: a
 | [], _, a, _, _ => List.nil_prefix
 | c :: s, t, [], h1, _ => by simp [Op.bytesLess] at h1
 | c :: s, t, d :: a, h1, h2 => by
  rw [List.cons_append] at h2; unfold Op.bytesLess at h1 h2; by_cases hcd : c = d
  ·subst hcd; simp at h1 h2
   obtain ⟨r, hr⟩ := qVv s t a h1 h2; exact ⟨r, by rw [List.cons_append, hr]⟩
  ·exfalso
   have h3 : c < d \/ d < c := by
    rcases UInt8.lt_or_lt_of_ne hcd with h | h
    ·exact .inl h
    ·exact .inr h
   rcases h3 with h3 | h3
   ·simp [h3] at h2
   ·simp [h3] at h1
def preB (s : ByteArray) (p : KV) : Bool := s.data.toList.isPrefixOf p.1.data.toList
theorem jLo {s : ByteArray} {p : KV} (h : preB s p = true) : geK s p = true := by
 unfold preB at h; rw [List.isPrefixOf_iff_prefix] at h; obtain ⟨t, ht⟩ := h; unfold geK kl; rw [ByteArray.toList_eq, ByteArray.toList_eq, <- ht]; have aux : ∀ (s t : List UInt8), Op.bytesLess (s ++ t) s = false := by
  intro s; induction s with
  | nil => intro t; cases t <;> simp [Op.bytesLess]
  | cons c s ih => intro t; rw [List.cons_append]; unfold Op.bytesLess; simp [ih t]
 rw [aux]; rfl
theorem qRl {s : ByteArray} : ∀ {l : List KV}, Asc l -> (∀ p ∈ l, geK s p = true) -> l.takeWhile (preB s) = l.filter (preB s)
 | [], _, _ => rfl
 | p :: r, ha, hg => by
  obtain ⟨a1, a2⟩ := List.pairwise_cons.1 ha; cases hp : preB s p with
  | true =>
   rw [List.takeWhile_cons_of_pos hp, List.filter_cons_of_pos hp, qRl a2 (fun q hq => hg q (List.mem_cons_of_mem _ hq))]
  | false =>
   rw [List.takeWhile_cons_of_neg (by rw [hp]; simp), List.filter_cons_of_neg (by rw [hp]; simp)]
   symm
   refine qBb (fun q hq => ?_)
   cases hpq : preB s q with
   | false => rfl
   | true =>
    exfalso
    have h1 := hg p List.mem_cons_self; have h2 := a1 q hq; unfold preB at hpq hp; rw [List.isPrefixOf_iff_prefix] at hpq; obtain ⟨t, ht⟩ := hpq; unfold geK kl at h1; unfold kl at h2; rw [ByteArray.toList_eq, ByteArray.toList_eq] at h1 h2; have h3 : Op.bytesLess (s.data.toList ++ t) p.1.data.toList = false := by
     rw [ht]; have := qDw (a := p.1) (b := q.1) (by unfold kl; rw [ByteArray.toList_eq, ByteArray.toList_eq]; exact h2)
     unfold kl at this; rw [ByteArray.toList_eq, ByteArray.toList_eq] at this; exact this
    have h4 := qVv s.data.toList t p.1.data.toList (by simpa using h1) h3
    rw [<- List.isPrefixOf_iff_prefix] at h4; rw [h4] at hp; cases hp
theorem jDu {s : ByteArray} {l : List KV} (ha : Asc l) : (l.filter (geK s)).takeWhile (preB s) = l.filter (preB s) := by
 rw [qRl (qFx _ ha) (fun p hp => (List.mem_filter.1 hp).2), List.filter_filter]
 congr 1
 funext p
 cases hp : preB s p with
 | false => simp
 | true => simp [jLo hp]
end
section
open Go Go.RowKit
def be : Nat -> Nat -> List UInt8
 | 0, _ => []
 | k + 1, u => UInt8.ofNat (u / 256 ^ k % 256) :: be k u
theorem qDz : ∀ k u, (be k u).length = k
 | 0, _ => rfl
 | k + 1, u => by rw [be, List.length_cons, qDz k u]
theorem jIg : ∀ (k u i : Nat), i < k -> (be k u)[i]? = some (UInt8.ofNat (u / 256 ^ (k - 1 - i) % 256))
 | 0, _, _ => fun h => by omega
 | k + 1, u, 0 => fun _ => by rw [be, List.getElem?_cons_zero, show k + 1 - 1 - 0 = k by omega]
 | k + 1, u, i + 1 => fun h => by rw [be, List.getElem?_cons_succ, jIg k u i (by omega), show k + 1 - 1 - (i + 1) = k - 1 - i by omega]
theorem qWt : ∀ (k u : Nat), be k (u % 256 ^ k) = be k u
 | 0, _ => rfl
 | k + 1, u => by
  have h1 : u % 256 ^ (k + 1) / 256 ^ k % 256 = u / 256 ^ k % 256 := by
   rw [Nat.pow_succ, Nat.mod_mul_right_div_self, Nat.mod_mod]
  have h2 : be k (u % 256 ^ (k + 1)) = be k u := by
   rw [<- qWt k (u % 256 ^ (k + 1)), <- qWt k u, Nat.pow_succ, Nat.mod_mul_right_mod]
  rw [be, be, h1, h2]
theorem be_lt : ∀ (k u v : Nat), u < 256 ^ k -> v < 256 ^ k -> ∀ x y : List UInt8, be k u ++ x < be k v ++ y ↔ u < v \/ (u = v /\ x < y)
 | 0, u, v => fun h1 h2 x y => by
  have e1 : u = 0 := by simpa using h1
  have e2 : v = 0 := by simpa using h2
  subst e1 e2; simp [be]
 | k + 1, u, v => fun h1 h2 x y => by
  rw [be, be, List.cons_append, List.cons_append, List.cons_lt_cons_iff, <- qWt k u, <- qWt k v,
   be_lt k (u % 256 ^ k) (v % 256 ^ k) (Nat.mod_lt _ (Nat.pow_pos (by decide))) (Nat.mod_lt _ (Nat.pow_pos (by decide)))]
  have p : 0 < 256 ^ k := Nat.pow_pos (by decide)
  have q1 : u / 256 ^ k < 256 := Nat.div_lt_of_lt_mul (by rw [Nat.pow_succ] at h1; exact h1)
  have q2 : v / 256 ^ k < 256 := Nat.div_lt_of_lt_mul (by rw [Nat.pow_succ] at h2; exact h2)
  rw [Nat.mod_eq_of_lt q1, Nat.mod_eq_of_lt q2]; have l1 : UInt8.ofNat (u / 256 ^ k) < UInt8.ofNat (v / 256 ^ k) ↔ u / 256 ^ k < v / 256 ^ k := by
   rw [UInt8.lt_iff_toNat_lt, qDi _ q1, qDi _ q2]
  have l2 : UInt8.ofNat (u / 256 ^ k) = UInt8.ofNat (v / 256 ^ k) ↔ u / 256 ^ k = v / 256 ^ k := by
   constructor
   ·intro h; have := congrArg UInt8.toNat h
    rwa [qDi _ q1, qDi _ q2] at this
   ·intro h; rw [h]
  rw [l1, l2]; have d1 := Nat.div_add_mod u (256 ^ k); have d2 := Nat.div_add_mod v (256 ^ k); have m1 := Nat.mod_lt u p; have m2 := Nat.mod_lt v p; generalize u / 256 ^ k = a at *; generalize v / 256 ^ k = b at *; generalize u % 256 ^ k = c at *; generalize v % 256 ^ k = d at *; generalize 256 ^ k = N at *; constructor
  ·rintro (h | ⟨rfl, h | ⟨rfl, h⟩⟩)
   ·left
    have : N * (a + 1) <= N * b := Nat.mul_le_mul_left N h; rw [Nat.mul_add] at this; omega
   ·left; omega
   ·right; exact ⟨by omega, h⟩
  ·rintro (h | ⟨h, h'⟩)
   ·rcases Nat.lt_trichotomy a b with e | e | e
    ·exact .inl e
    ·subst e; exact .inr ⟨rfl, .inl (by omega)⟩
    ·have : N * (b + 1) <= N * a := Nat.mul_le_mul_left N e; rw [Nat.mul_add] at this; omega
   ·rcases Nat.lt_trichotomy a b with e | e | e
    ·have : N * (a + 1) <= N * b := Nat.mul_le_mul_left N e; rw [Nat.mul_add] at this; omega
    ·subst e; exact .inr ⟨rfl, .inr ⟨by omega, h'⟩⟩
    ·have : N * (b + 1) <= N * a := Nat.mul_le_mul_left N e; rw [Nat.mul_add] at this; omega
def rdBE : Nat -> List UInt8 -> Nat
 | a, [] => a
 | a, b :: r => rdBE (a * 256 + b.toNat) r
theorem jAy : ∀ (k u a : Nat), rdBE a (be k u) = a * 256 ^ k + u % 256 ^ k
 | 0, u, a => by simp [be, rdBE, Nat.mod_one]
 | k + 1, u, a => by
  rw [be, rdBE, jAy k u, qDi _ (Nat.mod_lt _ (by decide))]
  have h : u % 256 ^ (k + 1) = 256 ^ k * (u / 256 ^ k % 256) + u % 256 ^ k := by
   rw [Nat.pow_succ, Nat.mod_mul, Nat.add_comm]
  rw [h, Nat.pow_succ, Nat.add_mul, Nat.mul_assoc, Nat.mul_comm 256 (256 ^ k), Nat.mul_comm (u / 256 ^ k % 256)]; omega
theorem qUf : ∀ s u : List UInt8, (0 : UInt8) ∉ s -> (0 : UInt8) ∉ u -> (s ++ [0] < u ++ [0] ↔ s < u)
 | [], [] => fun _ _ => by simp
 | [], b :: u => fun _ h => by
  have hb : b ≠ 0 := fun e => h (by simp [e])
  have : (0 : UInt8) < b := by
   rw [UInt8.lt_iff_toNat_lt]; have : b.toNat ≠ 0 := fun e => hb (UInt8.toNat.inj e)
   show 0 < b.toNat; omega
  rw [List.nil_append, List.cons_append, List.cons_lt_cons_iff]; simp [this]
 | a :: s, [] => fun h _ => by
  have ha : a ≠ 0 := fun e => h (by simp [e])
  rw [List.nil_append, List.cons_append, List.cons_lt_cons_iff]; simp [ha]
 | a :: s, b :: u => fun h h' => by
  rw [List.cons_append, List.cons_append, List.cons_lt_cons_iff, List.cons_lt_cons_iff, qUf s u (fun e => h (by simp [e])) (fun e => h' (by simp [e]))]
def zz (v : Int) : Nat := if 0 <= v then 2 * v.toNat else 2 * (-(v + 1)).toNat + 1
def unzz (n : Nat) : Int := if n % 2 = 1 then -((n / 2 : Nat) : Int) - 1 else ((n / 2 : Nat) : Int)
theorem jIo (v : Int) : unzz (zz v) = v := by
 unfold unzz zz; split
 ·split <;> omega
 ·split <;> omega
theorem jIl {v : Int} (h0 : -9223372036854775808 <= v) (h1 : v <= 9223372036854775807) : zz v < 18446744073709551616 := by
 unfold zz; split <;> omega
def ordN (v : Int) : Nat := (v + 9223372036854775808).toNat
theorem jBe {v : Int} (h1 : v <= 9223372036854775807) : ordN v < 256 ^ 8 := by
 have : (256 : Nat) ^ 8 = 18446744073709551616 := by decide
 unfold ordN; omega
end
end Go.Proofs.YtkinkgbmlhiakaaGreatDoor
