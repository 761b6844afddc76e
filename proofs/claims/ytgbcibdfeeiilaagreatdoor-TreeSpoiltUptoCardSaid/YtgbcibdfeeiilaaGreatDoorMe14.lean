/- merged: TuB TrP TuC RdT -/
import Derived.Test.YtgbcibdfeeiilaaGreatDoorMe13
import Derived.Test.YtgbcibdfeeiilaaGreatDoorMe04
import Derived.IntWalk
namespace Go.Proofs.YtgbcibdfeeiilaaGreatDoor
section
open Go Go.RowKit
structure ChdU (T : TM) (L : Int) (h : Nat) (b : Bool) (W : WM) (R : List Int) (old new : List KV) (W' : WM) (ps : List UK) (F' : List Int) : Prop where
 fo : ∀ x ∈ ps, Su (W'.look T) false h x
 fb : ∀ x ∈ ps, ∃ e, W'.look T x.spot = some (b, e)
 fl : ufl ps = new
 two : ps.length <= 2
 acc : Acc T W' (uus ps) R F'
 kept : KpU T W W' L R (h + 1)
 cnt : W'.count = W.count + ((new.length : Int) - old.length)
theorem jAp (a z b ps : List UK) : qAs ((a ++ (z ++ b)).map ueE) a.length (a.length + z.length) (ps.map upt) = (a ++ (ps ++ b)).map ueE := by
 unfold qAs; rw [List.map_append, List.map_append, List.map_append, List.map_append, List.map_map]; have e1 : (a.map ueE ++ (z.map ueE ++ b.map ueE)).take a.length = a.map ueE := by
  rw [List.take_append_of_le_length (by simp), List.take_of_length_le (by simp)]
 have e2 : (a.map ueE ++ (z.map ueE ++ b.map ueE)).drop (a.length + z.length) = b.map ueE := by
  rw [<- List.append_assoc, List.drop_append_of_le_length (by simp), List.drop_of_length_le (by simp), List.nil_append]
 rw [e1, e2]; rfl
theorem qZm (key : ByteArray) (l : List UK) : qBz key (l.map ueE) = (l.filter (fun e => !kl key e.key)).length - 1 := by
 unfold qBz; rw [List.filter_map, List.length_map]; rfl
theorem qOv {ps : List UK} (hok : OkU ps) (hl : ps.length <= 2) (hk : ∀ p ∈ ufl ps, p.1.size <= 48) (hs : ∀ x ∈ ps, x.spot <= 1152921504606846976) : wt false (ps.map ueE) <= 116 := by
 have h1 : ∀ e ∈ ps, (entL false (ueE e)).length <= 58 := fun e he => by
  obtain ⟨v, r, hfe⟩ := hok e he; exact qHa (leaf := false) (hk (e.key, v) (qTh he (by rw [hfe]; exact List.mem_cons_self))) (Nat.zero_le _) (fun _ => hs e he)
 match ps, hl, h1 with
 | [], _, _ => exact Nat.zero_le _
 | [p], _, h1 =>
  have := h1 p List.mem_cons_self; rw [List.map_cons, List.map_nil, qFj]; omega
 | [p, q], _, h1 =>
  have := h1 p List.mem_cons_self; have := h1 q (List.mem_cons_of_mem _ List.mem_cons_self); rw [List.map_cons, List.map_cons, List.map_nil, qDm, qFj]; omega
theorem jJn {T : TM} {L : Int} {h : Nat} {W W2 : WM} {s : Int} {l2 : List UK} {R F2 : List Int} {old : List KV} (hA : Acc T W2 [s] (uus l2 ++ R) F2) (hB : ∀ x ∈ l2, Su (W2.look T) false h x) (hf : qAy (ufl l2))
  (hw : wt false (l2.map ueE) <= 1380) (hn : W2.next + 2 <= 1152921504606846976) (hk : KpU T W W2 L R (h + 1)) (hc : W2.count = W.count + (((ufl l2).length : Int) - old.length)) :
  ∃ W' ps F', qBu T L W2 false (l2.map ueE) [s] = some (W', ps.map upt) /\ ChdU T L (h + 1) false W R old (ufl l2) W' ps F' := by
 obtain ⟨W', ps, F', k1, k2, k3, k4, k5, k6, k7, k8, _⟩ := jAm (L := L) (h := h + 1) (b := false) hA (qMv hB) hf hw hn; refine ⟨W', ps, F', k1, k2, k3, k4, k5, k6, hk.trans k7 (fun x h => h) (fun x h => h) (by simp only [List.length_cons, List.length_nil]; omega), by rw [k8, hc]⟩
theorem jJf {T : TM} {L : Int} {c : Cg} (hc : CgOk c) {f h : Nat} {W : WM} {s : Int} {l : List KV} {R F : List Int} (hA : Acc T W [s] R F) (hl : W.look T s = some (true, eOf 0 l)) (hg : qAu true (eOf 0 l)) (hf : qAy l) (hn : W.next + 2 <= 1152921504606846976) :
  ∃ W' ps F', qBp T L c (f + 1) W s = some (W', ps.map upt) /\ ChdU T L h true W R l (chg c l) W' ps F' := by
 rw [qHc hl]; by_cases hk : (c.gone && !hasE c (eOf 0 l)) = true
 ·rw [if_pos hk]; rw [Bool.and_eq_true, Bool.not_eq_true', qLk] at hk; have hid := jCb hk.1 hf.asc hk.2; have hp : uus [(⟨fk (eOf 0 l), s, l, [s]⟩ : UK)] = [s] := rfl; refine ⟨W, [⟨fk (eOf 0 l), s, l, [s]⟩], F, rfl, ⟨fun e he => ?_, fun e he => ?_, ?_, by simp, ?_, ⟨fun _ _ => rfl, rfl, by omega, Int.le_refl _, fun h => h, fun _ => .inl (Int.le_refl _)⟩, by rw [hid]; omega⟩⟩
  ·rw [List.mem_singleton] at he; subst he; exact ⟨true, _, [], hl, hg, qIi h l, rfl, rfl⟩
  ·rw [List.mem_singleton] at he; subst he; exact ⟨_, hl⟩
  ·rw [hid]; simp [ufl]
  ·rw [hp]; exact hA
 ·rw [if_neg hk, qJq]; have hA2 : Acc T (W.add (chgN c (eOf 0 l))) [s] ([] ++ R) F := ⟨hA.chain, hA.cnt, hA.used, hA.free, hA.out, hA.pos⟩; have hw : wt true (eOf 0 (chg c l)) <= 1380 := by
   have h1 := jGd hc (eOf 0 l); have h2 := hg.wt; rw [qJq] at h1; omega
  obtain ⟨W', ps, F', k1, k2, k3, k4, k5, k6, k7, k8, _⟩ := jAm (L := L) (h := h) (b := true) hA2 (qIi h (chg c l)) (hf.chg hc) hw hn; refine ⟨W', ps, F', k1, ⟨k2, k3, k4, k5, k6, ⟨k7.other, k7.root, ?_, k7.lo, k7.mono, k7.room⟩, ?_⟩⟩
  ·have h1 : W'.next <= W.next + ((ps.length - [s].length : Nat) : Int) := k7.hi; simp only [List.length_cons, List.length_nil] at h1; omega
  ·have h1 : W'.count = W.count + chgN c (eOf 0 l) := k8; have h2 := qRs (c := c) hf.asc hk; omega
theorem jGh {T : TM} {L : Int} {h : Nat} {W W1 : WM} {s : Int} {a b : List UK} {x y : UK} {R F1 : List Int} {old : List KV} {i : Nat} {b0 : Bool} {ex ey : List Ent}
  (hi : i - 1 = a.length) (hA : Acc T W1 (x.us ++ y.us) (s :: (uus a ++ (uus b ++ R))) F1)
  (ha : ∀ z ∈ a, Su (W1.look T) false h z) (hb : ∀ z ∈ b, Su (W1.look T) false h z) (hx : Su (W1.look T) false h x) (hy : Su (W1.look T) false h y)
  (lx : W1.look T x.spot = some (b0, ex)) (ly : W1.look T y.spot = some (b0, ey)) (hl : (qAg b0 ex).length < 300 \/ (qAg b0 ey).length < 300)
  (hf : qAy (ufl (a ++ (x :: y :: b)))) (hw : wt false ((a ++ (x :: y :: b)).map ueE) <= 1140) (hn : W1.next + 2 <= 1152921504606846976)
  (hk : KpU T W W1 L (s :: R) (h + 1)) (hc : W1.count = W.count + (((ufl (a ++ (x :: y :: b))).length : Int) - old.length)) :
  ∃ W' ps F', qJe T L W1 s ((a ++ (x :: y :: b)).map ueE) i = some (W', ps.map upt) /\ ChdU T L (h + 1) false W R old (ufl (a ++ (x :: y :: b))) W' ps F' := by
 obtain ⟨bx, ex', kx, lx', gx, cx, ux, _⟩ := hx; obtain ⟨by', ey', ky, ly', gy, cy, uy, _⟩ := hy
 rw [lx] at lx'; cases lx'
 rw [ly] at ly'; cases ly'
 have hA2 : Acc T W1 [x.spot, y.spot] ((kx ++ ky) ++ (s :: (uus a ++ (uus b ++ R)))) F1 := hA.move (fun z => by
  rw [ux, uy]; simp only [List.count_cons, List.count_append, List.count_nil]; omega)
 have hmid : ufl (a ++ (x :: y :: b)) = ufl a ++ ((x.fl ++ y.fl) ++ ufl b) := by rw [qBb, qBo, qBo, List.append_assoc]
 have hf2 : qAy (x.fl ++ y.fl) := hf.sub (by
  rw [hmid]; exact (List.sublist_append_left _ _).trans (List.sublist_append_right _ _))
 have hwx : (qAg b0 ex).length = 1 + (if 127 < ex.length then 2 else 1) + wt b0 ex := qCs (by have := gx.len; omega)
 have hwy : (qAg b0 ey).length = 1 + (if 127 < ey.length then 2 else 1) + wt b0 ey := qCs (by have := gy.len; omega)
 have hw2 : wt b0 (ex ++ ey) <= 1380 := by
  rw [qAx]; have h1 := gx.wt; have h2 := gy.wt; rcases hl with h3 | h3
  ·split at hwx <;> omega
  ·split at hwy <;> omega
 obtain ⟨W2, ps2, F2, k1, k2, _, k4, k5, k6, k7, k8, _⟩ := jAm (L := L) (h := h) (b := b0) hA2 (jBu cx cy) hf2 hw2 hn; have hfl : ufl (a ++ (ps2 ++ b)) = ufl (a ++ (x :: y :: b)) := by rw [hmid, qBb, qBb, k4]
 have hspot : ∀ z ∈ ps2, z.spot <= 1152921504606846976 := fun z hz => by
  have h1 := k6.spot (x := z.spot) (.inl (qDq hz (k2 z hz).mem)); have h2 := k7.hi; simp only [List.length_cons, List.length_nil] at h2; omega
 have hwps : wt false (ps2.map ueE) <= 116 := qOv (oku k2) k5 (fun p hp => by rw [k4] at hp; exact (hf2.ok p hp).1.2) hspot
 have hw3 : wt false ((a ++ (ps2 ++ b)).map ueE) <= 1380 := by
  rw [List.map_append, qAx, List.map_cons, List.map_cons, qDm, qDm] at hw; rw [List.map_append, List.map_append, qAx, qAx]; omega
 have hB3 : ∀ z ∈ a ++ (ps2 ++ b), Su (W2.look T) false h z := fun e he => by
  rcases List.mem_append.1 he with he | he
  ·exact (ha e he).congr (fun z hz => k7.other z (List.mem_cons_of_mem _ (List.mem_append_left _ (qDq he hz))))
  ·rcases List.mem_append.1 he with he | he
   ·exact k2 e he
   ·exact (hb e he).congr (fun z hz => k7.other z (List.mem_cons_of_mem _ (List.mem_append_right _ (List.mem_append_left _ (qDq he hz)))))
 have hA3 : Acc T W2 [s] (uus (a ++ (ps2 ++ b)) ++ R) F2 := k6.move (fun z => by
  rw [qDj, qDj]; simp only [List.count_cons, List.count_append, List.count_nil]; omega)
 have hkk : KpU T W W2 L R (h + 1) := hk.trans k7 (fun z hz => List.mem_cons_of_mem _ hz) (fun z hz => List.mem_cons_of_mem _ (List.mem_append_right _ (List.mem_append_right _ hz))) (by simp only [List.length_cons, List.length_nil]; omega)
 obtain ⟨W', ps, F', r1, r2⟩ := jJn (L := L) (old := old) hA3 hB3 (by rw [hfl]; exact hf) hw3 (by have := k7.hi; simp only [List.length_cons, List.length_nil] at this; omega) hkk (by rw [k8, hc, hfl])
 refine ⟨W', ps, F', ?_, by rw [<- hfl]; exact r2⟩
 have he : (a ++ (x :: y :: b)).map ueE = a.map ueE ++ ueE x :: ueE y :: b.map ueE := by rw [List.map_append, List.map_cons, List.map_cons]
 have g1 : ((a ++ (x :: y :: b)).map ueE)[i - 1]? = some (ueE x) := by
  have := (qLd (a.map ueE) (ueE x) (ueE y) (b.map ueE)).1; rw [List.length_map] at this; rw [he, hi]; exact this
 have g2 : ((a ++ (x :: y :: b)).map ueE)[i - 1 + 1]? = some (ueE y) := by
  have := (qLd (a.map ueE) (ueE x) (ueE y) (b.map ueE)).2; rw [List.length_map] at this; rw [he, hi]; exact this
 have g3 : qAs ((a ++ (x :: y :: b)).map ueE) (i - 1) (i - 1 + 2) (ps2.map upt) = (a ++ (ps2 ++ b)).map ueE := by
  rw [hi]; exact jAp a [x, y] b ps2
 have e3 : (ueE x).kid = x.spot := rfl; have e4 : (ueE y).kid = y.spot := rfl; unfold qJe; rw [g1, g2]; simp only [e3, e4, lx, ly]; rw [qCd trivial, k1]; simp only [Option.bind_some]; rw [g3]; exact r1
theorem qWb {T : TM} {L : Int} {c : Cg} (hc : CgOk c) : ∀ (h f : Nat) (W : WM) (s : Int) (b : Bool) (es : List Ent) (fl : List KV) (ks R F : List Int), h < f -> Acc T W (s :: ks) R F -> W.look T s = some (b, es) -> qAu b es -> Cu (W.look T) true h b es fl ks -> qAy fl →
  W.next + (h + 2) <= 1152921504606846976 →
  ∃ W' ps F', qBp T L c f W s = some (W', ps.map upt) /\ ChdU T L h b W R fl (chg c fl) W' ps F'
 | _, 0, _, _, _, _, _, _, _, _, h, _, _, _, _, _, _ => absurd h (Nat.not_lt_zero _)
 | h, f + 1, W, s, true, es, fl, ks, R, F, _, hA, hlk, hg, hS, hf, hn => by
  obtain ⟨rfl, rfl⟩ := qGe hS; exact jJf hc hA hlk hg hf (by omega)
 | 0, f + 1, W, s, false, es, fl, ks, R, F, _, hA, hlk, hg, hS, hf, hn => by cases hS.1
 | h + 1, f + 1, W, s, false, es, fl, ks, R, F, hlt, hA, hlk, hg, hS, hf, hn => by
  obtain ⟨g, hge, l, rfl, rfl, rfl, huni, hB⟩ := qEe hS; cases hge
  obtain ⟨b0, hb0⟩ := huni rfl; have hok := oku hB; have hne : l ≠ [] := fun e => hg.ne (by rw [e]; rfl)
  obtain ⟨a, e, b, rfl, hpl, hle, hgt⟩ := qDh (fun e : UK => e.key) c.key l hne (qIq hok hf.asc)
  have hi : qBz c.key ((a ++ e :: b).map ueE) = a.length := (qZm c.key _).trans hpl; obtain ⟨be, ee, ke, le, ge, ce, ue, _⟩ := hB e (List.mem_append_right _ List.mem_cons_self); obtain ⟨ee2, le2⟩ := hb0 e (List.mem_append_right _ List.mem_cons_self); rw [le] at le2; cases le2
  have hBa : ∀ x ∈ a, Su (W.look T) true h x := fun x hx => hB x (List.mem_append_left _ hx)
  have hBb : ∀ x ∈ b, Su (W.look T) true h x := fun x hx => hB x (List.mem_append_right _ (List.mem_cons_of_mem _ hx))
  have hsec : uus (a ++ e :: b) = uus a ++ (e.us ++ uus b) := by rw [qDj, qDf]
  have hA1 : Acc T W (e.spot :: ke) (s :: (uus a ++ (uus b ++ R))) F := hA.move (fun z => by
   rw [hsec, ue]; simp only [List.count_cons, List.count_append]; omega)
  have hmid := jGs (c := c) (a := a) (b := b) (e := e) hok hf.asc hle hgt; have hfl : ufl (a ++ e :: b) = ufl a ++ (e.fl ++ ufl b) := by rw [qBb, qBo]
  have hfe2 : qAy e.fl := hf.sub (by rw [hfl]; exact (List.sublist_append_left _ _).trans (List.sublist_append_right _ _))
  obtain ⟨W1, ps1, F1, k1, k2⟩ := qWb (T := T) (L := L) hc h f W e.spot b0 ee e.fl ke (s :: (uus a ++ (uus b ++ R))) F (by omega) hA1 le ge ce hfe2 (by omega)
  have hlkx : ((a ++ e :: b).map ueE)[qBz c.key ((a ++ e :: b).map ueE)]? = some (ueE e) := by
   rw [hi, List.getElem?_map]; simp
  rw [qHb hlk hlkx]; have e0 : (ueE e).kid = e.spot := rfl; rw [e0, k1]; simp only [Option.bind_some]; have hspot : ∀ z ∈ ps1, 1 <= z.spot /\ z.spot <= 1152921504606846976 := fun z hz => by
   have h1 := k2.acc.spot (x := z.spot) (.inl (qDq hz (k2.fo z hz).mem)); have h2 := k2.kept.hi; omega
  have hgd : ∀ p ∈ ps1.map upt, 1 <= p.2 /\ p.2 <= 1152921504606846976 := fun p hp => by
   obtain ⟨e, he, rfl⟩ := List.mem_map.1 hp; exact hspot e he
  rw [qCd hgd, hi]; have hfl1 : ufl (a ++ (ps1 ++ b)) = chg c (ufl (a ++ e :: b)) := by rw [hmid, qBb, qBb, k2.fl]
  have hf1 : qAy (ufl (a ++ (ps1 ++ b))) := by rw [hfl1]; exact hf.chg hc
  have hin : qAs ((a ++ e :: b).map ueE) a.length (a.length + 1) (ps1.map upt) = (a ++ (ps1 ++ b)).map ueE := jAp a [e] b ps1; have hoth : ∀ z, z ∈ uus a ++ (uus b ++ R) -> W1.look T z = W.look T z := fun z hz => k2.kept.other z (List.mem_cons_of_mem _ hz)
  have hBa1 : ∀ x ∈ a, Su (W1.look T) true h x := fun x hx => (hBa x hx).congr (fun z hz => hoth z (List.mem_append_left _ (qDq hx hz)))
  have hBb1 : ∀ x ∈ b, Su (W1.look T) true h x := fun x hx => (hBb x hx).congr (fun z hz => hoth z (List.mem_append_right _ (List.mem_append_left _ (qDq hx hz))))
  have hflag : ∀ x, x ∈ a \/ x ∈ b -> ∃ es', W1.look T x.spot = some (b0, es') := fun x hx => by
   rcases hx with hx | hx
   ·obtain ⟨q, hq⟩ := hb0 x (List.mem_append_left _ hx); exact ⟨q, (hoth _ (List.mem_append_left _ (qDq hx (hBa x hx).mem))).trans hq⟩
   ·obtain ⟨q, hq⟩ := hb0 x (List.mem_append_right _ (List.mem_cons_of_mem _ hx)); exact ⟨q, (hoth _ (List.mem_append_right _ (List.mem_append_left _ (qDq hx (hBb x hx).mem)))).trans hq⟩
  have hwps : wt false (ps1.map ueE) <= 116 := qOv (oku k2.fo) k2.two (fun p hp => (hf1.ok p (by rw [qBb, qBb]; exact List.mem_append_right _ (List.mem_append_left _ hp))).1.2) (fun x hx => (hspot x hx).2)
  have hw1 : wt false ((a ++ (ps1 ++ b)).map ueE) <= 1138 := by
   have h1 := hg.wt; rw [List.map_append, qAx] at h1; rw [List.map_cons, qDm] at h1; rw [List.map_append, List.map_append, qAx, qAx]; omega
  have hcnt : W1.count = W.count + (((ufl (a ++ (ps1 ++ b))).length : Int) - (ufl (a ++ e :: b)).length) := by
   have h1 := k2.cnt; rw [qBb, qBb, hfl, k2.fl]; simp only [List.length_append]; omega
  have hkept : KpU T W W1 L (s :: R) (h + 1) := by
   have := k2.kept; exact ⟨fun x hx => this.other x (by
    rcases List.mem_cons.1 hx with rfl | hx
    ·exact List.mem_cons_self
    ·exact List.mem_cons_of_mem _ (List.mem_append_right _ (List.mem_append_right _ hx))), this.root, this.hi, this.lo, this.mono, this.room⟩
  have hnext : W1.next + 2 <= 1152921504606846976 := by
   have := k2.kept.hi; omega
  have plain : ∃ W' ps F', qBu T L W1 false (qAs ((a ++ e :: b).map ueE) a.length (a.length + 1) (ps1.map upt)) [s] = some (W', ps.map upt) ∧
    ChdU T L (h + 1) false W R (ufl (a ++ e :: b)) (chg c (ufl (a ++ e :: b))) W' ps F' := by
   have hA2 : Acc T W1 [s] (uus (a ++ (ps1 ++ b)) ++ R) F1 := k2.acc.move (fun z => by
    rw [qDj, qDj]; simp only [List.count_cons, List.count_append, List.count_nil]; omega)
   have hB2 : ∀ x ∈ a ++ (ps1 ++ b), Su (W1.look T) false h x := fun x hx => by
    rcases List.mem_append.1 hx with hx | hx
    ·exact (hBa1 x hx).weak
    ·rcases List.mem_append.1 hx with hx | hx
     ·exact k2.fo x hx
     ·exact (hBb1 x hx).weak
   have hk' : KpU T W W1 L R (h + 1) := ⟨fun x hx => hkept.other x (List.mem_cons_of_mem _ hx), hkept.root, hkept.hi, hkept.lo, hkept.mono, hkept.room⟩
   obtain ⟨W', ps, F', r1, r2⟩ := jJn (L := L) (old := ufl (a ++ e :: b)) hA2 hB2 hf1 (by omega) hnext hk' hcnt
   rw [hin]; exact ⟨W', ps, F', r1, by rw [<- hfl1]; exact r2⟩
  match ps1, plain, hin, k2, hfl1, hf1, hw1, hcnt with
  | [], plain, _, _, _, _, _, _ => exact plain
  | p :: q :: r, plain, _, _, _, _, _, _ => exact plain
  | [p], plain, hin, k2, hfl1, hf1, hw1, hcnt =>
   have hpm := k2.fo p List.mem_cons_self; obtain ⟨ep, lp⟩ := k2.fb p List.mem_cons_self; have hlen : ((a ++ ([p] ++ b)).map ueE).length = a.length + 1 + b.length := by
    rw [List.length_map, List.length_append, List.length_append, List.length_cons, List.length_nil]; omega
   unfold qJt; simp only [List.map_cons, List.map_nil]; have e2 : (upt p).2 = p.spot := rfl; have hin' : qAs ((a ++ e :: b).map ueE) a.length (a.length + 1) [upt p] = (a ++ ([p] ++ b)).map ueE := hin; simp only [List.map_cons, List.map_nil] at plain; by_cases h1 : 1 < ((a ++ ([p] ++ b)).map ueE).length
   ·rw [hin', if_pos h1, e2, lp]; show ∃ W' ps F', (if (qAg b0 ep).length < 300 then qJe T L W1 s ((a ++ ([p] ++ b)).map ueE) a.length else qBu T L W1 false ((a ++ ([p] ++ b)).map ueE) [s]) = _ /\ _
    by_cases h2 : (qAg b0 ep).length < 300
    ·rw [if_pos h2]; have hps : uus [p] = p.us := by rw [qDf, qHz, List.append_nil]
     have hpacc := k2.acc; rw [hps] at hpacc; rcases List.eq_nil_or_concat a with rfl | ⟨a, q, ha⟩
     ·cases b with
      | nil => rw [hlen] at h1; simp at h1
      | cons q b =>
       obtain ⟨eq, lq⟩ := hflag q (.inr List.mem_cons_self); obtain ⟨W', ps, F', r1, r2⟩ := jGh (L := L) (old := ufl ([] ++ e :: q :: b)) (a := []) (b := b) (x := p) (y := q) (i := 0) (R := R) (s := s) rfl
        (hpacc.move (fun z => by rw [qHz, qDf]; simp only [List.count_cons, List.count_append, List.count_nil]; omega))
        (fun x hx => by cases hx) (fun x hx => (hBb1 x (List.mem_cons_of_mem _ hx)).weak) hpm (hBb1 q List.mem_cons_self).weak lp lq (.inl h2) hf1 (Nat.le_trans hw1 (by omega)) hnext hkept hcnt
       have e9 : ufl ([] ++ p :: q :: b) = chg c (ufl ([] ++ e :: q :: b)) := hfl1; rw [e9] at r2; exact ⟨W', ps, F', r1, r2⟩
     ·rw [List.concat_eq_append] at ha; subst ha; obtain ⟨eq, lq⟩ := hflag q (.inl (List.mem_append_right _ (List.mem_singleton.2 rfl))); have hassoc : a ++ [q] ++ ([p] ++ b) = a ++ (q :: p :: b) := by simp
      rw [hassoc] at hfl1 hf1 hw1 hcnt ⊢; obtain ⟨W', ps, F', r1, r2⟩ := jGh (L := L) (old := ufl (a ++ [q] ++ e :: b)) (a := a) (b := b) (x := q) (y := p) (i := (a ++ [q]).length) (R := R) (s := s) (by simp)
        (hpacc.move (fun z => by rw [qDj, qDf, qHz]; simp only [List.count_cons, List.count_append, List.count_nil]; omega))
        (fun x hx => (hBa1 x (List.mem_append_left _ hx)).weak) (fun x hx => (hBb1 x hx).weak) (hBa1 q (List.mem_append_right _ (List.mem_singleton.2 rfl))).weak hpm lq lp (.inr h2) hf1 (by omega) hnext hkept hcnt
      rw [hfl1] at r2; exact ⟨W', ps, F', r1, r2⟩
    ·rw [if_neg h2, <- hin']; exact plain
   ·rw [hin', if_neg h1, <- hin']; exact plain
end
section
open Go Go.RowKit
theorem qJm {T : TM} {W : WM} {x : Int} (ha : W.after x = none) : (W.done T).nodes x = W.look T x := by
 unfold WM.done WM.look; simp only [ha]; rfl
theorem qMs {T : TM} {W : WM} {x : Int} (hn : W.nodes x = none) (ht : W.after x = none -> W.taken x = false) : (W.done T).after x = W.link T x := by
 unfold WM.done WM.link; simp only [hn]; cases ha : W.after x with
 | some y => rfl
 | none => simp [ht ha]
theorem qLn {T : TM} {W : WM} {U F : List Int} (h : Acc T W U [] F) : Acc (W.done T) (W.done T).begin U [] F := by
 refine ⟨?_, h.cnt, fun x hx => ⟨rfl, fun _ => ⟨rfl, ?_⟩⟩, fun x hx => ⟨rfl, fun _ => ⟨rfl, ?_⟩⟩, fun x hx => ⟨rfl, rfl, rfl, ?_, ?_⟩, h.pos⟩
 ·refine qEx h.chain (fun x hx => ?_)
  obtain ⟨h1, h2⟩ := h.free x hx; show (W.done T).after x = _; exact qMs h1 (fun e => (h2 e).1)
 ·obtain ⟨h1, h2⟩ := h.used x hx; show (W.done T).after x = none; cases hn : W.nodes x with
  | some n => unfold WM.done; simp [hn]
  | none =>
   obtain ⟨h3, h4⟩ := h2 hn; rw [qMs hn (fun _ => h3)]
   unfold WM.link; rw [h1]; exact h4
 ·obtain ⟨h1, h2⟩ := h.free x hx; show (W.done T).nodes x = none; cases ha : W.after x with
  | some y => unfold WM.done; simp [h1, ha]
  | none =>
   rw [qJm ha]; unfold WM.look; rw [h1]; exact (h2 ha).2
 ·obtain ⟨h1, h2, h3, h4, h5⟩ := h.out x hx; show (W.done T).nodes x = none; rw [qJm h2]; unfold WM.look; rw [h1]; exact h4
 ·obtain ⟨h1, h2, h3, h4, h5⟩ := h.out x hx; show (W.done T).after x = none; rw [qMs h1 (fun _ => h3)]
  unfold WM.link; rw [h2]; exact h5
def TI (T : TM) (m : Nat) (l : List KV) (H N : Nat) : Prop := WI T m T.begin l H N
theorem qVv {T : TM} {W : WM} {m : Nat} {l : List KV} {H N : Nat} (h : WI T m W l H N) : TI (W.done T) m l H N := by
 obtain ⟨h1, h2, h3⟩ := h; refine ⟨h1, h2, ?_⟩; rcases h3 with ⟨h4, h5, h6, F, h7⟩ | ⟨ht, t, F, h4, h5⟩
 ·exact .inl ⟨h4, h5, h6, F, qLn h7⟩
 ·refine .inr ⟨ht, t, F, ⟨h4.nz, h4.le, ?_, h4.two, h4.fl, qLn h4.acc⟩, h5⟩; refine qFb h4.sd (fun x hx => ?_)
  show (W.done T).nodes x = _; exact qJm ((h4.acc.used x (.inl hx)).1)
def newT : TM := ⟨0, 1, 0, 0, fun _ => none, fun _ => none⟩
theorem qZu (m H : Nat) : TI newT m [] H 0 := by
 refine ⟨⟨List.Pairwise.nil, (fun _ h => by cases h)⟩, rfl, .inl ⟨rfl, rfl, rfl, [], ⟨rfl, fun x => ?_, fun x hx => ?_, (fun x hx => by cases hx), fun x hx => ⟨rfl, rfl, rfl, rfl, rfl⟩, Int.le_refl _⟩⟩⟩
 ·have : ¬ (1 <= x /\ x < (newT.begin).next) := fun h => by
   have h2 : x < 1 := h.2; omega
  rw [if_neg this]; rfl
 ·rcases hx with hx | hx <;> cases hx
theorem qRb {look : Int -> Option NP} : ∀ {h : Nat} {s : Int} {t : Tr h}, Sd look 250 h s t -> 250 <= wtN h t -> 5 ^ h <= (secs h s t).length
 | 0, _, _, _, _ => Nat.le_refl _
 | h + 1, s, l, k, hw => by
  have hl : 5 <= (eOf (h + 1) l).length := qAu.many k.1.2 hw; have hl2 : 5 <= List.length (α := TE (Tr h)) l := by
   have e : (eOf (h + 1) l).length = List.length (α := TE (Tr h)) l := List.length_map ..; omega
  have aux : ∀ r : List (TE (Tr h)), (∀ e ∈ r, Sd look 250 h e.spot e.sub /\ 250 <= wtN h e.sub) -> r.length * 5 ^ h <= (qAi r).length := by
   intro r; induction r with
   | nil => intro _; simp [qCl]
   | cons e r ih =>
    intro hr; rw [qBi, List.length_append, List.length_cons, Nat.add_mul]; have h1 := qRb (hr e List.mem_cons_self).1 (hr e List.mem_cons_self).2; have h2 := ih (fun x hx => hr x (List.mem_cons_of_mem _ hx))
    omega
  have h1 := aux l (fun e he => ⟨(k.2 e he).1, (k.2 e he).2.2⟩)
  have h2 : 5 * 5 ^ h <= List.length (α := TE (Tr h)) l * 5 ^ h := Nat.mul_le_mul_right _ hl2; show 5 ^ (h + 1) <= (s :: qAi l).length; rw [List.length_cons, Nat.pow_succ]; omega
theorem jDq {look : Int -> Option NP} {h : Nat} {s : Int} {t : Tr (h + 1)} (k : Sd look 250 (h + 1) s t) (h2 : 2 <= tlen (h + 1) t) : 2 * 5 ^ h <= (secs (h + 1) s t).length := by
 have hl2 : 2 <= List.length (α := TE (Tr h)) t := by
  have e : (eOf (h + 1) t).length = List.length (α := TE (Tr h)) t := List.length_map ..; unfold tlen at h2; omega
 have aux : ∀ r : List (TE (Tr h)), (∀ e ∈ r, Sd look 250 h e.spot e.sub /\ 250 <= wtN h e.sub) -> r.length * 5 ^ h <= (qAi r).length := by
  intro r; induction r with
  | nil => intro _; simp [qCl]
  | cons e r ih =>
   intro hr; rw [qBi, List.length_append, List.length_cons, Nat.add_mul]; have h1 := qRb (hr e List.mem_cons_self).1 (hr e List.mem_cons_self).2; have h2 := ih (fun x hx => hr x (List.mem_cons_of_mem _ hx))
   omega
 have h1 := aux t (fun e he => ⟨(k.2 e he).1, (k.2 e he).2.2⟩)
 have h2 : 2 * 5 ^ h <= List.length (α := TE (Tr h)) t * 5 ^ h := Nat.mul_le_mul_right _ hl2; show 2 * 5 ^ h <= (s :: qAi t).length; rw [List.length_cons]; omega
theorem WI.high {T : TM} {W : WM} {l : List KV} {H N : Nat} (h : WI T 250 W l H N) (k : Nat) (hk : N < 2 * 5 ^ k) : WI T 250 W l k N := by
 obtain ⟨h1, h2, h3⟩ := h; refine ⟨h1, h2, ?_⟩; rcases h3 with h4 | ⟨ht, t, F, h4, h5⟩
 ·exact .inl h4
 ·refine .inr ⟨ht, t, F, ⟨h4.nz, ?_, h4.sd, h4.two, h4.fl, h4.acc⟩, h5⟩; cases ht with
  | zero => exact Nat.zero_le _
  | succ g =>
   have h6 := jDq h4.sd (h4.two (by omega) (by omega))
   by_cases hg : g + 1 <= k
   ·exact hg
   ·have : 5 ^ k <= 5 ^ g := Nat.pow_le_pow_right (by omega) (by omega)
    omega
theorem WI.spots {T : TM} {m : Nat} {W : WM} {l : List KV} {H N : Nat} (h : WI T m W l H N) : (N : Int) <= W.next - 1 /\ 1 <= W.next := by
 obtain ⟨_, _, h3⟩ := h; rcases h3 with ⟨_, _, rfl, F, hA⟩ | ⟨ht, t, F, h4, h5⟩
 ·have := hA.len; have := hA.pos; simp only [List.length_nil] at *; omega
 ·have := h4.acc.len; have := h4.acc.pos; simp only [List.length_nil] at *; omega
def chgs (cs : List Cg) (l : List KV) : List KV := cs.foldl (fun l c => chg c l) l
def qNg (W : WM) (y : Int) : Prop := W.nodes y ≠ none \/ W.after y ≠ none
structure Allx (L : Int) (W W' : WM) (N N' k : Nat) : Prop where
 lo : W.next <= W'.next
 hi : W'.next <= W.next + 32 * k
 mono : W.full = true -> W'.full = true
 use : N' <= N + 32 * k
 sharp : W.full = false -> W.next <= L -> L <= 16384 -> (W'.full = true -> L <= (N : Int) + 8 * k) /\ (W'.full = false -> W'.next <= L /\ N' <= N + 8 * k /\ ∃ X : List Int, X.length <= 21 * k /\ ∀ y, qNg W' y -> y ∈ X \/ qNg W y)
theorem jCs {T : TM} {L : Int} : ∀ (cs : List Cg) (W : WM) (l : List KV) (H N : Nat), (∀ c ∈ cs, CgOk c) -> WI T 250 W l H N -> W.next + 32 * cs.length <= 576460752303423488 →
  ∃ (W' : WM) (N' : Nat), allM T L 70 cs W = some W' /\ WI T 250 W' (chgs cs l) 26 N' /\ Allx L W W' N N' cs.length
 | [], W, l, H, N, _, hW, hn => by
  have hs := hW.spots; simp only [List.length_nil] at hn; exact ⟨W, N, rfl, hW.high 26 (by omega), Int.le_refl _, by simp, fun h => h, by simp, fun hf hl _ => ⟨fun h => (by rw [hf] at h; cases h), fun _ => ⟨hl, by simp, [], by simp, fun y hy => .inr hy⟩⟩⟩
 | c :: cs, W, l, H, N, hc, hW, hn => by
  have hs := hW.spots; simp only [List.length_cons] at hn; have hW1 := hW.high 26 (by omega)
  obtain ⟨W1, N1, k1, k2, k3, k4⟩ := qTe (L := L) (f := 70) (.inr rfl) (hc c List.mem_cons_self) hW1 (by omega) (by omega)
  have hhi := k4.hi; obtain ⟨W', N', r1, r2, r3⟩ := jCs (L := L) cs W1 (chg c l) _ N1 (fun x hx => hc x (List.mem_cons_of_mem _ hx)) k2 (by omega)
  have rhi := r3.hi; have rlo := r3.lo; have ruse := r3.use; have klo := k4.lo; refine ⟨W', N', ?_, r2, Int.le_trans klo rlo, ?_, fun h => r3.mono (k4.mono h), ?_, fun hf hl hL => ?_⟩
  ·show (oneM T L 70 W c).bind _ = _; rw [k1]; exact r1
  ·simp only [List.length_cons]; omega
  ·simp only [List.length_cons]; omega
  ·simp only [List.length_cons]; have hW6 := hW.high 6 (by omega)
   obtain ⟨W2, N2, j1, j2, j3, j4⟩ := qTe (L := L) (f := 70) (.inr rfl) (hc c List.mem_cons_self) hW6 (by omega) (by omega)
   rw [k1] at j1; cases j1
   have hN : N1 = N2 := by
    obtain ⟨_, _, a⟩ := k2; obtain ⟨_, _, b⟩ := j2; rcases a with ⟨a1, _, a3, _⟩ | ⟨h1, t1, F1, a1, a2⟩
    ·rcases b with ⟨b1, _, b3, _⟩ | ⟨h2, t2, F2, b1, _⟩
     ·rw [a3, b3]
     ·exact absurd a1 b1.nz
    ·rcases b with ⟨b1, _, b3, _⟩ | ⟨h2, t2, F2, b1, b2⟩
     ·exact absurd b1 a1.nz
     ·have hF : F1 = F2 := by
       have u : ∀ {A B : List Int} {f : Int}, qKn (W1.link T) f A -> qKn (W1.link T) f B -> A = B := by
        intro A; induction A with
        | nil =>
         intro B f h1 h2; cases B with
         | nil => rfl
         | cons y r => exact absurd (h2.1.symm.trans h1) h2.2.1
        | cons x r ih =>
         intro B f h1 h2; cases B with
         | nil => exact absurd (h1.1.symm.trans h2) h1.2.1
         | cons y q =>
          obtain ⟨e1, _, z1, g1, g2⟩ := h1; obtain ⟨e2, _, z2, g3, g4⟩ := h2; subst e1; subst e2; rw [g1] at g3; cases g3
          rw [ih g2 g4]
       exact u a1.acc.chain b1.acc.chain
      have l1 := a1.acc.len; have l2 := b1.acc.len; rw [hF] at l1; omega
   subst hN; cases hf1 : W1.full with
   | true =>
    have hL2 := (j4.full hf1).resolve_left (by rw [hf]; exact Bool.false_ne_true)
    have hm := r3.mono hf1; exact ⟨fun _ => by omega, fun h => (by rw [hm] at h; cases h)⟩
   | false =>
    have hn1 : W1.next <= L := (j4.room hf1).elim (fun h => by omega) id
    obtain ⟨q1, q2⟩ := r3.sharp hf1 hn1 hL; refine ⟨fun h => ?_, fun h => ?_⟩
    ·have := q1 h; omega
    ·obtain ⟨p1, p2, X, p3, p4⟩ := q2 h; obtain ⟨Y, y1, y2⟩ := j4.touch (by omega)
     refine ⟨p1, by omega, Y ++ X, by rw [List.length_append]; omega, fun y hy => ?_⟩
     rcases p4 y hy with h5 | h5
     ·exact .inl (List.mem_append_right _ h5)
     ·exact (y2 y h5).imp (fun h6 => List.mem_append_left _ h6) id
theorem jCo {T : TM} {L : Int} (cs : List Cg) {l : List KV} {H N : Nat} (hc : ∀ c ∈ cs, CgOk c) (h : TI T 250 l H N) (hn : T.next + 32 * cs.length <= 576460752303423488) :
  ∃ (W' : WM) (N' : Nat), allM T L 70 cs T.begin = some W' /\ WI T 250 W' (chgs cs l) 26 N' /\ Allx L T.begin W' N N' cs.length := jCs cs T.begin l H N hc h hn
end
section
open Go Go.RowKit
theorem jBk {T : TM} : ∀ (h f : Nat) (W : WM) (x : UK) (F : List Int), h < f -> W.root = x.spot -> Acc T W x.us [] F -> Su (W.look T) false h x →
  ∃ (W' : WM) (x' : UK) (F' : List Int), qEl T f W = some W' /\ W'.root = x'.spot /\ Acc T W' x'.us [] F' /\ Su (W'.look T) false h x' /\ x'.fl = x.fl /\ W'.count = W.count /\ W'.next = W.next /\ W'.full = W.full
 | _, 0, _, _, _, hlt, _, _, _ => absurd hlt (Nat.not_lt_zero _)
 | h, f + 1, W, x, F, hlt, hr, hA, hS => by
  obtain ⟨b, es, ks, lk0, ge, ce, ue, fke⟩ := id hS; have lk1 : W.look T W.root = some (b, es) := by rw [hr]; exact lk0
  cases b with
  | true =>
   refine ⟨W, x, F, ?_, hr, hA, hS, rfl, rfl, rfl, rfl⟩; simp only [qEl, lk1]
  | false =>
   obtain ⟨g, rfl, k, rfl, hfl, rfl, _, hk⟩ := qEe ce
   match k, ge, lk1, hk, hfl, ue, ce with
   | [], ge, _, _, _, _, _ => exact absurd rfl ge.ne
   | [e], ge, lk1, hk, hfl, ue, _ =>
    have hse := hk e List.mem_cons_self; have hus : uus [e] = e.us := by rw [qDf, qHz, List.append_nil]
    have hufl : ufl [e] = e.fl := by rw [qBo, qLv, List.append_nil]
    rw [ue, hus, <- hr] at hA; have hA2 : Acc T ((W.release W.root).at e.spot) e.us [] (W.root :: F) := qKv (Acc.release hA) e.spot; have hroot : ∀ z ∈ e.us, z ≠ W.root := fun z hz he => by
     have h4 := hA.cnt z; rw [<- he, List.count_cons_self] at h4; have := List.count_pos_iff.2 hz; split at h4 <;> omega
    have hS2 : Su (((W.release W.root).at e.spot).look T) false g e := hse.congr (fun z hz => qGs (hroot z hz))
    obtain ⟨W', x', F', k1, k2, k3, k4, k5, k6, k7, k8⟩ := jBk g f ((W.release W.root).at e.spot) e (W.root :: F) (by omega) rfl hA2 hS2
    refine ⟨W', x', F', ?_, k2, k3, k4.up, by rw [k5, hfl, hufl], k6, k7, k8⟩
    have e1 : ([e] : List UK).map ueE = [ueE e] := rfl; rw [e1] at lk1; simp only [qEl, lk1]; exact k1
   | e1 :: e2 :: r, ge, lk1, _, _, _, _ =>
    refine ⟨W, x, F, ?_, hr, hA, hS, rfl, rfl, rfl, rfl⟩; have e3 : (e1 :: e2 :: r).map ueE = ueE e1 :: ueE e2 :: r.map ueE := rfl; rw [e3] at lk1; simp only [qEl, lk1]
def WU (T : TM) (u : Bool) (W : WM) (l : List KV) (h : Nat) : Prop :=
 qAy l /\ W.count = l.length /\ ((W.root = 0 /\ l = [] /\ ∃ F, Acc T W [] [] F) \/ ∃ (x : UK) (F : List Int), W.root = x.spot /\ Su (W.look T) u h x /\ x.fl = l /\ Acc T W x.us [] F)
structure OnU (L : Int) (W W' : WM) (k : Nat) : Prop where
 lo : W.next <= W'.next
 hi : W'.next <= W.next + k
 room : W'.full = false -> W'.next <= W.next \/ W'.next <= L
theorem KpU.on {T : TM} {W W1 W' : WM} {L : Int} {R : List Int} {k : Nat} (h : KpU T W W1 L R k) (h1 : W'.next = W1.next) (h2 : W'.full = W1.full) : OnU L W W' k :=
 ⟨by rw [h1]; exact h.lo, by rw [h1]; exact h.hi, fun e => by rw [h1]; exact h.room (by rw [<- h2]; exact e)⟩
theorem OnU.le {L : Int} {W W' : WM} {k m : Nat} (h : OnU L W W' k) (hm : k <= m) : OnU L W W' m := ⟨h.lo, by have := h.hi; omega, h.room⟩
theorem jIv {T : TM} {L : Int} {h : Nat} {W W1 : WM} {ps : List UK} {new : List KV} {F1 : List Int} {f : Nat} (hf : h + 1 < f)
  (fo : ∀ x ∈ ps, Su (W1.look T) false h x) (fl : ufl ps = new) (two : ps.length <= 2) (hA : Acc T W1 (uus ps) [] F1) (hk : KpU T W W1 L [] (h + 1))
  (hf2 : qAy new) (hc : W1.count = new.length) (hn : W1.next + 2 <= 1152921504606846976) :
  ∃ W' : WM, topM T L f W1 (ps.map upt) = some W' /\ WU T false W' new (h + 1) /\ OnU L W W' (h + 2) := by
 match ps, two, fo, fl, hA with
 | [], _, _, fl, hA =>
  have hnew : new = [] := fl.symm; exact ⟨W1.at 0, rfl, ⟨hf2, hc, .inl ⟨rfl, hnew, F1, qKv hA 0⟩⟩, OnU.le (k := h + 1) (W' := W1.at 0) (hk.on rfl rfl) (by omega)⟩
 | [p], _, fo, fl, hA =>
  have hps : uus [p] = p.us := by rw [qDf, qHz, List.append_nil]
  have hpf : ufl [p] = p.fl := by rw [qBo, qLv, List.append_nil]
  rw [hps] at hA; obtain ⟨W', x', F', k1, k2, k3, k4, k5, k6, k7, k8⟩ := jBk h f (W1.at p.spot) p F1 (by omega) rfl (qKv hA p.spot) (fo p List.mem_cons_self)
  exact ⟨W', k1, ⟨hf2, k6.trans hc, .inr ⟨x', F', k2, k4.up, by rw [k5, <- hpf, fl], k3⟩⟩, (hk.on k7 k8).le (by omega)⟩
 | [p, q], _, fo, fl, hA =>
  have hA2 : Acc T W1 [] (uus [p, q] ++ []) F1 := hA.move (fun z => by
   simp only [List.count_append, List.count_nil]; omega)
  have hspot : ∀ z ∈ [p, q], z.spot <= 1152921504606846976 := fun z hz => by
   have h1 := hA.spot (x := z.spot) (.inl (qDq hz (fo z hz).mem)); omega
  have hw : wt false ([p, q].map ueE) <= 116 := qOv (oku fo) (by simp) (fun z hz => by rw [fl] at hz; exact (hf2.ok z hz).1.2) hspot
  have hb : (qAg false ([p, q].map ueE)).length <= 1024 := by
   have h1 : ([p, q].map ueE).length = 2 := rfl; have h2 := qCs (leaf := false) (es := [p, q].map ueE) (by rw [h1]; omega)
   rw [h1] at h2; rw [h2]; simp only [show ¬ (127 : Nat) < 2 by omega, if_false]
   omega
  obtain ⟨W2, ps2, F2, k1, k2, _, k4, _, k6, k7, k8, k9⟩ := jAm (L := L) (h := h + 1) (b := false) (es := [p, q].map ueE) hA2 (qMv fo) (by rw [fl]; exact hf2) (by omega) hn
  have h1 := k9 hb
  match ps2, h1, k1, k2, k4, k6, k7 with
  | [], _, _, _, k4, _, _ =>
   exfalso
   obtain ⟨v, r, hfe⟩ := (fo p List.mem_cons_self).first; have h3 : ufl [p, q] = p.fl ++ ufl [q] := qBo p [q]; rw [h3, hfe, qLv] at k4; cases k4
  | [r], _, k1, k2, k4, k6, k7 =>
   have hps : uus [r] = r.us := by rw [qDf, qHz, List.append_nil]
   have hpf : ufl [r] = r.fl := by rw [qBo, qLv, List.append_nil]
   rw [hps] at k6; obtain ⟨W', x', F', r1, r2, r3, r4, r5, r6, r7, r8⟩ := jBk (h + 1) f (W2.at r.spot) r F2 (by omega) rfl (qKv k6 r.spot) (k2 r List.mem_cons_self)
   have hkk : KpU T W W2 L [] (h + 2) := hk.trans k7 (fun x h => h) (fun x h => h) (by simp)
   refine ⟨W', ?_, ⟨hf2, r6.trans (k8.trans hc), .inr ⟨x', F', r2, r4, by rw [r5, <- hpf, k4, fl], r3⟩⟩, hkk.on r7 r8⟩
   show ((qBu T L W1 false (([p, q].map upt).map qKz) []).bind _) = _; have e3 : ([p, q].map upt).map qKz = [p, q].map ueE := rfl; rw [e3, k1]; exact r1
theorem one_u {T : TM} {L : Int} {c : Cg} (hc : CgOk c) {W : WM} {l : List KV} {H f : Nat} (hW : WU T true W l H) (hf : H < f) (hn : W.next + (H + 4) <= 1152921504606846976) :
  ∃ W' : WM, oneM T L f W c = some W' /\ WU T false W' (chg c l) (H + 1) /\ OnU L W W' (H + 2) := by
 obtain ⟨hfl, hcn, hroot⟩ := hW; rcases hroot with ⟨h0, rfl, F, hA⟩ | ⟨x, F, hr, hS, rfl, hA⟩
 ·cases hg : c.gone with
  | true =>
   have hch : chg c [] = [] := by unfold chg Cg.put; rw [hg]; rfl
   refine ⟨W, ?_, ⟨by rw [hch]; exact hfl, by rw [hch]; exact hcn, .inl ⟨h0, hch, F, hA⟩⟩, ⟨Int.le_refl _, by omega, fun _ => .inl (Int.le_refl _)⟩⟩
   unfold oneM; rw [if_neg (fun h => h h0), hg]
   rfl
  | false =>
   have hch : chg c [] = [(c.key, c.value)] := by unfold chg Cg.put; rw [hg]; rfl
   have hok := qAy.chg hfl hc; rw [hch] at hok ⊢; have hA2 : Acc T (W.add 1) [] ([] ++ []) F := ⟨hA.chain, hA.cnt, hA.used, hA.free, hA.out, hA.pos⟩; have hw : wt true [(⟨c.key, c.value, 0⟩ : Ent)] <= 251 := by
    rw [qFj]; exact qHa (leaf := true) hc.key hc.value (fun h => by cases h)
   have hcl : Cu ((W.add 1).look T) false H true [(⟨c.key, c.value, 0⟩ : Ent)] [(c.key, c.value)] [] := qIi H [(c.key, c.value)]; obtain ⟨W1, ps, F1, k1, k2, _, k4, k5, k6, k7, k8, _⟩ := jAm (L := L) (h := H) hA2 hcl hok (by omega) (by show W.next + 2 <= _; omega)
   have hk8 : KpU T W W1 L [] (H + 1 + 1) := ⟨fun x hx => (by cases hx), k7.root, (by
    have h2 : W1.next <= W.next + ((ps.length - ([] : List Int).length : Nat) : Int) := k7.hi; simp only [List.length_nil] at h2; omega), k7.lo, k7.mono, k7.room⟩
   obtain ⟨W', r1, r2, r3⟩ := jIv (L := L) (W := W) (h := H) (f := f + 1) (by omega) k2 k4 k5 k6 (by
    refine ⟨fun x hx => (by cases hx), k7.root, ?_, k7.lo, k7.mono, k7.room⟩
    have h2 : W1.next <= W.next + ((ps.length - ([] : List Int).length : Nat) : Int) := k7.hi; simp only [List.length_nil] at h2; by_cases hp : ps.length <= 1
    ·omega
    ·exfalso
     have hb : (qAg true [(⟨c.key, c.value, 0⟩ : Ent)]).length <= 1024 := by
      have h2 := qCs (leaf := true) (es := [(⟨c.key, c.value, 0⟩ : Ent)]) (by simp)
      rw [h2]; simp only [List.length_cons, List.length_nil, show ¬ (127 : Nat) < 0 + 1 by omega, if_false]
      omega
     rename_i h9
     exact hp (h9 hb)) hok (by
     have h2 : W1.count = W.count + 1 := k8; rw [h2, hcn]; rfl) (by have h2 : W1.next <= W.next + (H + 1 + 1 : Nat) := hk8.hi; omega)
   refine ⟨W', ?_, r2, r3⟩; unfold oneM; rw [if_neg (fun h => h h0), hg]
   simp only [Bool.false_eq_true, if_false]; rw [k1]; exact r1
 ·obtain ⟨b, es, ks, lk0, ge, ce, ue, _⟩ := id hS; have hnz : W.root ≠ 0 := by
   have := hA.spot (x := x.spot) (.inl hS.mem); rw [hr]; omega
  rw [ue] at hA; obtain ⟨W1, ps, F1, k1, k2⟩ := qWb (T := T) (L := L) (c := c) hc H f W x.spot b es x.fl ks [] F hf hA lk0 ge ce hfl (by omega)
  have hn1 : W1.next + 2 <= 1152921504606846976 := by have := k2.kept.hi; omega
  obtain ⟨W', r1, r2, r3⟩ := jIv (L := L) (W := W) (f := f + 1) (by omega) k2.fo k2.fl k2.two k2.acc k2.kept (hfl.chg hc) (by have := k2.cnt; omega) hn1
  refine ⟨W', ?_, r2, r3⟩; unfold oneM; rw [if_pos hnz, hr, k1]; exact r1
theorem jJq {T : TM} {u : Bool} {W : WM} {l : List KV} {h : Nat} (k : WU T u W l h) : WU (W.done T) u (W.done T).begin l h := by
 obtain ⟨h1, h2, h3⟩ := k; refine ⟨h1, h2, ?_⟩; rcases h3 with ⟨h4, h5, F, h7⟩ | ⟨x, F, h4, h5, h6, h7⟩
 ·exact .inl ⟨h4, h5, F, qLn h7⟩
 ·refine .inr ⟨x, F, h4, h5.congr (fun z hz => ?_), h6, qLn h7⟩
  show (W.done T).nodes z = _; exact qJm ((h7.used z (.inl hz)).1)
theorem WU.acc {T : TM} {u : Bool} {W : WM} {l : List KV} {h : Nat} (k : WU T u W l h) : ∃ U F, Acc T W U [] F := by
 rcases k.2.2 with ⟨_, _, F, hA⟩ | ⟨x, F, _, _, _, hA⟩
 ·exact ⟨_, F, hA⟩
 ·exact ⟨_, F, hA⟩
end
section
open Go Go.RowKit
structure RT where
 t : ByteArray
 n : Nat
 e : Nat
def rtOf (s : ByteArray) (at' : Nat) (x : RU) : RT :=
 if x.e = 0 then (if s.size < at' + x.n + x.v then ⟨⟨#[]⟩, 0, 20⟩ else ⟨s.extract (at' + x.n) (at' + x.n + x.v), at' + x.n + x.v, 0⟩) else ⟨⟨#[]⟩, 0, x.e⟩
def rdT (s : ByteArray) (at' : Nat) : RT := rtOf s at' (rdU 0 (s.data.toList.drop at'))
def rtV (x : RT) : Value := .tuple #[.string x.t, .int .i64 (x.n : Int), .int .i64 (x.e : Int)]
theorem qKq (s : ByteArray) (at' : Nat) (he : (rdU 0 (s.data.toList.drop at')).e = 0) : at' + (rdU 0 (s.data.toList.drop at')).n <= s.size /\ 1 <= (rdU 0 (s.data.toList.drop at')).n /\ (rdU 0 (s.data.toList.drop at')).v < 18446744073709551616 := by
 obtain ⟨h1, h2, _, h4⟩ := qMb (s.data.toList.drop at') 0; have h3 := h2 he; have h5 := h4 (by omega)
 rw [Nat.pow_zero, Nat.mul_one] at h5; have h6 : qEg = 18446744073709551616 := by decide
 rw [List.length_drop, Array.length_toList] at h1; have h7 : s.data.size = s.size := rfl; omega
set_option maxRecDepth 100000
set_option maxHeartbeats 2000000 in
theorem qKp (s : ByteArray) (at' : Nat) (w : World) (hs : s.size <= maxLen) : Calls Tryz.prog 119 #[.string s, .int .i64 (at' : Int)] w fun e w' => e = .returned (rtV (rdT s at')) /\ w = w' := by
 have HU := hid (qCg s at' w hs); unfold rdT; unfold maxLen at hs; have hin := qKq s at'; generalize rdU 0 (s.data.toList.drop at') = x at *; obtain ⟨v, n, er⟩ := x; by_cases he : er = 0
 ·subst he; obtain ⟨h1, h2, h3⟩ := hin rfl; simp only at h1 h2 h3; clear hin; have hv : ruV at' ⟨v, n, 0⟩ = .tuple #[.int .u64 (v : Int), .int .i64 ((at' + n : Nat) : Int), .int .i64 0] := by unfold ruV; simp
  have hr : rtOf s at' ⟨v, n, 0⟩ = if s.size < at' + n + v then ⟨⟨#[]⟩, 0, 20⟩ else ⟨s.extract (at' + n) (at' + n + v), at' + n + v, 0⟩ := rfl
  rw [hv] at HU; rw [hr]; clear hv hr; generalize at' + n = m at *; have hwr : IntKind.u64.wrap ((s.size : Int) - (m : Int)) = (s.size : Int) - (m : Int) := by rw [IntKind.wrap_u64]; omega
  by_cases hbig : s.size < m + v
  ·have d : decide ((s.size : Int) - (m : Int) < (v : Int)) = true := by rw [decide_eq_true_iff]; omega
   rw [if_pos hbig]; go_enter Tryz.func119, Tryz.ntmps119
   go_wp2_with fail
   refine HU.out.mono ?_; rintro e w' ⟨rfl, rfl⟩; go_wp2_with fail
   exact bodyPost_ret (v := .tuple #[.string ⟨#[]⟩, .int .i64 0, .int .i64 20]) (by simp [results, Tryz.results119, go_sem]) rfl ⟨rfl, rfl⟩
  ·have d : decide ((s.size : Int) - (m : Int) < (v : Int)) = false := by rw [decide_eq_false_iff_not]; omega
   have hv2 : IntKind.i64.wrap (v : Int) = (v : Int) := IntWalk.i64_in _ (by omega)
   have hsl : ∀ w : World, (Instr.slice 9 (.string s) (some (.int .i64 (m : Int))) (some (.int .i64 ((m : Int) + (v : Int)))) none).run Tryz.prog w = .ok (.string (s.extract m (m + v))) w := fun w => by
    have := run_slice_string (P := Tryz.prog) w 9 s .i64 .i64 (m : Int) ((m : Int) + (v : Int)) Tryz.underlying9 (by omega) (by omega) (by omega)
    rw [show ((m : Int) + (v : Int)).toNat = m + v by omega, show ((m : Int)).toNat = m by omega] at this
    exact this
   have e5 : ((m + v : Nat) : Int) = (m : Int) + (v : Int) := by omega
   have HE5 := hid e5; clear e5; rw [if_neg hbig]; go_enter Tryz.func119, Tryz.ntmps119
   go_wp2_with fail
   refine HU.out.mono ?_; rintro e w' ⟨rfl, rfl⟩; go_wp2_with fail
   exact bodyPost_ret (v := .tuple #[.string (s.extract m (m + v)), .int .i64 ((m : Int) + (v : Int)), .int .i64 0]) (by simp [results, Tryz.results119, go_sem]) rfl ⟨by unfold rtV; rw [HE5.out]; rfl, rfl⟩
 ·have hv : ruV at' ⟨v, n, er⟩ = .tuple #[.int .u64 0, .int .i64 0, .int .i64 (er : Int)] := by unfold ruV; rw [if_neg he]
  rw [hv] at HU; clear hv hin; have HA : Hid (rtOf s at' ⟨v, n, er⟩ = ⟨⟨#[]⟩, 0, er⟩) := hid (by unfold rtOf; rw [if_neg he])
  have hne : ((er : Int) != 0) = true := by rw [bne_iff_ne]; omega
  rw [HA.out]; clear HA; go_enter Tryz.func119, Tryz.ntmps119
  go_wp2_with fail
  refine HU.out.mono ?_; rintro e w' ⟨rfl, rfl⟩; go_wp2_with fail
  exact bodyPost_ret (v := .tuple #[.string ⟨#[]⟩, .int .i64 0, .int .i64 (er : Int)]) (by simp [results, Tryz.results119, go_sem]) rfl ⟨rfl, rfl⟩
end
end Go.Proofs.YtgbcibdfeeiilaaGreatDoor
