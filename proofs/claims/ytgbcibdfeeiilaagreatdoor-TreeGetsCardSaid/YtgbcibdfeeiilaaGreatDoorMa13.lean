/- merged: TrE TrO -/
import Derived.Test.YtgbcibdfeeiilaaGreatDoorMa12
namespace Go.Proofs.YtgbcibdfeeiilaaGreatDoor
section
open Go Go.RowKit
theorem look_fo {look : Int -> Option NP} {m h : Nat} {s : Int} {t : Tr h} (k : Sd look m h s t) : look s = some (lf h, entsOf h t) /\ GoodE (lf h) (entsOf h t) := (sd_iff.1 k).1
theorem many_of {look : Int -> Option NP} {m h : Nat} {s : Int} {t : Tr (h + 1)} (k : Sd look m (h + 1) s t) (hw : 250 <= wtN (h + 1) t) : 2 <= tlen (h + 1) t := by
 have := GoodE.many (look_fo k).2 hw
 unfold tlen
 omega
theorem take_len {α : Type} (a : List α) (x y : α) (b : List α) : (a ++ x :: y :: b)[a.length]? = some x /\ (a ++ x :: y :: b)[a.length + 1]? = some y := by
 constructor
 ·simp
 ·rw [List.getElem?_append_right (by omega), Nat.add_sub_cancel_left]
  rfl
theorem leaf_law {T : TM} {L : Int} {c : Cg} {m : Nat} (hc : CgOk c) {f : Nat} {W : WM} {s : Int} {l : List KV} {R F : List Int} (hA : Acc T W (secs 0 s l) R F) (hS : Sd (W.look T) m 0 s l) (hf : FlatOk l) (hn : W.next + 2 <= 1152921504606846976) :
  ∃ W' ps F' X, changeM T L c (f + 1) W s = some (W', ps.map pt) /\ Chd T L m 0 W R l (chg c l) ((secs 0 s l).length + R.length + 1) W' ps F' X := by
 obtain ⟨hl, hg⟩ := hS
 rw [changeM_leaf hl]
 have hsec : secs 0 s l = [s] := rfl
 by_cases hk : (c.gone && !hasE c (entsOf 0 l)) = true
 ·rw [if_pos hk]
  rw [Bool.and_eq_true, Bool.not_eq_true', has_ents] at hk
  have hid := chg_id hk.1 hf.asc hk.2
  have hp : psecs [(⟨fk (entsOf 0 l), s, l⟩ : TE (Tr 0))] = [s] := rfl
  refine ⟨W, [⟨fk (entsOf 0 l), s, l⟩], F, [s], rfl, ⟨fun e he => ?_, ?_, by simp, fun h => by simp at h, ?_, ⟨fun _ _ => rfl, rfl, Int.le_refl _, by omega, fun h => h, fun h => .inl h, .inl (Int.le_refl _), fun _ => .inl (Int.le_refl _), fun _ h => .inr h⟩, ?_, by rw [hid]; omega, by simp, fun e he => ?_⟩⟩
  ·rw [List.mem_singleton] at he
   subst he
   exact ⟨⟨hl, hg⟩, fkey_fk hg.ne⟩
  ·rw [hid]; exact List.append_nil (α := KV) l
  ·rw [hp]; exact hA
  ·rw [hp, hsec]; omega
  ·rw [List.mem_singleton] at he
   subst he
   exact List.mem_cons_self
 ·rw [if_neg hk, chgE_ents]
  have hA2 : Acc T (W.add (chgN c (entsOf 0 l))) [s] (ksecs 0 (chg c l : Tr 0) ++ R) F := ⟨hA.chain, hA.cnt, hA.used, hA.free, hA.out, hA.pos⟩
  have hw : wt (lf 0) (entsOf 0 (chg c l)) <= 1380 := by
   have h1 := wt_chg hc (entsOf 0 l)
   have h2 := hg.wt
   rw [chgE_ents] at h1
   show wt true _ <= _
   omega
  obtain ⟨W', ps, F', k1, k2, k3, k4, _, k6, _, k7, k8, k9, k10, k11⟩ := keepT (L := L) (h := 0) (m := m) (t := (chg c l : List KV)) hA2 trivial (hf.chg hc) hw hn
  have k11' : (psecs ps).length = ps.length := by rw [k11]; exact Nat.zero_add _
  refine ⟨W', ps, F', _, k1, ⟨k2, k3, k4, k6, k7, ⟨k8.other, k8.root, k8.lo, ?_, k8.mono, fun h => (k8.full h).imp id (fun h => ?_), k8.top.imp id (fun h => ?_), k8.room, k8.touch⟩, by rw [hsec]; simp only [List.length_cons, List.length_nil]; omega, ?_, ?_, k10⟩⟩
  ·have h1 : W'.next <= W.next + ((ps.length - [s].length : Nat) : Int) := k8.hi
   simp only [List.length_cons, List.length_nil] at h1
   omega
  ·rw [hsec]
   simp only [List.length_cons, List.length_nil]
   omega
  ·rw [hsec]
   simp only [List.length_cons, List.length_nil]
   have h' : W'.next <= _ := h
   omega
  ·have h1 : W'.count = W.count + chgN c (entsOf 0 l) := k9
   have h2 := kvchg_len (c := c) hf.asc hk
   omega
  ·rw [List.length_append, List.length_drop, List.length_map]
   simp only [List.length_cons, List.length_nil]
   omega
theorem join_law {T : TM} {L : Int} {m h : Nat} (hm : m = 0 \/ m = 250) {W W1 : WM} {s : Int} {a b : List (TE (Tr h))} {x y : TE (Tr h)} {R F1 X1 : List Int} {old : List KV} {n1 n : Nat} {i : Nat}
  (hi : i - 1 = a.length) (hA : Acc T W1 (secs h x.spot x.sub ++ secs h y.spot y.sub) (s :: (psecs a ++ (psecs b ++ R))) F1)
  (ha : Lowr (W1.look T) m (h + 1) a) (hb : Lowr (W1.look T) m (h + 1) b) (hx : Sd (W1.look T) m h x.spot x.sub) (hy : Sd (W1.look T) m h y.spot y.sub)
  (hl : wtN h x.sub < 300 /\ m <= wtN h y.sub \/ wtN h y.sub < 300 /\ m <= wtN h x.sub)
  (hf : FlatOk (flats (a ++ (x :: y :: b)))) (hw : wt false (entsOf (h + 1) (a ++ (x :: y :: b))) <= 1140) (hok : Ok (a ++ (x :: y :: b))) (hn : W1.next + 2 <= 1152921504606846976)
  (hk : Kept T W W1 L (s :: R) (h + 1) n1 X1) (hc : W1.count = W.count + (((flats (a ++ (x :: y :: b))).length : Int) - old.length)) (hx1 : X1.length <= 3 * h + 2) (hxy : x.spot ∈ X1 \/ y.spot ∈ X1) (hn2 : n1 <= n)
  (hu : (secs h x.spot x.sub).length + (secs h y.spot y.sub).length + (psecs a).length + (psecs b).length + R.length + 2 <= n) :
  ∃ W' ps F' X, joinM T L W1 s (entsOf (h + 1) (a ++ (x :: y :: b))) i = some (W', ps.map pt) /\ Chd T L m (h + 1) W R old (flats (a ++ (x :: y :: b))) n W' ps F' X := by
 obtain ⟨lx, gx⟩ := look_fo hx
 obtain ⟨ly, gy⟩ := look_fo hy
 have hsx := secs_eq h x.spot x.sub
 have hsy := secs_eq h y.spot y.sub
 have hA2 : Acc T W1 [x.spot, y.spot] (ksecs h (tapp h x.sub y.sub) ++ (s :: (psecs a ++ (psecs b ++ R)))) F1 := hA.move (fun z => by
  rw [ksecs_app, hsx, hsy]
  simp only [List.count_cons, List.count_append, List.count_nil]
  omega)
 have hB2 : Lowr (W1.look T) m h (tapp h x.sub y.sub) := below_app (sd_iff.1 hx).2 (sd_iff.1 hy).2
 have hmid : flats (a ++ (x :: y :: b)) = flats a ++ (flat h (tapp h x.sub y.sub) ++ flats b) := by
  rw [flats_append, flat_app]
  have : flats (x :: y :: b) = flat h x.sub ++ (flat h y.sub ++ flats b) := by unfold flats; rw [List.flatMap_cons, List.flatMap_cons]
  rw [this, List.append_assoc]
 have hf2 : FlatOk (flat h (tapp h x.sub y.sub)) := hf.sub (by
  rw [hmid]
  exact (List.sublist_append_left _ _).trans (List.sublist_append_right _ _))
 have hwx : wtN h x.sub = 1 + (if 127 < (entsOf h x.sub).length then 2 else 1) + wt (lf h) (entsOf h x.sub) := bytes_wt (by have := gx.len; omega)
 have hwy : wtN h y.sub = 1 + (if 127 < (entsOf h y.sub).length then 2 else 1) + wt (lf h) (entsOf h y.sub) := bytes_wt (by have := gy.len; omega)
 have hw2 : wt (lf h) (entsOf h (tapp h x.sub y.sub)) <= 1380 := by
  rw [ents_app, wt_append]
  have h1 := gx.wt
  have h2 := gy.wt
  rcases hl with ⟨h3, _⟩ | ⟨h3, _⟩
  ·split at hwx <;> omega
  ·split at hwy <;> omega
 obtain ⟨W2, ps2, F2, k1, k2, k3, k4, k5, k6, _, k7, k8, k9, k10, k11⟩ := keepT (L := L) (h := h) (m := m) hA2 hB2 hf2 hw2 hn
 rw [ents_app] at k1
 have hok2 : Ok (a ++ (ps2 ++ b)) := by
  obtain ⟨o1, o2⟩ := ok_append.1 hok
  refine ok_append.2 ⟨o1, ok_append.2 ⟨fun e he => ⟨wf_sd (k2 e he).1, (k2 e he).2⟩, fun e he => o2 e (List.mem_cons_of_mem _ (List.mem_cons_of_mem _ he))⟩⟩
 have hfl : flats (a ++ (ps2 ++ b)) = flats (a ++ (x :: y :: b)) := by rw [hmid, flats_append, flats_append, k3]
 have hps : (psecs ps2).length <= (secs h x.spot x.sub).length + (secs h y.spot y.sub).length := by
  rw [k11, ksecs_app, List.length_append, hsx, hsy, List.length_cons, List.length_cons]
  omega
 have hspot : ∀ z, z ∈ psecs ps2 -> 1 <= z /\ z <= 1152921504606846976 := fun z hz => by
  have h1 := k7.spot (x := z) (.inl hz)
  have h2 := k8.hi
  simp only [List.length_cons, List.length_nil] at h2
  omega
 have hwps : wt false (entsOf (h + 1) ps2) <= 116 := by
  have h1 : ∀ e ∈ ps2, (entL false (eE e)).length <= 58 := fun e he => by
   obtain ⟨v, r, hfe⟩ := ok_mem (fun e he => ⟨wf_sd (k2 e he).1, (k2 e he).2⟩ : Ok ps2) he
   have hmem : (e.key, v) ∈ flats ps2 := by
    unfold flats
    exact List.mem_flatMap.2 ⟨e, he, by rw [hfe]; exact List.mem_cons_self⟩
   rw [k3] at hmem
   refine ent_len (leaf := false) (hf2.ok _ hmem).1.2 (Nat.zero_le _) (fun _ => (hspot e.spot ?_).2)
   unfold psecs
   exact List.mem_flatMap.2 ⟨e, he, by rw [secs_eq]; exact List.mem_cons_self⟩
  rw [ents_succ]
  match ps2, k4, h1 with
  | [], _, _ => exact Nat.zero_le _
  | [p], _, h1 =>
   have := h1 p List.mem_cons_self
   rw [List.map_cons, List.map_nil, wt_one]
   omega
  | [p, q], _, h1 =>
   have := h1 p List.mem_cons_self
   have := h1 q (List.mem_cons_of_mem _ List.mem_cons_self)
   rw [List.map_cons, List.map_cons, List.map_nil, wt_cons, wt_one]
   omega
 have hw3 : wt false (entsOf (h + 1) (a ++ (ps2 ++ b))) <= 1380 := by
  rw [ents_succ] at hwps
  rw [ents_succ, List.map_append, wt_append, List.map_cons, List.map_cons, wt_cons, wt_cons] at hw
  rw [ents_succ, List.map_append, List.map_append, wt_append, wt_append]
  omega
 have hR2 : ∀ z ∈ psecs a ++ (psecs b ++ R), z ∈ s :: (psecs a ++ (psecs b ++ R)) := fun z hz => List.mem_cons_of_mem _ hz
 have hB3 : Lowr (W2.look T) m (h + 1) (a ++ (ps2 ++ b)) := fun e he => by
  rcases List.mem_append.1 he with he | he
  ·obtain ⟨q1, q2, q3⟩ := ha e he
   exact ⟨sd_congr q1 (fun z hz => k8.other z (hR2 z (List.mem_append_left _ (List.mem_flatMap.2 ⟨e, he, hz⟩)))), q2, q3⟩
  ·rcases List.mem_append.1 he with he | he
   ·refine ⟨(k2 e he).1, (k2 e he).2, ?_⟩
    rcases hm with rfl | rfl
    ·exact Nat.zero_le _
    ·match ps2, k4, k5, k6, he with
     | [p], _, k5, _, he =>
      rw [List.mem_singleton] at he
      subst he
      rw [k5 e rfl]
      have hlx := gx.len
      have hly := gy.len
      rcases hl with ⟨_, h3⟩ | ⟨_, h3⟩
      ·refine Nat.le_trans h3 (bytes_mono (leaf := lf h) ?_ ?_ ?_) <;> (rw [ents_app]; first | rw [wt_append] | rw [List.length_append]) <;> omega
      ·refine Nat.le_trans h3 (bytes_mono (leaf := lf h) ?_ ?_ ?_) <;> (rw [ents_app]; first | rw [wt_append] | rw [List.length_append]) <;> omega
     | [p, q], _, _, k6, he => exact k6 rfl e he
   ·obtain ⟨q1, q2, q3⟩ := hb e he
    exact ⟨sd_congr q1 (fun z hz => k8.other z (hR2 z (List.mem_append_right _ (List.mem_append_left _ (List.mem_flatMap.2 ⟨e, he, hz⟩))))), q2, q3⟩
 have hA3 : Acc T W2 [s] (psecs (a ++ (ps2 ++ b)) ++ R) F2 := k7.move (fun z => by
  rw [psecs_append, psecs_append]
  simp only [List.count_cons, List.count_append, List.count_nil]
  omega)
 have hlen2 : ps2.length - [x.spot, y.spot].length = 0 := by simp only [List.length_cons, List.length_nil]; omega
 have hX2 : X1 ++ [x.spot, y.spot] ≠ [] := by simp
 obtain ⟨X, hXl, hX1, hXx, hXy⟩ : ∃ X : List Int, X.length <= 3 * h + 3 /\ (∀ z ∈ X1, z ∈ X) /\ x.spot ∈ X /\ y.spot ∈ X := by
  rcases hxy with h1 | h1
  ·exact ⟨y.spot :: X1, by rw [List.length_cons]; omega, fun z hz => List.mem_cons_of_mem _ hz, List.mem_cons_of_mem _ h1, List.mem_cons_self⟩
  ·exact ⟨x.spot :: X1, by rw [List.length_cons]; omega, fun z hz => List.mem_cons_of_mem _ hz, List.mem_cons_self, List.mem_cons_of_mem _ h1⟩
 have hpl : (psecs (a ++ (ps2 ++ b))).length = (psecs a).length + (psecs ps2).length + (psecs b).length := by rw [psecs_append, psecs_append, List.length_append, List.length_append]; omega
 have hkk : Kept T W W2 L R (h + 1) n X := kept_trans hk k8 (fun z hz => List.mem_cons_of_mem _ hz) (fun z hz => hR2 z (List.mem_append_right _ (List.mem_append_right _ hz))) (by omega) hn2
  (by simp only [List.length_cons, List.length_append]; omega) hX1 (fun z hz => by
   rcases List.mem_append.1 hz with hz | hz
   ·rcases List.mem_cons.1 hz with rfl | hz
    ·exact hXx
    ·rw [List.mem_singleton] at hz; subst hz; exact hXy
   ·have : ((ps2.map (·.spot)).drop [x.spot, y.spot].length) = [] := List.drop_of_length_le (by rw [List.length_map]; exact k4)
    rw [this] at hz
    cases hz)
 obtain ⟨W', ps, F', X', r1, r2⟩ := fin_law (L := L) (old := old) (n := n) hA3 hB3 (by rw [hfl]; exact hf) hw3 (by have := k8.hi; rw [hlen2] at this; omega) hkk (by rw [k9, hc, hfl]) hXl (Nat.le_refl _) (by omega)
 refine ⟨W', ps, F', X', ?_, by rw [← hfl]; exact r2⟩
 have he : entsOf (h + 1) (a ++ (x :: y :: b)) = a.map eE ++ eE x :: eE y :: b.map eE := by rw [ents_succ, List.map_append, List.map_cons, List.map_cons]
 have g1 : (entsOf (h + 1) (a ++ (x :: y :: b)))[i - 1]? = some (eE x) := by
  have := (take_len (a.map eE) (eE x) (eE y) (b.map eE)).1
  rw [List.length_map] at this
  rw [he, hi]; exact this
 have g2 : (entsOf (h + 1) (a ++ (x :: y :: b)))[i - 1 + 1]? = some (eE y) := by
  have := (take_len (a.map eE) (eE x) (eE y) (b.map eE)).2
  rw [List.length_map] at this
  rw [he, hi]; exact this
 have g3 : innerM (entsOf (h + 1) (a ++ (x :: y :: b))) (i - 1) (i - 1 + 2) (ps2.map pt) = entsOf (h + 1) (a ++ (ps2 ++ b)) := by
  rw [hi]
  exact inner_ents a [x, y] b ps2
 have e3 : (eE x).kid = x.spot := rfl
 have e4 : (eE y).kid = y.spot := rfl
 unfold joinM
 rw [g1, g2]
 simp only [e3, e4, lx, ly]
 rw [ifP_pos trivial, k1]
 simp only [Option.bind_some]
 rw [g3]
 exact r1
theorem change_law {T : TM} {L : Int} {c : Cg} {m : Nat} (hm : m = 0 \/ m = 250) (hc : CgOk c) : ∀ (h f : Nat) (W : WM) (s : Int) (t : Tr h) (R F : List Int), h < f -> Acc T W (secs h s t) R F -> Sd (W.look T) m h s t -> (m ≠ 0 -> 0 < h -> 2 <= tlen h t) -> FlatOk (flat h t) →
  W.next + (h + 2) <= 1152921504606846976 →
  ∃ W' ps F' X, changeM T L c f W s = some (W', ps.map pt) /\ Chd T L m h W R (flat h t) (chg c (flat h t)) ((secs h s t).length + R.length + (h + 1)) W' ps F' X
 | 0, 0, _, _, _, _, _, h, _, _, _, _, _ => absurd h (Nat.lt_irrefl _)
 | 0, f + 1, W, s, l, R, F, _, hA, hS, _, hf, hn => leaf_law hc hA hS hf (by simpa using hn)
 | _ + 1, 0, _, _, _, _, _, h, _, _, _, _, _ => absurd h (Nat.not_lt_zero _)
 | h + 1, f + 1, W, s, l, R, F, hlt, hA, hS, hmany, hf, hn => by
  obtain ⟨⟨hlk, hg⟩, hB⟩ := hS
  have hB : Lowr (W.look T) m (h + 1) l := hB
  have hok : Ok l := ok_below hB
  have hf : FlatOk (flats l) := hf
  have hne : l ≠ [] := fun e => hg.ne (by rw [e]; rfl)
  obtain ⟨a, e, b, rfl, hpl, hle, hgt⟩ := place_split (fun e : TE (Tr h) => e.key) c.key l hne (keys_asc hok hf.asc)
  have hi : placeE c.key (entsOf (h + 1) (a ++ e :: b)) = a.length := (place_ents c.key _).trans hpl
  obtain ⟨hSe, hfe, hwe⟩ := hB e (List.mem_append_right _ List.mem_cons_self)
  have hBa : Lowr (W.look T) m (h + 1) a := fun x hx => hB x (List.mem_append_left _ hx)
  have hBb : Lowr (W.look T) m (h + 1) b := fun x hx => hB x (List.mem_append_right _ (List.mem_cons_of_mem _ hx))
  have hsec : secs (h + 1) s (a ++ e :: b) = s :: (psecs a ++ (secs h e.spot e.sub ++ psecs b)) := by
   show s :: psecs (a ++ e :: b) = _
   rw [psecs_append, psecs_cons]
  have hA1 : Acc T W (secs h e.spot e.sub) (s :: (psecs a ++ (psecs b ++ R))) F := hA.move (fun z => by
   rw [hsec]
   simp only [List.count_cons, List.count_append]
   omega)
  have hmid := flats_mid (c := c) (a := a) (b := b) (e := e) hok hf.asc hle hgt
  have hfl : flats (a ++ e :: b) = flats a ++ (flat h e.sub ++ flats b) := by
   rw [flats_append]
   have : flats (e :: b) = flat h e.sub ++ flats b := by unfold flats; rw [List.flatMap_cons]
   rw [this]
  have hfe2 : FlatOk (flat h e.sub) := hf.sub (by rw [hfl]; exact (List.sublist_append_left _ _).trans (List.sublist_append_right _ _))
  obtain ⟨W1, ps1, F1, X1, k1, k2⟩ := change_law (T := T) (L := L) hm hc h f W e.spot e.sub (s :: (psecs a ++ (psecs b ++ R))) F (by omega) hA1 hSe (fun h0 h1 => by
   cases h with
   | zero => omega
   | succ h =>
    rcases hm with rfl | rfl
    ·exact absurd rfl h0
    ·exact many_of hSe hwe) hfe2 (by omega)
  have hlkx : (entsOf (h + 1) (a ++ e :: b))[placeE c.key (entsOf (h + 1) (a ++ e :: b))]? = some (eE e) := by
   rw [hi, ents_succ, List.getElem?_map]
   simp
  rw [changeM_node hlk hlkx]
  have e0 : (eE e).kid = e.spot := rfl
  rw [e0, k1]
  simp only [Option.bind_some]
  have hgd : ∀ p ∈ ps1.map pt, 1 <= p.2 /\ p.2 <= 1152921504606846976 := fun p hp => by
   obtain ⟨e, he, rfl⟩ := List.mem_map.1 hp
   have h1 := k2.acc.spot (x := e.spot) (.inl (by
    unfold psecs
    exact List.mem_flatMap.2 ⟨e, he, by rw [secs_eq]; exact List.mem_cons_self⟩))
   have h2 := k2.kept.hi
   show 1 <= e.spot /\ e.spot <= _
   omega
  rw [ifP_pos hgd, hi]
  have hfl1 : flats (a ++ (ps1 ++ b)) = chg c (flats (a ++ e :: b)) := by
   rw [show a ++ e :: b = a ++ ([e] ++ b) from rfl, hmid, flats_append, flats_append, k2.fl]
  have hok1 : Ok (a ++ (ps1 ++ b)) := by
   obtain ⟨o1, o2⟩ := ok_append.1 hok
   refine ok_append.2 ⟨o1, ok_append.2 ⟨fun e he => ⟨wf_sd (k2.fo e he).1, (k2.fo e he).2⟩, fun e he => o2 e (List.mem_cons_of_mem _ he)⟩⟩
  have hf1 : FlatOk (flats (a ++ (ps1 ++ b))) := by rw [hfl1]; exact hf.chg hc
  have hin : innerM (entsOf (h + 1) (a ++ e :: b)) a.length (a.length + 1) (ps1.map pt) = entsOf (h + 1) (a ++ (ps1 ++ b)) := inner_ents a [e] b ps1
  have hoth : ∀ z, z ∈ psecs a ++ (psecs b ++ R) -> W1.look T z = W.look T z := fun z hz => k2.kept.other z (List.mem_cons_of_mem _ hz)
  have hBa1 : Lowr (W1.look T) m (h + 1) a := fun x hx => ⟨sd_congr (hBa x hx).1 (fun z hz => hoth z (List.mem_append_left _ (List.mem_flatMap.2 ⟨x, hx, hz⟩))), (hBa x hx).2⟩
  have hBb1 : Lowr (W1.look T) m (h + 1) b := fun x hx => ⟨sd_congr (hBb x hx).1 (fun z hz => hoth z (List.mem_append_right _ (List.mem_append_left _ (List.mem_flatMap.2 ⟨x, hx, hz⟩)))), (hBb x hx).2⟩
  have hspot : ∀ z, z ∈ psecs ps1 -> 1 <= z /\ z <= 1152921504606846976 := fun z hz => by
   have h1 := k2.acc.spot (x := z) (.inl hz)
   have h2 := k2.kept.hi
   omega
  have hwps : wt false (entsOf (h + 1) ps1) <= 116 := by
   have h1 : ∀ x ∈ ps1, (entL false (eE x)).length <= 58 := fun x hx => by
    obtain ⟨v, r, hfx⟩ := ok_mem (fun e he => ⟨wf_sd (k2.fo e he).1, (k2.fo e he).2⟩ : Ok ps1) hx
    have hmem : (x.key, v) ∈ flats ps1 := by
     unfold flats
     exact List.mem_flatMap.2 ⟨x, hx, by rw [hfx]; exact List.mem_cons_self⟩
    have hmem2 : (x.key, v) ∈ flats (a ++ (ps1 ++ b)) := by
     rw [flats_append, flats_append]
     exact List.mem_append_right _ (List.mem_append_left _ hmem)
    refine ent_len (leaf := false) (hf1.ok _ hmem2).1.2 (Nat.zero_le _) (fun _ => (hspot x.spot ?_).2)
    unfold psecs
    exact List.mem_flatMap.2 ⟨x, hx, by rw [secs_eq]; exact List.mem_cons_self⟩
   have htwo := k2.two
   rw [ents_succ]
   match ps1, htwo, h1 with
   | [], _, _ => exact Nat.zero_le _
   | [p], _, h1 =>
    have := h1 p List.mem_cons_self
    rw [List.map_cons, List.map_nil, wt_one]
    omega
   | [p, q], _, h1 =>
    have := h1 p List.mem_cons_self
    have := h1 q (List.mem_cons_of_mem _ List.mem_cons_self)
    rw [List.map_cons, List.map_cons, List.map_nil, wt_cons, wt_one]
    omega
  have hw1 : wt false (entsOf (h + 1) (a ++ (ps1 ++ b))) <= 1138 := by
   have h1 := hg.wt
   rw [ents_succ, List.map_append, wt_append] at h1
   rw [List.map_cons, wt_cons] at h1
   rw [ents_succ, List.map_append, List.map_append, wt_append, wt_append]
   rw [ents_succ] at hwps
   omega
  have hcnt : W1.count = W.count + (((flats (a ++ (ps1 ++ b))).length : Int) - (flats (a ++ e :: b)).length) := by
   have h1 := k2.cnt
   rw [flats_append, flats_append, hfl, k2.fl]
   simp only [List.length_append]
   omega
  have hslen : (secs (h + 1) s (a ++ e :: b)).length = 1 + (psecs a).length + (secs h e.spot e.sub).length + (psecs b).length := by
   rw [hsec, List.length_cons, List.length_append, List.length_append]
   omega
  have huse : (psecs ps1).length + (psecs a).length + (psecs b).length + R.length + 1 <= (secs h e.spot e.sub).length + ((psecs a).length + ((psecs b).length + R.length) + 1) + (h + 1) := by
   have := k2.use
   simp only [List.length_cons, List.length_append] at this
   omega
  have hkept : Kept T W W1 L (s :: R) (h + 1) ((secs h e.spot e.sub).length + (s :: (psecs a ++ (psecs b ++ R))).length + (h + 1)) X1 := by
   have := k2.kept
   exact ⟨fun x hx => this.other x (by
    rcases List.mem_cons.1 hx with rfl | hx
    ·exact List.mem_cons_self
    ·exact List.mem_cons_of_mem _ (List.mem_append_right _ (List.mem_append_right _ hx))), this.root, this.lo, this.hi, this.mono, this.full, this.top, this.room, this.touch⟩
  have hnum : (secs h e.spot e.sub).length + (s :: (psecs a ++ (psecs b ++ R))).length + (h + 1) <= (secs (h + 1) s (a ++ e :: b)).length + R.length + (h + 1 + 1) := by
   rw [hslen]
   simp only [List.length_cons, List.length_append]
   omega
  have hnext : W1.next + 2 <= 1152921504606846976 := by
   have := k2.kept.hi
   omega
  have plain : (∀ x ∈ ps1, m <= wtN h x.sub) -> ∃ W' ps F' X, keepM T L W1 false (innerM (entsOf (h + 1) (a ++ e :: b)) a.length (a.length + 1) (ps1.map pt)) [s] = some (W', ps.map pt) ∧
    Chd T L m (h + 1) W R (flats (a ++ e :: b)) (chg c (flats (a ++ e :: b))) ((secs (h + 1) s (a ++ e :: b)).length + R.length + (h + 1 + 1)) W' ps F' X := fun hbig => by
   have hA2 : Acc T W1 [s] (psecs (a ++ (ps1 ++ b)) ++ R) F1 := k2.acc.move (fun z => by
    rw [psecs_append, psecs_append]
    simp only [List.count_cons, List.count_append, List.count_nil]
    omega)
   have hB2 : Lowr (W1.look T) m (h + 1) (a ++ (ps1 ++ b)) := fun x hx => by
    rcases List.mem_append.1 hx with hx | hx
    ·exact hBa1 x hx
    ·rcases List.mem_append.1 hx with hx | hx
     ·exact ⟨(k2.fo x hx).1, (k2.fo x hx).2, hbig x hx⟩
     ·exact hBb1 x hx
   have hk' : Kept T W W1 L R (h + 1) ((secs h e.spot e.sub).length + (s :: (psecs a ++ (psecs b ++ R))).length + (h + 1)) X1 := ⟨fun x hx => hkept.other x (List.mem_cons_of_mem _ hx), hkept.root, hkept.lo, hkept.hi, hkept.mono, hkept.full, hkept.top, hkept.room, hkept.touch⟩
   obtain ⟨W', ps, F', X, r1, r2⟩ := fin_law (L := L) (old := flats (a ++ e :: b)) (n := (secs (h + 1) s (a ++ e :: b)).length + R.length + (h + 1 + 1)) hA2 hB2 hf1 (by omega) hnext hk' hcnt (by have := k2.x; omega) hnum (by
    rw [hslen, psecs_append, psecs_append, List.length_append, List.length_append]
    omega)
   rw [hin]
   exact ⟨W', ps, F', X, r1, by rw [← hfl1]; exact r2⟩
  generalize hnn : (secs (h + 1) s (a ++ e :: b)).length + R.length + (h + 1 + 1) = n at hnum plain ⊢
  rw [hslen] at hnn
  have hbase := k2.big
  have htwo := k2.two
  match ps1, htwo, hbase, plain, hin, k2, hfl1, hok1, hf1, hw1, hcnt, huse with
  | [], _, _, plain, _, _, _, _, _, _, _, _ => exact plain (fun x hx => by cases hx)
  | [p, q], _, hbase, plain, _, _, _, _, _, _, _, _ =>
   refine plain (fun x hx => ?_)
   have := hbase rfl x hx
   rcases hm with rfl | rfl <;> omega
  | [p], _, _, plain, hin, k2, hfl1, hok1, hf1, hw1, hcnt, huse =>
   have hpm := k2.fo p List.mem_cons_self
   obtain ⟨lp, gp⟩ := look_fo hpm.1
   have hlen : (entsOf (h + 1) (a ++ ([p] ++ b))).length = a.length + 1 + b.length := by
    rw [ents_succ, List.length_map, List.length_append, List.length_append, List.length_cons, List.length_nil]
    omega
   unfold backM
   simp only [List.map_cons, List.map_nil]
   have e2 : (pt p).2 = p.spot := rfl
   have hin' : innerM (entsOf (h + 1) (a ++ e :: b)) a.length (a.length + 1) [pt p] = entsOf (h + 1) (a ++ ([p] ++ b)) := hin
   simp only [List.map_cons, List.map_nil] at plain
   by_cases h1 : 1 < (entsOf (h + 1) (a ++ ([p] ++ b))).length
   ·rw [hin', if_pos h1, e2, lp]
    show ∃ W' ps F' X, (if (bytesL (lf h) (entsOf h p.sub)).length < 300 then joinM T L W1 s (entsOf (h + 1) (a ++ ([p] ++ b))) a.length else keepM T L W1 false (entsOf (h + 1) (a ++ ([p] ++ b))) [s]) = _ /\ _
    by_cases h2 : (bytesL (lf h) (entsOf h p.sub)).length < 300
    ·rw [if_pos h2]
     have hps : psecs [p] = secs h p.spot p.sub := by unfold psecs; simp
     have hpacc := k2.acc
     rw [hps] at hpacc huse
     rcases List.eq_nil_or_concat a with rfl | ⟨a, q, ha⟩
     ·cases b with
      | nil => rw [hlen] at h1; simp at h1
      | cons q b =>
       obtain ⟨hq1, hq2, hq3⟩ := hBb1 q List.mem_cons_self
       obtain ⟨W', ps, F', X, r1, r2⟩ := join_law (L := L) (n := n) (old := flats ([] ++ e :: q :: b)) (a := []) (b := b) (x := p) (y := q) (i := 0) (R := R) (s := s) hm rfl
        (hpacc.move (fun z => by rw [psecs_nil, psecs_cons]; simp only [List.count_cons, List.count_append, List.count_nil]; omega))
        (fun x hx => by cases hx) (fun x hx => hBb1 x (List.mem_cons_of_mem _ hx)) hpm.1 hq1 (.inl ⟨h2, hq3⟩) hf1 (Nat.le_trans hw1 (by omega)) hok1 hnext hkept hcnt k2.x (.inl (k2.xs p List.mem_cons_self)) hnum (by
         rw [psecs_nil]
         rw [psecs_nil, psecs_cons] at huse hnn
         simp only [List.length_append, List.length_nil] at huse hnn ⊢
         omega)
       have e9 : flats ([] ++ p :: q :: b) = chg c (flats ([] ++ e :: q :: b)) := hfl1
       rw [e9] at r2
       exact ⟨W', ps, F', X, r1, r2⟩
     ·rw [List.concat_eq_append] at ha
      subst ha
      obtain ⟨hq1, hq2, hq3⟩ := hBa1 q (List.mem_append_right _ (List.mem_singleton.2 rfl))
      have hassoc : a ++ [q] ++ ([p] ++ b) = a ++ (q :: p :: b) := by simp
      rw [hassoc] at hfl1 hok1 hf1 hw1 hcnt ⊢
      obtain ⟨W', ps, F', X, r1, r2⟩ := join_law (L := L) (n := n) (old := flats (a ++ [q] ++ e :: b)) (a := a) (b := b) (x := q) (y := p) (i := (a ++ [q]).length) (R := R) (s := s) hm (by simp)
        (hpacc.move (fun z => by rw [psecs_append, psecs_cons, psecs_nil]; simp only [List.count_cons, List.count_append, List.count_nil]; omega))
        (fun x hx => hBa1 x (List.mem_append_left _ hx)) hBb1 hq1 hpm.1 (.inr ⟨h2, hq3⟩) hf1 (by omega) hok1 hnext hkept hcnt k2.x (.inr (k2.xs p List.mem_cons_self)) hnum (by
         rw [psecs_append, psecs_cons, psecs_nil] at huse hnn
         simp only [List.length_append, List.length_nil] at huse hnn ⊢
         omega)
      rw [hfl1] at r2
      exact ⟨W', ps, F', X, r1, r2⟩
    ·rw [if_neg h2, ← hin']
     refine plain (fun x hx => ?_)
     rw [List.mem_singleton] at hx
     subst hx
     have : 300 <= wtN h x.sub := Nat.le_of_not_lt h2
     rcases hm with rfl | rfl <;> omega
   ·rw [hin', if_neg h1, ← hin']
    refine plain (fun x hx => ?_)
    rcases hm with rfl | rfl
    ·exact Nat.zero_le _
    ·have h3 := hmany (by decide) (Nat.succ_pos _)
     unfold tlen at h3
     rw [ents_succ, List.length_map, List.length_append, List.length_cons] at h3
     rw [hlen] at h1
     omega
end
section
open Go Go.RowKit
theorem acc_at {T : TM} {W : WM} {U R F : List Int} (h : Acc T W U R F) (s : Int) : Acc T (W.at s) U R F := ⟨h.chain, h.cnt, h.used, h.free, h.out, h.pos⟩
structure Rt (T : TM) (m : Nat) (W : WM) (l : List KV) (H h : Nat) (t : Tr h) (F : List Int) : Prop where
 nz : W.root ≠ 0
 le : h <= H
 sd : Sd (W.look T) m h W.root t
 two : m ≠ 0 -> 0 < h -> 2 <= tlen h t
 fl : flat h t = l
 acc : Acc T W (secs h W.root t) [] F
theorem down_law {T : TM} {m : Nat} (hm : m = 0 \/ m = 250) : ∀ (h f : Nat) (W : WM) (t : Tr h) (F : List Int), h < f -> Acc T W (secs h W.root t) [] F -> Sd (W.look T) m h W.root t →
  ∃ (W' : WM) (h' : Nat) (t' : Tr h') (F' : List Int), downM T f W = some W' /\ Rt T m W' (flat h t) h h' t' F' /\ W'.count = W.count /\ W'.next = W.next /\ W'.full = W.full /\ (secs h' W'.root t').length <= (secs h W.root t).length ∧
   (m ≠ 0 -> ∀ x, (W'.nodes x ≠ none \/ W'.after x ≠ none) -> x = W.root \/ (W.nodes x ≠ none \/ W.after x ≠ none))
 | _, 0, _, _, _, h, _, _ => absurd h (Nat.not_lt_zero _)
 | 0, f + 1, W, t, F, _, hA, hS => by
  have hnz : W.root ≠ 0 := by have := hA.spot (x := W.root) (.inl (by rw [secs_eq]; exact List.mem_cons_self)); omega
  refine ⟨W, 0, t, F, ?_, ⟨hnz, Nat.le_refl _, hS, fun _ h => by omega, rfl, hA⟩, rfl, rfl, rfl, Nat.le_refl _, fun _ _ h => .inr h⟩
  have := hS.1
  simp only [downM, this]
 | h + 1, f + 1, W, l, F, hlt, hA, hS => by
  have hnz : W.root ≠ 0 := by have := hA.spot (x := W.root) (.inl (by rw [secs_eq]; exact List.mem_cons_self)); omega
  have hlk := hS.1.1
  have hne : l ≠ ([] : List (TE (Tr h))) := fun e => hS.1.2.ne (by rw [e]; rfl)
  match l, hne, hlk, hA, hS with
  | [e], _, hlk, hA, hS =>
   obtain ⟨h1, h2, h3⟩ := hS.2 e (.head _)
   have hsec : secs (h + 1) W.root ([e] : List (TE (Tr h))) = W.root :: secs h e.spot e.sub := by
    show W.root :: psecs [e] = _
    rw [psecs_cons, psecs_nil, List.append_nil]
   rw [hsec] at hA
   have hA2 : Acc T ((W.release W.root).at e.spot) (secs h e.spot e.sub) [] (W.root :: F) := acc_at (Acc.release hA) e.spot
   have hroot : ∀ x ∈ secs h e.spot e.sub, x ≠ W.root := fun x hx he => by
    have h4 := hA.cnt x
    rw [← he, List.count_cons_self] at h4
    have := List.count_pos_iff.2 hx
    split at h4 <;> omega
   have hS2 : Sd (((W.release W.root).at e.spot).look T) m h e.spot e.sub := sd_congr h1 (fun x hx => look_release (hroot x hx))
   obtain ⟨W', h', t', F', k1, k2, k3, k4, k5, k6, k7⟩ := down_law hm h f ((W.release W.root).at e.spot) e.sub (W.root :: F) (by omega) hA2 hS2
   refine ⟨W', h', t', F', ?_, ⟨k2.nz, by have := k2.le; omega, k2.sd, k2.two, ?_, k2.acc⟩, k3, k4, k5, ?_, fun hm0 x hx => ?_⟩
   ·have e1 : entsOf (h + 1) ([e] : List (TE (Tr h))) = [eE e] := rfl
    rw [e1] at hlk
    simp only [downM, hlk]
    exact k1
   ·rw [k2.fl]
    show flat h e.sub = flats [e]
    simp [flats]
   ·rw [hsec, List.length_cons]
    have : (secs h' W'.root t').length <= (secs h e.spot e.sub).length := k6
    omega
   ·
    have hstop : downM T f ((W.release W.root).at e.spot) = some ((W.release W.root).at e.spot) := by
     have hm2 : m = 250 := hm.resolve_left hm0
     subst hm2
     cases f with
     | zero => exact absurd hlt (by omega)
     | succ f =>
      have hlk2 := (look_fo hS2).1
      have e5 : ((W.release W.root).at e.spot).root = e.spot := rfl
      cases h with
      | zero =>
       simp only [downM, e5, hlk2]
       rfl
      | succ h =>
       have hmany := many_of hS2 h3
       unfold tlen at hmany
       obtain ⟨x1, x2, r, he⟩ : ∃ x1 x2 r, entsOf (h + 1) e.sub = x1 :: x2 :: r := by
        match hq : entsOf (h + 1) e.sub, hmany with
        | x1 :: x2 :: r, _ => exact ⟨x1, x2, r, rfl⟩
        | [_], hmany => simp at hmany
        | [], hmany => simp at hmany
       rw [he] at hlk2
       simp only [downM, e5, hlk2]
       rfl
    rw [hstop] at k1
    cases k1
    by_cases ex : x = W.root
    ·exact .inl ex
    ·simp only [WM.at, WM.release, fset_other _ _ ex] at hx
     exact .inr hx
  | e1 :: e2 :: r, _, hlk, hA, hS =>
   refine ⟨W, h + 1, (e1 :: e2 :: r : List (TE (Tr h))), F, ?_, ⟨hnz, Nat.le_refl _, hS, fun _ _ => ?_, rfl, hA⟩, rfl, rfl, rfl, Nat.le_refl _, fun _ _ h => .inr h⟩
   ·have e1' : entsOf (h + 1) (e1 :: e2 :: r : List (TE (Tr h))) = eE e1 :: eE e2 :: r.map eE := rfl
    rw [e1'] at hlk
    simp only [downM, hlk]
   ·show 2 <= (List.map _ (e1 :: e2 :: r)).length
    simp
def WI (T : TM) (m : Nat) (W : WM) (l : List KV) (H N : Nat) : Prop :=
 FlatOk l /\ W.count = l.length /\ ((W.root = 0 /\ l = [] /\ N = 0 /\ ∃ F, Acc T W [] [] F) \/ ∃ (h : Nat) (t : Tr h) (F : List Int), Rt T m W l H h t F /\ (secs h W.root t).length = N)
structure Onx (m : Nat) (L : Int) (W W' : WM) (k n x : Nat) : Prop where
 lo : W.next <= W'.next
 hi : W'.next <= W.next + k
 mono : W.full = true -> W'.full = true
 full : W'.full = true -> W.full = true \/ L <= (n : Int)
 top : W'.next <= W.next \/ W'.next <= (n : Int) + 1
 room : W'.full = false -> W'.next <= W.next \/ W'.next <= L
 touch : m ≠ 0 -> ∃ X : List Int, X.length <= x /\ ∀ y, (W'.nodes y ≠ none \/ W'.after y ≠ none) -> y ∈ X \/ (W.nodes y ≠ none \/ W.after y ≠ none)
theorem top_law {T : TM} {L : Int} {m h : Nat} (hm : m = 0 \/ m = 250) {W W1 : WM} {ps : List (TE (Tr h))} {new : List KV} {n : Nat} {F1 X1 : List Int} {f : Nat} (hf : h + 1 < f)
  (fo : Fo (W1.look T) m h ps) (fl : flats ps = new) (two : ps.length <= 2) (big : ps.length = 2 -> ∀ e ∈ ps, 250 <= wtN h e.sub) (hA : Acc T W1 (psecs ps) [] F1) (hk : Kept T W W1 L [] (h + 1) n X1) (hu : (psecs ps).length <= n) (hx : X1.length <= 3 * h + 2) (hxs : ∀ e ∈ ps, e.spot ∈ X1)
  (hf2 : FlatOk new) (hc : W1.count = new.length) (hn : W1.next + 2 <= 1152921504606846976) :
  ∃ (W' : WM) (N : Nat), topM T L f W1 (ps.map pt) = some W' /\ WI T m W' new (h + 1) N /\ N <= n + 1 /\ Onx m L W W' (h + 2) (n + 1) (3 * h + 3) := by
 match ps, two, fo, fl, big, hA, hu, hxs with
 | [], _, _, fl, _, hA, _, _ =>
  have hnew : new = [] := fl.symm
  refine ⟨W1.at 0, 0, rfl, ⟨hf2, hc, .inl ⟨rfl, hnew, rfl, F1, acc_at hA 0⟩⟩, Nat.zero_le _, ⟨hk.lo, by have h1 : W1.next <= _ := hk.hi; show W1.next <= _; omega, hk.mono, fun h => (hk.full h).imp id (fun h => by omega), hk.top.imp id (fun h => ?_), hk.room, fun _ => ⟨X1, by omega, hk.touch⟩⟩⟩
  have h1 : W1.next <= _ := h
  show W1.next <= _
  omega
 | [p], _, fo, fl, _, hA, hu, hxs =>
  obtain ⟨s1, s2⟩ := fo p List.mem_cons_self
  have hps : psecs [p] = secs h p.spot p.sub := by rw [psecs_cons, psecs_nil, List.append_nil]
  rw [hps] at hA hu
  obtain ⟨W', h', t', F', k1, k2, k3, k4, k5, k6, k7⟩ := down_law hm h f (W1.at p.spot) p.sub F1 (by omega) (acc_at hA p.spot) s1
  have hfl : flat h p.sub = new := by rw [← fl]; simp [flats]
  have e1 : (W1.at p.spot).next = W1.next := rfl
  have e2 : (W1.at p.spot).full = W1.full := rfl
  rw [e1] at k4
  rw [e2] at k5
  refine ⟨W', (secs h' W'.root t').length, k1, ⟨hf2, k3.trans hc, .inr ⟨h', t', F', ⟨k2.nz, by have := k2.le; omega, k2.sd, k2.two, k2.fl.trans hfl, k2.acc⟩, rfl⟩⟩, ?_, ⟨by rw [k4]; exact hk.lo, by rw [k4]; have := hk.hi; omega, fun h => by rw [k5]; exact hk.mono h, fun h => (hk.full (by rw [← k5]; exact h)).imp id (fun h => by omega), by rw [k4]; exact hk.top.imp id (fun h => by omega), fun h => by rw [k4]; exact hk.room (by rw [← k5]; exact h), fun h0 => ⟨X1, by omega, fun y hy => ?_⟩⟩⟩
  ·have : (secs h' W'.root t').length <= (secs h p.spot p.sub).length := k6
   omega
  ·rcases k7 h0 y hy with h8 | h8
   ·exact .inl (by rw [h8]; exact hxs p List.mem_cons_self)
   ·exact hk.touch y h8
 | [p, q], _, fo, fl, big, hA, hu, hxs =>
  have hB : Lowr (W1.look T) m (h + 1) ([p, q] : List (TE (Tr h))) := fun e he => by
   have he : e ∈ [p, q] := he
   refine ⟨(fo e he).1, (fo e he).2, ?_⟩
   have := big rfl e he
   rcases hm with rfl | rfl <;> omega
  have hA2 : Acc T W1 [] (ksecs (h + 1) ([p, q] : List (TE (Tr h))) ++ []) F1 := hA.move (fun z => by
   rw [ksecs_succ]
   simp only [List.count_append, List.count_nil]
   omega)
  have hflat : FlatOk (flat (h + 1) ([p, q] : List (TE (Tr h)))) := by
   show FlatOk (flats [p, q])
   rw [fl]; exact hf2
  have hent : ∀ e ∈ [p, q], (entL false (eE e)).length <= 58 := fun e he => by
   obtain ⟨v, r, hfe⟩ := ok_mem (fun e he => ⟨wf_sd (fo e he).1, (fo e he).2⟩ : Ok [p, q]) he
   have hmem : (e.key, v) ∈ flats [p, q] := by
    unfold flats
    exact List.mem_flatMap.2 ⟨e, he, by rw [hfe]; exact List.mem_cons_self⟩
   rw [fl] at hmem
   refine ent_len (leaf := false) (hf2.ok _ hmem).1.2 (Nat.zero_le _) (fun _ => ?_)
   have := hA.spot (x := e.spot) (.inl (by
    unfold psecs
    exact List.mem_flatMap.2 ⟨e, he, by rw [secs_eq]; exact List.mem_cons_self⟩))
   show e.spot <= _
   omega
  have hw : wt false (entsOf (h + 1) ([p, q] : List (TE (Tr h)))) <= 116 := by
   have h1 := hent p List.mem_cons_self
   have h2 := hent q (List.mem_cons_of_mem _ List.mem_cons_self)
   rw [ents_succ, List.map_cons, List.map_cons, List.map_nil, wt_cons, wt_one]
   omega
  have hb : (bytesL (lf (h + 1)) (entsOf (h + 1) ([p, q] : List (TE (Tr h))))).length <= 1024 := by
   have h1 : (entsOf (h + 1) ([p, q] : List (TE (Tr h)))).length = 2 := rfl
   have h2 := bytes_wt (leaf := false) (es := entsOf (h + 1) ([p, q] : List (TE (Tr h)))) (by rw [h1]; omega)
   rw [h1] at h2
   show (bytesL false _).length <= _
   rw [h2]
   simp only [show ¬ (127 : Nat) < 2 by omega, if_false]
   omega
  obtain ⟨W2, ps2, F2, k1, k2, k3, k4, k5, _, k6, k7, k8, k9, k10, k11⟩ := keepT (L := L) (h := h + 1) (m := m) (t := ([p, q] : List (TE (Tr h)))) hA2 hB hflat (by show wt false _ <= _; omega) hn
  have h1 := k6 hb
  match ps2, h1, k1, k2, k3, k5, k7, k8, k10, k11 with
  | [], _, _, _, k3, _, _, _, _, _ =>
   exfalso
   have h2 : flat (h + 1) ([p, q] : List (TE (Tr h))) = [] := k3.symm
   obtain ⟨v, r, hfe⟩ := ok_mem (fun e he => ⟨wf_sd (fo e he).1, (fo e he).2⟩ : Ok [p, q]) (e := p) List.mem_cons_self
   have h3 : flats [p, q] = flat h p.sub ++ (flat h q.sub ++ []) := by unfold flats; rw [List.flatMap_cons, List.flatMap_cons, List.flatMap_nil]
   have h4 : flats [p, q] = [] := h2
   rw [h3, hfe] at h4
   cases h4
  | [r], _, k1, k2, k3, k5, k7, k8, k10, k11 =>
   obtain ⟨s1, s2⟩ := k2 r List.mem_cons_self
   have hps : psecs [r] = secs (h + 1) r.spot r.sub := by rw [psecs_cons, psecs_nil, List.append_nil]
   rw [hps] at k7 k11 k8
   obtain ⟨W', h', t', F', r1, r2, r3, r4, r5, r6, r7⟩ := down_law hm (h + 1) f (W2.at r.spot) r.sub F2 (by omega) (acc_at k7 r.spot) s1
   have hfl : flat (h + 1) r.sub = new := by
    have h2 : flats [r] = flat (h + 1) r.sub := by simp [flats]
    rw [← h2, k3]
    exact fl
   have e1 : (W2.at r.spot).next = W2.next := rfl
   have e2 : (W2.at r.spot).full = W2.full := rfl
   rw [e1] at r4
   rw [e2] at r5
   have hlen : (secs (h + 1) r.spot r.sub).length <= n + 1 := by
    rw [k11, ksecs_succ]
    simp only [List.length_cons, List.length_nil]
    omega
   have hkk : Kept T W W2 L [] (h + 2) (n + 1) (r.spot :: X1) := kept_trans (R2 := []) hk k8 (fun x h => h) (fun x h => h) (by simp) (by omega) (by simp only [List.length_nil]; omega) (fun x hx => List.mem_cons_of_mem _ hx) (fun x hx => by
    simp at hx
    rw [hx]
    exact List.mem_cons_self)
   refine ⟨W', (secs h' W'.root t').length, ?_, ⟨hf2, r3.trans (k9.trans hc), .inr ⟨h', t', F', ⟨r2.nz, r2.le, r2.sd, r2.two, r2.fl.trans hfl, r2.acc⟩, rfl⟩⟩, ?_, ⟨by rw [r4]; exact hkk.lo, by rw [r4]; exact hkk.hi, fun h => by rw [r5]; exact hkk.mono h, fun h => hkk.full (by rw [← r5]; exact h), by rw [r4]; exact hkk.top, fun h => by rw [r4]; exact hkk.room (by rw [← r5]; exact h), fun h0 => ⟨r.spot :: X1, by rw [List.length_cons]; omega, fun y hy => ?_⟩⟩⟩
   ·show ((keepM T L W1 false ((([p, q] : List (TE (Tr h))).map pt).map partE) []).bind _) = _
    have e3 : (([p, q] : List (TE (Tr h))).map pt).map partE = entsOf (h + 1) ([p, q] : List (TE (Tr h))) := rfl
    have k1' : keepM T L W1 false (entsOf (h + 1) ([p, q] : List (TE (Tr h)))) [] = some (W2, [r].map pt) := k1
    rw [e3, k1']
    exact r1
   ·have : (secs h' W'.root t').length <= (secs (h + 1) r.spot r.sub).length := r6
    omega
   ·rcases r7 h0 y hy with h8 | h8
    ·exact .inl (by rw [h8]; exact List.mem_cons_self)
    ·exact hkk.touch y h8
theorem one_law {T : TM} {L : Int} {c : Cg} {m : Nat} (hm : m = 0 \/ m = 250) (hc : CgOk c) {W : WM} {l : List KV} {H N f : Nat} (hW : WI T m W l H N) (hf : H < f) (hn : W.next + (H + 4) <= 1152921504606846976) :
  ∃ (W' : WM) (N' : Nat), oneM T L f W c = some W' /\ WI T m W' (chg c l) (H + 1) N' /\ N' <= N + H + 2 /\ Onx m L W W' (H + 2) (N + H + 2) (3 * H + 3) := by
 obtain ⟨hfl, hcn, hroot⟩ := hW
 rcases hroot with ⟨h0, rfl, rfl, F, hA⟩ | ⟨h, t, F, hR, hN⟩
 ·cases hg : c.gone with
  | true =>
   have hch : chg c [] = [] := by unfold chg Cg.put; rw [hg]; rfl
   refine ⟨W, 0, ?_, ⟨by rw [hch]; exact hfl, by rw [hch]; exact hcn, .inl ⟨h0, hch, rfl, F, hA⟩⟩, Nat.zero_le _, ⟨Int.le_refl _, by omega, fun h => h, fun h => .inl h, .inl (Int.le_refl _), fun _ => .inl (Int.le_refl _), fun _ => ⟨[], Nat.zero_le _, fun _ h => .inr h⟩⟩⟩
   unfold oneM
   rw [if_neg (fun h => h h0), hg]
   rfl
  | false =>
   have hch : chg c [] = [(c.key, c.value)] := by unfold chg Cg.put; rw [hg]; rfl
   have hok := FlatOk.chg hfl hc
   rw [hch] at hok ⊢
   have hA2 : Acc T (W.add 1) [] (ksecs 0 ([(c.key, c.value)] : List KV) ++ []) F := ⟨hA.chain, hA.cnt, hA.used, hA.free, hA.out, hA.pos⟩
   have hw : wt true [(⟨c.key, c.value, 0⟩ : Ent)] <= 251 := by
    rw [wt_one]
    exact ent_len (leaf := true) hc.key hc.value (fun h => by cases h)
   have hb : (bytesL true [(⟨c.key, c.value, 0⟩ : Ent)]).length <= 1024 := by
    have h2 := bytes_wt (leaf := true) (es := [(⟨c.key, c.value, 0⟩ : Ent)]) (by simp)
    rw [h2]
    simp only [List.length_cons, List.length_nil, show ¬ (127 : Nat) < 0 + 1 by omega, if_false]
    omega
   obtain ⟨W1, ps, F1, k1, k2, k3, k4, k5, kb, k6, k7, k8, k9, k10, k11⟩ := keepT (L := L) (h := 0) (m := m) (t := ([(c.key, c.value)] : List KV)) hA2 trivial hok (by show wt true _ <= _; exact Nat.le_trans hw (by omega)) (by show W.next + 2 <= _; omega)
   have h1 := k6 hb
   have hk8 : Kept T W W1 L [] (0 + 1) 1 (ps.map (·.spot)) := by
    have hk : Kept T (W.add 1) W1 L [] (ps.length - 0) ((psecs ps).length + 0) ([] ++ (ps.map (·.spot)).drop 0) := k8
    have hl : (psecs ps).length <= 1 := by rw [k11]; show 0 + ps.length <= 1; omega
    refine ⟨fun x hx => (by cases hx), hk.root, hk.lo, ?_, hk.mono, fun h => (hk.full h).imp id (fun h => by omega), hk.top.imp id (fun h => ?_), hk.room, fun x hx => ?_⟩
    ·have h2 : W1.next <= W.next + ((ps.length - 0 : Nat) : Int) := hk.hi
     omega
    ·have h2 : W1.next <= _ := h
     omega
    ·rcases hk.touch x hx with h3 | h3
     ·exact .inl (by simpa using h3)
     ·exact .inr h3
   obtain ⟨W', N', r1, r2, r3, r4⟩ := top_law (L := L) (W := W) (f := f + 1) (n := 1) hm (by omega) k2 k3 k4 kb k7 hk8 (by rw [k11]; show 0 + ps.length <= 1; omega) (by rw [List.length_map]; omega) (fun e he => List.mem_map_of_mem he) hok (by
     have h2 : W1.count = W.count + 1 := k9
     rw [h2, hcn]
     rfl) (by have h2 : W1.next <= W.next + (0 + 1 : Nat) := hk8.hi; omega)
   refine ⟨W', N', ?_, ⟨r2.1, r2.2.1, ?_⟩, by omega, ⟨r4.lo, by have := r4.hi; omega, r4.mono, fun h => (r4.full h).imp id (fun h => by omega), r4.top.imp id (fun h => by omega), r4.room, fun h0 => ?_⟩⟩
   ·unfold oneM
    rw [if_neg (fun h => h h0), hg]
    simp only [Bool.false_eq_true, if_false]
    have k1' : keepM T L (W.add 1) true [(⟨c.key, c.value, 0⟩ : Ent)] [] = some (W1, ps.map pt) := k1
    rw [k1']
    exact r1
   ·rcases r2.2.2 with h | ⟨h', t', F', hR', hN'⟩
    ·exact .inl h
    ·exact .inr ⟨h', t', F', ⟨hR'.nz, by have := hR'.le; omega, hR'.sd, hR'.two, hR'.fl, hR'.acc⟩, hN'⟩
   ·obtain ⟨X, x1, x2⟩ := r4.touch h0
    exact ⟨X, by omega, x2⟩
 ·have hle := hR.le
  have hflt : FlatOk (flat h t) := by rw [hR.fl]; exact hfl
  obtain ⟨W1, ps, F1, X1, k1, k2⟩ := change_law (T := T) (L := L) (c := c) hm hc h f W W.root t [] F (by omega) hR.acc hR.sd hR.two hflt (by omega)
  rw [hR.fl] at k2
  have hn1 : W1.next + 2 <= 1152921504606846976 := by have := k2.kept.hi; omega
  obtain ⟨W', N', r1, r2, r3, r4⟩ := top_law (L := L) (W := W) (f := f + 1) hm (by omega) k2.fo k2.fl k2.two k2.big k2.acc k2.kept (by have := k2.use; simpa using this) k2.x k2.xs (hfl.chg hc) (by have := k2.cnt; omega) hn1
  have hnn : (secs h W.root t).length + ([] : List Int).length + (h + 1) + 1 <= N + H + 2 := by rw [hN]; simp only [List.length_nil]; omega
  refine ⟨W', N', ?_, ⟨r2.1, r2.2.1, ?_⟩, by omega, ⟨r4.lo, by have := r4.hi; omega, r4.mono, fun h => (r4.full h).imp id (fun h => by omega), r4.top.imp id (fun h => by omega), r4.room, fun h0 => ?_⟩⟩
  ·unfold oneM
   rw [if_pos hR.nz, k1]
   exact r1
  ·rcases r2.2.2 with h | ⟨h', t', F', hR', hN'⟩
   ·exact .inl h
   ·exact .inr ⟨h', t', F', ⟨hR'.nz, by have := hR'.le; omega, hR'.sd, hR'.two, hR'.fl, hR'.acc⟩, hN'⟩
  ·obtain ⟨X, x1, x2⟩ := r4.touch h0
   exact ⟨X, by omega, x2⟩
end
end Go.Proofs.YtgbcibdfeeiilaaGreatDoor
