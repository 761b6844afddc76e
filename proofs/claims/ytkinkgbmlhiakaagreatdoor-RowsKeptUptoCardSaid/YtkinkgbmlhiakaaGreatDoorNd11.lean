/- merged: TrK TrC -/
import Derived.Test.YtkinkgbmlhiakaaGreatDoorNd10
namespace Go.Proofs.YtkinkgbmlhiakaaGreatDoor
section
open Go Go.RowKit
theorem least {p : Nat -> Prop} : ∀ {n : Nat}, p n -> ∃ m, p m /\ ∀ k, k < m -> ¬ p k := by
 intro n; induction n using Nat.strongRecOn with
 | _ n ih =>
  intro h; by_cases hk : ∃ k, k < n /\ p k
  ·obtain ⟨k, h1, h2⟩ := hk; exact ih k h1 h2
  ·exact ⟨n, h, fun k h1 h2 => hk ⟨k, h1, h2⟩⟩
theorem jJi {l : List Int} {n : Int} (hn : 1 <= n) (h : ∀ x, l.count x = if 1 <= x /\ x < n then 1 else 0) : (l.length : Int) = n - 1 := by
 have hd : ((List.range (n - 1).toNat).map (fun i : Nat => (i : Int) + 1)).Nodup :=
  List.Pairwise.map _ (fun a b hab hh => hab (by omega)) (List.nodup_range (n := (n - 1).toNat))
 have hp : l.Perm ((List.range (n - 1).toNat).map (fun i : Nat => (i : Int) + 1)) := List.perm_iff_count.2 (fun x => by
  rw [h x, hd.count]; congr 1
  rw [eq_iff_iff, List.mem_map]; constructor
  ·rintro ⟨h1, h2⟩; exact ⟨(x - 1).toNat, List.mem_range.2 (by omega), by omega⟩
  ·rintro ⟨i, hi, rfl⟩; have := List.mem_range.1 hi; omega)
 have := hp.length_eq; rw [List.length_map, List.length_range] at this; omega
def qNe (link : Int -> Option Int) : Int -> List Int -> Prop
 | f, [] => f = 0
 | f, x :: r => f = x /\ x ≠ 0 /\ ∃ y, link x = some y /\ qNe link y r
theorem qGh {link link' : Int -> Option Int} : ∀ {l : List Int} {f : Int}, qNe link f l -> (∀ x ∈ l, link' x = link x) -> qNe link' f l
 | [], _, h, _ => h
 | x :: _, _, ⟨h1, h2, y, h3, h4⟩, k => ⟨h1, h2, y, (k x List.mem_cons_self).trans h3, qGh h4 (fun z hz => k z (List.mem_cons_of_mem _ hz))⟩
structure Acc (T : TM) (W : WM) (U R F : List Int) : Prop where
 chain : qNe (W.link T) W.free F
 cnt : ∀ x, U.count x + F.count x + R.count x = if 1 <= x /\ x < W.next then 1 else 0
 used : ∀ x, x ∈ U \/ x ∈ R -> W.after x = none /\ (W.nodes x = none -> W.taken x = false /\ T.after x = none)
 free : ∀ x ∈ F, W.nodes x = none /\ (W.after x = none -> W.taken x = false /\ T.nodes x = none)
 out : ∀ x, ¬ (1 <= x /\ x < W.next) -> W.nodes x = none /\ W.after x = none /\ W.taken x = false /\ T.nodes x = none /\ T.after x = none
 pos : 1 <= W.next
theorem Acc.spot {T : TM} {W : WM} {U R F : List Int} (h : Acc T W U R F) {x : Int} (hx : x ∈ U \/ x ∈ F \/ x ∈ R) : 1 <= x /\ x < W.next := by
 have h1 := h.cnt x; by_cases hc : 1 <= x /\ x < W.next
 ·exact hc
 ·rw [if_neg hc] at h1; rcases hx with hx | hx | hx <;> (have := List.count_pos_iff.2 hx; omega)
theorem Acc.move {T : TM} {W : WM} {U R F U' R' : List Int} (h : Acc T W U R F) (hc : ∀ x, U'.count x + R'.count x = U.count x + R.count x) : Acc T W U' R' F := by
 refine ⟨h.chain, fun x => ?_, fun x hx => h.used x ?_, h.free, h.out, h.pos⟩
 ·have := h.cnt x; have := hc x; omega
 ·have h1 := hc x; have h2 : 0 < U'.count x + R'.count x := by
   rcases hx with hx | hx <;> (have := List.count_pos_iff.2 hx; omega)
  by_cases h3 : 0 < U.count x
  ·exact .inl (List.count_pos_iff.1 h3)
  ·exact .inr (List.count_pos_iff.1 (by omega))
theorem Acc.len {T : TM} {W : WM} {U R F : List Int} (h : Acc T W U R F) : (U.length : Int) + F.length + R.length = W.next - 1 := by
 have := jJi (l := U ++ (F ++ R)) h.pos (fun x => by rw [List.count_append, List.count_append]; have := h.cnt x; omega)
 rw [List.length_append, List.length_append] at this; omega
theorem qJe (W : WM) (T : TM) (s : Int) (n : NP) : (W.put s n).look T s = some n := by unfold WM.look WM.put; simp only [qCi]
theorem qIb (W : WM) (T : TM) {s x : Int} (n : NP) (h : x ≠ s) : (W.put s n).look T x = W.look T x := by unfold WM.look WM.put; simp only [qAn _ _ h]
theorem Acc.put {T : TM} {W : WM} {U R F : List Int} {s : Int} (h : Acc T W (s :: U) R F) (n : NP) : Acc T (W.put s n) (s :: U) R F := by
 have hs := h.spot (x := s) (.inl List.mem_cons_self); have hf : ∀ x ∈ F, x ≠ s := fun x hx e => by
  subst e; have h1 := h.cnt x; rw [if_pos hs, List.count_cons_self] at h1; have := List.count_pos_iff.2 hx; omega
 refine ⟨h.chain, h.cnt, fun x hx => ⟨(h.used x hx).1, fun hn => ?_⟩, fun x hx => ?_, fun x hx => ?_, h.pos⟩
 ·by_cases e : x = s
  ·subst e; simp only [WM.put, qCi] at hn; cases hn
  ·simp only [WM.put, qAn _ _ e] at hn; exact (h.used x hx).2 hn
 ·have := h.free x hx; simp only [WM.put, qAn _ _ (hf x hx)]; exact this
 ·have h1 := h.out x hx; have e : x ≠ s := fun e => hx (by subst e; exact hs)
  simp only [WM.put, qAn _ _ e]; exact h1
theorem Acc.release {T : TM} {W : WM} {U R F : List Int} {s : Int} (h : Acc T W (s :: U) R F) : Acc T (W.release s) U R (s :: F) := by
 have hs := h.spot (x := s) (.inl List.mem_cons_self); have h1 := h.cnt s; rw [if_pos hs, List.count_cons_self] at h1; have hf : ∀ x, x ∈ U \/ x ∈ F \/ x ∈ R -> x ≠ s := fun x hx e => by
  subst e; rcases hx with hx | hx | hx <;> (have := List.count_pos_iff.2 hx; omega)
 refine ⟨⟨rfl, by omega, W.free, ?_, qGh h.chain (fun x hx => ?_)⟩, fun x => ?_, fun x hx => ?_, fun x hx => ?_, fun x hx => ?_, h.pos⟩
 ·unfold WM.link WM.release; simp only [qCi]
 ·unfold WM.link WM.release; simp only [qAn _ _ (hf x (.inr (.inl hx)))]
 ·have h2 := h.cnt x; rw [List.count_cons] at h2 ⊢; exact (by omega : _ = U.count x + (if (s == x) = true then 1 else 0) + F.count x + R.count x).trans h2
 ·have h2 := h.used x (hx.imp (List.mem_cons_of_mem _) id); have e := hf x (hx.imp id .inr); simp only [WM.release, qAn _ _ e]; exact h2
 ·by_cases e : x = s
  ·subst e; simp only [WM.release, qCi]; exact ⟨trivial, fun h => by cases h⟩
  ·have h2 := h.free x ((List.mem_cons.1 hx).resolve_left e); simp only [WM.release, qAn _ _ e]; exact h2
 ·have e : x ≠ s := fun e => hx (by subst e; exact hs)
  have h2 := h.out x hx; simp only [WM.release, qAn _ _ e]; exact h2
theorem qLb {W : WM} {T : TM} {s x : Int} (h : x ≠ s) : (W.release s).look T x = W.look T x := by unfold WM.look WM.release; simp only [qAn _ _ h]
theorem Acc.take {T : TM} {W : WM} {U R F : List Int} (h : Acc T W U R F) (L : Int) (n : NP) : ∃ F', Acc T ((W.take T L).2.put (W.take T L).1 n) ((W.take T L).1 :: U) R F' ∧
  (∀ x, x ∈ U \/ x ∈ R -> x ≠ (W.take T L).1) /\ (∀ x, x ≠ (W.take T L).1 -> (W.take T L).2.look T x = W.look T x) /\ (W.take T L).2.root = W.root /\ (W.take T L).2.count = W.count ∧
  W.next <= (W.take T L).2.next /\ (W.take T L).2.next <= W.next + 1 /\ (W.full = true -> (W.take T L).2.full = true) /\ ((W.take T L).2.full = true -> W.full = true \/ L <= (U.length : Int) + R.length + 1) ∧
  (∀ x, x ≠ (W.take T L).1 -> (W.take T L).2.nodes x = W.nodes x /\ (W.take T L).2.after x = W.after x) /\ ((W.take T L).2.next <= W.next \/ (W.take T L).2.next <= (U.length : Int) + R.length + 2) /\ ((W.take T L).2.full = false -> (W.take T L).2.next <= W.next \/ (W.take T L).2.next <= L) := by
 have hl := h.len; by_cases h0 : W.free = 0
 ·have hF : F = [] := by
   cases F with
   | nil => rfl
   | cons x r => obtain ⟨h1, h2, _⟩ := h.chain; exact absurd (h1.symm.trans h0) h2
  subst hF; have ht : W.take T L = (W.next, { W with next := W.next + 1, full := W.full || decide (L <= W.next) }) := by unfold WM.take; rw [if_pos h0]
  rw [ht]; have hnot : ∀ x, x ∈ U \/ x ∈ R -> x ≠ W.next := fun x hx e => by
   have := h.spot (x := x) (hx.imp id .inr); omega
  have hpos := h.pos; refine ⟨[], ⟨h0, fun x => ?_, fun x hx => ?_, fun x hx => (by cases hx), fun x hx => ?_, (by show 1 <= W.next + 1; omega)⟩, hnot, fun x _ => rfl, rfl, rfl, (by show W.next <= W.next + 1; omega), (by show W.next + 1 <= W.next + 1; omega), fun hf => (by show (W.full || _) = true; rw [hf]; rfl), fun hf => ?_, fun x _ => ⟨rfl, rfl⟩, .inr (by show W.next + 1 <= _; rw [List.length_nil] at hl; omega), fun hf => .inr (by
   have hf' : (W.full || decide (L <= W.next)) = false := hf
   rw [Bool.or_eq_false_iff, decide_eq_false_iff_not] at hf'; show W.next + 1 <= L; omega)⟩
  ·have h1 := h.cnt x; have h2 := h.cnt W.next; rw [if_neg (by omega)] at h2
   simp only [List.count_nil] at h1 h2; rw [List.count_cons, List.count_nil]; show _ = if 1 <= x /\ x < W.next + 1 then 1 else 0
   by_cases e : x = W.next
   ·subst e; simp only [beq_self_eq_true, if_true]; rw [if_pos (by omega)]
    omega
   ·have e2 : (W.next == x) = false := by simp; exact fun h => e h.symm
    rw [e2]; simp only [Bool.false_eq_true, if_false]; by_cases hc : 1 <= x /\ x < W.next
    ·rw [if_pos hc] at h1; rw [if_pos (by omega)]; omega
    ·rw [if_neg hc] at h1; rw [if_neg (by omega)]; omega
  ·by_cases e : x = W.next
   ·subst e; refine ⟨(h.out W.next (by omega)).2.1, fun hn => ?_⟩
    simp only [WM.put, qCi] at hn; cases hn
   ·have hx' : x ∈ U \/ x ∈ R := hx.imp (fun hx => (List.mem_cons.1 hx).resolve_left e) id
    have h2 := h.used x hx'; simp only [WM.put, qAn _ _ e]; exact h2
  ·have hx' : ¬ (1 <= x /\ x < W.next + 1) := hx; have e : x ≠ W.next := by omega
   have h2 := h.out x (by omega)
   simp only [WM.put, qAn _ _ e]; exact h2
  ·have hf' : (W.full || decide (L <= W.next)) = true := hf
   rw [Bool.or_eq_true, decide_eq_true_eq] at hf'; rw [List.length_nil] at hl; exact hf'.imp id (fun h => by omega)
 ·have ht : W.take T L = (W.free, { W with after := fset W.after W.free none, taken := fun x => decide (x = W.free) || W.taken x, free := (W.link T W.free).getD 0 }) := by unfold WM.take; rw [if_neg h0]
  rw [ht]; cases F with
  | nil => exact absurd h.chain h0
  | cons s r =>
   obtain ⟨hs, hs0, y, hy, hch⟩ := h.chain; rw [hs, hy]; have hsp := h.spot (x := s) (.inr (.inl List.mem_cons_self)); have h1 := h.cnt s; rw [if_pos hsp, List.count_cons_self] at h1; have hr : ∀ x, x ∈ U \/ x ∈ r \/ x ∈ R -> x ≠ s := fun x hx e => by
    subst e; rcases hx with hx | hx | hx <;> (have := List.count_pos_iff.2 hx; omega)
   refine ⟨r, ⟨qGh hch (fun x hx => ?_), fun x => ?_, fun x hx => ?_, fun x hx => ?_, fun x hx => ?_, h.pos⟩, fun x hx => hr x (hx.imp id .inr), fun x _ => rfl, rfl, rfl, Int.le_refl _, (by show W.next <= W.next + 1; omega), fun hf => hf, fun hf => .inl hf, fun x hx => ⟨rfl, qAn _ _ hx⟩, .inl (Int.le_refl _), fun _ => .inl (Int.le_refl _)⟩
   ·unfold WM.link WM.put; simp only [qAn _ _ (hr x (.inr (.inl hx)))]
   ·have h2 := h.cnt x; rw [List.count_cons] at h2; show (s :: U).count x + r.count x + R.count x = if 1 <= x /\ x < W.next then 1 else 0
    rw [<- h2, List.count_cons]; omega
   ·by_cases e : x = s
    ·subst e; refine ⟨qCi _ _ _, fun hn => ?_⟩
     simp only [WM.put, qCi] at hn; cases hn
    ·have h2 := h.used x (hx.imp (fun hx => (List.mem_cons.1 hx).resolve_left e) id)
     simp only [WM.put, qAn _ _ e, decide_eq_false e, Bool.false_or]; exact h2
   ·have e := hr x (.inr (.inl hx)); have h2 := h.free x (List.mem_cons_of_mem _ hx); simp only [WM.put, qAn _ _ e, decide_eq_false e, Bool.false_or]; exact h2
   ·have e : x ≠ s := fun e => hx (by subst e; exact hsp)
    have h2 := h.out x hx; simp only [WM.put, qAn _ _ e, decide_eq_false e, Bool.false_or]; exact h2
structure Kept (T : TM) (W W' : WM) (L : Int) (R : List Int) (k n : Nat) (X : List Int) : Prop where
 other : ∀ x ∈ R, W'.look T x = W.look T x
 root : W'.root = W.root
 lo : W.next <= W'.next
 hi : W'.next <= W.next + k
 mono : W.full = true -> W'.full = true
 full : W'.full = true -> W.full = true \/ L <= (n : Int)
 top : W'.next <= W.next \/ W'.next <= (n : Int) + 1
 room : W'.full = false -> W'.next <= W.next \/ W'.next <= L
 touch : ∀ x, (W'.nodes x ≠ none \/ W'.after x ≠ none) -> x ∈ X \/ (W.nodes x ≠ none \/ W.after x ≠ none)
theorem qVc {T : TM} {L : Int} : ∀ (ss : List Int) (W : WM) (R F : List Int) (n : Nat), Acc T W ss R F -> ∃ F', Acc T (ss.foldl WM.release W) [] R F' /\ Kept T W (ss.foldl WM.release W) L R 0 n ss /\ (ss.foldl WM.release W).count = W.count
 | [], W, R, F, n, h => ⟨F, h, ⟨fun _ _ => rfl, rfl, Int.le_refl _, (by show W.next <= W.next + 0; omega), fun h => h, fun h => .inl h, .inl (Int.le_refl _), fun _ => .inl (Int.le_refl _), fun _ h => .inr h⟩, rfl⟩
 | s :: ss, W, R, F, n, h => by
  have hs := h.spot (x := s) (.inl List.mem_cons_self); have h1 := h.cnt s; rw [if_pos hs, List.count_cons_self] at h1; obtain ⟨F', h2, h3, h4⟩ := qVc (T := T) (L := L) ss (W.release s) R (s :: F) n h.release; refine ⟨F', h2, ⟨fun x hx => ?_, h3.root, h3.lo, h3.hi, h3.mono, h3.full, h3.top, h3.room, fun x hx => ?_⟩, h4⟩
  ·have e : x ≠ s := fun e => by
    subst e; have := List.count_pos_iff.2 hx; omega
   exact (h3.other x hx).trans (qLb e)
  ·rcases h3.touch x hx with h5 | h5
   ·exact .inl (List.mem_cons_of_mem _ h5)
   ·by_cases e : x = s
    ·exact .inl (by rw [e]; exact List.mem_cons_self)
    ·simp only [WM.release, qAn _ _ e] at h5; exact .inr h5
theorem qFt {T : TM} {L : Int} {leaf : Bool} : ∀ (xs : List (List Ent)) (ss : List Int) (W : WM) (R F : List Int), Acc T W ss R F -> (∀ x ∈ xs, qBg leaf x) -> W.next + xs.length <= 1152921504606846976 →
  ∃ (W' : WM) (ats F' : List Int), qBs T L leaf xs ss W = some (W', (xs.zip ats).map fun p => (fk p.1, p.2)) /\ ats.length = xs.length /\ ats.take ss.length = ss.take ats.length /\ Acc T W' ats R F' /\ (∀ p ∈ xs.zip ats, W'.look T p.2 = some (leaf, p.1)) ∧
   Kept T W W' L R (xs.length - ss.length) (R.length + xs.length) (ss ++ ats) /\ W'.count = W.count
 | [], ss, W, R, F, h, _, _ => by
  obtain ⟨F', h1, h2, h3⟩ := qVc (T := T) (L := L) ss W R F (R.length + 0) h; refine ⟨ss.foldl WM.release W, [], F', by unfold qBs; rfl, rfl, by simp, h1, fun p hp => by simp at hp, ⟨h2.other, h2.root, h2.lo, ?_, h2.mono, h2.full, h2.top, h2.room, fun x hx => ?_⟩, h3⟩
  ·have := h2.hi; simp only [List.length_nil, Nat.zero_sub]; omega
  ·rcases h2.touch x hx with h | h
   ·exact .inl (List.mem_append_left _ h)
   ·exact .inr h
 | x :: xs, s :: ss, W, R, F, h, hg, hn => by
  have hp := h.put (leaf, x); have hm : Acc T (W.put s (leaf, x)) ss (s :: R) F := hp.move (fun y => by rw [List.count_cons, List.count_cons]; omega)
  rw [List.length_cons] at hn; obtain ⟨W', ats, F', h1, h2, h3, h4, h5, h6, h7⟩ := qFt (T := T) (L := L) xs ss (W.put s (leaf, x)) (s :: R) F hm (fun y hy => hg y (List.mem_cons_of_mem _ hy)) (by show W.next + _ <= _; omega)
  have hlk : W'.look T s = some (leaf, x) := (h6.other s List.mem_cons_self).trans (qJe W T s (leaf, x)); have hs1 := h.cnt s; rw [if_pos (h.spot (x := s) (.inl List.mem_cons_self)), List.count_cons_self] at hs1; refine ⟨W', s :: ats, F', ?_, by rw [List.length_cons, List.length_cons, h2], ?_, h4.move (fun y => by rw [List.count_cons, List.count_cons]; omega), ?_, ⟨fun y hy => ?_, h6.root, h6.lo, ?_, h6.mono, ?_, ?_, h6.room, fun y hy => ?_⟩, h7⟩
  ·unfold qBs; rw [qCr (hg x List.mem_cons_self), h1]; rfl
  ·rw [List.length_cons, List.length_cons, List.take_succ_cons, List.take_succ_cons, h3]
  ·intro p hp; rcases List.mem_cons.1 hp with rfl | hp
   ·exact hlk
   ·exact h5 p hp
  ·have e : y ≠ s := fun e => by
    subst e; have := List.count_pos_iff.2 hy; omega
   exact (h6.other y (List.mem_cons_of_mem _ hy)).trans (qIb W T _ e)
  ·have h8 : W'.next <= W.next + ((xs.length - ss.length : Nat) : Int) := h6.hi; rw [List.length_cons, List.length_cons, Nat.add_sub_add_right]; exact h8
  ·intro hf; rcases h6.full hf with h8 | h8
   ·exact .inl h8
   ·rw [List.length_cons] at h8 ⊢; exact .inr (by omega)
  ·rcases h6.top with h8 | h8
   ·exact .inl h8
   ·rw [List.length_cons] at h8 ⊢; exact .inr (by omega)
  ·rcases h6.touch y hy with h8 | h8
   ·exact .inl (by
     rcases List.mem_append.1 h8 with h8 | h8
     ·exact List.mem_append_left _ (List.mem_cons_of_mem _ h8)
     ·exact List.mem_append_right _ (List.mem_cons_of_mem _ h8))
   ·by_cases e : y = s
    ·exact .inl (by rw [e]; exact List.mem_append_left _ List.mem_cons_self)
    ·simp only [WM.put, qAn _ _ e] at h8; exact .inr h8
 | x :: xs, [], W, R, F, h, hg, hn => by
  obtain ⟨F1, ha, hb, hc, hd, he, hf, hg1, hh, hi, hj, htop, hroom⟩ := h.take L (leaf, x); rw [List.length_cons] at hn; have hm : Acc T ((W.take T L).2.put (W.take T L).1 (leaf, x)) [] ((W.take T L).1 :: R) F1 := ha.move (fun y => by rw [List.count_cons, List.count_cons]; omega)
  obtain ⟨W', ats, F', h1, h2, _, h4, h5, h6, h7⟩ := qFt (T := T) (L := L) xs [] ((W.take T L).2.put (W.take T L).1 (leaf, x)) ((W.take T L).1 :: R) F1 hm (fun y hy => hg y (List.mem_cons_of_mem _ hy)) (by show (W.take T L).2.next + _ <= _; omega)
  have hlk : W'.look T (W.take T L).1 = some (leaf, x) := (h6.other _ List.mem_cons_self).trans (qJe _ T _ (leaf, x)); refine ⟨W', (W.take T L).1 :: ats, F', ?_, by rw [List.length_cons, List.length_cons, h2], by simp, h4.move (fun y => by rw [List.count_cons, List.count_cons]; omega), ?_, ⟨fun y hy => ?_, h6.root.trans hd, Int.le_trans hf h6.lo, ?_, fun hx => h6.mono (hh hx), ?_, ?_, fun hx => ?_, fun y hy => ?_⟩, h7.trans he⟩
  ·unfold qBs; rw [qCr ⟨hg x List.mem_cons_self, by omega⟩, h1]
   rfl
  ·intro p hp; rcases List.mem_cons.1 hp with rfl | hp
   ·exact hlk
   ·exact h5 p hp
  ·have e := hb y (.inr hy); exact ((h6.other y (List.mem_cons_of_mem _ hy)).trans (qIb _ T _ e)).trans (hc y e)
  ·have h8 : W'.next <= (W.take T L).2.next + ((xs.length - 0 : Nat) : Int) := h6.hi; rw [List.length_cons, List.length_nil]; omega
  ·intro hx; rcases h6.full hx with h8 | h8
   ·rcases hi h8 with h9 | h9
    ·exact .inl h9
    ·rw [List.length_nil] at h9; rw [List.length_cons]; exact .inr (by omega)
   ·rw [List.length_cons] at h8 ⊢; exact .inr (by omega)
  ·rcases h6.top with h8 | h8
   ·rw [List.length_nil] at htop; rw [List.length_cons]; have h9 : W'.next <= (W.take T L).2.next := h8; rcases htop with h10 | h10
    ·exact .inl (by omega)
    ·exact .inr (by omega)
   ·rw [List.length_cons] at h8 ⊢; exact .inr (by omega)
  ·have hnf : (W.take T L).2.full = false := by
    cases hh2 : (W.take T L).2.full with
    | false => rfl
    | true => have := h6.mono hh2; rw [hx] at this; cases this
   rcases h6.room hx with h8 | h8
   ·have h9 : W'.next <= (W.take T L).2.next := h8; rcases hroom hnf with h10 | h10
    ·exact .inl (by omega)
    ·exact .inr (by omega)
   ·exact .inr h8
  ·rcases h6.touch y hy with h8 | h8
   ·exact .inl (List.mem_cons_of_mem _ h8)
   ·by_cases e : y = (W.take T L).1
    ·exact .inl (by rw [e]; exact List.mem_cons_self)
    ·simp only [WM.put, qAn _ _ e] at h8; rw [(hj y e).1, (hj y e).2] at h8; exact .inr h8
theorem qCp {ks : List ByteArray} : qSl ks ↔ ks.Pairwise (fun a b => kl a b = true) /\ ∀ k ∈ ks, k.toList ≠ [] /\ k.size <= 48 := by
 constructor
 ·intro h; have hr : qNc ks := jFg (fun i x y hx hy => by
   have hi := (List.getElem?_eq_some_iff.1 hy).1; obtain ⟨z, hz, _, _, h4⟩ := h (i + 1) hi; obtain ⟨u, hu, h5⟩ := h4 (by omega)
   rw [Nat.add_sub_cancel, hx] at hu; rw [hy] at hz; cases hu
   cases hz
   exact h5)
  refine ⟨List.pairwise_iff_getElem.2 (fun i j hi hj hij => hr i j _ _ hij (List.getElem?_eq_getElem hi) (List.getElem?_eq_getElem hj)), fun k hk => ?_⟩
  obtain ⟨i, hi, rfl⟩ := List.getElem_of_mem hk; obtain ⟨z, hz, h2, h3, _⟩ := h i hi; rw [List.getElem?_eq_getElem hi] at hz; cases hz
  exact ⟨h2, h3⟩
 ·rintro ⟨h1, h2⟩ i hi; have h3 := h2 _ (List.getElem_mem hi); refine ⟨ks[i], List.getElem?_eq_getElem hi, h3.1, h3.2, fun h0 => ⟨ks[i - 1]'(by omega), List.getElem?_eq_getElem _, ?_⟩⟩
  exact List.pairwise_iff_getElem.1 h1 (i - 1) i (by omega) hi (by omega)
structure qQo (leaf : Bool) (es : List Ent) : Prop where
 keys : qSl (es.map (·.key))
 clean : qFb leaf es
 values : ∀ x ∈ es, x.value.size <= 200
 kids : leaf = false -> ∀ x ∈ es, 1 <= x.kid /\ x.kid <= 1152921504606846976
 bytes : wt leaf es <= 1380
theorem qQo.sub {leaf : Bool} {es l : List Ent} (h : qQo leaf es) (hs : l.Sublist es) (hne : l ≠ []) (hb : (qAo leaf l).length <= 1024) : qBg leaf l := by
 obtain ⟨h1, h2⟩ := qCp.1 h.keys; have hm : ∀ x ∈ l, x ∈ es := fun x hx => hs.subset hx
 exact ⟨hne, qCp.2 ⟨h1.sublist (hs.map _), fun k hk => h2 k ((hs.map _).subset hk)⟩, fun x hx => h.clean x (hm x hx), fun x hx => h.values x (hm x hx), fun hl x hx => h.kids hl x (hm x hx), hb⟩
theorem qXh {n : Nat} (h : n <= 1152921504606846976) : (uvar n).length <= 9 := qIs 8 n (by omega)
theorem qHt (leaf : Bool) (x : Ent) : wt leaf [x] = (entL leaf x).length := by unfold wt; simp
theorem qFk (leaf : Bool) (x : Ent) (l : List Ent) : wt leaf (x :: l) = (entL leaf x).length + wt leaf l := by unfold wt; simp
theorem qKr {leaf : Bool} {x : Ent} (hk : x.key.size <= 48) (hv : x.value.size <= 200) (hi : leaf = false -> x.kid <= 1152921504606846976) : (entL leaf x).length <= (if leaf then 251 else 58) := by
 have h1 : (qCq x.key).length <= 49 := by
  unfold qCq; rw [List.length_append, qCn (by omega)]
  have : x.key.data.toList.length = x.key.size := rfl; simp only [List.length_cons, List.length_nil]; omega
 unfold entL; rw [List.length_append]; cases leaf with
 | true =>
  have h2 : (qCq x.value).length <= 202 := by
   unfold qCq; rw [List.length_append]; have h3 := qUr (k := x.value.size) (by omega)
   have : x.value.data.toList.length = x.value.size := rfl; split at h3 <;> omega
  simp only [if_true]; omega
 | false =>
  have h2 := qXh (n := (max 0 x.kid).toNat) (by have := hi rfl; omega)
  simp only [Bool.false_eq_true, if_false]; omega
theorem qQo.ent {leaf : Bool} {es : List Ent} (h : qQo leaf es) {x : Ent} (hx : x ∈ es) : (entL leaf x).length <= (if leaf then 251 else 58) :=
 qKr ((qCp.1 h.keys).2 _ (List.mem_map_of_mem hx)).2 (h.values x hx) (fun hl => (h.kids hl x hx).2)
theorem qEh {leaf : Bool} {es : List Ent} (h : es.length < 16384) : (qAo leaf es).length = 1 + (if 127 < es.length then 2 else 1) + wt leaf es := by rw [qHq, qUr h]
theorem qBg.len {leaf : Bool} {es : List Ent} (h : qBg leaf es) : es.length <= 511 := by
 have h1 := jIn leaf es; have h2 := qHq leaf es; have h3 := h.bytes; omega
theorem qBg.wt {leaf : Bool} {es : List Ent} (h : qBg leaf es) : wt leaf es <= 1022 := by
 have h2 := qHq leaf es; have h3 := h.bytes; have := qFe es.length; omega
theorem qBg.size {leaf : Bool} {es : List Ent} (h : qBg leaf es) : qQo leaf es := ⟨h.keys, h.clean, h.values, h.kids, by have := h.wt; omega⟩
theorem qBg.many {es : List Ent} (h : qBg false es) (hb : 250 <= (qAo false es).length) : 5 <= es.length := by
 have h1 := h.len; have h2 := qEh (leaf := false) (es := es) (by omega)
 have h3 : ∀ l : List Ent, (∀ x ∈ l, x ∈ es) -> Go.Proofs.YtkinkgbmlhiakaaGreatDoor.wt false l <= 58 * l.length := by
  intro l; induction l with
  | nil => intro _; simp [Go.Proofs.YtkinkgbmlhiakaaGreatDoor.wt]
  | cons x r ih =>
   intro hm; have := h.size.ent (hm x List.mem_cons_self); have := ih (fun y hy => hm y (List.mem_cons_of_mem _ hy))
   rw [qFk, List.length_cons]; simp only [Bool.false_eq_true, if_false] at *; omega
 have h4 := h3 es (fun _ h => h)
 split at h2 <;> omega
theorem qQo.len {leaf : Bool} {es : List Ent} (h : qQo leaf es) : es.length <= 690 := by
 have h1 := jIn leaf es; have h2 := h.bytes; omega
theorem jDd {leaf : Bool} {es : List Ent} (h : 2 <= es.length) : ∃ i, Cut2 leaf es i := by
 obtain ⟨m, h1, h2⟩ := least (p := fun i => 1 <= i /\ (i + 1 = es.length \/ wt leaf es <= 2 * wt leaf (es.take i))) (n := es.length - 1) ⟨by omega, .inl (by omega)⟩
 have hlt : m < es.length := by
  by_cases hm : m <= es.length - 1
  ·omega
  ·exact absurd ⟨by omega, .inl (by omega)⟩ (h2 (es.length - 1) (by omega))
 refine ⟨m, h1.1, hlt, h1.2, ?_⟩; by_cases hm : m = 1
 ·exact .inl hm
 ·refine .inr (Nat.lt_of_not_le (fun hc => h2 (m - 1) (by have := h1.1; omega) ⟨by have := h1.1; omega, .inr hc⟩))
theorem jAg {leaf : Bool} {es : List Ent} (h : qQo leaf es) (hne : es ≠ []) : (qEj leaf es = [es] /\ qBg leaf es) ∨
  ∃ i, qEj leaf es = [es.take i, es.drop i] /\ 1 <= i /\ i < es.length /\ qBg leaf (es.take i) /\ qBg leaf (es.drop i) /\ 250 <= (qAo leaf (es.take i)).length /\ 250 <= (qAo leaf (es.drop i)).length := by
 have hlen := h.len; have hb := qEh (leaf := leaf) (es := es) (by omega)
 unfold qEj; by_cases h1 : es.length < 2 \/ (qAo leaf es).length <= 1024
 ·rw [if_pos h1]; refine .inl ⟨rfl, h.sub (List.Sublist.refl _) hne ?_⟩; rcases h1 with h1 | h1
  ·cases es with
   | nil => exact absurd rfl hne
   | cons x r =>
    have hr : r = [] := List.eq_nil_of_length_eq_zero (by rw [List.length_cons] at h1; omega)
    subst hr; have h2 := h.ent (x := x) List.mem_cons_self; rw [qHt] at hb; simp only [List.length_cons, List.length_nil] at hb; split at h2 <;> (split at hb <;> omega)
  ·exact h1
 ·rw [if_neg h1]; obtain ⟨i, hc⟩ := jDd (leaf := leaf) (es := es) (by omega)
  rw [jDe hc]; have hi := hc.hi; have hlo := hc.lo; have hw : wt leaf es = wt leaf (es.take i) + wt leaf (es.drop i) := by rw [<- qBu, List.take_append_drop]
  obtain ⟨x, hx⟩ : ∃ x, es[i - 1]? = some x := ⟨_, List.getElem?_eq_getElem (by omega)⟩
  have hx1 := h.ent (List.mem_of_getElem? hx); have hx2 : wt leaf (es.take i) = wt leaf (es.take (i - 1)) + (entL leaf x).length := by
   have : es.take i = es.take (i - 1) ++ [x] := by
    have := List.take_add_one (l := es) (i := i - 1); rw [Nat.sub_add_cancel hlo, hx] at this; exact this
   rw [this, qBu, qHt]
  have h251 : (entL leaf x).length <= 251 := by split at hx1 <;> omega
  have hl1 : (es.take i).length = i := by rw [List.length_take]; omega
  have hl2 : (es.drop i).length = es.length - i := List.length_drop; have hb1 := qEh (leaf := leaf) (es := es.take i) (by omega)
  have hb2 := qEh (leaf := leaf) (es := es.drop i) (by omega)
  have hlast : i + 1 = es.length -> wt leaf (es.drop i) <= 251 := fun he => by
   obtain ⟨y, hy⟩ : ∃ y, es[i]? = some y := ⟨_, List.getElem?_eq_getElem hi⟩; have hd : es.drop i = [y] := by
    rw [List.drop_eq_getElem_cons hi]; have := (List.getElem?_eq_some_iff.1 hy).2; rw [this, List.drop_eq_nil_of_le (by omega)]
   have hy1 := h.ent (List.mem_of_getElem? hy); rw [hd, qHt]; split at hy1 <;> omega
  have hbytes := h.bytes; have hsm := hc.small; have hgr := hc.great; have htot : 1021 <= wt leaf es := by split at hb <;> omega
  have hone : i = 1 -> wt leaf (es.take i) <= 251 := fun h1 => by
   subst h1; rw [hx2]; simp only [Nat.sub_self, List.take_zero]; have : wt leaf ([] : List Ent) = 0 := rfl; omega
  have e1 : 250 <= wt leaf (es.take i) := by
   rcases hgr with h2 | h2
   ·have := hlast h2; omega
   ·omega
  have e2 : 250 <= wt leaf (es.drop i) := by
   rcases hsm with h2 | h2
   ·have := hone h2; omega
   ·omega
  have e3 : wt leaf (es.take i) <= 1020 := by
   rcases hsm with h2 | h2
   ·have := hone h2; omega
   ·omega
  have e4 : wt leaf (es.drop i) <= 1020 := by
   rcases hgr with h2 | h2
   ·have := hlast h2; omega
   ·omega
  refine .inr ⟨i, rfl, hlo, hi, h.sub (List.take_sublist _ _) (fun hn => by rw [hn] at hl1; simp at hl1; omega) (by split at hb1 <;> omega), h.sub (List.drop_sublist _ _) (fun hn => by rw [hn] at hl2; simp at hl2; omega) (by split at hb2 <;> omega), by omega, by omega⟩
end
section
open Go Go.RowKit
def lf : Nat -> Bool
 | 0 => true
 | _ + 1 => false
def eOf : (h : Nat) -> Tr h -> List Ent
 | 0, l => List.map (fun p : KV => ⟨p.1, p.2, 0⟩) l
 | h + 1, l => List.map (fun e : TE (Tr h) => ⟨e.key, emp, e.spot⟩) l
def qDv : (h : Nat) -> Tr h -> List Int
 | 0, _ => []
 | h + 1, l => List.flatMap (fun e : TE (Tr h) => secs h e.spot e.sub) l
theorem qDl : ∀ (h : Nat) (s : Int) (t : Tr h), secs h s t = s :: qDv h t
 | 0, _, _ => rfl
 | _ + 1, _, _ => rfl
def qNf (i : Nat) : (h : Nat) -> Tr h -> Tr h
 | 0, l => List.take (α := KV) i l
 | h + 1, l => List.take (α := TE (Tr h)) i l
def qNh (i : Nat) : (h : Nat) -> Tr h -> Tr h
 | 0, l => List.drop (α := KV) i l
 | h + 1, l => List.drop (α := TE (Tr h)) i l
def tapp : (h : Nat) -> Tr h -> Tr h -> Tr h
 | 0, a, b => List.append (α := KV) a b
 | h + 1, a, b => List.append (α := TE (Tr h)) a b
theorem qGx (i : Nat) : ∀ (h : Nat) (t : Tr h), eOf h (qNf i h t) = (eOf h t).take i
 | 0, _ => List.map_take
 | _ + 1, _ => List.map_take
theorem qGy (i : Nat) : ∀ (h : Nat) (t : Tr h), eOf h (qNh i h t) = (eOf h t).drop i
 | 0, _ => List.map_drop
 | _ + 1, _ => List.map_drop
theorem qLr : ∀ (h : Nat) (a b : Tr h), eOf h (tapp h a b) = eOf h a ++ eOf h b
 | 0, _, _ => List.map_append
 | _ + 1, _, _ => List.map_append
theorem jHh (i : Nat) : ∀ (h : Nat) (t : Tr h), flat h (qNf i h t) ++ flat h (qNh i h t) = flat h t
 | 0, l => List.take_append_drop (α := KV) i l
 | h + 1, l => by
  have e := List.take_append_drop (α := TE (Tr h)) i l; have := (qAi (h := h) (List.take i l) (List.drop i l)).symm; rw [e] at this; exact this
theorem jHi : ∀ (h : Nat) (a b : Tr h), flat h (tapp h a b) = flat h a ++ flat h b
 | 0, _, _ => rfl
 | h + 1, a, b => qAi (h := h) a b
theorem jBu (i : Nat) : ∀ (h : Nat) (t : Tr h), qDv h (qNf i h t) ++ qDv h (qNh i h t) = qDv h t
 | 0, _ => rfl
 | h + 1, l => by
  have e := List.take_append_drop (α := TE (Tr h)) i l; show List.flatMap _ (List.take i l) ++ List.flatMap _ (List.drop i l) = List.flatMap _ l; rw [<- List.flatMap_append, e]
theorem qRt : ∀ (h : Nat) (a b : Tr h), qDv h (tapp h a b) = qDv h a ++ qDv h b
 | 0, _, _ => rfl
 | _ + 1, _, _ => List.flatMap_append
def wtN (h : Nat) (t : Tr h) : Nat := (qAo (lf h) (eOf h t)).length
def Sd (look : Int -> Option NP) (m : Nat) : (h : Nat) -> Int -> Tr h -> Prop
 | 0, s, l => look s = some (true, eOf 0 l) /\ qBg true (eOf 0 l)
 | h + 1, s, l => (look s = some (false, eOf (h + 1) l) /\ qBg false (eOf (h + 1) l)) /\ ∀ e : TE (Tr h), List.Mem e l -> Sd look m h e.spot e.sub /\ fkey h e.sub = some e.key /\ m <= wtN h e.sub
def Lowr (look : Int -> Option NP) (m : Nat) : (h : Nat) -> Tr h -> Prop
 | 0, _ => True
 | h + 1, l => ∀ e : TE (Tr h), List.Mem e l -> Sd look m h e.spot e.sub /\ fkey h e.sub = some e.key /\ m <= wtN h e.sub
theorem qHv {look : Int -> Option NP} {m : Nat} : ∀ {h : Nat} {s : Int} {t : Tr h}, Sd look m h s t ↔ (look s = some (lf h, eOf h t) /\ qBg (lf h) (eOf h t)) /\ Lowr look m h t
 | 0, _, _ => ⟨fun h => ⟨h, trivial⟩, fun h => h.1⟩
 | _ + 1, _, _ => Iff.rfl
theorem qYx {look : Int -> Option NP} {m : Nat} (i : Nat) : ∀ {h : Nat} {t : Tr h}, Lowr look m h t -> Lowr look m h (qNf i h t)
 | 0, _, _ => trivial
 | _h + 1, l, k => fun e he => k e (List.mem_of_mem_take (l := l) (i := i) he)
theorem qYy {look : Int -> Option NP} {m : Nat} (i : Nat) : ∀ {h : Nat} {t : Tr h}, Lowr look m h t -> Lowr look m h (qNh i h t)
 | 0, _, _ => trivial
 | _h + 1, l, k => fun e he => k e (List.mem_of_mem_drop (l := l) (i := i) he)
theorem jDt {look : Int -> Option NP} {m : Nat} : ∀ {h : Nat} {a b : Tr h}, Lowr look m h a -> Lowr look m h b -> Lowr look m h (tapp h a b)
 | 0, _, _, _, _ => trivial
 | _h + 1, a, b, k1, k2 => fun e he => (List.mem_append (s := a) (t := b).1 he).elim (k1 e) (k2 e)
theorem qFf {look look' : Int -> Option NP} {m : Nat} : ∀ {h : Nat} {s : Int} {t : Tr h}, Sd look m h s t -> (∀ x ∈ secs h s t, look' x = look x) -> Sd look' m h s t
 | 0, s, _t, ⟨h1, h2⟩, k => ⟨(k s List.mem_cons_self).trans h1, h2⟩
 | _h + 1, s, _l, ⟨⟨h1, h2⟩, h3⟩, k => ⟨⟨(k s List.mem_cons_self).trans h1, h2⟩, fun e he => ⟨qFf (h3 e he).1 (fun x hx => k x (List.mem_cons_of_mem _ (List.mem_flatMap.2 ⟨e, he, hx⟩))), (h3 e he).2⟩⟩
theorem qMv {look look' : Int -> Option NP} {m : Nat} : ∀ {h : Nat} {t : Tr h}, Lowr look m h t -> (∀ x ∈ qDv h t, look' x = look x) -> Lowr look' m h t
 | 0, _, _, _ => trivial
 | _h + 1, _l, h3, k => fun e he => ⟨qFf (h3 e he).1 (fun x hx => k x (List.mem_flatMap.2 ⟨e, he, hx⟩)), (h3 e he).2⟩
theorem qOu {look : Int -> Option NP} {m : Nat} : ∀ {h : Nat} {s : Int} {t : Tr h}, Sd look m h s t -> Wf h t
 | 0, _, l, k => fun e => k.2.ne (by rw [show l = ([] : List KV) from e]; rfl)
 | h + 1, _, l, k => ⟨fun e => k.1.2.ne (by rw [e]; rfl), fun e he => ⟨qOu (k.2 e he).1, (k.2 e he).2.1⟩⟩
structure qDb (l : List KV) : Prop where
 asc : Asc l
 ok : ∀ p ∈ l, (p.1.toList ≠ [] /\ p.1.size <= 48) /\ p.2.size <= 200
theorem qDb.sub {l k : List KV} (h : qDb l) (hs : k.Sublist l) : qDb k := ⟨h.asc.sublist hs, fun p hp => h.ok p (hs.subset hp)⟩
structure CgOk (c : Cg) : Prop where
 ne : c.key.toList ≠ []
 key : c.key.size <= 48
 value : c.value.size <= 200
theorem jKl {c : Cg} {l : List KV} {p : KV} (hp : p ∈ chg c l) : p ∈ l \/ p ∈ c.put := by
 unfold chg at hp; rcases List.mem_append.1 hp with h | h
 ·exact .inl ((List.mem_filter.1 h).1)
 ·rcases List.mem_append.1 h with h | h
  ·exact .inr h
  ·exact .inl ((List.mem_filter.1 h).1)
theorem qDb.chg {c : Cg} {l : List KV} (h : qDb l) (hc : CgOk c) : qDb (chg c l) := ⟨jDv h.asc, fun p hp => by
 rcases jKl hp with hp | hp
 ·exact h.ok p hp
 ·unfold Cg.put at hp; split at hp
  ·cases hp
  ·rw [List.mem_singleton] at hp; subst hp; exact ⟨⟨hc.ne, hc.key⟩, hc.value⟩⟩
theorem qJg {h : Nat} : ∀ {l : List (TE (Tr h))}, Ok l -> Asc (qAg l) -> l.Pairwise (fun a b => kl a.key b.key = true)
 | [], _, _ => List.Pairwise.nil
 | e :: r, k, ha => by
  have ha' : Asc (qAg ([e] ++ r)) := ha; rw [qAi] at ha'; obtain ⟨_, h2, h3⟩ := qCa.1 ha'; have hr : Ok r := fun x hx => k x (List.mem_cons_of_mem _ hx)
  refine List.pairwise_cons.2 ⟨fun b hb => ?_, qJg hr h2⟩
  obtain ⟨v, q, hf⟩ := qGs k (e := e) List.mem_cons_self; obtain ⟨v', q', hf'⟩ := qGs hr hb; refine h3 (e.key, v) ?_ (b.key, v') ?_
  ·have : qAg [e] = flat h e.sub := by simp [qAg]
   rw [this, hf]; exact List.mem_cons_self
  ·unfold qAg; exact List.mem_flatMap.2 ⟨b, hb, by rw [hf']; exact List.mem_cons_self⟩
theorem qLl {look : Int -> Option NP} {m h : Nat} {l : List (TE (Tr h))} (k : Lowr look m (h + 1) l) : Ok l := fun e he => ⟨qOu (k e he).1, (k e he).2.1⟩
theorem jIt {look : Int -> Option NP} {m : Nat} : ∀ {h : Nat} {t : Tr h}, qDb (flat h t) -> Lowr look m h t -> (∀ x ∈ qDv h t, 1 <= x /\ x <= 1152921504606846976) -> wt (lf h) (eOf h t) <= 1380 -> qQo (lf h) (eOf h t)
 | 0, l, hf, _, _, hw => by
  have hk : (eOf 0 l).map (·.key) = List.map (·.1) (l : List KV) := by
   exact List.map_map
  refine ⟨?_, fun x hx => ?_, fun x hx => ?_, fun h => (by cases h), hw⟩
  ·rw [hk]; refine qCp.2 ⟨List.Pairwise.map _ (fun _ _ h => h) hf.asc, fun k hk => ?_⟩
   obtain ⟨p, hp, rfl⟩ := List.mem_map.1 hk; exact (hf.ok p hp).1
  ·obtain ⟨p, hp, rfl⟩ := List.mem_map.1 hx; exact ⟨fun _ => rfl, fun h => by cases h⟩
  ·obtain ⟨p, hp, rfl⟩ := List.mem_map.1 hx; exact (hf.ok p hp).2
 | h + 1, l, hf, hB, hs, hw => by
  have hok : Ok (h := h) l := qLl hB; have hk : (eOf (h + 1) l).map (·.key) = List.map (·.key) (l : List (TE (Tr h))) := by
   exact List.map_map
  refine ⟨?_, fun x hx => ?_, fun x hx => ?_, fun _ x hx => ?_, hw⟩
  ·rw [hk]; refine qCp.2 ⟨List.Pairwise.map _ (fun _ _ h => h) (qJg hok hf.asc), fun k hk => ?_⟩
   obtain ⟨e, he, rfl⟩ := List.mem_map.1 hk; obtain ⟨v, r, hfl⟩ := qGs hok he; exact (hf.ok (e.key, v) (by
    show _ ∈ qAg l; unfold qAg; exact List.mem_flatMap.2 ⟨e, he, by rw [hfl]; exact List.mem_cons_self⟩)).1
  ·obtain ⟨p, hp, rfl⟩ := List.mem_map.1 hx; exact ⟨fun h => (by cases h), fun _ => rfl⟩
  ·obtain ⟨p, hp, rfl⟩ := List.mem_map.1 hx; exact Nat.zero_le _
  ·obtain ⟨e, he, rfl⟩ := List.mem_map.1 hx; exact hs e.spot (List.mem_flatMap.2 ⟨e, he, by rw [qDl]; exact List.mem_cons_self⟩)
def pt {h : Nat} (e : TE (Tr h)) : ByteArray × Int := (e.key, e.spot)
def qAl {h : Nat} (ps : List (TE (Tr h))) : List Int := ps.flatMap fun e => secs h e.spot e.sub
def Fo (look : Int -> Option NP) (m h : Nat) (ps : List (TE (Tr h))) : Prop := ∀ e ∈ ps, Sd look m h e.spot e.sub /\ fkey h e.sub = some e.key
theorem qQd : ∀ {h : Nat} {t : Tr h}, eOf h t ≠ [] -> fkey h t = some (fk (eOf h t))
 | 0, [], h => absurd rfl h
 | 0, _ :: _, _ => rfl
 | _ + 1, [], h => absurd rfl h
 | _ + 1, _ :: _, _ => rfl
theorem qYm : ∀ {h : Nat} {t : Tr h}, eOf h t = [] -> flat h t = [] /\ qDv h t = []
 | 0, [], _ => ⟨rfl, rfl⟩
 | 0, _ :: _, h => by cases h
 | _ + 1, [], _ => ⟨rfl, rfl⟩
 | _ + 1, _ :: _, h => by cases h
theorem jBz {T : TM} {W : WM} {L : Int} {m h : Nat} {t : Tr h} {R ss F : List Int} (hA : Acc T W ss (qDv h t ++ R) F) (hB : Lowr (W.look T) m h t) (hf : qDb (flat h t)) (hw : wt (lf h) (eOf h t) <= 1380) (hn : W.next + 2 <= 1152921504606846976) :
  ∃ (W' : WM) (ps : List (TE (Tr h))) (F' : List Int), qCb T L W (lf h) (eOf h t) ss = some (W', ps.map pt) /\ Fo (W'.look T) m h ps /\ qAg ps = flat h t /\ ps.length <= 2 /\ (∀ e, ps = [e] -> e.sub = t) /\ (ps.length = 2 -> ∀ e ∈ ps, 250 <= wtN h e.sub) ∧
   ((qAo (lf h) (eOf h t)).length <= 1024 -> ps.length <= 1) ∧
   Acc T W' (qAl ps) R F' /\ Kept T W W' L R (ps.length - ss.length) ((qAl ps).length + R.length) (ss ++ (ps.map (·.spot)).drop ss.length) /\ W'.count = W.count /\ (∀ e ∈ ps, e.spot ∈ ss ++ (ps.map (·.spot)).drop ss.length) /\ (qAl ps).length = (qDv h t).length + ps.length := by
 have hspot : ∀ x ∈ qDv h t, 1 <= x /\ x <= 1152921504606846976 := fun x hx => by
  have := hA.spot (x := x) (.inr (.inr (List.mem_append_left _ hx))); omega
 have hS := jIt hf hB hspot hw; have hat : ∀ (ats : List Int), ats.take ss.length = ss.take ats.length -> ∀ x ∈ ats, x ∈ ss ++ ats.drop ss.length := fun ats hq x hx => by
  rw [<- List.take_append_drop ss.length ats] at hx; rcases List.mem_append.1 hx with hx | hx
  ·rw [hq] at hx; exact List.mem_append_left _ (List.mem_of_mem_take hx)
  ·exact List.mem_append_right _ hx
 have hkeep : ∀ {W' : WM} {k n : Nat} {ats : List Int}, ats.take ss.length = ss.take ats.length -> Kept T W W' L (qDv h t ++ R) k n (ss ++ ats) -> Kept T W W' L R k n (ss ++ ats.drop ss.length) := fun {W' k n ats} hq hk => by
  refine ⟨fun x hx => hk.other x (List.mem_append_right _ hx), hk.root, hk.lo, hk.hi, hk.mono, hk.full, hk.top, hk.room, fun x hx => ?_⟩
  rcases hk.touch x hx with h1 | h1
  ·rcases List.mem_append.1 h1 with h1 | h1
   ·exact .inl (List.mem_append_left _ h1)
   ·exact .inl (hat ats hq x h1)
  ·exact .inr h1
 by_cases hne : eOf h t = []
 ·obtain ⟨W', ats, F', h1, h2, h3, h4, _, h6, h7⟩ := qFt (T := T) (L := L) (leaf := lf h) [] ss W (qDv h t ++ R) F hA (fun x hx => by cases hx) (by show W.next + 0 <= _; omega)
  have h0 : ats = [] := List.eq_nil_of_length_eq_zero h2; subst h0; obtain ⟨e1, e2⟩ := qYm hne; rw [e2] at h4; refine ⟨W', [], F', ?_, fun e he => (by cases he), by rw [e1]; rfl, by simp, fun e he => (by cases he), fun h => by simp at h, fun _ => by simp, h4, ?_, h7, fun e he => (by cases he), by rw [e2]; rfl⟩
  ·unfold qCb; rw [if_pos hne, h1]; rfl
  ·have := hkeep h3 h6; rw [e2, List.nil_append] at this; show Kept T W W' L R _ (0 + R.length) _; rw [Nat.zero_add]; exact this
 ·rcases jAg hS hne with ⟨h1, hg⟩ | ⟨i, h1, hlo, hhi, hg1, hg2, hb1, hb2⟩
  ·obtain ⟨W', ats, F', k1, k2, k3, k4, k5, k6, k7⟩ := qFt (T := T) (L := L) (leaf := lf h) [eOf h t] ss W (qDv h t ++ R) F hA (fun x hx => by rw [List.mem_singleton] at hx; subst hx; exact hg) (by simp only [List.length_cons, List.length_nil]; omega)
   match ats, k2 with
   | [a], _ =>
    have hlk := k5 (eOf h t, a) List.mem_cons_self; have hB' : Lowr (W'.look T) m h t := qMv hB (fun x hx => k6.other x (List.mem_append_left _ hx))
    have hp : qAl [(⟨fk (eOf h t), a, t⟩ : TE (Tr h))] = a :: qDv h t := by unfold qAl; simp [qDl]
    refine ⟨W', [⟨fk (eOf h t), a, t⟩], F', ?_, ?_, by simp [qAg], by simp, fun e he => by cases he; rfl, fun h => by simp at h, fun _ => by simp, ?_, ?_, k7, fun e he => ?_, by rw [hp]; simp⟩
    ·unfold qCb; rw [if_neg hne, h1, k1]; rfl
    ·intro e he; rw [List.mem_singleton] at he; subst he; exact ⟨qHv.2 ⟨⟨hlk, hg⟩, hB'⟩, qQd hne⟩
    ·rw [hp]; exact k4.move (fun x => by simp only [List.count_cons, List.count_append, List.count_nil]; omega)
    ·have := hkeep k3 k6; rw [hp]; refine ⟨this.other, this.root, this.lo, this.hi, this.mono, fun hx => (this.full hx).imp id (fun h => ?_), this.top.imp id (fun h => ?_), this.room, this.touch⟩ <;>
     (simp only [List.length_append, List.length_cons, List.length_nil] at h ⊢; omega)
    ·rw [List.mem_singleton] at he; subst he; exact hat [a] k3 a List.mem_cons_self
  ·obtain ⟨W', ats, F', k1, k2, k3, k4, k5, k6, k7⟩ := qFt (T := T) (L := L) (leaf := lf h) [(eOf h t).take i, (eOf h t).drop i] ss W (qDv h t ++ R) F hA (fun x hx => by
    rcases List.mem_cons.1 hx with rfl | hx
    ·exact hg1
    ·rw [List.mem_singleton] at hx; subst hx; exact hg2) (by simp only [List.length_cons, List.length_nil]; omega)
   match ats, k2 with
   | [a, b], _ =>
    have hl1 := k5 ((eOf h t).take i, a) List.mem_cons_self; have hl2 := k5 ((eOf h t).drop i, b) (List.mem_cons_of_mem _ List.mem_cons_self); have hB' : Lowr (W'.look T) m h t := qMv hB (fun x hx => k6.other x (List.mem_append_left _ hx))
    have hp : qAl [(⟨fk ((eOf h t).take i), a, qNf i h t⟩ : TE (Tr h)), ⟨fk ((eOf h t).drop i), b, qNh i h t⟩] = (a :: qDv h (qNf i h t)) ++ (b :: qDv h (qNh i h t)) := by unfold qAl; simp [qDl]
    have hcut := jBu i h t; have hlen : (qDv h (qNf i h t)).length + (qDv h (qNh i h t)).length = (qDv h t).length := by rw [<- hcut, List.length_append]
    have h2 : 1024 < (qAo (lf h) (eOf h t)).length \/ True := .inr trivial; have hpl : (qAl [(⟨fk ((eOf h t).take i), a, qNf i h t⟩ : TE (Tr h)), ⟨fk ((eOf h t).drop i), b, qNh i h t⟩]).length = (qDv h t).length + 2 := by
     rw [hp, List.length_append, List.length_cons, List.length_cons]; omega
    refine ⟨W', [⟨fk ((eOf h t).take i), a, qNf i h t⟩, ⟨fk ((eOf h t).drop i), b, qNh i h t⟩], F', ?_, ?_, ?_, by simp, fun e he => (by cases he), fun _ e he => ?_, fun hle => ?_, ?_, ?_, k7, fun e he => ?_, by rw [hpl]; rfl⟩
    ·unfold qCb; rw [if_neg hne, h1, k1]; rfl
    ·intro e he; rcases List.mem_cons.1 he with rfl | he
     ·exact ⟨qHv.2 ⟨⟨by rw [qGx]; exact hl1, by rw [qGx]; exact hg1⟩, qYx i hB'⟩, by rw [qQd (by rw [qGx]; exact hg1.ne), qGx]⟩
     ·rw [List.mem_singleton] at he; subst he; exact ⟨qHv.2 ⟨⟨by rw [qGy]; exact hl2, by rw [qGy]; exact hg2⟩, qYy i hB'⟩, by rw [qQd (by rw [qGy]; exact hg2.ne), qGy]⟩
    ·have := jHh i h t
     simpa [qAg] using this
    ·rcases List.mem_cons.1 he with rfl | he
     ·show 250 <= (qAo (lf h) (eOf h (qNf i h t))).length; rw [qGx]; exact hb1
     ·rw [List.mem_singleton] at he; subst he; show 250 <= (qAo (lf h) (eOf h (qNh i h t))).length; rw [qGy]; exact hb2
    ·exfalso
     have : qEj (lf h) (eOf h t) = [eOf h t] := by unfold qEj; rw [if_pos (.inr hle)]
     rw [this] at h1; have := congrArg List.length h1; simp at this
    ·rw [hp]; exact k4.move (fun x => by
      rw [<- hcut]; simp only [List.count_cons, List.count_append, List.count_nil]; omega)
    ·have := hkeep k3 k6; rw [hpl]; refine ⟨this.other, this.root, this.lo, this.hi, this.mono, fun hx => (this.full hx).imp id (fun h => ?_), this.top.imp id (fun h => ?_), this.room, this.touch⟩ <;>
     (simp only [List.length_append, List.length_cons, List.length_nil] at h ⊢; omega)
    ·rcases List.mem_cons.1 he with rfl | he
     ·exact hat [a, b] k3 a List.mem_cons_self
     ·rw [List.mem_singleton] at he; subst he; exact hat [a, b] k3 b (List.mem_cons_of_mem _ List.mem_cons_self)
end
end Go.Proofs.YtkinkgbmlhiakaaGreatDoor
