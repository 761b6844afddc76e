/- merged: TrD TrE -/
import Derived.Test.YtkinkgbmlhiakaaGreatDoorNd11
namespace Go.Proofs.YtkinkgbmlhiakaaGreatDoor
section
open Go Go.RowKit
def hasK (c : Cg) (l : List KV) : Bool := l.any (fun p => decide (p.1 = c.key))
theorem qPz (c : Cg) (l : List KV) : hasE c (eOf 0 l) = hasK c l := by
 show List.any (List.map _ l) _ = _; rw [List.any_map]; rfl
theorem qSg (c : Cg) (l : List KV) : chgE c (eOf 0 l) = eOf 0 (chg c l) := by
 show chgE c (List.map _ l) = List.map _ (chg c l); unfold chgE chg; rw [List.filter_map, List.filter_map, List.map_append, List.map_append]; congr 1
 congr 1
 unfold Cg.putE Cg.put; cases c.gone <;> rfl
theorem jLs {c : Cg} {p : KV} {r : List KV} (h : Asc (p :: r)) : (kl p.1 c.key = true /\ kl c.key p.1 = false /\ p.1 ≠ c.key) ∨
  (kl p.1 c.key = false /\ (kl c.key p.1 = true \/ p.1 = c.key) /\ ∀ q ∈ r, kl q.1 c.key = false /\ kl c.key q.1 = true /\ q.1 ≠ c.key) := by
 obtain ⟨hp, _⟩ := List.pairwise_cons.1 h; cases hk : kl p.1 c.key with
 | true => exact .inl ⟨rfl, qDw hk, qPr hk⟩
 | false =>
  have h2 : kl c.key p.1 = true \/ p.1 = c.key := by
   cases hh : kl c.key p.1 with
   | true => exact .inl rfl
   | false => exact .inr (qHl hk hh)
  refine .inr ⟨rfl, h2, fun q hq => ?_⟩
  have h3 := hp q hq; have h4 : kl c.key q.1 = true := by
   rcases h2 with h2 | h2
   ·exact qCz h2 h3
   ·rw [<- h2]; exact h3
  exact ⟨qDw h4, h4, fun e => qPr h4 e.symm⟩
theorem qRs {c : Cg} : ∀ {l : List KV}, Asc l -> (l.filter (fun p => kl p.1 c.key)).length + (l.filter (fun p => kl c.key p.1)).length + (if hasK c l then 1 else 0) = l.length
 | [], _ => rfl
 | p :: r, h => by
  rcases jLs (c := c) h with ⟨h1, h2, h3⟩ | ⟨h1, h2, h3⟩
  ·have ih := qRs (c := c) (List.pairwise_cons.1 h).2; have e : hasK c (p :: r) = hasK c r := by unfold hasK; rw [List.any_cons, decide_eq_false h3, Bool.false_or]
   rw [e, List.filter_cons, List.filter_cons, h1, h2]; simp only [if_true, Bool.false_eq_true, if_false, List.length_cons]; omega
  ·have e1 : r.filter (fun p => kl p.1 c.key) = [] := qBb (fun q hq => (h3 q hq).1)
   have e2 : r.filter (fun p => kl c.key p.1) = r := qDq (fun q hq => (h3 q hq).2.1)
   have e3 : r.any (fun p => decide (p.1 = c.key)) = false := List.any_eq_false.2 (fun q hq => by simp [(h3 q hq).2.2])
   unfold hasK; rw [List.any_cons, e3, List.filter_cons, List.filter_cons, e1, e2, h1, Bool.or_false]; rcases h2 with h2 | h2
   ·have : p.1 ≠ c.key := fun e => qPr h2 e.symm
    simp [h2, this]
   ·rw [h2]; simp [qBz]
theorem jBt {c : Cg} {l : List KV} (h : Asc l) (hk : ¬ (c.gone && !hasE c (eOf 0 l)) = true) : ((chg c l).length : Int) = l.length + chgN c (eOf 0 l) := by
 have h1 := qRs (c := c) h; have h2 : c.put.length = if c.gone then 0 else 1 := by unfold Cg.put; cases c.gone <;> rfl
 unfold chg chgN; rw [qPz, List.length_append, List.length_append, h2]; rw [qPz] at hk; cases hh : hasK c l <;> cases hg : c.gone <;> simp only [hh, hg, if_true, Bool.false_eq_true, if_false, Bool.not_false, Bool.not_true, Bool.and_true, Bool.and_false, not_true] at h1 hk ⊢ <;> omega
theorem jIf {c : Cg} (hg : c.gone = true) : ∀ {l : List KV}, Asc l -> hasK c l = false -> chg c l = l
 | [], _, _ => by unfold chg Cg.put; rw [hg]; rfl
 | p :: r, h, hk => by
  have hk' : p.1 ≠ c.key /\ hasK c r = false := by
   unfold hasK at hk ⊢; rw [List.any_cons, Bool.or_eq_false_iff] at hk; exact ⟨fun e => by simp [e] at hk, hk.2⟩
  rcases jLs (c := c) h with ⟨h1, h2, h3⟩ | ⟨h1, h2, h3⟩
  ·have ih := jIf hg (List.pairwise_cons.1 h).2 hk'.2; unfold chg at ih ⊢; rw [List.filter_cons, List.filter_cons, h1, h2]; simp only [if_true, Bool.false_eq_true, if_false, List.cons_append]; rw [ih]
  ·have e1 : r.filter (fun p => kl p.1 c.key) = [] := qBb (fun q hq => (h3 q hq).1)
   have e2 : r.filter (fun p => kl c.key p.1) = r := qDq (fun q hq => (h3 q hq).2.1)
   have h4 : kl c.key p.1 = true := h2.resolve_right hk'.1; unfold chg Cg.put; rw [List.filter_cons, List.filter_cons, e1, e2, h1, h4, hg]; rfl
theorem qQr (leaf : Bool) {p q : Ent -> Bool} (hpq : ∀ x, p x = true -> q x = false) : ∀ es : List Ent, wt leaf (es.filter p) + wt leaf (es.filter q) <= wt leaf es
 | [] => by simp [wt]
 | x :: r => by
  have ih := qQr leaf hpq r; rw [List.filter_cons, List.filter_cons, qFk]; cases hp : p x with
  | true =>
   rw [hpq x hp]; simp only [if_true, Bool.false_eq_true, if_false]; rw [qFk]; omega
  | false =>
   cases hq : q x with
   | true =>
    simp only [if_true, Bool.false_eq_true, if_false]; rw [qFk]; omega
   | false =>
    simp only [Bool.false_eq_true, if_false]; omega
theorem jLb {c : Cg} (hc : CgOk c) (es : List Ent) : wt true (chgE c es) <= wt true es + 251 := by
 have h1 := qQr true (p := fun x => kl x.key c.key) (q := fun x => kl c.key x.key) (fun x h => qDw h) es
 have h2 : wt true c.putE <= 251 := by
  unfold Cg.putE; split
  ·exact Nat.zero_le _
  ·rw [qHt]; exact qKr (leaf := true) hc.key hc.value (fun h => by cases h)
 unfold chgE; rw [qBu, qBu]; omega
theorem qKj {T : TM} {W W1 W2 : WM} {L : Int} {R R1 R2 : List Int} {k1 k2 k n1 n2 n : Nat} {X1 X2 X : List Int} (a : Kept T W W1 L R1 k1 n1 X1) (b : Kept T W1 W2 L R2 k2 n2 X2)
  (h1 : ∀ x ∈ R, x ∈ R1) (h2 : ∀ x ∈ R, x ∈ R2) (hk : k1 + k2 <= k) (hn1 : n1 <= n) (hn2 : n2 <= n) (hX1 : ∀ x ∈ X1, x ∈ X) (hX2 : ∀ x ∈ X2, x ∈ X) : Kept T W W2 L R k n X := by
 have a1 := a.lo; have a2 := a.hi; have b1 := b.lo; have b2 := b.hi; refine ⟨fun x hx => (b.other x (h2 x hx)).trans (a.other x (h1 x hx)), b.root.trans a.root, by omega, by omega, fun h => b.mono (a.mono h), fun h => ?_, ?_, fun h => ?_, fun x hx => ?_⟩
 ·rcases b.full h with h3 | h3
  ·rcases a.full h3 with h4 | h4
   ·exact .inl h4
   ·exact .inr (by omega)
  ·exact .inr (by omega)
 ·rcases b.top with h3 | h3
  ·rcases a.top with h4 | h4
   ·exact .inl (by omega)
   ·exact .inr (by omega)
  ·exact .inr (by omega)
 ·have h1f : W1.full = false := by
   cases hh : W1.full with
   | false => rfl
   | true => have := b.mono hh; rw [h] at this; cases this
  rcases b.room h with h3 | h3
  ·rcases a.room h1f with h4 | h4
   ·exact .inl (by omega)
   ·exact .inr (by omega)
  ·exact .inr h3
 ·rcases b.touch x hx with h3 | h3
  ·exact .inl (hX2 x h3)
  ·rcases a.touch x h3 with h4 | h4
   ·exact .inl (hX1 x h4)
   ·exact .inr h4
structure Chd (T : TM) (L : Int) (m h : Nat) (W : WM) (R : List Int) (old new : List KV) (n : Nat) (W' : WM) (ps : List (TE (Tr h))) (F' X : List Int) : Prop where
 fo : Fo (W'.look T) m h ps
 fl : qAg ps = new
 two : ps.length <= 2
 big : ps.length = 2 -> ∀ e ∈ ps, 250 <= wtN h e.sub
 acc : Acc T W' (qAl ps) R F'
 kept : Kept T W W' L R (h + 1) n X
 use : (qAl ps).length + R.length <= n
 cnt : W'.count = W.count + ((new.length : Int) - old.length)
 x : X.length <= 3 * h + 2
 xs : ∀ e ∈ ps, e.spot ∈ X
theorem qBh {h : Nat} (a b : List (TE (Tr h))) : qAl (a ++ b) = qAl a ++ qAl b := by unfold qAl; rw [List.flatMap_append]
theorem qBn {h : Nat} (e : TE (Tr h)) (b : List (TE (Tr h))) : qAl (e :: b) = secs h e.spot e.sub ++ qAl b := by unfold qAl; rw [List.flatMap_cons]
theorem qCh {h : Nat} : qAl ([] : List (TE (Tr h))) = [] := rfl
theorem qKi {h : Nat} (l : List (TE (Tr h))) : qDv (h + 1) l = qAl l := rfl
theorem jCv {T : TM} {L : Int} {m h : Nat} {W W2 : WM} {s : Int} {l2 : List (TE (Tr h))} {R F2 X2 : List Int} {old : List KV} {n2 n : Nat} (hA : Acc T W2 [s] (qAl l2 ++ R) F2) (hB : Lowr (W2.look T) m (h + 1) l2) (hf : qDb (qAg l2))
  (hw : wt false (eOf (h + 1) l2) <= 1380) (hn : W2.next + 2 <= 1152921504606846976) (hk : Kept T W W2 L R (h + 1) n2 X2) (hc : W2.count = W.count + (((qAg l2).length : Int) - old.length)) (hx : X2.length <= 3 * h + 3) (hn2 : n2 <= n)
  (hu : (qAl l2).length + R.length + 2 <= n) :
  ∃ W' ps F' X, qCb T L W2 false (eOf (h + 1) l2) [s] = some (W', ps.map pt) /\ Chd T L m (h + 1) W R old (qAg l2) n W' ps F' X := by
 obtain ⟨W', ps, F', k1, k2, k3, k4, _, k6, _, k7, k8, k9, k10, k11⟩ := jBz (L := L) (h := h + 1) (t := l2) hA hB hf hw hn; rw [qKi] at k11; refine ⟨W', ps, F', X2 ++ ([s] ++ (ps.map (·.spot)).drop [s].length), k1, k2, k3, k4, k6, k7, qKj hk k8 (fun x h => h) (fun x h => h) (by simp only [List.length_cons, List.length_nil]; omega) hn2 (by omega) (fun x h => List.mem_append_left _ h) (fun x h => List.mem_append_right _ h), by omega, by rw [k9, hc], ?_, fun e he => List.mem_append_right _ (k10 e he)⟩
 rw [List.length_append, List.length_append, List.length_drop, List.length_map]; simp only [List.length_cons, List.length_nil]; omega
theorem qEw {α : Type} (g : α -> ByteArray) (key : ByteArray) : ∀ (l : List α), l ≠ [] -> l.Pairwise (fun a b => kl (g a) (g b) = true) →
  ∃ a e b, l = a ++ e :: b /\ (l.filter (fun x => !kl key (g x))).length - 1 = a.length /\ (a = [] \/ g e = key \/ kl (g e) key = true) /\ ∀ x ∈ b, kl key (g x) = true
 | [], h, _ => absurd rfl h
 | [e], _, _ => ⟨[], e, [], rfl, by
   have := List.length_filter_le (fun x => !kl key (g x)) [e]
   simp only [List.length_cons, List.length_nil] at this ⊢; omega, .inl rfl, fun x hx => by cases hx⟩
 | e1 :: e2 :: r, _, hp => by
  obtain ⟨h1, h2⟩ := List.pairwise_cons.1 hp; have h12 := h1 e2 List.mem_cons_self; cases hk : kl key (g e2) with
  | true =>
   have hall : ∀ x ∈ e2 :: r, kl key (g x) = true := fun x hx => by
    rcases List.mem_cons.1 hx with rfl | hx
    ·exact hk
    ·exact qCz hk ((List.pairwise_cons.1 h2).1 x hx)
   refine ⟨[], e1, e2 :: r, rfl, ?_, .inl rfl, hall⟩; rw [List.filter_cons, qBb (l := e2 :: r) (fun x hx => by rw [hall x hx]; rfl)]
   split <;> rfl
  | false =>
   have hk1 : kl key (g e1) = false := by
    cases hh : kl key (g e1) with
    | false => rfl
    | true => have := qCz hh h12; rw [hk] at this; cases this
   obtain ⟨a, e, b, he, hlen, hle, hb⟩ := qEw g key (e2 :: r) (by simp) h2
   refine ⟨e1 :: a, e, b, by rw [he]; rfl, ?_, .inr ?_, hb⟩
   ·have hpos : 1 <= ((e2 :: r).filter (fun x => !kl key (g x))).length := by
     rw [List.filter_cons, hk]; simp
    rw [List.filter_cons, hk1]; simp only [Bool.not_false, if_true, List.length_cons]; omega
   ·rcases hle with h | h
    ·subst h; cases he
     cases hh : kl (g e2) key with
     | true => exact .inr rfl
     | false => exact .inl (qHl hh hk)
    ·exact h
theorem qKe {h : Nat} (key : ByteArray) (l : List (TE (Tr h))) : qBv key (eOf (h + 1) l) = (l.filter (fun e => !kl key e.key)).length - 1 := by
 unfold qBv; show (List.filter _ (List.map _ l)).length - 1 = _; rw [List.filter_map, List.length_map]; rfl
def eE {h : Nat} (e : TE (Tr h)) : Ent := ⟨e.key, emp, e.spot⟩
theorem qBi {h : Nat} (l : List (TE (Tr h))) : eOf (h + 1) l = l.map eE := rfl
theorem qOf {h : Nat} (a z b ps : List (TE (Tr h))) : qAy (eOf (h + 1) (a ++ (z ++ b))) a.length (a.length + z.length) (ps.map pt) = eOf (h + 1) (a ++ (ps ++ b)) := by
 unfold qAy; rw [qBi, qBi, List.map_append, List.map_append, List.map_append, List.map_append, List.map_map]; have e1 : (a.map eE ++ (z.map eE ++ b.map eE)).take a.length = a.map eE := by
  rw [List.take_append_of_le_length (by simp), List.take_of_length_le (by simp)]
 have e2 : (a.map eE ++ (z.map eE ++ b.map eE)).drop (a.length + z.length) = b.map eE := by
  rw [<- List.append_assoc, List.drop_append_of_le_length (by simp), List.drop_of_length_le (by simp), List.nil_append]
 rw [e1, e2]; rfl
theorem qOo {leaf : Bool} {a es : List Ent} (h1 : a.length <= es.length) (h2 : es.length < 16384) (h3 : wt leaf a <= wt leaf es) : (qAo leaf a).length <= (qAo leaf es).length := by
 rw [qEh (by omega), qEh h2]
 split <;> split <;> omega
theorem qLf {T : TM} {L : Int} {c : Cg} {f : Nat} {W : WM} {s : Int} {es : List Ent} (h : W.look T s = some (true, es)) :
  qBr T L c (f + 1) W s = if c.gone && !hasE c es then some (W, [(fk es, s)]) else qCb T L (W.add (chgN c es)) true (chgE c es) [s] := by
 simp only [qBr, h]
theorem qLe {T : TM} {L : Int} {c : Cg} {f : Nat} {W : WM} {s : Int} {es : List Ent} {x : Ent} (h : W.look T s = some (false, es)) (hx : es[qBv c.key es]? = some x) :
  qBr T L c (f + 1) W s = (qBr T L c f W x.kid).bind fun r => ifP (∀ p ∈ r.2, 1 <= p.2 /\ p.2 <= 1152921504606846976) (qKw T L r.1 s es (qBv c.key es) r.2) none := by
 simp only [qBr, h, hx]
def tlen (h : Nat) (t : Tr h) : Nat := (eOf h t).length
end
section
open Go Go.RowKit
theorem qMe {look : Int -> Option NP} {m h : Nat} {s : Int} {t : Tr h} (k : Sd look m h s t) : look s = some (lf h, eOf h t) /\ qBg (lf h) (eOf h t) := (qHv.1 k).1
theorem jBn {look : Int -> Option NP} {m h : Nat} {s : Int} {t : Tr (h + 1)} (k : Sd look m (h + 1) s t) (hw : 250 <= wtN (h + 1) t) : 2 <= tlen (h + 1) t := by
 have := qBg.many (qMe k).2 hw; unfold tlen; omega
theorem qUy {α : Type} (a : List α) (x y : α) (b : List α) : (a ++ x :: y :: b)[a.length]? = some x /\ (a ++ x :: y :: b)[a.length + 1]? = some y := by
 constructor
 ·simp
 ·rw [List.getElem?_append_right (by omega), Nat.add_sub_cancel_left]
  rfl
theorem jGg {T : TM} {L : Int} {c : Cg} {m : Nat} (hc : CgOk c) {f : Nat} {W : WM} {s : Int} {l : List KV} {R F : List Int} (hA : Acc T W (secs 0 s l) R F) (hS : Sd (W.look T) m 0 s l) (hf : qDb l) (hn : W.next + 2 <= 1152921504606846976) :
  ∃ W' ps F' X, qBr T L c (f + 1) W s = some (W', ps.map pt) /\ Chd T L m 0 W R l (chg c l) ((secs 0 s l).length + R.length + 1) W' ps F' X := by
 obtain ⟨hl, hg⟩ := hS; rw [qLf hl]; have hsec : secs 0 s l = [s] := rfl; by_cases hk : (c.gone && !hasE c (eOf 0 l)) = true
 ·rw [if_pos hk]; rw [Bool.and_eq_true, Bool.not_eq_true', qPz] at hk; have hid := jIf hk.1 hf.asc hk.2; have hp : qAl [(⟨fk (eOf 0 l), s, l⟩ : TE (Tr 0))] = [s] := rfl; refine ⟨W, [⟨fk (eOf 0 l), s, l⟩], F, [s], rfl, ⟨fun e he => ?_, ?_, by simp, fun h => by simp at h, ?_, ⟨fun _ _ => rfl, rfl, Int.le_refl _, by omega, fun h => h, fun h => .inl h, .inl (Int.le_refl _), fun _ => .inl (Int.le_refl _), fun _ h => .inr h⟩, ?_, by rw [hid]; omega, by simp, fun e he => ?_⟩⟩
  ·rw [List.mem_singleton] at he; subst he; exact ⟨⟨hl, hg⟩, qQd hg.ne⟩
  ·rw [hid]; exact List.append_nil (α := KV) l
  ·rw [hp]; exact hA
  ·rw [hp, hsec]; omega
  ·rw [List.mem_singleton] at he; subst he; exact List.mem_cons_self
 ·rw [if_neg hk, qSg]; have hA2 : Acc T (W.add (chgN c (eOf 0 l))) [s] (qDv 0 (chg c l : Tr 0) ++ R) F := ⟨hA.chain, hA.cnt, hA.used, hA.free, hA.out, hA.pos⟩; have hw : wt (lf 0) (eOf 0 (chg c l)) <= 1380 := by
   have h1 := jLb hc (eOf 0 l); have h2 := hg.wt; rw [qSg] at h1; show wt true _ <= _; omega
  obtain ⟨W', ps, F', k1, k2, k3, k4, _, k6, _, k7, k8, k9, k10, k11⟩ := jBz (L := L) (h := 0) (m := m) (t := (chg c l : List KV)) hA2 trivial (hf.chg hc) hw hn; have k11' : (qAl ps).length = ps.length := by rw [k11]; exact Nat.zero_add _
  refine ⟨W', ps, F', _, k1, ⟨k2, k3, k4, k6, k7, ⟨k8.other, k8.root, k8.lo, ?_, k8.mono, fun h => (k8.full h).imp id (fun h => ?_), k8.top.imp id (fun h => ?_), k8.room, k8.touch⟩, by rw [hsec]; simp only [List.length_cons, List.length_nil]; omega, ?_, ?_, k10⟩⟩
  ·have h1 : W'.next <= W.next + ((ps.length - [s].length : Nat) : Int) := k8.hi; simp only [List.length_cons, List.length_nil] at h1; omega
  ·rw [hsec]; simp only [List.length_cons, List.length_nil]; omega
  ·rw [hsec]; simp only [List.length_cons, List.length_nil]; have h' : W'.next <= _ := h; omega
  ·have h1 : W'.count = W.count + chgN c (eOf 0 l) := k9; have h2 := jBt (c := c) hf.asc hk; omega
  ·rw [List.length_append, List.length_drop, List.length_map]; simp only [List.length_cons, List.length_nil]; omega
theorem qWa {T : TM} {L : Int} {m h : Nat} (hm : m = 0 \/ m = 250) {W W1 : WM} {s : Int} {a b : List (TE (Tr h))} {x y : TE (Tr h)} {R F1 X1 : List Int} {old : List KV} {n1 n : Nat} {i : Nat}
  (hi : i - 1 = a.length) (hA : Acc T W1 (secs h x.spot x.sub ++ secs h y.spot y.sub) (s :: (qAl a ++ (qAl b ++ R))) F1)
  (ha : Lowr (W1.look T) m (h + 1) a) (hb : Lowr (W1.look T) m (h + 1) b) (hx : Sd (W1.look T) m h x.spot x.sub) (hy : Sd (W1.look T) m h y.spot y.sub)
  (hl : wtN h x.sub < 300 /\ m <= wtN h y.sub \/ wtN h y.sub < 300 /\ m <= wtN h x.sub)
  (hf : qDb (qAg (a ++ (x :: y :: b)))) (hw : wt false (eOf (h + 1) (a ++ (x :: y :: b))) <= 1140) (hok : Ok (a ++ (x :: y :: b))) (hn : W1.next + 2 <= 1152921504606846976)
  (hk : Kept T W W1 L (s :: R) (h + 1) n1 X1) (hc : W1.count = W.count + (((qAg (a ++ (x :: y :: b))).length : Int) - old.length)) (hx1 : X1.length <= 3 * h + 2) (hxy : x.spot ∈ X1 \/ y.spot ∈ X1) (hn2 : n1 <= n)
  (hu : (secs h x.spot x.sub).length + (secs h y.spot y.sub).length + (qAl a).length + (qAl b).length + R.length + 2 <= n) :
  ∃ W' ps F' X, qMj T L W1 s (eOf (h + 1) (a ++ (x :: y :: b))) i = some (W', ps.map pt) /\ Chd T L m (h + 1) W R old (qAg (a ++ (x :: y :: b))) n W' ps F' X := by
 obtain ⟨lx, gx⟩ := qMe hx; obtain ⟨ly, gy⟩ := qMe hy; have hsx := qDl h x.spot x.sub; have hsy := qDl h y.spot y.sub; have hA2 : Acc T W1 [x.spot, y.spot] (qDv h (tapp h x.sub y.sub) ++ (s :: (qAl a ++ (qAl b ++ R)))) F1 := hA.move (fun z => by
  rw [qRt, hsx, hsy]; simp only [List.count_cons, List.count_append, List.count_nil]; omega)
 have hB2 : Lowr (W1.look T) m h (tapp h x.sub y.sub) := jDt (qHv.1 hx).2 (qHv.1 hy).2; have hmid : qAg (a ++ (x :: y :: b)) = qAg a ++ (flat h (tapp h x.sub y.sub) ++ qAg b) := by
  rw [qAi, jHi]; have : qAg (x :: y :: b) = flat h x.sub ++ (flat h y.sub ++ qAg b) := by unfold qAg; rw [List.flatMap_cons, List.flatMap_cons]
  rw [this, List.append_assoc]
 have hf2 : qDb (flat h (tapp h x.sub y.sub)) := hf.sub (by
  rw [hmid]; exact (List.sublist_append_left _ _).trans (List.sublist_append_right _ _))
 have hwx : wtN h x.sub = 1 + (if 127 < (eOf h x.sub).length then 2 else 1) + wt (lf h) (eOf h x.sub) := qEh (by have := gx.len; omega)
 have hwy : wtN h y.sub = 1 + (if 127 < (eOf h y.sub).length then 2 else 1) + wt (lf h) (eOf h y.sub) := qEh (by have := gy.len; omega)
 have hw2 : wt (lf h) (eOf h (tapp h x.sub y.sub)) <= 1380 := by
  rw [qLr, qBu]; have h1 := gx.wt; have h2 := gy.wt; rcases hl with ⟨h3, _⟩ | ⟨h3, _⟩
  ·split at hwx <;> omega
  ·split at hwy <;> omega
 obtain ⟨W2, ps2, F2, k1, k2, k3, k4, k5, k6, _, k7, k8, k9, k10, k11⟩ := jBz (L := L) (h := h) (m := m) hA2 hB2 hf2 hw2 hn; rw [qLr] at k1; have hok2 : Ok (a ++ (ps2 ++ b)) := by
  obtain ⟨o1, o2⟩ := qFq.1 hok; refine qFq.2 ⟨o1, qFq.2 ⟨fun e he => ⟨qOu (k2 e he).1, (k2 e he).2⟩, fun e he => o2 e (List.mem_cons_of_mem _ (List.mem_cons_of_mem _ he))⟩⟩
 have hfl : qAg (a ++ (ps2 ++ b)) = qAg (a ++ (x :: y :: b)) := by rw [hmid, qAi, qAi, k3]
 have hps : (qAl ps2).length <= (secs h x.spot x.sub).length + (secs h y.spot y.sub).length := by
  rw [k11, qRt, List.length_append, hsx, hsy, List.length_cons, List.length_cons]; omega
 have hspot : ∀ z, z ∈ qAl ps2 -> 1 <= z /\ z <= 1152921504606846976 := fun z hz => by
  have h1 := k7.spot (x := z) (.inl hz); have h2 := k8.hi; simp only [List.length_cons, List.length_nil] at h2; omega
 have hwps : wt false (eOf (h + 1) ps2) <= 116 := by
  have h1 : ∀ e ∈ ps2, (entL false (eE e)).length <= 58 := fun e he => by
   obtain ⟨v, r, hfe⟩ := qGs (fun e he => ⟨qOu (k2 e he).1, (k2 e he).2⟩ : Ok ps2) he
   have hmem : (e.key, v) ∈ qAg ps2 := by
    unfold qAg; exact List.mem_flatMap.2 ⟨e, he, by rw [hfe]; exact List.mem_cons_self⟩
   rw [k3] at hmem; refine qKr (leaf := false) (hf2.ok _ hmem).1.2 (Nat.zero_le _) (fun _ => (hspot e.spot ?_).2)
   unfold qAl; exact List.mem_flatMap.2 ⟨e, he, by rw [qDl]; exact List.mem_cons_self⟩
  rw [qBi]
  match ps2, k4, h1 with
  | [], _, _ => exact Nat.zero_le _
  | [p], _, h1 =>
   have := h1 p List.mem_cons_self; rw [List.map_cons, List.map_nil, qHt]; omega
  | [p, q], _, h1 =>
   have := h1 p List.mem_cons_self; have := h1 q (List.mem_cons_of_mem _ List.mem_cons_self); rw [List.map_cons, List.map_cons, List.map_nil, qFk, qHt]; omega
 have hw3 : wt false (eOf (h + 1) (a ++ (ps2 ++ b))) <= 1380 := by
  rw [qBi] at hwps; rw [qBi, List.map_append, qBu, List.map_cons, List.map_cons, qFk, qFk] at hw; rw [qBi, List.map_append, List.map_append, qBu, qBu]; omega
 have hR2 : ∀ z ∈ qAl a ++ (qAl b ++ R), z ∈ s :: (qAl a ++ (qAl b ++ R)) := fun z hz => List.mem_cons_of_mem _ hz
 have hB3 : Lowr (W2.look T) m (h + 1) (a ++ (ps2 ++ b)) := fun e he => by
  rcases List.mem_append.1 he with he | he
  ·obtain ⟨q1, q2, q3⟩ := ha e he; exact ⟨qFf q1 (fun z hz => k8.other z (hR2 z (List.mem_append_left _ (List.mem_flatMap.2 ⟨e, he, hz⟩)))), q2, q3⟩
  ·rcases List.mem_append.1 he with he | he
   ·refine ⟨(k2 e he).1, (k2 e he).2, ?_⟩; rcases hm with rfl | rfl
    ·exact Nat.zero_le _
    ·match ps2, k4, k5, k6, he with
     | [p], _, k5, _, he =>
      rw [List.mem_singleton] at he; subst he; rw [k5 e rfl]; have hlx := gx.len; have hly := gy.len; rcases hl with ⟨_, h3⟩ | ⟨_, h3⟩
      ·refine Nat.le_trans h3 (qOo (leaf := lf h) ?_ ?_ ?_) <;> (rw [qLr]; first | rw [qBu] | rw [List.length_append]) <;> omega
      ·refine Nat.le_trans h3 (qOo (leaf := lf h) ?_ ?_ ?_) <;> (rw [qLr]; first | rw [qBu] | rw [List.length_append]) <;> omega
     | [p, q], _, _, k6, he => exact k6 rfl e he
   ·obtain ⟨q1, q2, q3⟩ := hb e he; exact ⟨qFf q1 (fun z hz => k8.other z (hR2 z (List.mem_append_right _ (List.mem_append_left _ (List.mem_flatMap.2 ⟨e, he, hz⟩))))), q2, q3⟩
 have hA3 : Acc T W2 [s] (qAl (a ++ (ps2 ++ b)) ++ R) F2 := k7.move (fun z => by
  rw [qBh, qBh]; simp only [List.count_cons, List.count_append, List.count_nil]; omega)
 have hlen2 : ps2.length - [x.spot, y.spot].length = 0 := by simp only [List.length_cons, List.length_nil]; omega
 have hX2 : X1 ++ [x.spot, y.spot] ≠ [] := by simp
 obtain ⟨X, hXl, hX1, hXx, hXy⟩ : ∃ X : List Int, X.length <= 3 * h + 3 /\ (∀ z ∈ X1, z ∈ X) /\ x.spot ∈ X /\ y.spot ∈ X := by
  rcases hxy with h1 | h1
  ·exact ⟨y.spot :: X1, by rw [List.length_cons]; omega, fun z hz => List.mem_cons_of_mem _ hz, List.mem_cons_of_mem _ h1, List.mem_cons_self⟩
  ·exact ⟨x.spot :: X1, by rw [List.length_cons]; omega, fun z hz => List.mem_cons_of_mem _ hz, List.mem_cons_self, List.mem_cons_of_mem _ h1⟩
 have hpl : (qAl (a ++ (ps2 ++ b))).length = (qAl a).length + (qAl ps2).length + (qAl b).length := by rw [qBh, qBh, List.length_append, List.length_append]; omega
 have hkk : Kept T W W2 L R (h + 1) n X := qKj hk k8 (fun z hz => List.mem_cons_of_mem _ hz) (fun z hz => hR2 z (List.mem_append_right _ (List.mem_append_right _ hz))) (by omega) hn2
  (by simp only [List.length_cons, List.length_append]; omega) hX1 (fun z hz => by
   rcases List.mem_append.1 hz with hz | hz
   ·rcases List.mem_cons.1 hz with rfl | hz
    ·exact hXx
    ·rw [List.mem_singleton] at hz; subst hz; exact hXy
   ·have : ((ps2.map (·.spot)).drop [x.spot, y.spot].length) = [] := List.drop_of_length_le (by rw [List.length_map]; exact k4)
    rw [this] at hz; cases hz)
 obtain ⟨W', ps, F', X', r1, r2⟩ := jCv (L := L) (old := old) (n := n) hA3 hB3 (by rw [hfl]; exact hf) hw3 (by have := k8.hi; rw [hlen2] at this; omega) hkk (by rw [k9, hc, hfl]) hXl (Nat.le_refl _) (by omega)
 refine ⟨W', ps, F', X', ?_, by rw [<- hfl]; exact r2⟩
 have he : eOf (h + 1) (a ++ (x :: y :: b)) = a.map eE ++ eE x :: eE y :: b.map eE := by rw [qBi, List.map_append, List.map_cons, List.map_cons]
 have g1 : (eOf (h + 1) (a ++ (x :: y :: b)))[i - 1]? = some (eE x) := by
  have := (qUy (a.map eE) (eE x) (eE y) (b.map eE)).1; rw [List.length_map] at this; rw [he, hi]; exact this
 have g2 : (eOf (h + 1) (a ++ (x :: y :: b)))[i - 1 + 1]? = some (eE y) := by
  have := (qUy (a.map eE) (eE x) (eE y) (b.map eE)).2; rw [List.length_map] at this; rw [he, hi]; exact this
 have g3 : qAy (eOf (h + 1) (a ++ (x :: y :: b))) (i - 1) (i - 1 + 2) (ps2.map pt) = eOf (h + 1) (a ++ (ps2 ++ b)) := by
  rw [hi]; exact qOf a [x, y] b ps2
 have e3 : (eE x).kid = x.spot := rfl; have e4 : (eE y).kid = y.spot := rfl; unfold qMj; rw [g1, g2]; simp only [e3, e4, lx, ly]; rw [qCr trivial, k1]; simp only [Option.bind_some]; rw [g3]; exact r1
theorem qOm {T : TM} {L : Int} {c : Cg} {m : Nat} (hm : m = 0 \/ m = 250) (hc : CgOk c) : ∀ (h f : Nat) (W : WM) (s : Int) (t : Tr h) (R F : List Int), h < f -> Acc T W (secs h s t) R F -> Sd (W.look T) m h s t -> (m ≠ 0 -> 0 < h -> 2 <= tlen h t) -> qDb (flat h t) →
  W.next + (h + 2) <= 1152921504606846976 →
  ∃ W' ps F' X, qBr T L c f W s = some (W', ps.map pt) /\ Chd T L m h W R (flat h t) (chg c (flat h t)) ((secs h s t).length + R.length + (h + 1)) W' ps F' X
 | 0, 0, _, _, _, _, _, h, _, _, _, _, _ => absurd h (Nat.lt_irrefl _)
 | 0, f + 1, W, s, l, R, F, _, hA, hS, _, hf, hn => jGg hc hA hS hf (by simpa using hn)
 | _ + 1, 0, _, _, _, _, _, h, _, _, _, _, _ => absurd h (Nat.not_lt_zero _)
 | h + 1, f + 1, W, s, l, R, F, hlt, hA, hS, hmany, hf, hn => by
  obtain ⟨⟨hlk, hg⟩, hB⟩ := hS; have hB : Lowr (W.look T) m (h + 1) l := hB; have hok : Ok l := qLl hB; have hf : qDb (qAg l) := hf; have hne : l ≠ [] := fun e => hg.ne (by rw [e]; rfl)
  obtain ⟨a, e, b, rfl, hpl, hle, hgt⟩ := qEw (fun e : TE (Tr h) => e.key) c.key l hne (qJg hok hf.asc)
  have hi : qBv c.key (eOf (h + 1) (a ++ e :: b)) = a.length := (qKe c.key _).trans hpl; obtain ⟨hSe, hfe, hwe⟩ := hB e (List.mem_append_right _ List.mem_cons_self); have hBa : Lowr (W.look T) m (h + 1) a := fun x hx => hB x (List.mem_append_left _ hx)
  have hBb : Lowr (W.look T) m (h + 1) b := fun x hx => hB x (List.mem_append_right _ (List.mem_cons_of_mem _ hx))
  have hsec : secs (h + 1) s (a ++ e :: b) = s :: (qAl a ++ (secs h e.spot e.sub ++ qAl b)) := by
   show s :: qAl (a ++ e :: b) = _; rw [qBh, qBn]
  have hA1 : Acc T W (secs h e.spot e.sub) (s :: (qAl a ++ (qAl b ++ R))) F := hA.move (fun z => by
   rw [hsec]; simp only [List.count_cons, List.count_append]; omega)
  have hmid := jCs (c := c) (a := a) (b := b) (e := e) hok hf.asc hle hgt; have hfl : qAg (a ++ e :: b) = qAg a ++ (flat h e.sub ++ qAg b) := by
   rw [qAi]; have : qAg (e :: b) = flat h e.sub ++ qAg b := by unfold qAg; rw [List.flatMap_cons]
   rw [this]
  have hfe2 : qDb (flat h e.sub) := hf.sub (by rw [hfl]; exact (List.sublist_append_left _ _).trans (List.sublist_append_right _ _))
  obtain ⟨W1, ps1, F1, X1, k1, k2⟩ := qOm (T := T) (L := L) hm hc h f W e.spot e.sub (s :: (qAl a ++ (qAl b ++ R))) F (by omega) hA1 hSe (fun h0 h1 => by
   cases h with
   | zero => omega
   | succ h =>
    rcases hm with rfl | rfl
    ·exact absurd rfl h0
    ·exact jBn hSe hwe) hfe2 (by omega)
  have hlkx : (eOf (h + 1) (a ++ e :: b))[qBv c.key (eOf (h + 1) (a ++ e :: b))]? = some (eE e) := by
   rw [hi, qBi, List.getElem?_map]; simp
  rw [qLe hlk hlkx]; have e0 : (eE e).kid = e.spot := rfl; rw [e0, k1]; simp only [Option.bind_some]; have hgd : ∀ p ∈ ps1.map pt, 1 <= p.2 /\ p.2 <= 1152921504606846976 := fun p hp => by
   obtain ⟨e, he, rfl⟩ := List.mem_map.1 hp; have h1 := k2.acc.spot (x := e.spot) (.inl (by
    unfold qAl; exact List.mem_flatMap.2 ⟨e, he, by rw [qDl]; exact List.mem_cons_self⟩))
   have h2 := k2.kept.hi; show 1 <= e.spot /\ e.spot <= _; omega
  rw [qCr hgd, hi]; have hfl1 : qAg (a ++ (ps1 ++ b)) = chg c (qAg (a ++ e :: b)) := by
   rw [show a ++ e :: b = a ++ ([e] ++ b) from rfl, hmid, qAi, qAi, k2.fl]
  have hok1 : Ok (a ++ (ps1 ++ b)) := by
   obtain ⟨o1, o2⟩ := qFq.1 hok; refine qFq.2 ⟨o1, qFq.2 ⟨fun e he => ⟨qOu (k2.fo e he).1, (k2.fo e he).2⟩, fun e he => o2 e (List.mem_cons_of_mem _ he)⟩⟩
  have hf1 : qDb (qAg (a ++ (ps1 ++ b))) := by rw [hfl1]; exact hf.chg hc
  have hin : qAy (eOf (h + 1) (a ++ e :: b)) a.length (a.length + 1) (ps1.map pt) = eOf (h + 1) (a ++ (ps1 ++ b)) := qOf a [e] b ps1; have hoth : ∀ z, z ∈ qAl a ++ (qAl b ++ R) -> W1.look T z = W.look T z := fun z hz => k2.kept.other z (List.mem_cons_of_mem _ hz)
  have hBa1 : Lowr (W1.look T) m (h + 1) a := fun x hx => ⟨qFf (hBa x hx).1 (fun z hz => hoth z (List.mem_append_left _ (List.mem_flatMap.2 ⟨x, hx, hz⟩))), (hBa x hx).2⟩
  have hBb1 : Lowr (W1.look T) m (h + 1) b := fun x hx => ⟨qFf (hBb x hx).1 (fun z hz => hoth z (List.mem_append_right _ (List.mem_append_left _ (List.mem_flatMap.2 ⟨x, hx, hz⟩)))), (hBb x hx).2⟩
  have hspot : ∀ z, z ∈ qAl ps1 -> 1 <= z /\ z <= 1152921504606846976 := fun z hz => by
   have h1 := k2.acc.spot (x := z) (.inl hz); have h2 := k2.kept.hi; omega
  have hwps : wt false (eOf (h + 1) ps1) <= 116 := by
   have h1 : ∀ x ∈ ps1, (entL false (eE x)).length <= 58 := fun x hx => by
    obtain ⟨v, r, hfx⟩ := qGs (fun e he => ⟨qOu (k2.fo e he).1, (k2.fo e he).2⟩ : Ok ps1) hx
    have hmem : (x.key, v) ∈ qAg ps1 := by
     unfold qAg; exact List.mem_flatMap.2 ⟨x, hx, by rw [hfx]; exact List.mem_cons_self⟩
    have hmem2 : (x.key, v) ∈ qAg (a ++ (ps1 ++ b)) := by
     rw [qAi, qAi]; exact List.mem_append_right _ (List.mem_append_left _ hmem)
    refine qKr (leaf := false) (hf1.ok _ hmem2).1.2 (Nat.zero_le _) (fun _ => (hspot x.spot ?_).2)
    unfold qAl; exact List.mem_flatMap.2 ⟨x, hx, by rw [qDl]; exact List.mem_cons_self⟩
   have htwo := k2.two; rw [qBi]
   match ps1, htwo, h1 with
   | [], _, _ => exact Nat.zero_le _
   | [p], _, h1 =>
    have := h1 p List.mem_cons_self; rw [List.map_cons, List.map_nil, qHt]; omega
   | [p, q], _, h1 =>
    have := h1 p List.mem_cons_self; have := h1 q (List.mem_cons_of_mem _ List.mem_cons_self); rw [List.map_cons, List.map_cons, List.map_nil, qFk, qHt]; omega
  have hw1 : wt false (eOf (h + 1) (a ++ (ps1 ++ b))) <= 1138 := by
   have h1 := hg.wt; rw [qBi, List.map_append, qBu] at h1; rw [List.map_cons, qFk] at h1; rw [qBi, List.map_append, List.map_append, qBu, qBu]; rw [qBi] at hwps; omega
  have hcnt : W1.count = W.count + (((qAg (a ++ (ps1 ++ b))).length : Int) - (qAg (a ++ e :: b)).length) := by
   have h1 := k2.cnt; rw [qAi, qAi, hfl, k2.fl]; simp only [List.length_append]; omega
  have hslen : (secs (h + 1) s (a ++ e :: b)).length = 1 + (qAl a).length + (secs h e.spot e.sub).length + (qAl b).length := by
   rw [hsec, List.length_cons, List.length_append, List.length_append]; omega
  have huse : (qAl ps1).length + (qAl a).length + (qAl b).length + R.length + 1 <= (secs h e.spot e.sub).length + ((qAl a).length + ((qAl b).length + R.length) + 1) + (h + 1) := by
   have := k2.use; simp only [List.length_cons, List.length_append] at this; omega
  have hkept : Kept T W W1 L (s :: R) (h + 1) ((secs h e.spot e.sub).length + (s :: (qAl a ++ (qAl b ++ R))).length + (h + 1)) X1 := by
   have := k2.kept; exact ⟨fun x hx => this.other x (by
    rcases List.mem_cons.1 hx with rfl | hx
    ·exact List.mem_cons_self
    ·exact List.mem_cons_of_mem _ (List.mem_append_right _ (List.mem_append_right _ hx))), this.root, this.lo, this.hi, this.mono, this.full, this.top, this.room, this.touch⟩
  have hnum : (secs h e.spot e.sub).length + (s :: (qAl a ++ (qAl b ++ R))).length + (h + 1) <= (secs (h + 1) s (a ++ e :: b)).length + R.length + (h + 1 + 1) := by
   rw [hslen]; simp only [List.length_cons, List.length_append]; omega
  have hnext : W1.next + 2 <= 1152921504606846976 := by
   have := k2.kept.hi; omega
  have plain : (∀ x ∈ ps1, m <= wtN h x.sub) -> ∃ W' ps F' X, qCb T L W1 false (qAy (eOf (h + 1) (a ++ e :: b)) a.length (a.length + 1) (ps1.map pt)) [s] = some (W', ps.map pt) ∧
    Chd T L m (h + 1) W R (qAg (a ++ e :: b)) (chg c (qAg (a ++ e :: b))) ((secs (h + 1) s (a ++ e :: b)).length + R.length + (h + 1 + 1)) W' ps F' X := fun hbig => by
   have hA2 : Acc T W1 [s] (qAl (a ++ (ps1 ++ b)) ++ R) F1 := k2.acc.move (fun z => by
    rw [qBh, qBh]; simp only [List.count_cons, List.count_append, List.count_nil]; omega)
   have hB2 : Lowr (W1.look T) m (h + 1) (a ++ (ps1 ++ b)) := fun x hx => by
    rcases List.mem_append.1 hx with hx | hx
    ·exact hBa1 x hx
    ·rcases List.mem_append.1 hx with hx | hx
     ·exact ⟨(k2.fo x hx).1, (k2.fo x hx).2, hbig x hx⟩
     ·exact hBb1 x hx
   have hk' : Kept T W W1 L R (h + 1) ((secs h e.spot e.sub).length + (s :: (qAl a ++ (qAl b ++ R))).length + (h + 1)) X1 := ⟨fun x hx => hkept.other x (List.mem_cons_of_mem _ hx), hkept.root, hkept.lo, hkept.hi, hkept.mono, hkept.full, hkept.top, hkept.room, hkept.touch⟩
   obtain ⟨W', ps, F', X, r1, r2⟩ := jCv (L := L) (old := qAg (a ++ e :: b)) (n := (secs (h + 1) s (a ++ e :: b)).length + R.length + (h + 1 + 1)) hA2 hB2 hf1 (by omega) hnext hk' hcnt (by have := k2.x; omega) hnum (by
    rw [hslen, qBh, qBh, List.length_append, List.length_append]; omega)
   rw [hin]; exact ⟨W', ps, F', X, r1, by rw [<- hfl1]; exact r2⟩
  generalize hnn : (secs (h + 1) s (a ++ e :: b)).length + R.length + (h + 1 + 1) = n at hnum plain ⊢; rw [hslen] at hnn; have hbase := k2.big; have htwo := k2.two
  match ps1, htwo, hbase, plain, hin, k2, hfl1, hok1, hf1, hw1, hcnt, huse with
  | [], _, _, plain, _, _, _, _, _, _, _, _ => exact plain (fun x hx => by cases hx)
  | [p, q], _, hbase, plain, _, _, _, _, _, _, _, _ =>
   refine plain (fun x hx => ?_)
   have := hbase rfl x hx; rcases hm with rfl | rfl <;> omega
  | [p], _, _, plain, hin, k2, hfl1, hok1, hf1, hw1, hcnt, huse =>
   have hpm := k2.fo p List.mem_cons_self; obtain ⟨lp, gp⟩ := qMe hpm.1; have hlen : (eOf (h + 1) (a ++ ([p] ++ b))).length = a.length + 1 + b.length := by
    rw [qBi, List.length_map, List.length_append, List.length_append, List.length_cons, List.length_nil]; omega
   unfold qKw; simp only [List.map_cons, List.map_nil]; have e2 : (pt p).2 = p.spot := rfl; have hin' : qAy (eOf (h + 1) (a ++ e :: b)) a.length (a.length + 1) [pt p] = eOf (h + 1) (a ++ ([p] ++ b)) := hin; simp only [List.map_cons, List.map_nil] at plain; by_cases h1 : 1 < (eOf (h + 1) (a ++ ([p] ++ b))).length
   ·rw [hin', if_pos h1, e2, lp]; show ∃ W' ps F' X, (if (qAo (lf h) (eOf h p.sub)).length < 300 then qMj T L W1 s (eOf (h + 1) (a ++ ([p] ++ b))) a.length else qCb T L W1 false (eOf (h + 1) (a ++ ([p] ++ b))) [s]) = _ /\ _
    by_cases h2 : (qAo (lf h) (eOf h p.sub)).length < 300
    ·rw [if_pos h2]; have hps : qAl [p] = secs h p.spot p.sub := by unfold qAl; simp
     have hpacc := k2.acc; rw [hps] at hpacc huse; rcases List.eq_nil_or_concat a with rfl | ⟨a, q, ha⟩
     ·cases b with
      | nil => rw [hlen] at h1; simp at h1
      | cons q b =>
       obtain ⟨hq1, hq2, hq3⟩ := hBb1 q List.mem_cons_self; obtain ⟨W', ps, F', X, r1, r2⟩ := qWa (L := L) (n := n) (old := qAg ([] ++ e :: q :: b)) (a := []) (b := b) (x := p) (y := q) (i := 0) (R := R) (s := s) hm rfl
        (hpacc.move (fun z => by rw [qCh, qBn]; simp only [List.count_cons, List.count_append, List.count_nil]; omega))
        (fun x hx => by cases hx) (fun x hx => hBb1 x (List.mem_cons_of_mem _ hx)) hpm.1 hq1 (.inl ⟨h2, hq3⟩) hf1 (Nat.le_trans hw1 (by omega)) hok1 hnext hkept hcnt k2.x (.inl (k2.xs p List.mem_cons_self)) hnum (by
         rw [qCh]; rw [qCh, qBn] at huse hnn; simp only [List.length_append, List.length_nil] at huse hnn ⊢; omega)
       have e9 : qAg ([] ++ p :: q :: b) = chg c (qAg ([] ++ e :: q :: b)) := hfl1; rw [e9] at r2; exact ⟨W', ps, F', X, r1, r2⟩
     ·rw [List.concat_eq_append] at ha; subst ha; obtain ⟨hq1, hq2, hq3⟩ := hBa1 q (List.mem_append_right _ (List.mem_singleton.2 rfl)); have hassoc : a ++ [q] ++ ([p] ++ b) = a ++ (q :: p :: b) := by simp
      rw [hassoc] at hfl1 hok1 hf1 hw1 hcnt ⊢; obtain ⟨W', ps, F', X, r1, r2⟩ := qWa (L := L) (n := n) (old := qAg (a ++ [q] ++ e :: b)) (a := a) (b := b) (x := q) (y := p) (i := (a ++ [q]).length) (R := R) (s := s) hm (by simp)
        (hpacc.move (fun z => by rw [qBh, qBn, qCh]; simp only [List.count_cons, List.count_append, List.count_nil]; omega))
        (fun x hx => hBa1 x (List.mem_append_left _ hx)) hBb1 hq1 hpm.1 (.inr ⟨h2, hq3⟩) hf1 (by omega) hok1 hnext hkept hcnt k2.x (.inr (k2.xs p List.mem_cons_self)) hnum (by
         rw [qBh, qBn, qCh] at huse hnn; simp only [List.length_append, List.length_nil] at huse hnn ⊢; omega)
      rw [hfl1] at r2; exact ⟨W', ps, F', X, r1, r2⟩
    ·rw [if_neg h2, <- hin']; refine plain (fun x hx => ?_)
     rw [List.mem_singleton] at hx; subst hx; have : 300 <= wtN h x.sub := Nat.le_of_not_lt h2; rcases hm with rfl | rfl <;> omega
   ·rw [hin', if_neg h1, <- hin']; refine plain (fun x hx => ?_)
    rcases hm with rfl | rfl
    ·exact Nat.zero_le _
    ·have h3 := hmany (by decide) (Nat.succ_pos _)
     unfold tlen at h3; rw [qBi, List.length_map, List.length_append, List.length_cons] at h3; rw [hlen] at h1; omega
end
end Go.Proofs.YtkinkgbmlhiakaaGreatDoor
