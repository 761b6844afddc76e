/- merged: DecL Round BackL BackF -/
import Derived.Test.YtgbcibdfeeiilaaGreatDoorMd13
import Derived.Test.YtgbcibdfeeiilaaGreatDoorMd03
namespace Go.Proofs.YtgbcibdfeeiilaaGreatDoor
section
open Go Go.RowKit
def qFl (leaf : Bool) (s : ByteArray) (a : Nat) : Option (Ent × Nat) :=
 if (rdT s a).e = 0 then
  (if leaf then (if (rdT s (rdT s a).n).e = 0 then some (⟨(rdT s a).t, (rdT s (rdT s a).n).t, 0⟩, (rdT s (rdT s a).n).n) else none)
   else (if (rdU 0 (s.data.toList.drop (rdT s a).n)).e = 0 then some (⟨(rdT s a).t, emp, ((min (rdU 0 (s.data.toList.drop (rdT s a).n)).v 16384 : Nat) : Int)⟩, (rdT s a).n + (rdU 0 (s.data.toList.drop (rdT s a).n)).n) else none))
 else none
def qFg (leaf : Bool) (s : ByteArray) : Nat -> Nat -> Option (List Ent × Nat)
 | 0, a => some ([], a)
 | c + 1, a => (qFl leaf s a).bind fun p => (qFg leaf s c p.2).map fun q => (p.1 :: q.1, q.2)
theorem qHh (leaf : Bool) (s : ByteArray) (c a : Nat) : qFg leaf s (c + 1) a = (qFl leaf s a).bind fun p => (qFg leaf s c p.2).map fun q => (p.1 :: q.1, q.2) := rfl
def pre (es : List Ent) (o : Option (List Ent × Nat)) : Option (List Ent × Nat) := o.map fun q => (es ++ q.1, q.2)
theorem qZx (o : Option (List Ent × Nat)) : pre [] o = o := by unfold pre; cases o <;> rfl
theorem qVk {leaf : Bool} {s : ByteArray} {c a a' : Nat} {es : List Ent} {x : Ent} (h : qFl leaf s a = some (x, a')) : pre es (qFg leaf s (c + 1) a) = pre (es ++ [x]) (qFg leaf s c a') := by
 unfold pre; rw [qHh, h, Option.bind_some]; generalize qFg leaf s c a' = o; cases o <;> simp
theorem qLi {leaf : Bool} {s : ByteArray} {c a : Nat} {es : List Ent} (h : qFl leaf s a = none) : pre es (qFg leaf s (c + 1) a) = none := by
 unfold pre; rw [qHh, h]; rfl
theorem qRe (s : ByteArray) (a : Nat) (he : (rdT s a).e = 0) : a < (rdT s a).n /\ (rdT s a).n <= s.size /\ (rdT s a).t.size <= s.size := by
 unfold rdT rtOf at he ⊢; by_cases h : (rdU 0 (s.data.toList.drop a)).e = 0
 ·obtain ⟨h1, h2, h3⟩ := qKn s a h; rw [if_pos h] at he ⊢; by_cases hb : s.size < a + (rdU 0 (s.data.toList.drop a)).n + (rdU 0 (s.data.toList.drop a)).v
  ·rw [if_pos hb] at he; simp at he
  ·rw [if_neg hb]; refine ⟨by simp only; omega, by simp only; omega, ?_⟩
   simp only [ByteArray.size_extract]; omega
 ·rw [if_neg h] at he; exact absurd he h
def cn (leaf : Bool) (es : List Ent) : Nd := ⟨leaf, es.map (·.key), if leaf then es.map (·.value) else [], if leaf then [] else es.map (·.kid), none, 0, none, 0, none, 0⟩
theorem Has.cn_ents {m : Nd} {leaf : Bool} {es : List Ent} (h : Has m leaf es) : m.ents = (cn leaf es).ents := by
 unfold Nd.ents; rw [h.k]; show (List.range (es.map (·.key)).length).map (qCc m) = (List.range (es.map (·.key)).length).map (qCc (cn leaf es)); apply List.map_congr_left; intro i _; unfold qCc qBk qDy; rw [h.k, h.v, h.i, h.l]; rfl
theorem Has.cn_enc {m : Nd} {leaf : Bool} {es : List Ent} (h : Has m leaf es) : qDl m = qDl (cn leaf es) := by
 have hf : fitB m = fitB (cn leaf es) := by
  have : FitP m ↔ FitP (cn leaf es) := by
   unfold FitP qKx; rw [h.k, h.v, h.i, h.l]; exact Iff.rfl
  cases hb : fitB (cn leaf es) with
  | true => exact qJe (this.2 (qHm.1 hb))
  | false => exact qKc (fun hp => by rw [qJe (this.1 hp)] at hb; cases hb)
 unfold qDl; rw [hf, h.cn_ents, h.l]; rfl
noncomputable def qKr (leaf : Bool) (s : ByteArray) (o : Option (List Ent × Nat)) : Option (Bool × List Ent) :=
 o.bind fun q => if @decide (AllZ (s.data.toList.drop q.2)) (Classical.propDecidable _) && qDl (cn leaf q.1) then some (leaf, q.1) else none
noncomputable def qMx (leaf : Bool) (s : ByteArray) : Option (Bool × List Ent) :=
 if (rdU 0 (s.data.toList.drop 1)).e = 0 then qKr leaf s (qFg leaf s (rdU 0 (s.data.toList.drop 1)).v (1 + (rdU 0 (s.data.toList.drop 1)).n)) else none
noncomputable def decP (s : ByteArray) : Option (Bool × List Ent) :=
 match s.data.toList with
 | [] => none
 | b :: _ => if b.toNat = 1 \/ b.toNat = 2 then qMx (b.toNat == 1) s else none
theorem qMw {s : ByteArray} {b : UInt8} {r : List UInt8} {leaf : Bool} (h : s.data.toList = b :: r) (hb : b.toNat = 1 \/ b.toNat = 2) (hl : (b.toNat == 1) = leaf) : decP s = qMx leaf s := by
 unfold decP; rw [h]; simp only; rw [if_pos hb, hl]
theorem qSd {s : ByteArray} (h : ∀ b r, s.data.toList = b :: r -> ¬ (b.toNat = 1 \/ b.toNat = 2)) : decP s = none := by
 unfold decP; cases hs : s.data.toList with
 | nil => rfl
 | cons b r => simp only; rw [if_neg (h b r hs)]
theorem qQb {leaf : Bool} {s : ByteArray} {es : List Ent} {z : Nat} (h1 : AllZ (s.data.toList.drop z)) (h2 : qDl (cn leaf es) = true) : qKr leaf s (some (es, z)) = some (leaf, es) := by
 unfold qKr; rw [Option.bind_some]; simp only; rw [@decide_eq_true _ (Classical.propDecidable _) h1, h2]; rfl
theorem qSb {leaf : Bool} {s : ByteArray} {es : List Ent} {z : Nat} (h : ¬ (AllZ (s.data.toList.drop z) /\ qDl (cn leaf es) = true)) : qKr leaf s (some (es, z)) = none := by
 unfold qKr; rw [Option.bind_some]; simp only; rw [if_neg]; intro hh; rw [Bool.and_eq_true] at hh; exact h ⟨@of_decide_eq_true _ (Classical.propDecidable _) hh.1, hh.2⟩
theorem qUz (a : Nat) (x : RU) : ∃ c p e : Nat, ruV a x = .tuple #[.int .u64 (c : Int), .int .i64 (p : Int), .int .i64 (e : Int)] /\ ((e = 0 /\ x.e = 0 /\ c = x.v /\ p = a + x.n) \/ (e ≠ 0 /\ x.e = e /\ c = 0 /\ p = 0)) := by
 by_cases h : x.e = 0
 ·exact ⟨x.v, a + x.n, 0, by unfold ruV; rw [if_pos h, Int.natCast_add]; rfl, .inl ⟨rfl, h, rfl, rfl⟩⟩
 ·exact ⟨0, 0, x.e, by unfold ruV; rw [if_neg h]; rfl, .inr ⟨h, rfl, rfl, rfl⟩⟩
def qOu (w : World) (r : Option (Bool × List Ent)) (e : Ending) (w' : World) : Prop :=
 Mod (fun _ => False) w w' /\ match r with
  | some (leaf, es) => ∃ m : Nd, Has m leaf es /\ e = .returned (.tuple #[.agg #[.bool m.leaf, .slice m.ka m.keys.length m.kc, .slice m.va m.values.length m.vc, .slice m.ia m.kids.length m.ic], .int .i64 0]) /\ Gd w' m /\ (∀ b, m.bs b -> w.heap.size <= b) /\ qDl m = true /\ (∀ x ∈ es, x.Ok) /\ es.length <= 1048576
  | none => e = .returned (.tuple #[.agg #[.bool false, .slice none 0 0, .slice none 0 0, .slice none 0 0], .int .i64 40])
end
section
open Go Go.RowKit
theorem qVg : ∀ (L : List UInt8) (i : Nat), (rdU i L).e = 0 -> L.take (rdU i L).n = uvar (rdU i L).v /\ (0 < i -> 0 < (rdU i L).v)
 | [], i => fun h => by rw [qPd] at h; simp at h
 | b :: r, i => fun h => by
  have hb8 := b.toNat_lt; have ih := qVg r (i + 1); rw [rdU] at h ⊢; by_cases hc : (i = 9 /\ 1 < b.toNat) \/ (0 < i /\ b.toNat = 0) \/ 9 < i
  ·rw [if_pos hc] at h; simp at h
  ·rw [if_neg hc] at h ⊢; by_cases hlt : b.toNat < 128
   ·rw [if_pos hlt] at h ⊢; simp only; rw [qCm (by omega)]
    refine ⟨by simp, fun h0 => by omega⟩
   ·rw [if_neg hlt] at h ⊢; by_cases he : (rdU (i + 1) r).e = 0
    ·rw [if_pos he] at h ⊢; obtain ⟨h1, h2⟩ := ih he; have h3 := h2 (by omega)
     simp only; refine ⟨?_, fun _ => by omega⟩
     rw [qIm (by omega), List.take_succ_cons, h1]
     have e1 : (b.toNat - 128 + 128 * (rdU (i + 1) r).v) % 128 + 128 = b.toNat := by omega
     have e2 : (b.toNat - 128 + 128 * (rdU (i + 1) r).v) / 128 = (rdU (i + 1) r).v := by omega
     rw [e1, e2]; congr 1
     simp
    ·rw [if_neg he] at h; exact absurd h he
def seg (s : ByteArray) (a b : Nat) : List UInt8 := (s.data.toList.drop a).take (b - a)
theorem qEp {s : ByteArray} {a b c : Nat} (h1 : a <= b) (h2 : b <= c) : seg s a c = seg s a b ++ seg s b c := by
 unfold seg; rw [show c - a = (b - a) + (c - b) by omega, List.take_add, List.drop_drop, show a + (b - a) = b by omega]
theorem jHa {s : ByteArray} {a : Nat} (h : (rdU 0 (s.data.toList.drop a)).e = 0) : seg s a (a + (rdU 0 (s.data.toList.drop a)).n) = uvar (rdU 0 (s.data.toList.drop a)).v := by
 unfold seg; rw [show a + (rdU 0 (s.data.toList.drop a)).n - a = (rdU 0 (s.data.toList.drop a)).n by omega]
 exact (qVg _ 0 h).1
theorem jIu {s : ByteArray} {a : Nat} (h : (rdT s a).e = 0) : seg s a (rdT s a).n = qCw (rdT s a).t := by
 unfold rdT rtOf at h ⊢; by_cases hu : (rdU 0 (s.data.toList.drop a)).e = 0
 ·obtain ⟨h1, h2, h3⟩ := qKn s a hu; have hs := jHa hu; rw [if_pos hu] at h ⊢; generalize rdU 0 (s.data.toList.drop a) = u at *; by_cases hb : s.size < a + u.n + u.v
  ·rw [if_pos hb] at h; simp at h
  ·rw [if_neg hb]; simp only; rw [qEp (b := a + u.n) (by omega) (by omega), hs]
   unfold qCw; have e1 : (s.extract (a + u.n) (a + u.n + u.v)).size = u.v := by rw [ByteArray.size_extract]; omega
   rw [e1]; congr 1
   rw [ByteArray.data_extract, Array.toList_extract, List.extract_eq_take_drop]; rfl
 ·rw [if_neg hu] at h; exact absurd h hu
theorem jEb {leaf : Bool} {s : ByteArray} {a z : Nat} {x : Ent} (h : qFl leaf s a = some (x, z)) : a < z /\ z <= s.size /\ ((leaf = true -> x.kid = 0) /\ (leaf = false -> x.value = emp)) /\ ((leaf = false -> x.kid < 16384) -> seg s a z = entL leaf x) := by
 unfold qFl at h; by_cases hk : (rdT s a).e = 0
 ·rw [if_pos hk] at h; obtain ⟨k1, k2, k3⟩ := qRe s a hk; have ks := jIu hk; cases leaf with
  | true =>
   simp only [if_true] at h; by_cases hv : (rdT s (rdT s a).n).e = 0
   ·rw [if_pos hv] at h; obtain ⟨v1, v2, v3⟩ := qRe s _ hv; have vs := jIu hv; cases h
    refine ⟨by omega, v2, ⟨fun _ => rfl, fun h => (by cases h)⟩, fun _ => ?_⟩
    rw [qEp (b := (rdT s a).n) (by omega) (by omega), ks, vs]
    rfl
   ·rw [if_neg hv] at h; cases h
  | false =>
   simp only [Bool.false_eq_true, if_false] at h; by_cases hv : (rdU 0 (s.data.toList.drop (rdT s a).n)).e = 0
   ·rw [if_pos hv] at h; obtain ⟨v1, v2, v3⟩ := qKn s _ hv; have vs := jHa hv; cases h
    refine ⟨by omega, v1, ⟨fun h => (by cases h), fun _ => rfl⟩, fun hlt => ?_⟩
    have hlt := hlt rfl; simp only at hlt; rw [qEp (b := (rdT s a).n) (by omega) (by omega), ks, vs]
    unfold entL; simp only [Bool.false_eq_true, if_false]; congr 2
    omega
   ·rw [if_neg hv] at h; cases h
 ·rw [if_neg hk] at h; cases h
theorem qVd {leaf : Bool} {s : ByteArray} : ∀ (c a : Nat) {es : List Ent} {z : Nat}, a <= s.size -> qFg leaf s c a = some (es, z) -> a <= z /\ z <= s.size /\ es.length = c /\ qEd leaf es /\ ((∀ x ∈ es, leaf = false -> x.kid < 16384) -> seg s a z = es.flatMap (entL leaf))
 | 0, a, es, z => fun ha h => by
  unfold qFg at h; cases h
  exact ⟨Nat.le_refl _, ha, rfl, (fun x hx => by cases hx), fun _ => by unfold seg; simp⟩
 | c + 1, a, es, z => fun ha h => by
  rw [qHh] at h; cases he : qFl leaf s a with
  | none => rw [he] at h; cases h
  | some p =>
   obtain ⟨x, a2⟩ := p; rw [he, Option.bind_some] at h; obtain ⟨e1, e2, e3, e4⟩ := jEb he; cases hr : qFg leaf s c a2 with
   | none => simp only at h; rw [hr] at h; cases h
   | some q =>
    obtain ⟨es2, z2⟩ := q; simp only at h; rw [hr] at h; cases h
    obtain ⟨i1, i2, i3, i4, i5⟩ := qVd c a2 e2 hr; refine ⟨by omega, i2, by simp [i3], fun y hy => ?_, fun hk => ?_⟩
    ·rcases List.mem_cons.1 hy with h | h
     ·rw [h]; exact e3
     ·exact i4 y h
    ·rw [qEp (b := a2) (by omega) (by omega), e4 (hk x List.mem_cons_self), i5 (fun y hy => hk y (List.mem_cons_of_mem _ hy)), List.flatMap_cons]
theorem qWb {leaf : Bool} {es : List Ent} (h : qDl (cn leaf es) = true) : ∀ x ∈ es, leaf = false -> x.kid < 16384 := fun x hx hl => by
 subst hl; unfold qDl at h; rw [Bool.and_eq_true, qHm] at h; have h3 := h.1.2; unfold qKx cn at h3; simp only [Bool.false_eq_true, if_false, Bool.and_eq_true, Bool.not_eq_true'] at h3; have := List.any_eq_false.1 h3.2 x.kid (List.mem_map.2 ⟨x, hx, rfl⟩); unfold outB at this; simp at this
 omega
theorem jBw {s : ByteArray} {leaf : Bool} {es : List Ent} (h : decP s = some (leaf, es)) : qEd leaf es /\ s.data.toList.take (qAl leaf es).length = qAl leaf es /\ (qAl leaf es).length <= s.size := by
 unfold decP at h; have hlen : s.data.toList.length = s.size := rfl; cases hs : s.data.toList with
 | nil => rw [hs] at h; cases h
 | cons b r =>
  rw [hs] at h; simp only at h; by_cases hb : b.toNat = 1 \/ b.toNat = 2
  ·rw [if_pos hb] at h; unfold qMx at h; by_cases hu : (rdU 0 (s.data.toList.drop 1)).e = 0
   ·rw [if_pos hu] at h; obtain ⟨u1, u2, u3⟩ := qKn s 1 hu; have us := jHa hu; generalize rdU 0 (s.data.toList.drop 1) = u at *; cases hr : qFg (b.toNat == 1) s u.v (1 + u.n) with
    | none => rw [hr] at h; cases h
    | some q =>
     obtain ⟨es2, z⟩ := q; rw [hr] at h; by_cases hok : AllZ (s.data.toList.drop z) /\ qDl (cn (b.toNat == 1) es2) = true
     ·rw [qQb hok.1 hok.2] at h; cases h
      obtain ⟨i1, i2, i3, i4, i5⟩ := qVd _ _ u1 hr; have i6 := i5 (qWb hok.2); refine ⟨i4, ?_⟩; have e0 : seg s 0 1 = [b] := by unfold seg; rw [hs]; rfl
      have e1 : seg s 0 z = qAl (b.toNat == 1) es := by
       rw [qEp (b := 1) (by omega) (by omega), qEp (a := 1) (b := 1 + u.n) (by omega) (by omega), e0, us, i6, <- i3]
       unfold qAl; rw [List.singleton_append]; congr 1
       have hb8 := b.toNat_lt; rcases hb with h | h
       ·have : b = 1 := UInt8.toNat_inj.1 h; rw [this]; rfl
       ·have : b = 2 := UInt8.toNat_inj.1 h; rw [this]; rfl
      have e2 : seg s 0 z = s.data.toList.take z := by unfold seg; rw [List.drop_zero, Nat.sub_zero]
      have e3 : (qAl (b.toNat == 1) es).length = z := by rw [<- e1, e2, List.length_take]; omega
      rw [<- hs, e3, <- e2]; exact ⟨e1, i2⟩
     ·rw [qSb hok] at h; cases h
   ·rw [if_neg hu] at h; cases h
  ·rw [if_neg hb] at h; cases h
end
section
open Go Go.RowKit
theorem qZs {s t : ByteArray} {a : Nat} {r : List UInt8} (h : s.data.toList.drop a = qCw t ++ r) (hs : s.size < qDx) : rdT s a = ⟨t, a + (qCw t).length, 0⟩ := by
 have hlen : s.data.toList.length = s.size := rfl; have h2 : s.data.toList.drop a = uvar t.size ++ (t.data.toList ++ r) := by rw [h]; unfold qCw; rw [List.append_assoc]
 have htl : t.data.toList.length = t.size := rfl; have hll : s.size - a = (uvar t.size).length + (t.size + r.length) := by
  have := congrArg List.length h2; rw [List.length_drop, List.length_append, List.length_append, htl, hlen] at this; exact this
 have hp := qEv t.size; have hr := qNv h2 (by omega)
 have hd := qDn h2; unfold rdT rtOf; rw [hr]; simp only [if_true]; rw [if_neg (by omega)]
 have e1 : (qCw t).length = (uvar t.size).length + t.size := by unfold qCw; rw [List.length_append, htl]
 have e2 : s.extract (a + (uvar t.size).length) (a + (uvar t.size).length + t.size) = t := by
  apply ByteArray.ext; apply Array.toList_inj.1; rw [ByteArray.data_extract, Array.toList_extract, List.extract_eq_take_drop, hd, show a + (uvar t.size).length + t.size - (a + (uvar t.size).length) = t.data.toList.length by rw [htl]; omega, List.take_left]
 rw [e2, e1, Nat.add_assoc]
def Fair (leaf : Bool) (x : Ent) : Prop := (leaf = true -> x.kid = 0) /\ (leaf = false -> x.value = emp /\ 0 <= x.kid /\ x.kid < 16384)
theorem jEc {s : ByteArray} {leaf : Bool} {a : Nat} {x : Ent} {r : List UInt8} (h : s.data.toList.drop a = entL leaf x ++ r) (hs : s.size < qDx) (hf : Fair leaf x) : qFl leaf s a = some (x, a + (entL leaf x).length) := by
 cases leaf with
 | true =>
  have h1 : s.data.toList.drop a = qCw x.key ++ (qCw x.value ++ r) := by rw [h]; unfold entL; rw [List.append_assoc]; rfl
  have k := qZs h1 hs; have v := qZs (qDn h1) hs; unfold qFl; rw [k]; simp only [if_true]; rw [v]; simp only [if_true]; have e : (entL true x).length = (qCw x.key).length + (qCw x.value).length := by unfold entL; rw [List.length_append]; rfl
  rw [e, <- Nat.add_assoc, <- hf.1 rfl]
 | false =>
  obtain ⟨f1, f2, f3⟩ := hf.2 rfl; have h1 : s.data.toList.drop a = qCw x.key ++ (uvar (max 0 x.kid).toNat ++ r) := by rw [h]; unfold entL; rw [List.append_assoc]; rfl
  have k := qZs h1 hs; have t6 : qDx = 18446744073709551616 := by decide
  have v := qNv (qDn h1) (by rw [t6]; omega)
  unfold qFl; rw [k]; simp only [if_true, Bool.false_eq_true, if_false]; rw [v]; simp only [if_true]; have e : (entL false x).length = (qCw x.key).length + (uvar (max 0 x.kid).toNat).length := by unfold entL; rw [List.length_append]; rfl
  have e2 : ((min (max 0 x.kid).toNat 16384 : Nat) : Int) = x.kid := by omega
  rw [e, <- Nat.add_assoc, e2, <- f1]
theorem qVe {s : ByteArray} {leaf : Bool} (hs : s.size < qDx) : ∀ (es : List Ent) (a : Nat) (r : List UInt8), s.data.toList.drop a = es.flatMap (entL leaf) ++ r -> (∀ x ∈ es, Fair leaf x) -> qFg leaf s es.length a = some (es, a + (es.flatMap (entL leaf)).length)
 | [], a, r => fun _ _ => by simp [qFg]
 | x :: es, a, r => fun h hf => by
  rw [List.flatMap_cons, List.append_assoc] at h; have e := jEc h hs (hf x List.mem_cons_self); have i := qVe hs es _ r (qDn h) (fun y hy => hf y (List.mem_cons_of_mem _ hy))
  rw [List.length_cons, qHh, e, Option.bind_some]; simp only; rw [i]; simp [Nat.add_assoc]
theorem jIa {s : ByteArray} {leaf : Bool} {es : List Ent} {r : List UInt8} (h : s.data.toList = qAl leaf es ++ r) (hs : s.size < qDx) (hf : ∀ x ∈ es, Fair leaf x) : decP s = qKr leaf s (some (es, (qAl leaf es).length)) := by
 have hlen : s.data.toList.length = s.size := rfl; have h1 : s.data.toList = (if leaf then (1 : UInt8) else 2) :: (uvar es.length ++ (es.flatMap (entL leaf) ++ r)) := by
  rw [h]; unfold qAl; rw [List.cons_append, List.append_assoc]
 have hd : s.data.toList.drop 1 = uvar es.length ++ (es.flatMap (entL leaf) ++ r) := by rw [h1]; rfl
 have hge : es.length <= (es.flatMap (entL leaf)).length := by
  have := jCz leaf es; unfold wt at this; omega
 have hsz : es.length < qDx := by
  have := congrArg List.length h1; rw [hlen, List.length_cons, List.length_append, List.length_append] at this; omega
 have u := qNv hd hsz; have l := qVe hs es _ r (qDn hd) hf; rw [qMw h1 (by cases leaf <;> decide) (leaf := leaf) (by cases leaf <;> rfl)]
 unfold qMx; rw [u]; simp only [if_true]; rw [show 1 + (uvar es.length).length = 1 + (uvar es.length).length from rfl, l]
 congr 3
 unfold qAl; rw [List.length_cons, List.length_append]; omega
end
section
open Go Go.RowKit
theorem jFx (n : Nd) (i : Nat) (hi : i < n.keys.length) : n.ents[i]? = some (qCc n i) := by
 unfold Nd.ents; rw [List.getElem?_map, List.getElem?_range hi]; rfl
theorem qQc {α : Type} (n : Nd) (f : Ent -> α) (l : List α) (hl : l.length = n.keys.length) (h : ∀ i, i < n.keys.length -> l[i]? = some (f (qCc n i))) : l = n.ents.map f := by
 apply List.ext_getElem?; intro i; rw [List.getElem?_map]; by_cases hi : i < n.keys.length
 ·rw [jFx n i hi, h i hi]; rfl
 ·rw [List.getElem?_eq_none (by omega), List.getElem?_eq_none (by rw [qCt]; omega)]; rfl
theorem qPx {α : Type} (l : List α) (i : Nat) (hi : i < l.length) (d : α) : l[i]? = some ((l[i]?).getD d) := by
 rw [List.getElem?_eq_getElem hi]; rfl
theorem qVz {n : Nd} (h : qDl n = true) : Has n n.leaf n.ents := by
 unfold qDl at h; rw [Bool.and_eq_true, qHm] at h; have h2 := h.1.2; unfold qKx at h2; refine ⟨rfl, qQc n _ _ rfl (fun i hi => qPx _ i hi emp), ?_, ?_⟩
 ·cases hl : n.leaf with
  | true =>
   rw [hl] at h2; simp only [if_true, Bool.and_eq_true, decide_eq_true_eq] at h2 ⊢; refine qQc n _ _ h2.1.2 (fun i hi => ?_)
   show n.values[i]? = some (qBk n i); unfold qBk; rw [hl]; exact qPx _ i (by omega) emp
  | false =>
   rw [hl] at h2; simp only [Bool.false_eq_true, if_false, Bool.and_eq_true, decide_eq_true_eq] at h2 ⊢; exact List.eq_nil_of_length_eq_zero h2.1.1.1
 ·cases hl : n.leaf with
  | true =>
   rw [hl] at h2; simp only [if_true, Bool.and_eq_true, decide_eq_true_eq] at h2 ⊢; exact List.eq_nil_of_length_eq_zero h2.1.1
  | false =>
   rw [hl] at h2; simp only [Bool.false_eq_true, if_false, Bool.and_eq_true, decide_eq_true_eq] at h2 ⊢; refine qQc n _ _ h2.1.1.2 (fun i hi => ?_)
   show n.kids[i]? = some (qDy n i); unfold qDy; rw [hl]; exact qPx _ i (by omega) 0
theorem jBo {n : Nd} (h : qDl n = true) : ∀ x ∈ n.ents, Fair n.leaf x := fun x hx => by
 obtain ⟨c1, c2⟩ := qXv n x hx; refine ⟨c1, fun hl => ⟨c2 hl, ?_⟩⟩
 have hs := qVz h; unfold qDl at h; rw [Bool.and_eq_true, qHm] at h; have h2 := h.1.2; unfold qKx at h2; rw [hl] at h2; simp only [Bool.false_eq_true, if_false, Bool.and_eq_true, Bool.not_eq_true'] at h2; have hi := hs.i; rw [hl] at hi; simp only [Bool.false_eq_true, if_false] at hi; have := List.any_eq_false.1 h2.2 x.kid (by rw [hi]; exact List.mem_map.2 ⟨x, hx, rfl⟩)
 unfold outB at this; simp at this
 omega
theorem jHz {n : Nd} {s : ByteArray} {r : List UInt8} (h : qDl n = true) (hs : s.data.toList = qAl n.leaf n.ents ++ r) (hz : s.size < qDx) (hr : AllZ r) : decP s = some (n.leaf, n.ents) := by
 rw [jIa hs hz (jBo h)]; refine qQb ?_ ?_
 ·rw [hs, List.drop_left]; exact hr
 ·rw [<- (qVz h).cn_enc]; exact h
end
end Go.Proofs.YtgbcibdfeeiilaaGreatDoor
