/- merged: DecL Round BackL BackF -/
import Derived.Test.YtgbcibdfeeiilaaGreatDoorMc13
import Derived.Test.YtgbcibdfeeiilaaGreatDoorMc03
namespace Go.Proofs.YtgbcibdfeeiilaaGreatDoor
section
open Go Go.RowKit
def qFh (leaf : Bool) (s : ByteArray) (a : Nat) : Option (Ent × Nat) :=
 if (rdT s a).e = 0 then
  (if leaf then (if (rdT s (rdT s a).n).e = 0 then some (⟨(rdT s a).t, (rdT s (rdT s a).n).t, 0⟩, (rdT s (rdT s a).n).n) else none)
   else (if (rdU 0 (s.data.toList.drop (rdT s a).n)).e = 0 then some (⟨(rdT s a).t, emp, ((min (rdU 0 (s.data.toList.drop (rdT s a).n)).v 16384 : Nat) : Int)⟩, (rdT s a).n + (rdU 0 (s.data.toList.drop (rdT s a).n)).n) else none))
 else none
def qFd (leaf : Bool) (s : ByteArray) : Nat -> Nat -> Option (List Ent × Nat)
 | 0, a => some ([], a)
 | c + 1, a => (qFh leaf s a).bind fun p => (qFd leaf s c p.2).map fun q => (p.1 :: q.1, q.2)
theorem qHf (leaf : Bool) (s : ByteArray) (c a : Nat) : qFd leaf s (c + 1) a = (qFh leaf s a).bind fun p => (qFd leaf s c p.2).map fun q => (p.1 :: q.1, q.2) := rfl
def pre (es : List Ent) (o : Option (List Ent × Nat)) : Option (List Ent × Nat) := o.map fun q => (es ++ q.1, q.2)
theorem jAb (o : Option (List Ent × Nat)) : pre [] o = o := by unfold pre; cases o <;> rfl
theorem qVk {leaf : Bool} {s : ByteArray} {c a a' : Nat} {es : List Ent} {x : Ent} (h : qFh leaf s a = some (x, a')) : pre es (qFd leaf s (c + 1) a) = pre (es ++ [x]) (qFd leaf s c a') := by
 unfold pre; rw [qHf, h, Option.bind_some]; generalize qFd leaf s c a' = o; cases o <;> simp
theorem qLd {leaf : Bool} {s : ByteArray} {c a : Nat} {es : List Ent} (h : qFh leaf s a = none) : pre es (qFd leaf s (c + 1) a) = none := by
 unfold pre; rw [qHf, h]; rfl
theorem qQz (s : ByteArray) (a : Nat) (he : (rdT s a).e = 0) : a < (rdT s a).n /\ (rdT s a).n <= s.size /\ (rdT s a).t.size <= s.size := by
 unfold rdT rtOf at he ⊢; by_cases h : (rdU 0 (s.data.toList.drop a)).e = 0
 ·obtain ⟨h1, h2, h3⟩ := qKp s a h; rw [if_pos h] at he ⊢; by_cases hb : s.size < a + (rdU 0 (s.data.toList.drop a)).n + (rdU 0 (s.data.toList.drop a)).v
  ·rw [if_pos hb] at he; simp at he
  ·rw [if_neg hb]; refine ⟨by simp only; omega, by simp only; omega, ?_⟩
   simp only [ByteArray.size_extract]; omega
 ·rw [if_neg h] at he; exact absurd he h
def cn (leaf : Bool) (es : List Ent) : Nd := ⟨leaf, es.map (·.key), if leaf then es.map (·.value) else [], if leaf then [] else es.map (·.kid), none, 0, none, 0, none, 0⟩
theorem Has.cn_ents {m : Nd} {leaf : Bool} {es : List Ent} (h : Has m leaf es) : m.ents = (cn leaf es).ents := by
 unfold Nd.ents; rw [h.k]; show (List.range (es.map (·.key)).length).map (qCc m) = (List.range (es.map (·.key)).length).map (qCc (cn leaf es)); apply List.map_congr_left; intro i _; unfold qCc qBj qDr; rw [h.k, h.v, h.i, h.l]; rfl
theorem Has.cn_enc {m : Nd} {leaf : Bool} {es : List Ent} (h : Has m leaf es) : qDi m = qDi (cn leaf es) := by
 have hf : fitB m = fitB (cn leaf es) := by
  have : FitP m ↔ FitP (cn leaf es) := by
   unfold FitP qKy; rw [h.k, h.v, h.i, h.l]; exact Iff.rfl
  cases hb : fitB (cn leaf es) with
  | true => exact qJd (this.2 (qHi.1 hb))
  | false => exact qKe (fun hp => by rw [qJd (this.1 hp)] at hb; cases hb)
 unfold qDi; rw [hf, h.cn_ents, h.l]; rfl
noncomputable def qKs (leaf : Bool) (s : ByteArray) (o : Option (List Ent × Nat)) : Option (Bool × List Ent) :=
 o.bind fun q => if @decide (AllZ (s.data.toList.drop q.2)) (Classical.propDecidable _) && qDi (cn leaf q.1) then some (leaf, q.1) else none
noncomputable def qMn (leaf : Bool) (s : ByteArray) : Option (Bool × List Ent) :=
 if (rdU 0 (s.data.toList.drop 1)).e = 0 then qKs leaf s (qFd leaf s (rdU 0 (s.data.toList.drop 1)).v (1 + (rdU 0 (s.data.toList.drop 1)).n)) else none
noncomputable def decP (s : ByteArray) : Option (Bool × List Ent) :=
 match s.data.toList with
 | [] => none
 | b :: _ => if b.toNat = 1 \/ b.toNat = 2 then qMn (b.toNat == 1) s else none
theorem qMm {s : ByteArray} {b : UInt8} {r : List UInt8} {leaf : Bool} (h : s.data.toList = b :: r) (hb : b.toNat = 1 \/ b.toNat = 2) (hl : (b.toNat == 1) = leaf) : decP s = qMn leaf s := by
 unfold decP; rw [h]; simp only; rw [if_pos hb, hl]
theorem qSa {s : ByteArray} (h : ∀ b r, s.data.toList = b :: r -> ¬ (b.toNat = 1 \/ b.toNat = 2)) : decP s = none := by
 unfold decP; cases hs : s.data.toList with
 | nil => rfl
 | cons b r => simp only; rw [if_neg (h b r hs)]
theorem qPv {leaf : Bool} {s : ByteArray} {es : List Ent} {z : Nat} (h1 : AllZ (s.data.toList.drop z)) (h2 : qDi (cn leaf es) = true) : qKs leaf s (some (es, z)) = some (leaf, es) := by
 unfold qKs; rw [Option.bind_some]; simp only; rw [@decide_eq_true _ (Classical.propDecidable _) h1, h2]; rfl
theorem qRx {leaf : Bool} {s : ByteArray} {es : List Ent} {z : Nat} (h : ¬ (AllZ (s.data.toList.drop z) /\ qDi (cn leaf es) = true)) : qKs leaf s (some (es, z)) = none := by
 unfold qKs; rw [Option.bind_some]; simp only; rw [if_neg]; intro hh; rw [Bool.and_eq_true] at hh; exact h ⟨@of_decide_eq_true _ (Classical.propDecidable _) hh.1, hh.2⟩
theorem qUy (a : Nat) (x : RU) : ∃ c p e : Nat, ruV a x = .tuple #[.int .u64 (c : Int), .int .i64 (p : Int), .int .i64 (e : Int)] /\ ((e = 0 /\ x.e = 0 /\ c = x.v /\ p = a + x.n) \/ (e ≠ 0 /\ x.e = e /\ c = 0 /\ p = 0)) := by
 by_cases h : x.e = 0
 ·exact ⟨x.v, a + x.n, 0, by unfold ruV; rw [if_pos h, Int.natCast_add]; rfl, .inl ⟨rfl, h, rfl, rfl⟩⟩
 ·exact ⟨0, 0, x.e, by unfold ruV; rw [if_neg h]; rfl, .inr ⟨h, rfl, rfl, rfl⟩⟩
def qOl (w : World) (r : Option (Bool × List Ent)) (e : Ending) (w' : World) : Prop :=
 Mod (fun _ => False) w w' /\ match r with
  | some (leaf, es) => ∃ m : Nd, Has m leaf es /\ e = .returned (.tuple #[.agg #[.bool m.leaf, .slice m.ka m.keys.length m.kc, .slice m.va m.values.length m.vc, .slice m.ia m.kids.length m.ic], .int .i64 0]) /\ Gd w' m /\ (∀ b, m.bs b -> w.heap.size <= b) /\ qDi m = true /\ (∀ x ∈ es, x.Ok) /\ es.length <= 1048576
  | none => e = .returned (.tuple #[.agg #[.bool false, .slice none 0 0, .slice none 0 0, .slice none 0 0], .int .i64 40])
end
section
open Go Go.RowKit
theorem qVg : ∀ (L : List UInt8) (i : Nat), (rdU i L).e = 0 -> L.take (rdU i L).n = uvar (rdU i L).v /\ (0 < i -> 0 < (rdU i L).v)
 | [], i => fun h => by rw [qOv] at h; simp at h
 | b :: r, i => fun h => by
  have hb8 := b.toNat_lt; have ih := qVg r (i + 1); rw [rdU] at h ⊢; by_cases hc : (i = 9 /\ 1 < b.toNat) \/ (0 < i /\ b.toNat = 0) \/ 9 < i
  ·rw [if_pos hc] at h; simp at h
  ·rw [if_neg hc] at h ⊢; by_cases hlt : b.toNat < 128
   ·rw [if_pos hlt] at h ⊢; simp only; rw [qCm (by omega)]
    refine ⟨by simp, fun h0 => by omega⟩
   ·rw [if_neg hlt] at h ⊢; by_cases he : (rdU (i + 1) r).e = 0
    ·rw [if_pos he] at h ⊢; obtain ⟨h1, h2⟩ := ih he; have h3 := h2 (by omega)
     simp only; refine ⟨?_, fun _ => by omega⟩
     rw [qIj (by omega), List.take_succ_cons, h1]
     have e1 : (b.toNat - 128 + 128 * (rdU (i + 1) r).v) % 128 + 128 = b.toNat := by omega
     have e2 : (b.toNat - 128 + 128 * (rdU (i + 1) r).v) / 128 = (rdU (i + 1) r).v := by omega
     rw [e1, e2]; congr 1
     simp
    ·rw [if_neg he] at h; exact absurd h he
def seg (s : ByteArray) (a b : Nat) : List UInt8 := (s.data.toList.drop a).take (b - a)
theorem qEl {s : ByteArray} {a b c : Nat} (h1 : a <= b) (h2 : b <= c) : seg s a c = seg s a b ++ seg s b c := by
 unfold seg; rw [show c - a = (b - a) + (c - b) by omega, List.take_add, List.drop_drop, show a + (b - a) = b by omega]
theorem jHh {s : ByteArray} {a : Nat} (h : (rdU 0 (s.data.toList.drop a)).e = 0) : seg s a (a + (rdU 0 (s.data.toList.drop a)).n) = uvar (rdU 0 (s.data.toList.drop a)).v := by
 unfold seg; rw [show a + (rdU 0 (s.data.toList.drop a)).n - a = (rdU 0 (s.data.toList.drop a)).n by omega]
 exact (qVg _ 0 h).1
theorem jJh {s : ByteArray} {a : Nat} (h : (rdT s a).e = 0) : seg s a (rdT s a).n = qCw (rdT s a).t := by
 unfold rdT rtOf at h ⊢; by_cases hu : (rdU 0 (s.data.toList.drop a)).e = 0
 ·obtain ⟨h1, h2, h3⟩ := qKp s a hu; have hs := jHh hu; rw [if_pos hu] at h ⊢; generalize rdU 0 (s.data.toList.drop a) = u at *; by_cases hb : s.size < a + u.n + u.v
  ·rw [if_pos hb] at h; simp at h
  ·rw [if_neg hb]; simp only; rw [qEl (b := a + u.n) (by omega) (by omega), hs]
   unfold qCw; have e1 : (s.extract (a + u.n) (a + u.n + u.v)).size = u.v := by rw [ByteArray.size_extract]; omega
   rw [e1]; congr 1
   rw [ByteArray.data_extract, Array.toList_extract, List.extract_eq_take_drop]; rfl
 ·rw [if_neg hu] at h; exact absurd h hu
theorem jEd {leaf : Bool} {s : ByteArray} {a z : Nat} {x : Ent} (h : qFh leaf s a = some (x, z)) : a < z /\ z <= s.size /\ ((leaf = true -> x.kid = 0) /\ (leaf = false -> x.value = emp)) /\ ((leaf = false -> x.kid < 16384) -> seg s a z = entL leaf x) := by
 unfold qFh at h; by_cases hk : (rdT s a).e = 0
 ·rw [if_pos hk] at h; obtain ⟨k1, k2, k3⟩ := qQz s a hk; have ks := jJh hk; cases leaf with
  | true =>
   simp only [if_true] at h; by_cases hv : (rdT s (rdT s a).n).e = 0
   ·rw [if_pos hv] at h; obtain ⟨v1, v2, v3⟩ := qQz s _ hv; have vs := jJh hv; cases h
    refine ⟨by omega, v2, ⟨fun _ => rfl, fun h => (by cases h)⟩, fun _ => ?_⟩
    rw [qEl (b := (rdT s a).n) (by omega) (by omega), ks, vs]
    rfl
   ·rw [if_neg hv] at h; cases h
  | false =>
   simp only [Bool.false_eq_true, if_false] at h; by_cases hv : (rdU 0 (s.data.toList.drop (rdT s a).n)).e = 0
   ·rw [if_pos hv] at h; obtain ⟨v1, v2, v3⟩ := qKp s _ hv; have vs := jHh hv; cases h
    refine ⟨by omega, v1, ⟨fun h => (by cases h), fun _ => rfl⟩, fun hlt => ?_⟩
    have hlt := hlt rfl; simp only at hlt; rw [qEl (b := (rdT s a).n) (by omega) (by omega), ks, vs]
    unfold entL; simp only [Bool.false_eq_true, if_false]; congr 2
    omega
   ·rw [if_neg hv] at h; cases h
 ·rw [if_neg hk] at h; cases h
theorem qVc {leaf : Bool} {s : ByteArray} : ∀ (c a : Nat) {es : List Ent} {z : Nat}, a <= s.size -> qFd leaf s c a = some (es, z) -> a <= z /\ z <= s.size /\ es.length = c /\ qDu leaf es /\ ((∀ x ∈ es, leaf = false -> x.kid < 16384) -> seg s a z = es.flatMap (entL leaf))
 | 0, a, es, z => fun ha h => by
  unfold qFd at h; cases h
  exact ⟨Nat.le_refl _, ha, rfl, (fun x hx => by cases hx), fun _ => by unfold seg; simp⟩
 | c + 1, a, es, z => fun ha h => by
  rw [qHf] at h; cases he : qFh leaf s a with
  | none => rw [he] at h; cases h
  | some p =>
   obtain ⟨x, a2⟩ := p; rw [he, Option.bind_some] at h; obtain ⟨e1, e2, e3, e4⟩ := jEd he; cases hr : qFd leaf s c a2 with
   | none => simp only at h; rw [hr] at h; cases h
   | some q =>
    obtain ⟨es2, z2⟩ := q; simp only at h; rw [hr] at h; cases h
    obtain ⟨i1, i2, i3, i4, i5⟩ := qVc c a2 e2 hr; refine ⟨by omega, i2, by simp [i3], fun y hy => ?_, fun hk => ?_⟩
    ·rcases List.mem_cons.1 hy with h | h
     ·rw [h]; exact e3
     ·exact i4 y h
    ·rw [qEl (b := a2) (by omega) (by omega), e4 (hk x List.mem_cons_self), i5 (fun y hy => hk y (List.mem_cons_of_mem _ hy)), List.flatMap_cons]
theorem qWd {leaf : Bool} {es : List Ent} (h : qDi (cn leaf es) = true) : ∀ x ∈ es, leaf = false -> x.kid < 16384 := fun x hx hl => by
 subst hl; unfold qDi at h; rw [Bool.and_eq_true, qHi] at h; have h3 := h.1.2; unfold qKy cn at h3; simp only [Bool.false_eq_true, if_false, Bool.and_eq_true, Bool.not_eq_true'] at h3; have := List.any_eq_false.1 h3.2 x.kid (List.mem_map.2 ⟨x, hx, rfl⟩); unfold outB at this; simp at this
 omega
theorem jBw {s : ByteArray} {leaf : Bool} {es : List Ent} (h : decP s = some (leaf, es)) : qDu leaf es /\ s.data.toList.take (qAk leaf es).length = qAk leaf es /\ (qAk leaf es).length <= s.size := by
 unfold decP at h; have hlen : s.data.toList.length = s.size := rfl; cases hs : s.data.toList with
 | nil => rw [hs] at h; cases h
 | cons b r =>
  rw [hs] at h; simp only at h; by_cases hb : b.toNat = 1 \/ b.toNat = 2
  ·rw [if_pos hb] at h; unfold qMn at h; by_cases hu : (rdU 0 (s.data.toList.drop 1)).e = 0
   ·rw [if_pos hu] at h; obtain ⟨u1, u2, u3⟩ := qKp s 1 hu; have us := jHh hu; generalize rdU 0 (s.data.toList.drop 1) = u at *; cases hr : qFd (b.toNat == 1) s u.v (1 + u.n) with
    | none => rw [hr] at h; cases h
    | some q =>
     obtain ⟨es2, z⟩ := q; rw [hr] at h; by_cases hok : AllZ (s.data.toList.drop z) /\ qDi (cn (b.toNat == 1) es2) = true
     ·rw [qPv hok.1 hok.2] at h; cases h
      obtain ⟨i1, i2, i3, i4, i5⟩ := qVc _ _ u1 hr; have i6 := i5 (qWd hok.2); refine ⟨i4, ?_⟩; have e0 : seg s 0 1 = [b] := by unfold seg; rw [hs]; rfl
      have e1 : seg s 0 z = qAk (b.toNat == 1) es := by
       rw [qEl (b := 1) (by omega) (by omega), qEl (a := 1) (b := 1 + u.n) (by omega) (by omega), e0, us, i6, <- i3]
       unfold qAk; rw [List.singleton_append]; congr 1
       have hb8 := b.toNat_lt; rcases hb with h | h
       ·have : b = 1 := UInt8.toNat_inj.1 h; rw [this]; rfl
       ·have : b = 2 := UInt8.toNat_inj.1 h; rw [this]; rfl
      have e2 : seg s 0 z = s.data.toList.take z := by unfold seg; rw [List.drop_zero, Nat.sub_zero]
      have e3 : (qAk (b.toNat == 1) es).length = z := by rw [<- e1, e2, List.length_take]; omega
      rw [<- hs, e3, <- e2]; exact ⟨e1, i2⟩
     ·rw [qRx hok] at h; cases h
   ·rw [if_neg hu] at h; cases h
  ·rw [if_neg hb] at h; cases h
end
section
open Go Go.RowKit
theorem qZx {s t : ByteArray} {a : Nat} {r : List UInt8} (h : s.data.toList.drop a = qCw t ++ r) (hs : s.size < qDz) : rdT s a = ⟨t, a + (qCw t).length, 0⟩ := by
 have hlen : s.data.toList.length = s.size := rfl; have h2 : s.data.toList.drop a = uvar t.size ++ (t.data.toList ++ r) := by rw [h]; unfold qCw; rw [List.append_assoc]
 have htl : t.data.toList.length = t.size := rfl; have hll : s.size - a = (uvar t.size).length + (t.size + r.length) := by
  have := congrArg List.length h2; rw [List.length_drop, List.length_append, List.length_append, htl, hlen] at this; exact this
 have hp := qEu t.size; have hr := qVi h2 (by omega)
 have hd := qEm h2; unfold rdT rtOf; rw [hr]; simp only [if_true]; rw [if_neg (by omega)]
 have e1 : (qCw t).length = (uvar t.size).length + t.size := by unfold qCw; rw [List.length_append, htl]
 have e2 : s.extract (a + (uvar t.size).length) (a + (uvar t.size).length + t.size) = t := by
  apply ByteArray.ext; apply Array.toList_inj.1; rw [ByteArray.data_extract, Array.toList_extract, List.extract_eq_take_drop, hd, show a + (uvar t.size).length + t.size - (a + (uvar t.size).length) = t.data.toList.length by rw [htl]; omega, List.take_left]
 rw [e2, e1, Nat.add_assoc]
def Fair (leaf : Bool) (x : Ent) : Prop := (leaf = true -> x.kid = 0) /\ (leaf = false -> x.value = emp /\ 0 <= x.kid /\ x.kid < 16384)
theorem jEe {s : ByteArray} {leaf : Bool} {a : Nat} {x : Ent} {r : List UInt8} (h : s.data.toList.drop a = entL leaf x ++ r) (hs : s.size < qDz) (hf : Fair leaf x) : qFh leaf s a = some (x, a + (entL leaf x).length) := by
 cases leaf with
 | true =>
  have h1 : s.data.toList.drop a = qCw x.key ++ (qCw x.value ++ r) := by rw [h]; unfold entL; rw [List.append_assoc]; rfl
  have k := qZx h1 hs; have v := qZx (qEm h1) hs; unfold qFh; rw [k]; simp only [if_true]; rw [v]; simp only [if_true]; have e : (entL true x).length = (qCw x.key).length + (qCw x.value).length := by unfold entL; rw [List.length_append]; rfl
  rw [e, <- Nat.add_assoc, <- hf.1 rfl]
 | false =>
  obtain ⟨f1, f2, f3⟩ := hf.2 rfl; have h1 : s.data.toList.drop a = qCw x.key ++ (uvar (max 0 x.kid).toNat ++ r) := by rw [h]; unfold entL; rw [List.append_assoc]; rfl
  have k := qZx h1 hs; have t6 : qDz = 18446744073709551616 := by decide
  have v := qVi (qEm h1) (by rw [t6]; omega)
  unfold qFh; rw [k]; simp only [if_true, Bool.false_eq_true, if_false]; rw [v]; simp only [if_true]; have e : (entL false x).length = (qCw x.key).length + (uvar (max 0 x.kid).toNat).length := by unfold entL; rw [List.length_append]; rfl
  have e2 : ((min (max 0 x.kid).toNat 16384 : Nat) : Int) = x.kid := by omega
  rw [e, <- Nat.add_assoc, e2, <- f1]
theorem qVd {s : ByteArray} {leaf : Bool} (hs : s.size < qDz) : ∀ (es : List Ent) (a : Nat) (r : List UInt8), s.data.toList.drop a = es.flatMap (entL leaf) ++ r -> (∀ x ∈ es, Fair leaf x) -> qFd leaf s es.length a = some (es, a + (es.flatMap (entL leaf)).length)
 | [], a, r => fun _ _ => by simp [qFd]
 | x :: es, a, r => fun h hf => by
  rw [List.flatMap_cons, List.append_assoc] at h; have e := jEe h hs (hf x List.mem_cons_self); have i := qVd hs es _ r (qEm h) (fun y hy => hf y (List.mem_cons_of_mem _ hy))
  rw [List.length_cons, qHf, e, Option.bind_some]; simp only; rw [i]; simp [Nat.add_assoc]
theorem jIl {s : ByteArray} {leaf : Bool} {es : List Ent} {r : List UInt8} (h : s.data.toList = qAk leaf es ++ r) (hs : s.size < qDz) (hf : ∀ x ∈ es, Fair leaf x) : decP s = qKs leaf s (some (es, (qAk leaf es).length)) := by
 have hlen : s.data.toList.length = s.size := rfl; have h1 : s.data.toList = (if leaf then (1 : UInt8) else 2) :: (uvar es.length ++ (es.flatMap (entL leaf) ++ r)) := by
  rw [h]; unfold qAk; rw [List.cons_append, List.append_assoc]
 have hd : s.data.toList.drop 1 = uvar es.length ++ (es.flatMap (entL leaf) ++ r) := by rw [h1]; rfl
 have hge : es.length <= (es.flatMap (entL leaf)).length := by
  have := jDc leaf es; unfold wt at this; omega
 have hsz : es.length < qDz := by
  have := congrArg List.length h1; rw [hlen, List.length_cons, List.length_append, List.length_append] at this; omega
 have u := qVi hd hsz; have l := qVd hs es _ r (qEm hd) hf; rw [qMm h1 (by cases leaf <;> decide) (leaf := leaf) (by cases leaf <;> rfl)]
 unfold qMn; rw [u]; simp only [if_true]; rw [show 1 + (uvar es.length).length = 1 + (uvar es.length).length from rfl, l]
 congr 3
 unfold qAk; rw [List.length_cons, List.length_append]; omega
end
section
open Go Go.RowKit
theorem jFz (n : Nd) (i : Nat) (hi : i < n.keys.length) : n.ents[i]? = some (qCc n i) := by
 unfold Nd.ents; rw [List.getElem?_map, List.getElem?_range hi]; rfl
theorem qPx {α : Type} (n : Nd) (f : Ent -> α) (l : List α) (hl : l.length = n.keys.length) (h : ∀ i, i < n.keys.length -> l[i]? = some (f (qCc n i))) : l = n.ents.map f := by
 apply List.ext_getElem?; intro i; rw [List.getElem?_map]; by_cases hi : i < n.keys.length
 ·rw [jFz n i hi, h i hi]; rfl
 ·rw [List.getElem?_eq_none (by omega), List.getElem?_eq_none (by rw [qCu]; omega)]; rfl
theorem qPr {α : Type} (l : List α) (i : Nat) (hi : i < l.length) (d : α) : l[i]? = some ((l[i]?).getD d) := by
 rw [List.getElem?_eq_getElem hi]; rfl
theorem qWa {n : Nd} (h : qDi n = true) : Has n n.leaf n.ents := by
 unfold qDi at h; rw [Bool.and_eq_true, qHi] at h; have h2 := h.1.2; unfold qKy at h2; refine ⟨rfl, qPx n _ _ rfl (fun i hi => qPr _ i hi emp), ?_, ?_⟩
 ·cases hl : n.leaf with
  | true =>
   rw [hl] at h2; simp only [if_true, Bool.and_eq_true, decide_eq_true_eq] at h2 ⊢; refine qPx n _ _ h2.1.2 (fun i hi => ?_)
   show n.values[i]? = some (qBj n i); unfold qBj; rw [hl]; exact qPr _ i (by omega) emp
  | false =>
   rw [hl] at h2; simp only [Bool.false_eq_true, if_false, Bool.and_eq_true, decide_eq_true_eq] at h2 ⊢; exact List.eq_nil_of_length_eq_zero h2.1.1.1
 ·cases hl : n.leaf with
  | true =>
   rw [hl] at h2; simp only [if_true, Bool.and_eq_true, decide_eq_true_eq] at h2 ⊢; exact List.eq_nil_of_length_eq_zero h2.1.1
  | false =>
   rw [hl] at h2; simp only [Bool.false_eq_true, if_false, Bool.and_eq_true, decide_eq_true_eq] at h2 ⊢; refine qPx n _ _ h2.1.1.2 (fun i hi => ?_)
   show n.kids[i]? = some (qDr n i); unfold qDr; rw [hl]; exact qPr _ i (by omega) 0
theorem jBp {n : Nd} (h : qDi n = true) : ∀ x ∈ n.ents, Fair n.leaf x := fun x hx => by
 obtain ⟨c1, c2⟩ := qXz n x hx; refine ⟨c1, fun hl => ⟨c2 hl, ?_⟩⟩
 have hs := qWa h; unfold qDi at h; rw [Bool.and_eq_true, qHi] at h; have h2 := h.1.2; unfold qKy at h2; rw [hl] at h2; simp only [Bool.false_eq_true, if_false, Bool.and_eq_true, Bool.not_eq_true'] at h2; have hi := hs.i; rw [hl] at hi; simp only [Bool.false_eq_true, if_false] at hi; have := List.any_eq_false.1 h2.2 x.kid (by rw [hi]; exact List.mem_map.2 ⟨x, hx, rfl⟩)
 unfold outB at this; simp at this
 omega
theorem jIk {n : Nd} {s : ByteArray} {r : List UInt8} (h : qDi n = true) (hs : s.data.toList = qAk n.leaf n.ents ++ r) (hz : s.size < qDz) (hr : AllZ r) : decP s = some (n.leaf, n.ents) := by
 rw [jIl hs hz (jBp h)]; refine qPv ?_ ?_
 ·rw [hs, List.drop_left]; exact hr
 ·rw [<- (qWa h).cn_enc]; exact h
end
end Go.Proofs.YtgbcibdfeeiilaaGreatDoor
