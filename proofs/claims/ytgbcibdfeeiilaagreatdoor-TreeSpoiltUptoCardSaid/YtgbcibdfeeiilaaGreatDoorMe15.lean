/- merged: Push DecL Round BackL BackF -/
import Derived.Test.YtgbcibdfeeiilaaGreatDoorMe06
import Derived.Test.YtgbcibdfeeiilaaGreatDoorMe08
import Derived.Test.YtgbcibdfeeiilaaGreatDoorMe10
import Derived.Test.YtgbcibdfeeiilaaGreatDoorMe14
import Derived.Test.YtgbcibdfeeiilaaGreatDoorMe03
namespace Go.Proofs.YtgbcibdfeeiilaaGreatDoor
section
open Go Go.RowKit
def Bx (w : World) (b : Nat) (m : Nd) : Prop := w.heap[b]? = some (.cells #[.bool m.leaf, .slice m.ka m.keys.length m.kc, .slice m.va m.values.length m.vc, .slice m.ia m.kids.length m.ic] 116 (0, 0))
theorem Bx.cells {w : World} {b : Nat} {m : Nd} (h : Bx w b m) : w.cell? ⟨b, 0, none⟩ = some (.bool m.leaf) /\ w.cell? ⟨b, 1, none⟩ = some (.slice m.ka m.keys.length m.kc) /\ w.cell? ⟨b, 2, none⟩ = some (.slice m.va m.values.length m.vc) /\ w.cell? ⟨b, 3, none⟩ = some (.slice m.ia m.kids.length m.ic) := cl4 h
theorem Bx.lt {w : World} {b : Nat} {m : Nd} (h : Bx w b m) : b < w.heap.size := lth h
theorem Bx.mod {w w' : World} {b : Nat} {m : Nd} {S : Nat -> Prop} (h : Bx w b m) (hm : Mod S w w') (hs : ¬ S b) : Bx w' b m := (hm.block b h.lt hs).trans h
structure Hold (w : World) (L B : Nat) (m : Nd) : Prop where
 box : Bx w B m
 gd : Gd w m
 bs : ∀ b, m.bs b -> L <= b /\ b ≠ B
 lb : L <= B
theorem Hold.ext {w w' : World} {L B : Nat} {m : Nd} (h : Hold w L B m) (hm : Mod (fun _ => False) w w') : Hold w' L B m :=
 ⟨h.box.mod hm (fun h => h), h.gd.ext hm (fun _ _ h => h), h.bs, h.lb⟩
theorem Hold.key {w w5 : World} {L B : Nat} {m : Nd} {x : ByteArray} {a' : Option Addr} {c' : Nat} (h : Hold w L B m)
  (ho : Own w5 9 1 a' (m.keys.length + 1) c' (m.keys.flatMap scs ++ [.string x])) (hm : Mod (blk m.ka) (w.alloc (.cells #[.string x] 9)) w5) (hb : ∀ k, blk a' k -> blk m.ka k \/ (w.alloc (.cells #[.string x] 9)).heap.size <= k) :
  Hold (w5.setCell ⟨B, 1, none⟩ (.slice a' (m.keys.length + 1) c')) L B { m with keys := m.keys ++ [x], ka := a', kc := c' } /\ Mod (fun k => L <= k) w (w5.setCell ⟨B, 1, none⟩ (.slice a' (m.keys.length + 1) c')) := by
 have hlen : (m.keys ++ [x]).length = m.keys.length + 1 := by simp
 have hsz : (w.alloc (.cells #[.string x] 9)).heap.size = w.heap.size + 1 := by simp
 have hlB := h.box.lt; have hlb := h.lb; have M0 : Mod (blk m.ka) w w5 := ((Mod.refl _ w).alloc _).trans hm; have hxB : ¬ blk m.ka B := fun hk => (h.bs B (.inl hk)).2 rfl
 have hbx5 : Bx w5 B m := h.box.mod M0 hxB; have hb' : ∀ k, blk a' k -> L <= k /\ k ≠ B /\ (blk m.ka k \/ w.heap.size <= k) := fun k hk => by
  rcases hb k hk with hk | hk
  ·have := h.bs k (.inl hk); exact ⟨this.1, this.2, .inl hk⟩
  ·exact ⟨by omega, by omega, .inr (by omega)⟩
 have MB : Mod (fun k => k = B) w5 (w5.setCell ⟨B, 1, none⟩ (.slice a' (m.keys.length + 1) c')) := Mod.setCell (S := fun k => k = B) (Mod.refl _ _) (fun _ => rfl) _
 have M6 : Mod (fun k => L <= k) w (w5.setCell ⟨B, 1, none⟩ (.slice a' (m.keys.length + 1) c')) := (M0.mono (T := fun k => L <= k) (fun k _ hk => (h.bs k (.inl hk)).1)).then MB (fun i _ e => by subst e; exact hlb)
 refine ⟨⟨?_, ⟨?_, ?_, ?_, ?_, ?_, ?_⟩, (fun b hk => by rcases hk with hk | hk | hk; exact ⟨(hb' b hk).1, (hb' b hk).2.1⟩; exact h.bs b (.inr (.inl hk)); exact h.bs b (.inr (.inr hk))), hlb⟩, M6⟩
 ·have := (set4 hbx5 (.slice a' (m.keys.length + 1) c')).2.1; show (w5.setCell ⟨B, 1, none⟩ (.slice a' (m.keys.length + 1) c')).heap[B]? = _; rw [this]; simp only [hlen]
 ·exact (by have := ho.mod MB (fun k hk e => (hb' k hk).2.1 e); rw [<- hlen] at this; simpa using this)
 ·exact ((h.gd.v.mod M0 (fun k hk hk2 => h.gd.kv k hk2 hk)).mod MB (fun k hk e => (h.bs k (.inr (.inl hk))).2 e))
 ·exact ((h.gd.i.mod M0 (fun k hk hk2 => h.gd.ki k hk2 hk)).mod MB (fun k hk e => (h.bs k (.inr (.inr hk))).2 e))
 ·exact (fun b h1 h2 => by rcases (hb' b h1).2.2 with h3 | h3; exact h.gd.kv b h3 h2; have := h.gd.v.lt b h2; omega)
 ·exact (fun b h1 h2 => by rcases (hb' b h1).2.2 with h3 | h3; exact h.gd.ki b h3 h2; have := h.gd.i.lt b h2; omega)
 ·exact (h.gd.vi)
theorem Hold.value {w w5 : World} {L B : Nat} {m : Nd} {x : ByteArray} {a' : Option Addr} {c' : Nat} (h : Hold w L B m)
  (ho : Own w5 9 1 a' (m.values.length + 1) c' (m.values.flatMap scs ++ [.string x])) (hm : Mod (blk m.va) (w.alloc (.cells #[.string x] 9)) w5) (hb : ∀ k, blk a' k -> blk m.va k \/ (w.alloc (.cells #[.string x] 9)).heap.size <= k) :
  Hold (w5.setCell ⟨B, 2, none⟩ (.slice a' (m.values.length + 1) c')) L B { m with values := m.values ++ [x], va := a', vc := c' } /\ Mod (fun k => L <= k) w (w5.setCell ⟨B, 2, none⟩ (.slice a' (m.values.length + 1) c')) := by
 have hlen : (m.values ++ [x]).length = m.values.length + 1 := by simp
 have hsz : (w.alloc (.cells #[.string x] 9)).heap.size = w.heap.size + 1 := by simp
 have hlB := h.box.lt; have hlb := h.lb; have M0 : Mod (blk m.va) w w5 := ((Mod.refl _ w).alloc _).trans hm; have hxB : ¬ blk m.va B := fun hk => (h.bs B (.inr (.inl hk))).2 rfl
 have hbx5 : Bx w5 B m := h.box.mod M0 hxB; have hb' : ∀ k, blk a' k -> L <= k /\ k ≠ B /\ (blk m.va k \/ w.heap.size <= k) := fun k hk => by
  rcases hb k hk with hk | hk
  ·have := h.bs k (.inr (.inl hk)); exact ⟨this.1, this.2, .inl hk⟩
  ·exact ⟨by omega, by omega, .inr (by omega)⟩
 have MB : Mod (fun k => k = B) w5 (w5.setCell ⟨B, 2, none⟩ (.slice a' (m.values.length + 1) c')) := Mod.setCell (S := fun k => k = B) (Mod.refl _ _) (fun _ => rfl) _
 have M6 : Mod (fun k => L <= k) w (w5.setCell ⟨B, 2, none⟩ (.slice a' (m.values.length + 1) c')) := (M0.mono (T := fun k => L <= k) (fun k _ hk => (h.bs k (.inr (.inl hk))).1)).then MB (fun i _ e => by subst e; exact hlb)
 refine ⟨⟨?_, ⟨?_, ?_, ?_, ?_, ?_, ?_⟩, (fun b hk => by rcases hk with hk | hk | hk; exact h.bs b (.inl hk); exact ⟨(hb' b hk).1, (hb' b hk).2.1⟩; exact h.bs b (.inr (.inr hk))), hlb⟩, M6⟩
 ·have := (set4 hbx5 (.slice a' (m.values.length + 1) c')).2.2.1; show (w5.setCell ⟨B, 2, none⟩ (.slice a' (m.values.length + 1) c')).heap[B]? = _; rw [this]; simp only [hlen]
 ·exact ((h.gd.k.mod M0 (fun k hk hk2 => h.gd.kv k hk hk2)).mod MB (fun k hk e => (h.bs k (.inl hk)).2 e))
 ·exact (by have := ho.mod MB (fun k hk e => (hb' k hk).2.1 e); rw [<- hlen] at this; simpa using this)
 ·exact ((h.gd.i.mod M0 (fun k hk hk2 => h.gd.vi k hk2 hk)).mod MB (fun k hk e => (h.bs k (.inr (.inr hk))).2 e))
 ·exact (fun b h1 h2 => by rcases (hb' b h2).2.2 with h3 | h3; exact h.gd.kv b h1 h3; have := h.gd.k.lt b h1; omega)
 ·exact (h.gd.ki)
 ·exact (fun b h1 h2 => by rcases (hb' b h1).2.2 with h3 | h3; exact h.gd.vi b h3 h2; have := h.gd.i.lt b h2; omega)
theorem Hold.kid {w w5 : World} {L B : Nat} {m : Nd} {x : Int} {a' : Option Addr} {c' : Nat} (h : Hold w L B m)
  (ho : Own w5 3 1 a' (m.kids.length + 1) c' (m.kids.flatMap ics ++ [.int .i64 x])) (hm : Mod (blk m.ia) (w.alloc (.cells #[.int .i64 x] 3)) w5) (hb : ∀ k, blk a' k -> blk m.ia k \/ (w.alloc (.cells #[.int .i64 x] 3)).heap.size <= k) :
  Hold (w5.setCell ⟨B, 3, none⟩ (.slice a' (m.kids.length + 1) c')) L B { m with kids := m.kids ++ [x], ia := a', ic := c' } /\ Mod (fun k => L <= k) w (w5.setCell ⟨B, 3, none⟩ (.slice a' (m.kids.length + 1) c')) := by
 have hlen : (m.kids ++ [x]).length = m.kids.length + 1 := by simp
 have hsz : (w.alloc (.cells #[.int .i64 x] 3)).heap.size = w.heap.size + 1 := by simp
 have hlB := h.box.lt; have hlb := h.lb; have M0 : Mod (blk m.ia) w w5 := ((Mod.refl _ w).alloc _).trans hm; have hxB : ¬ blk m.ia B := fun hk => (h.bs B (.inr (.inr hk))).2 rfl
 have hbx5 : Bx w5 B m := h.box.mod M0 hxB; have hb' : ∀ k, blk a' k -> L <= k /\ k ≠ B /\ (blk m.ia k \/ w.heap.size <= k) := fun k hk => by
  rcases hb k hk with hk | hk
  ·have := h.bs k (.inr (.inr hk)); exact ⟨this.1, this.2, .inl hk⟩
  ·exact ⟨by omega, by omega, .inr (by omega)⟩
 have MB : Mod (fun k => k = B) w5 (w5.setCell ⟨B, 3, none⟩ (.slice a' (m.kids.length + 1) c')) := Mod.setCell (S := fun k => k = B) (Mod.refl _ _) (fun _ => rfl) _
 have M6 : Mod (fun k => L <= k) w (w5.setCell ⟨B, 3, none⟩ (.slice a' (m.kids.length + 1) c')) := (M0.mono (T := fun k => L <= k) (fun k _ hk => (h.bs k (.inr (.inr hk))).1)).then MB (fun i _ e => by subst e; exact hlb)
 refine ⟨⟨?_, ⟨?_, ?_, ?_, ?_, ?_, ?_⟩, (fun b hk => by rcases hk with hk | hk | hk; exact h.bs b (.inl hk); exact h.bs b (.inr (.inl hk)); exact ⟨(hb' b hk).1, (hb' b hk).2.1⟩), hlb⟩, M6⟩
 ·have := (set4 hbx5 (.slice a' (m.kids.length + 1) c')).2.2.2; show (w5.setCell ⟨B, 3, none⟩ (.slice a' (m.kids.length + 1) c')).heap[B]? = _; rw [this]; simp only [hlen]
 ·exact ((h.gd.k.mod M0 (fun k hk hk2 => h.gd.ki k hk hk2)).mod MB (fun k hk e => (h.bs k (.inl hk)).2 e))
 ·exact ((h.gd.v.mod M0 (fun k hk hk2 => h.gd.vi k hk hk2)).mod MB (fun k hk e => (h.bs k (.inr (.inl hk))).2 e))
 ·exact (by have := ho.mod MB (fun k hk e => (hb' k hk).2.1 e); rw [<- hlen] at this; simpa using this)
 ·exact (h.gd.kv)
 ·exact (fun b h1 h2 => by rcases (hb' b h2).2.2 with h3 | h3; exact h.gd.ki b h1 h3; have := h.gd.k.lt b h1; omega)
 ·exact (fun b h1 h2 => by rcases (hb' b h2).2.2 with h3 | h3; exact h.gd.vi b h1 h3; have := h.gd.v.lt b h1; omega)
end
section
open Go Go.RowKit
def qFm (leaf : Bool) (s : ByteArray) (a : Nat) : Option (Ent × Nat) :=
 if (rdT s a).e = 0 then
  (if leaf then (if (rdT s (rdT s a).n).e = 0 then some (⟨(rdT s a).t, (rdT s (rdT s a).n).t, 0⟩, (rdT s (rdT s a).n).n) else none)
   else (if (rdU 0 (s.data.toList.drop (rdT s a).n)).e = 0 then some (⟨(rdT s a).t, emp, ((min (rdU 0 (s.data.toList.drop (rdT s a).n)).v 16384 : Nat) : Int)⟩, (rdT s a).n + (rdU 0 (s.data.toList.drop (rdT s a).n)).n) else none))
 else none
def qFh (leaf : Bool) (s : ByteArray) : Nat -> Nat -> Option (List Ent × Nat)
 | 0, a => some ([], a)
 | c + 1, a => (qFm leaf s a).bind fun p => (qFh leaf s c p.2).map fun q => (p.1 :: q.1, q.2)
theorem qHh (leaf : Bool) (s : ByteArray) (c a : Nat) : qFh leaf s (c + 1) a = (qFm leaf s a).bind fun p => (qFh leaf s c p.2).map fun q => (p.1 :: q.1, q.2) := rfl
def pre (es : List Ent) (o : Option (List Ent × Nat)) : Option (List Ent × Nat) := o.map fun q => (es ++ q.1, q.2)
theorem qZl (o : Option (List Ent × Nat)) : pre [] o = o := by unfold pre; cases o <;> rfl
theorem qVd {leaf : Bool} {s : ByteArray} {c a a' : Nat} {es : List Ent} {x : Ent} (h : qFm leaf s a = some (x, a')) : pre es (qFh leaf s (c + 1) a) = pre (es ++ [x]) (qFh leaf s c a') := by
 unfold pre; rw [qHh, h, Option.bind_some]; generalize qFh leaf s c a' = o; cases o <;> simp
theorem qLf {leaf : Bool} {s : ByteArray} {c a : Nat} {es : List Ent} (h : qFm leaf s a = none) : pre es (qFh leaf s (c + 1) a) = none := by
 unfold pre; rw [qHh, h]; rfl
theorem qRe (s : ByteArray) (a : Nat) (he : (rdT s a).e = 0) : a < (rdT s a).n /\ (rdT s a).n <= s.size /\ (rdT s a).t.size <= s.size := by
 unfold rdT rtOf at he ⊢; by_cases h : (rdU 0 (s.data.toList.drop a)).e = 0
 ·obtain ⟨h1, h2, h3⟩ := qKq s a h; rw [if_pos h] at he ⊢; by_cases hb : s.size < a + (rdU 0 (s.data.toList.drop a)).n + (rdU 0 (s.data.toList.drop a)).v
  ·rw [if_pos hb] at he; simp at he
  ·rw [if_neg hb]; refine ⟨by simp only; omega, by simp only; omega, ?_⟩
   simp only [ByteArray.size_extract]; omega
 ·rw [if_neg h] at he; exact absurd he h
def cn (leaf : Bool) (es : List Ent) : Nd := ⟨leaf, es.map (·.key), if leaf then es.map (·.value) else [], if leaf then [] else es.map (·.kid), none, 0, none, 0, none, 0⟩
theorem Has.cn_ents {m : Nd} {leaf : Bool} {es : List Ent} (h : Has m leaf es) : m.ents = (cn leaf es).ents := by
 unfold Nd.ents; rw [h.k]; show (List.range (es.map (·.key)).length).map (qCf m) = (List.range (es.map (·.key)).length).map (qCf (cn leaf es)); apply List.map_congr_left; intro i _; unfold qCf qBl qDw; rw [h.k, h.v, h.i, h.l]; rfl
theorem Has.cn_enc {m : Nd} {leaf : Bool} {es : List Ent} (h : Has m leaf es) : qDi m = qDi (cn leaf es) := by
 have hf : fitB m = fitB (cn leaf es) := by
  have : FitP m ↔ FitP (cn leaf es) := by
   unfold FitP qKy; rw [h.k, h.v, h.i, h.l]; exact Iff.rfl
  cases hb : fitB (cn leaf es) with
  | true => exact qJi (this.2 (qHl.1 hb))
  | false => exact qKh (fun hp => by rw [qJi (this.1 hp)] at hb; cases hb)
 unfold qDi; rw [hf, h.cn_ents, h.l]; rfl
noncomputable def qKt (leaf : Bool) (s : ByteArray) (o : Option (List Ent × Nat)) : Option (Bool × List Ent) :=
 o.bind fun q => if @decide (AllZ (s.data.toList.drop q.2)) (Classical.propDecidable _) && qDi (cn leaf q.1) then some (leaf, q.1) else none
noncomputable def qMu (leaf : Bool) (s : ByteArray) : Option (Bool × List Ent) :=
 if (rdU 0 (s.data.toList.drop 1)).e = 0 then qKt leaf s (qFh leaf s (rdU 0 (s.data.toList.drop 1)).v (1 + (rdU 0 (s.data.toList.drop 1)).n)) else none
noncomputable def decP (s : ByteArray) : Option (Bool × List Ent) :=
 match s.data.toList with
 | [] => none
 | b :: _ => if b.toNat = 1 \/ b.toNat = 2 then qMu (b.toNat == 1) s else none
theorem qMt {s : ByteArray} {b : UInt8} {r : List UInt8} {leaf : Bool} (h : s.data.toList = b :: r) (hb : b.toNat = 1 \/ b.toNat = 2) (hl : (b.toNat == 1) = leaf) : decP s = qMu leaf s := by
 unfold decP; rw [h]; simp only; rw [if_pos hb, hl]
theorem qSd {s : ByteArray} (h : ∀ b r, s.data.toList = b :: r -> ¬ (b.toNat = 1 \/ b.toNat = 2)) : decP s = none := by
 unfold decP; cases hs : s.data.toList with
 | nil => rfl
 | cons b r => simp only; rw [if_neg (h b r hs)]
theorem qQb {leaf : Bool} {s : ByteArray} {es : List Ent} {z : Nat} (h1 : AllZ (s.data.toList.drop z)) (h2 : qDi (cn leaf es) = true) : qKt leaf s (some (es, z)) = some (leaf, es) := by
 unfold qKt; rw [Option.bind_some]; simp only; rw [@decide_eq_true _ (Classical.propDecidable _) h1, h2]; rfl
theorem qSa {leaf : Bool} {s : ByteArray} {es : List Ent} {z : Nat} (h : ¬ (AllZ (s.data.toList.drop z) /\ qDi (cn leaf es) = true)) : qKt leaf s (some (es, z)) = none := by
 unfold qKt; rw [Option.bind_some]; simp only; rw [if_neg]; intro hh; rw [Bool.and_eq_true] at hh; exact h ⟨@of_decide_eq_true _ (Classical.propDecidable _) hh.1, hh.2⟩
theorem qUs (a : Nat) (x : RU) : ∃ c p e : Nat, ruV a x = .tuple #[.int .u64 (c : Int), .int .i64 (p : Int), .int .i64 (e : Int)] /\ ((e = 0 /\ x.e = 0 /\ c = x.v /\ p = a + x.n) \/ (e ≠ 0 /\ x.e = e /\ c = 0 /\ p = 0)) := by
 by_cases h : x.e = 0
 ·exact ⟨x.v, a + x.n, 0, by unfold ruV; rw [if_pos h, Int.natCast_add]; rfl, .inl ⟨rfl, h, rfl, rfl⟩⟩
 ·exact ⟨0, 0, x.e, by unfold ruV; rw [if_neg h]; rfl, .inr ⟨h, rfl, rfl, rfl⟩⟩
def qOt (w : World) (r : Option (Bool × List Ent)) (e : Ending) (w' : World) : Prop :=
 Mod (fun _ => False) w w' /\ match r with
  | some (leaf, es) => ∃ m : Nd, Has m leaf es /\ e = .returned (.tuple #[.agg #[.bool m.leaf, .slice m.ka m.keys.length m.kc, .slice m.va m.values.length m.vc, .slice m.ia m.kids.length m.ic], .int .i64 0]) /\ Gd w' m /\ (∀ b, m.bs b -> w.heap.size <= b) /\ qDi m = true /\ (∀ x ∈ es, x.Ok) /\ es.length <= 1048576
  | none => e = .returned (.tuple #[.agg #[.bool false, .slice none 0 0, .slice none 0 0, .slice none 0 0], .int .i64 40])
end
section
open Go Go.RowKit
theorem qUz : ∀ (L : List UInt8) (i : Nat), (rdU i L).e = 0 -> L.take (rdU i L).n = uvar (rdU i L).v /\ (0 < i -> 0 < (rdU i L).v)
 | [], i => fun h => by rw [qPe] at h; simp at h
 | b :: r, i => fun h => by
  have hb8 := b.toNat_lt; have ih := qUz r (i + 1); rw [rdU] at h ⊢; by_cases hc : (i = 9 /\ 1 < b.toNat) \/ (0 < i /\ b.toNat = 0) \/ 9 < i
  ·rw [if_pos hc] at h; simp at h
  ·rw [if_neg hc] at h ⊢; by_cases hlt : b.toNat < 128
   ·rw [if_pos hlt] at h ⊢; simp only; rw [qCo (by omega)]
    refine ⟨by simp, fun h0 => by omega⟩
   ·rw [if_neg hlt] at h ⊢; by_cases he : (rdU (i + 1) r).e = 0
    ·rw [if_pos he] at h ⊢; obtain ⟨h1, h2⟩ := ih he; have h3 := h2 (by omega)
     simp only; refine ⟨?_, fun _ => by omega⟩
     rw [qIp (by omega), List.take_succ_cons, h1]
     have e1 : (b.toNat - 128 + 128 * (rdU (i + 1) r).v) % 128 + 128 = b.toNat := by omega
     have e2 : (b.toNat - 128 + 128 * (rdU (i + 1) r).v) / 128 = (rdU (i + 1) r).v := by omega
     rw [e1, e2]; congr 1
     simp
    ·rw [if_neg he] at h; exact absurd h he
def seg (s : ByteArray) (a b : Nat) : List UInt8 := (s.data.toList.drop a).take (b - a)
theorem qEp {s : ByteArray} {a b c : Nat} (h1 : a <= b) (h2 : b <= c) : seg s a c = seg s a b ++ seg s b c := by
 unfold seg; rw [show c - a = (b - a) + (c - b) by omega, List.take_add, List.drop_drop, show a + (b - a) = b by omega]
theorem jHa {s : ByteArray} {a : Nat} (h : (rdU 0 (s.data.toList.drop a)).e = 0) : seg s a (a + (rdU 0 (s.data.toList.drop a)).n) = uvar (rdU 0 (s.data.toList.drop a)).v := by
 unfold seg; rw [show a + (rdU 0 (s.data.toList.drop a)).n - a = (rdU 0 (s.data.toList.drop a)).n by omega]
 exact (qUz _ 0 h).1
theorem jIy {s : ByteArray} {a : Nat} (h : (rdT s a).e = 0) : seg s a (rdT s a).n = qCv (rdT s a).t := by
 unfold rdT rtOf at h ⊢; by_cases hu : (rdU 0 (s.data.toList.drop a)).e = 0
 ·obtain ⟨h1, h2, h3⟩ := qKq s a hu; have hs := jHa hu; rw [if_pos hu] at h ⊢; generalize rdU 0 (s.data.toList.drop a) = u at *; by_cases hb : s.size < a + u.n + u.v
  ·rw [if_pos hb] at h; simp at h
  ·rw [if_neg hb]; simp only; rw [qEp (b := a + u.n) (by omega) (by omega), hs]
   unfold qCv; have e1 : (s.extract (a + u.n) (a + u.n + u.v)).size = u.v := by rw [ByteArray.size_extract]; omega
   rw [e1]; congr 1
   rw [ByteArray.data_extract, Array.toList_extract, List.extract_eq_take_drop]; rfl
 ·rw [if_neg hu] at h; exact absurd h hu
theorem jDt {leaf : Bool} {s : ByteArray} {a z : Nat} {x : Ent} (h : qFm leaf s a = some (x, z)) : a < z /\ z <= s.size /\ ((leaf = true -> x.kid = 0) /\ (leaf = false -> x.value = emp)) /\ ((leaf = false -> x.kid < 16384) -> seg s a z = entL leaf x) := by
 unfold qFm at h; by_cases hk : (rdT s a).e = 0
 ·rw [if_pos hk] at h; obtain ⟨k1, k2, k3⟩ := qRe s a hk; have ks := jIy hk; cases leaf with
  | true =>
   simp only [if_true] at h; by_cases hv : (rdT s (rdT s a).n).e = 0
   ·rw [if_pos hv] at h; obtain ⟨v1, v2, v3⟩ := qRe s _ hv; have vs := jIy hv; cases h
    refine ⟨by omega, v2, ⟨fun _ => rfl, fun h => (by cases h)⟩, fun _ => ?_⟩
    rw [qEp (b := (rdT s a).n) (by omega) (by omega), ks, vs]
    rfl
   ·rw [if_neg hv] at h; cases h
  | false =>
   simp only [Bool.false_eq_true, if_false] at h; by_cases hv : (rdU 0 (s.data.toList.drop (rdT s a).n)).e = 0
   ·rw [if_pos hv] at h; obtain ⟨v1, v2, v3⟩ := qKq s _ hv; have vs := jHa hv; cases h
    refine ⟨by omega, v1, ⟨fun h => (by cases h), fun _ => rfl⟩, fun hlt => ?_⟩
    have hlt := hlt rfl; simp only at hlt; rw [qEp (b := (rdT s a).n) (by omega) (by omega), ks, vs]
    unfold entL; simp only [Bool.false_eq_true, if_false]; congr 2
    omega
   ·rw [if_neg hv] at h; cases h
 ·rw [if_neg hk] at h; cases h
theorem qUw {leaf : Bool} {s : ByteArray} : ∀ (c a : Nat) {es : List Ent} {z : Nat}, a <= s.size -> qFh leaf s c a = some (es, z) -> a <= z /\ z <= s.size /\ es.length = c /\ qEb leaf es /\ ((∀ x ∈ es, leaf = false -> x.kid < 16384) -> seg s a z = es.flatMap (entL leaf))
 | 0, a, es, z => fun ha h => by
  unfold qFh at h; cases h
  exact ⟨Nat.le_refl _, ha, rfl, (fun x hx => by cases hx), fun _ => by unfold seg; simp⟩
 | c + 1, a, es, z => fun ha h => by
  rw [qHh] at h; cases he : qFm leaf s a with
  | none => rw [he] at h; cases h
  | some p =>
   obtain ⟨x, a2⟩ := p; rw [he, Option.bind_some] at h; obtain ⟨e1, e2, e3, e4⟩ := jDt he; cases hr : qFh leaf s c a2 with
   | none => simp only at h; rw [hr] at h; cases h
   | some q =>
    obtain ⟨es2, z2⟩ := q; simp only at h; rw [hr] at h; cases h
    obtain ⟨i1, i2, i3, i4, i5⟩ := qUw c a2 e2 hr; refine ⟨by omega, i2, by simp [i3], fun y hy => ?_, fun hk => ?_⟩
    ·rcases List.mem_cons.1 hy with h | h
     ·rw [h]; exact e3
     ·exact i4 y h
    ·rw [qEp (b := a2) (by omega) (by omega), e4 (hk x List.mem_cons_self), i5 (fun y hy => hk y (List.mem_cons_of_mem _ hy)), List.flatMap_cons]
theorem qVu {leaf : Bool} {es : List Ent} (h : qDi (cn leaf es) = true) : ∀ x ∈ es, leaf = false -> x.kid < 16384 := fun x hx hl => by
 subst hl; unfold qDi at h; rw [Bool.and_eq_true, qHl] at h; have h3 := h.1.2; unfold qKy cn at h3; simp only [Bool.false_eq_true, if_false, Bool.and_eq_true, Bool.not_eq_true'] at h3; have := List.any_eq_false.1 h3.2 x.kid (List.mem_map.2 ⟨x, hx, rfl⟩); unfold outB at this; simp at this
 omega
theorem qSc {s : ByteArray} {leaf : Bool} {es : List Ent} (h : decP s = some (leaf, es)) : qEb leaf es /\ s.data.toList.take (qAg leaf es).length = qAg leaf es /\ (qAg leaf es).length <= s.size := by
 unfold decP at h; have hlen : s.data.toList.length = s.size := rfl; cases hs : s.data.toList with
 | nil => rw [hs] at h; cases h
 | cons b r =>
  rw [hs] at h; simp only at h; by_cases hb : b.toNat = 1 \/ b.toNat = 2
  ·rw [if_pos hb] at h; unfold qMu at h; by_cases hu : (rdU 0 (s.data.toList.drop 1)).e = 0
   ·rw [if_pos hu] at h; obtain ⟨u1, u2, u3⟩ := qKq s 1 hu; have us := jHa hu; generalize rdU 0 (s.data.toList.drop 1) = u at *; cases hr : qFh (b.toNat == 1) s u.v (1 + u.n) with
    | none => rw [hr] at h; cases h
    | some q =>
     obtain ⟨es2, z⟩ := q; rw [hr] at h; by_cases hok : AllZ (s.data.toList.drop z) /\ qDi (cn (b.toNat == 1) es2) = true
     ·rw [qQb hok.1 hok.2] at h; cases h
      obtain ⟨i1, i2, i3, i4, i5⟩ := qUw _ _ u1 hr; have i6 := i5 (qVu hok.2); refine ⟨i4, ?_⟩; have e0 : seg s 0 1 = [b] := by unfold seg; rw [hs]; rfl
      have e1 : seg s 0 z = qAg (b.toNat == 1) es := by
       rw [qEp (b := 1) (by omega) (by omega), qEp (a := 1) (b := 1 + u.n) (by omega) (by omega), e0, us, i6, <- i3]
       unfold qAg; rw [List.singleton_append]; congr 1
       have hb8 := b.toNat_lt; rcases hb with h | h
       ·have : b = 1 := UInt8.toNat_inj.1 h; rw [this]; rfl
       ·have : b = 2 := UInt8.toNat_inj.1 h; rw [this]; rfl
      have e2 : seg s 0 z = s.data.toList.take z := by unfold seg; rw [List.drop_zero, Nat.sub_zero]
      have e3 : (qAg (b.toNat == 1) es).length = z := by rw [<- e1, e2, List.length_take]; omega
      rw [<- hs, e3, <- e2]; exact ⟨e1, i2⟩
     ·rw [qSa hok] at h; cases h
   ·rw [if_neg hu] at h; cases h
  ·rw [if_neg hb] at h; cases h
end
section
open Go Go.RowKit
theorem qZj {s t : ByteArray} {a : Nat} {r : List UInt8} (h : s.data.toList.drop a = qCv t ++ r) (hs : s.size < qEg) : rdT s a = ⟨t, a + (qCv t).length, 0⟩ := by
 have hlen : s.data.toList.length = s.size := rfl; have h2 : s.data.toList.drop a = uvar t.size ++ (t.data.toList ++ r) := by rw [h]; unfold qCv; rw [List.append_assoc]
 have htl : t.data.toList.length = t.size := rfl; have hll : s.size - a = (uvar t.size).length + (t.size + r.length) := by
  have := congrArg List.length h2; rw [List.length_drop, List.length_append, List.length_append, htl, hlen] at this; exact this
 have hp := qEy t.size; have hr := qVb h2 (by omega)
 have hd := qEq h2; unfold rdT rtOf; rw [hr]; simp only [if_true]; rw [if_neg (by omega)]
 have e1 : (qCv t).length = (uvar t.size).length + t.size := by unfold qCv; rw [List.length_append, htl]
 have e2 : s.extract (a + (uvar t.size).length) (a + (uvar t.size).length + t.size) = t := by
  apply ByteArray.ext; apply Array.toList_inj.1; rw [ByteArray.data_extract, Array.toList_extract, List.extract_eq_take_drop, hd, show a + (uvar t.size).length + t.size - (a + (uvar t.size).length) = t.data.toList.length by rw [htl]; omega, List.take_left]
 rw [e2, e1, Nat.add_assoc]
def Fair (leaf : Bool) (x : Ent) : Prop := (leaf = true -> x.kid = 0) /\ (leaf = false -> x.value = emp /\ 0 <= x.kid /\ x.kid < 16384)
theorem jDu {s : ByteArray} {leaf : Bool} {a : Nat} {x : Ent} {r : List UInt8} (h : s.data.toList.drop a = entL leaf x ++ r) (hs : s.size < qEg) (hf : Fair leaf x) : qFm leaf s a = some (x, a + (entL leaf x).length) := by
 cases leaf with
 | true =>
  have h1 : s.data.toList.drop a = qCv x.key ++ (qCv x.value ++ r) := by rw [h]; unfold entL; rw [List.append_assoc]; rfl
  have k := qZj h1 hs; have v := qZj (qEq h1) hs; unfold qFm; rw [k]; simp only [if_true]; rw [v]; simp only [if_true]; have e : (entL true x).length = (qCv x.key).length + (qCv x.value).length := by unfold entL; rw [List.length_append]; rfl
  rw [e, <- Nat.add_assoc, <- hf.1 rfl]
 | false =>
  obtain ⟨f1, f2, f3⟩ := hf.2 rfl; have h1 : s.data.toList.drop a = qCv x.key ++ (uvar (max 0 x.kid).toNat ++ r) := by rw [h]; unfold entL; rw [List.append_assoc]; rfl
  have k := qZj h1 hs; have t6 : qEg = 18446744073709551616 := by decide
  have v := qVb (qEq h1) (by rw [t6]; omega)
  unfold qFm; rw [k]; simp only [if_true, Bool.false_eq_true, if_false]; rw [v]; simp only [if_true]; have e : (entL false x).length = (qCv x.key).length + (uvar (max 0 x.kid).toNat).length := by unfold entL; rw [List.length_append]; rfl
  have e2 : ((min (max 0 x.kid).toNat 16384 : Nat) : Int) = x.kid := by omega
  rw [e, <- Nat.add_assoc, e2, <- f1]
theorem qUx {s : ByteArray} {leaf : Bool} (hs : s.size < qEg) : ∀ (es : List Ent) (a : Nat) (r : List UInt8), s.data.toList.drop a = es.flatMap (entL leaf) ++ r -> (∀ x ∈ es, Fair leaf x) -> qFh leaf s es.length a = some (es, a + (es.flatMap (entL leaf)).length)
 | [], a, r => fun _ _ => by simp [qFh]
 | x :: es, a, r => fun h hf => by
  rw [List.flatMap_cons, List.append_assoc] at h; have e := jDu h hs (hf x List.mem_cons_self); have i := qUx hs es _ r (qEq h) (fun y hy => hf y (List.mem_cons_of_mem _ hy))
  rw [List.length_cons, qHh, e, Option.bind_some]; simp only; rw [i]; simp [Nat.add_assoc]
theorem jIb {s : ByteArray} {leaf : Bool} {es : List Ent} {r : List UInt8} (h : s.data.toList = qAg leaf es ++ r) (hs : s.size < qEg) (hf : ∀ x ∈ es, Fair leaf x) : decP s = qKt leaf s (some (es, (qAg leaf es).length)) := by
 have hlen : s.data.toList.length = s.size := rfl; have h1 : s.data.toList = (if leaf then (1 : UInt8) else 2) :: (uvar es.length ++ (es.flatMap (entL leaf) ++ r)) := by
  rw [h]; unfold qAg; rw [List.cons_append, List.append_assoc]
 have hd : s.data.toList.drop 1 = uvar es.length ++ (es.flatMap (entL leaf) ++ r) := by rw [h1]; rfl
 have hge : es.length <= (es.flatMap (entL leaf)).length := by
  have := jCv leaf es; unfold wt at this; omega
 have hsz : es.length < qEg := by
  have := congrArg List.length h1; rw [hlen, List.length_cons, List.length_append, List.length_append] at this; omega
 have u := qVb hd hsz; have l := qUx hs es _ r (qEq hd) hf; rw [qMt h1 (by cases leaf <;> decide) (leaf := leaf) (by cases leaf <;> rfl)]
 unfold qMu; rw [u]; simp only [if_true]; rw [show 1 + (uvar es.length).length = 1 + (uvar es.length).length from rfl, l]
 congr 3
 unfold qAg; rw [List.length_cons, List.length_append]; omega
end
section
open Go Go.RowKit
theorem jFn (n : Nd) (i : Nat) (hi : i < n.keys.length) : n.ents[i]? = some (qCf n i) := by
 unfold Nd.ents; rw [List.getElem?_map, List.getElem?_range hi]; rfl
theorem qQc {α : Type} (n : Nd) (f : Ent -> α) (l : List α) (hl : l.length = n.keys.length) (h : ∀ i, i < n.keys.length -> l[i]? = some (f (qCf n i))) : l = n.ents.map f := by
 apply List.ext_getElem?; intro i; rw [List.getElem?_map]; by_cases hi : i < n.keys.length
 ·rw [jFn n i hi, h i hi]; rfl
 ·rw [List.getElem?_eq_none (by omega), List.getElem?_eq_none (by rw [qCr]; omega)]; rfl
theorem qPw {α : Type} (l : List α) (i : Nat) (hi : i < l.length) (d : α) : l[i]? = some ((l[i]?).getD d) := by
 rw [List.getElem?_eq_getElem hi]; rfl
theorem qVt {n : Nd} (h : qDi n = true) : Has n n.leaf n.ents := by
 unfold qDi at h; rw [Bool.and_eq_true, qHl] at h; have h2 := h.1.2; unfold qKy at h2; refine ⟨rfl, qQc n _ _ rfl (fun i hi => qPw _ i hi emp), ?_, ?_⟩
 ·cases hl : n.leaf with
  | true =>
   rw [hl] at h2; simp only [if_true, Bool.and_eq_true, decide_eq_true_eq] at h2 ⊢; refine qQc n _ _ h2.1.2 (fun i hi => ?_)
   show n.values[i]? = some (qBl n i); unfold qBl; rw [hl]; exact qPw _ i (by omega) emp
  | false =>
   rw [hl] at h2; simp only [Bool.false_eq_true, if_false, Bool.and_eq_true, decide_eq_true_eq] at h2 ⊢; exact List.eq_nil_of_length_eq_zero h2.1.1.1
 ·cases hl : n.leaf with
  | true =>
   rw [hl] at h2; simp only [if_true, Bool.and_eq_true, decide_eq_true_eq] at h2 ⊢; exact List.eq_nil_of_length_eq_zero h2.1.1
  | false =>
   rw [hl] at h2; simp only [Bool.false_eq_true, if_false, Bool.and_eq_true, decide_eq_true_eq] at h2 ⊢; refine qQc n _ _ h2.1.1.2 (fun i hi => ?_)
   show n.kids[i]? = some (qDw n i); unfold qDw; rw [hl]; exact qPw _ i (by omega) 0
theorem jBf {n : Nd} (h : qDi n = true) : ∀ x ∈ n.ents, Fair n.leaf x := fun x hx => by
 obtain ⟨c1, c2⟩ := qXq n x hx; refine ⟨c1, fun hl => ⟨c2 hl, ?_⟩⟩
 have hs := qVt h; unfold qDi at h; rw [Bool.and_eq_true, qHl] at h; have h2 := h.1.2; unfold qKy at h2; rw [hl] at h2; simp only [Bool.false_eq_true, if_false, Bool.and_eq_true, Bool.not_eq_true'] at h2; have hi := hs.i; rw [hl] at hi; simp only [Bool.false_eq_true, if_false] at hi; have := List.any_eq_false.1 h2.2 x.kid (by rw [hi]; exact List.mem_map.2 ⟨x, hx, rfl⟩)
 unfold outB at this; simp at this
 omega
theorem jIa {n : Nd} {s : ByteArray} {r : List UInt8} (h : qDi n = true) (hs : s.data.toList = qAg n.leaf n.ents ++ r) (hz : s.size < qEg) (hr : AllZ r) : decP s = some (n.leaf, n.ents) := by
 rw [jIb hs hz (jBf h)]; refine qQb ?_ ?_
 ·rw [hs, List.drop_left]; exact hr
 ·rw [<- (qVt h).cn_enc]; exact h
end
end Go.Proofs.YtgbcibdfeeiilaaGreatDoor
