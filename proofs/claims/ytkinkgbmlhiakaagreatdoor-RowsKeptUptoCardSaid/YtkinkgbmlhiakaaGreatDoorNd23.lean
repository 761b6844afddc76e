/- merged: TwI -/
import Derived.Test.YtkinkgbmlhiakaaGreatDoorNd22
import Derived.Test.YtkinkgbmlhiakaaGreatDoorNd20
import Derived.Deep.RegionHeld3
import Derived.Deep.Cut
namespace Go.Proofs.YtkinkgbmlhiakaaGreatDoor
section
open Go Go.RowKit
theorem qDk {w : World} {b : Nat} {z0 z1 z2 z3 : Value} {t : TypeId} (h : w.heap[b]? = some (.cells #[z0, z1, z2, z3] t (0, 0))) (v0 v1 v2 v3 : Value) :
  ((((w.setCell ⟨b, 0, none⟩ v0).setCell ⟨b, 1, none⟩ v1).setCell ⟨b, 2, none⟩ v2).setCell ⟨b, 3, none⟩ v3).heap[b]? = some (.cells #[v0, v1, v2, v3] t (0, 0)) :=
 qAh (qAh (qAh (qAh h v0) v1) v2) v3
theorem qBl {S : Nat -> Prop} {a w : World} {b : Nat} (h : Mod S a w) (hb : b < a.heap.size -> S b) (v0 v1 v2 v3 : Value) : Mod S a ((((w.setCell ⟨b, 0, none⟩ v0).setCell ⟨b, 1, none⟩ v1).setCell ⟨b, 2, none⟩ v2).setCell ⟨b, 3, none⟩ v3) :=
 (((h.setCell (p := ⟨b, 0, none⟩) hb v0).setCell (p := ⟨b, 1, none⟩) hb v1).setCell (p := ⟨b, 2, none⟩) hb v2).setCell (p := ⟨b, 3, none⟩) hb v3
theorem qVy {y w2 : World} {cs : Array Value} {t : TypeId} (hm : Mod (fun _ => False) (y.alloc (.cells cs t)) w2) : w2.heap[y.heap.size]? = some (.cells cs t (0, 0)) := (hm.block _ (by simp) (fun h => h)).trans (heap_alloc_new _ _)
theorem jBx {y w2 : World} {cs : Array Value} {t : TypeId} (hm : Mod (fun _ => False) (y.drew.alloc (.cells cs t)) w2) : w2.heap[y.heap.size]? = some (.cells cs t (0, 0)) := qVy (y := y.drew) hm
theorem qAq {y w2 : World} {o : Obj} {q : Nat} (hm : Mod (fun _ => False) y w2) (h : y.heap[q]? = some o) : w2.heap[q]? = some o := (hm.block _ (lth h) (fun h => h)).trans h
theorem jJx {V : World} {ka : Option Addr} (h : ∀ b, blk ka b -> V.drew.heap.size <= b) : ∀ b, blk ka b -> V.heap.size <= b := h
theorem jLw {V : World} {o : Obj} {ka : Option Addr} (h : ∀ b, blk ka b -> (V.drew.alloc o).heap.size <= b) : ∀ b, blk ka b -> V.heap.size <= b := fun b hb => by
 have h5 := h b hb; rw [World.size_alloc] at h5; have h6 : V.drew.heap.size = V.heap.size := rfl; omega
theorem jLp {V : World} {o : Obj} {ka : Option Addr} (h : ∀ b, blk ka b -> (V.drew.alloc o).heap.size <= b) : ∀ b, blk ka b -> b ≠ V.heap.size := fun b hb => by
 have h5 := h b hb; rw [World.size_alloc] at h5; have h6 : V.drew.heap.size = V.heap.size := rfl; omega
theorem jLx {V : World} {o : Obj} {ka : Option Addr} (h : ∀ b, blk ka b -> (V.alloc o).heap.size <= b) : ∀ b, blk ka b -> V.heap.size <= b := fun b hb => by
 have h5 := h b hb; rw [World.size_alloc] at h5; omega
theorem jLq {V : World} {o : Obj} {ka : Option Addr} (h : ∀ b, blk ka b -> (V.alloc o).heap.size <= b) : ∀ b, blk ka b -> b ≠ V.heap.size := fun b hb => by
 have h5 := h b hb; rw [World.size_alloc] at h5; omega
theorem qVu {α : Type} {w : World} {f : α -> List Value} {g off cap b : Nat} {ls : List α} (hf : ∀ x, (f x).length = 1) (h : Lies w 1 f (some ⟨g, off, none⟩) ls) (hb : b <= ls.length) (hc : ls.length <= cap) :
  Src w 1 (if cap = b then some ⟨g, off, none⟩ else some ⟨g, off + b, none⟩) (ls.length - b) ((ls.drop b).flatMap f) := by
 by_cases h1 : cap = b
 ·rw [if_pos h1]; have e : ls.drop b = [] := List.drop_of_length_le (by omega)
  rw [e]; exact ⟨by simp; omega, fun h => (by cases h), fun a _ j u hu => by simp at hu⟩
 ·rw [if_neg h1]; have := (qRr hf h b).src; rw [List.length_drop] at this; exact this
theorem qWd {Z w7 : World} {L q : Nat} {m : Nd} {xs : List ByteArray} {ys : List Int} {a' b' : Option Addr} {c' d' N nx ny : Nat} (h : Hold Z L q m) (hnx : xs.length = nx) (hny : ys.length = ny) (hok : Own w7 9 1 a' (m.keys.length + nx) c' (m.keys.flatMap scs ++ xs.flatMap scs)) (hoi : Own w7 3 1 b' (m.kids.length + ny) d' (m.kids.flatMap ics ++ ys.flatMap ics))
  (hm : Mod (fun k => blk m.ka k \/ blk m.ia k) Z w7) (ha : ∀ k, blk a' k -> (blk m.ka k \/ Z.heap.size <= k) /\ k < N) (hb : ∀ k, blk b' k -> blk m.ia k \/ N <= k) (hN : Z.heap.size <= N) :
  Hold ((w7.setCell ⟨q, 1, none⟩ (.slice a' (m.keys.length + nx) c')).setCell ⟨q, 3, none⟩ (.slice b' (m.kids.length + ny) d')) L q { m with keys := m.keys ++ xs, ka := a', kc := c', kids := m.kids ++ ys, ia := b', ic := d' } ∧
   Mod (fun k => L <= k) Z ((w7.setCell ⟨q, 1, none⟩ (.slice a' (m.keys.length + nx) c')).setCell ⟨q, 3, none⟩ (.slice b' (m.kids.length + ny) d')) := by
 have hlk : (m.keys ++ xs).length = m.keys.length + nx := by rw [List.length_append, hnx]
 have hli : (m.kids ++ ys).length = m.kids.length + ny := by rw [List.length_append, hny]
 have hlB := h.box.lt; have hlb := h.lb; have hq : ¬ (blk m.ka q \/ blk m.ia q) := fun e => e.elim (fun e => (h.bs q (.inl e)).2 rfl) (fun e => (h.bs q (.inr (.inr e))).2 rfl)
 have hbx := h.box.mod hm hq; have ha2 : ∀ k, blk a' k -> L <= k /\ k ≠ q := fun k hk => by
  rcases (ha k hk).1 with e | e
  ·exact h.bs k (.inl e)
  ·exact ⟨by omega, by omega⟩
 have hb2 : ∀ k, blk b' k -> L <= k /\ k ≠ q := fun k hk => by
  rcases hb k hk with e | e
  ·exact h.bs k (.inr (.inr e))
  ·exact ⟨by omega, by omega⟩
 have hv : ∀ k, blk m.va k -> ¬ (blk m.ka k \/ blk m.ia k) := fun k hk e => e.elim (fun e => h.gd.kv k e hk) (fun e => h.gd.vi k hk e)
 have M1 : Mod (fun k => k = q) w7 ((w7.setCell ⟨q, 1, none⟩ (.slice a' (m.keys.length + nx) c')).setCell ⟨q, 3, none⟩ (.slice b' (m.kids.length + ny) d')) := Mod.setCell (S := fun k => k = q) (p := ⟨q, 3, none⟩) (Mod.setCell (S := fun k => k = q) (p := ⟨q, 1, none⟩) (Mod.refl _ _) (fun _ => rfl) _) (fun _ => rfl) _
 have hcell : ((w7.setCell ⟨q, 1, none⟩ (.slice a' (m.keys.length + nx) c')).setCell ⟨q, 3, none⟩ (.slice b' (m.kids.length + ny) d')).heap[q]? = some (.cells #[.bool m.leaf, .slice a' (m.keys.length + nx) c', .slice m.va m.values.length m.vc, .slice b' (m.kids.length + ny) d'] 123 (0, 0)) := qAh (qAh hbx _) _; refine ⟨⟨?_, ⟨?_, ?_, ?_, ?_, ?_, ?_⟩, fun k hk => ?_, hlb⟩, (hm.mono (T := fun k => L <= k) (fun k _ e => e.elim (fun e => (h.bs k (.inl e)).1) (fun e => (h.bs k (.inr (.inr e))).1))).then M1 (fun i _ e => by rw [e]; exact hlb)⟩
 ·unfold Bx; rw [hcell, hlk, hli]
 ·show Own _ _ 1 a' (m.keys ++ xs).length c' ((m.keys ++ xs).flatMap scs); rw [List.flatMap_append, hlk]; exact hok.mod M1 (fun k hk e => (ha2 k hk).2 e)
 ·exact (h.gd.v.mod hm (fun k hk => hv k hk)).mod M1 (fun k hk e => (h.bs k (.inr (.inl hk))).2 e)
 ·show Own _ _ 1 b' (m.kids ++ ys).length d' ((m.kids ++ ys).flatMap ics); rw [List.flatMap_append, hli]; exact hoi.mod M1 (fun k hk e => (hb2 k hk).2 e)
 ·intro k h1 h2; rcases (ha k h1).1 with e | e
  ·exact h.gd.kv k e h2
  ·have := h.gd.v.lt k h2; omega
 ·intro k h1 h2; rcases hb k h2 with e | e
  ·rcases (ha k h1).1 with e2 | e2
   ·exact h.gd.ki k e2 e
   ·have := h.gd.i.lt k e; omega
  ·have := (ha k h1).2; omega
 ·intro k h1 h2; rcases hb k h2 with e | e
  ·exact h.gd.vi k h1 e
  ·have := h.gd.v.lt k h1; omega
 ·rcases hk with hk | hk | hk
  ·exact ha2 k hk
  ·exact h.bs k (.inr (.inl hk))
  ·exact hb2 k hk
theorem qPx {Z w7 : World} {L q : Nat} {m : Nd} {pk : ByteArray} {pn : Int} {a' b' : Option Addr} {c' d' N : Nat} (h : Hold Z L q m) (hok : Own w7 9 1 a' (m.keys.length + 1) c' (m.keys.flatMap scs ++ [.string pk])) (hoi : Own w7 3 1 b' (m.kids.length + 1) d' (m.kids.flatMap ics ++ [.int .i64 pn]))
  (hm : Mod (fun k => blk m.ka k \/ blk m.ia k) Z w7) (ha : ∀ k, blk a' k -> (blk m.ka k \/ Z.heap.size <= k) /\ k < N) (hb : ∀ k, blk b' k -> blk m.ia k \/ N <= k) (hN : Z.heap.size <= N) :
  Hold ((w7.setCell ⟨q, 1, none⟩ (.slice a' (m.keys.length + 1) c')).setCell ⟨q, 3, none⟩ (.slice b' (m.kids.length + 1) d')) L q { m with keys := m.keys ++ [pk], ka := a', kc := c', kids := m.kids ++ [pn], ia := b', ic := d' } ∧
   Mod (fun k => L <= k) Z ((w7.setCell ⟨q, 1, none⟩ (.slice a' (m.keys.length + 1) c')).setCell ⟨q, 3, none⟩ (.slice b' (m.kids.length + 1) d')) := by
 have hlk : (m.keys ++ [pk]).length = m.keys.length + 1 := by simp
 have hli : (m.kids ++ [pn]).length = m.kids.length + 1 := by simp
 have hlB := h.box.lt; have hlb := h.lb; have hq : ¬ (blk m.ka q \/ blk m.ia q) := fun e => e.elim (fun e => (h.bs q (.inl e)).2 rfl) (fun e => (h.bs q (.inr (.inr e))).2 rfl)
 have hbx := h.box.mod hm hq; have ha2 : ∀ k, blk a' k -> L <= k /\ k ≠ q := fun k hk => by
  rcases (ha k hk).1 with e | e
  ·exact h.bs k (.inl e)
  ·exact ⟨by omega, by omega⟩
 have hb2 : ∀ k, blk b' k -> L <= k /\ k ≠ q := fun k hk => by
  rcases hb k hk with e | e
  ·exact h.bs k (.inr (.inr e))
  ·exact ⟨by omega, by omega⟩
 have hv : ∀ k, blk m.va k -> ¬ (blk m.ka k \/ blk m.ia k) := fun k hk e => e.elim (fun e => h.gd.kv k e hk) (fun e => h.gd.vi k hk e)
 have M1 : Mod (fun k => k = q) w7 ((w7.setCell ⟨q, 1, none⟩ (.slice a' (m.keys.length + 1) c')).setCell ⟨q, 3, none⟩ (.slice b' (m.kids.length + 1) d')) := Mod.setCell (S := fun k => k = q) (p := ⟨q, 3, none⟩) (Mod.setCell (S := fun k => k = q) (p := ⟨q, 1, none⟩) (Mod.refl _ _) (fun _ => rfl) _) (fun _ => rfl) _
 have hcell : ((w7.setCell ⟨q, 1, none⟩ (.slice a' (m.keys.length + 1) c')).setCell ⟨q, 3, none⟩ (.slice b' (m.kids.length + 1) d')).heap[q]? = some (.cells #[.bool m.leaf, .slice a' (m.keys.length + 1) c', .slice m.va m.values.length m.vc, .slice b' (m.kids.length + 1) d'] 123 (0, 0)) := qAh (qAh hbx _) _; refine ⟨⟨?_, ⟨?_, ?_, ?_, ?_, ?_, ?_⟩, fun k hk => ?_, hlb⟩, (hm.mono (T := fun k => L <= k) (fun k _ e => e.elim (fun e => (h.bs k (.inl e)).1) (fun e => (h.bs k (.inr (.inr e))).1))).then M1 (fun i _ e => by rw [e]; exact hlb)⟩
 ·unfold Bx; rw [hcell, hlk, hli]
 ·have := hok.mod M1 (fun k hk e => (ha2 k hk).2 e)
  rw [<- hlk] at this
  simpa using this
 ·exact (h.gd.v.mod hm (fun k hk => hv k hk)).mod M1 (fun k hk e => (h.bs k (.inr (.inl hk))).2 e)
 ·have := hoi.mod M1 (fun k hk e => (hb2 k hk).2 e)
  rw [<- hli] at this
  simpa using this
 ·intro k h1 h2; rcases (ha k h1).1 with e | e
  ·exact h.gd.kv k e h2
  ·have := h.gd.v.lt k h2; omega
 ·intro k h1 h2; rcases hb k h2 with e | e
  ·rcases (ha k h1).1 with e2 | e2
   ·exact h.gd.ki k e2 e
   ·have := h.gd.i.lt k e; omega
  ·have := (ha k h1).2; omega
 ·intro k h1 h2; rcases hb k h2 with e | e
  ·exact h.gd.vi k h1 e
  ·have := h.gd.v.lt k h1; omega
 ·rcases hk with hk | hk | hk
  ·exact ha2 k hk
  ·exact h.bs k (.inr (.inl hk))
  ·exact hb2 k hk
def Made (V : World) (ks : List ByteArray) (is : List Int) (v : Value) (X : World) : Prop :=
 ∃ (q : Nat) (ka ia : Option Addr) (kc ic : Nat), v = .pointer (some ⟨q, 0, none⟩) /\ Hold X V.heap.size q ⟨false, ks, [], is, ka, kc, none, 0, ia, ic⟩ /\ Mod (fun _ => False) V X
theorem qTk {V w2 X : World} {ks : List ByteArray} {is : List Int} {q a : Nat} {ka ia : Option Addr} {kc ic : Nat} (hka : ks.length = a) (hia : is.length = a) (hm2 : Mod (fun _ => False) V w2) (hm : Mod (fun k => k = q) w2 X) (hk : Own w2 9 1 ka a kc (ks.flatMap scs)) (hi : Own w2 3 1 ia a ic (is.flatMap ics))
  (hkb : ∀ b, blk ka b -> V.heap.size <= b /\ b ≠ q) (hib : ∀ b, blk ia b -> V.heap.size <= b /\ b ≠ q) (hki : ∀ b, blk ka b -> ¬ blk ia b) (hbox : X.heap[q]? = some (.cells #[.bool false, .slice ka a kc, .slice none 0 0, .slice ia a ic] 123 (0, 0))) (hq : V.heap.size <= q) :
  Made V ks is (.pointer (some ⟨q, 0, none⟩)) X := by
 have hk' := hk.mod hm (fun b hb e => (hkb b hb).2 e)
 have hi' := hi.mod hm (fun b hb e => (hib b hb).2 e)
 refine ⟨q, ka, ia, kc, ic, rfl, ⟨?_, ⟨?_, Own.nil _ _ _, ?_, fun b _ h => (qAj b h).elim, hki, fun b h => (qAj b h).elim⟩, fun b hb => ?_, hq⟩, hm2.then hm (fun i hi e => by omega)⟩
 ·unfold Bx; rw [hka, hia]; exact hbox
 ·rw [hka]; exact hk'
 ·rw [hia]; exact hi'
 ·rcases hb with hb | hb | hb
  ·exact hkb b hb
  ·exact (qAj b hb).elim
  ·exact hib b hb
set_option maxRecDepth 100000
set_option maxHeartbeats 4000000 in
theorem qFu {w : World} {n : Nd} {es : List Ent} (hh : Has n false es) (hn : NdC w n) (a b : Nat) (ha : a <= es.length) (hb : b <= es.length) {pa : Option Addr} {pcap : Nat} {ps : qBo} (hp : Lies w 2 pcs pa ps) (hpl : ps.length <= 16) (hel : es.length <= 1048576) (hps : ∀ p ∈ ps, p.1.size <= 4194304 /\ -9223372036854775808 <= p.2 /\ p.2 <= 9223372036854775807) (hvl : ∀ x ∈ es, x.value.size <= 4194304) (hz : es = [] -> n.ka = none /\ n.kc = 0 /\ n.ia = none /\ n.ic = 0) :
  Calls Tryz.prog 95 #[.agg #[.bool n.leaf, .slice n.ka n.keys.length n.kc, .slice n.va n.values.length n.vc, .slice n.ia n.kids.length n.ic], .int .i64 a, .int .i64 b, .slice pa ps.length pcap] w fun e w' => ∃ m : Nd, e = .returned m.val /\ Has m false (qAy es a b ps) /\ NdC w' m /\ (∀ k, m.bs k -> w.heap.size <= k) /\ Mod (fun _ => False) w w' := by
 have hkl : n.keys.length = es.length := hh.len_le.1; have hil : n.kids.length = es.length := by rw [hh.i]; simp
 have hck := hn.ck; have hci := hn.ci; have hbk := hn.nd.bk; unfold maxLen at hck hci; have hta : (n.keys.take a).length = a := by rw [List.length_take]; omega
 have htb : (n.kids.take a).length = a := by rw [List.length_take]; omega
 have HCk := hid (fun (y : World) (hy : Mod (fun _ => False) w y) => qTz n.kc ((qRq (fun _ => rfl) hn.nd.k a).ext hy) (by rw [hta]; omega))
 have HCi := hid (fun (y : World) (hy : Mod (fun _ => False) w y) => jKi n.ic ((qRq (fun _ => rfl) hn.nd.i a).ext hy) (by rw [htb]; omega))
 rw [hta] at HCk; rw [htb] at HCi; have HH := hid hh; have HN := hid hn; have HP := hid hp; have HPs := hid hps; have HZe := hid hz; have HVl := hid hvl; have HM0 : Hid (Mod (fun _ => False) w ((w.alloc (.cells #[.bool n.leaf, .slice n.ka n.keys.length n.kc, .slice n.va n.values.length n.vc, .slice n.ia n.kids.length n.ic] 123)).alloc (.cells #[.bool false, .slice none 0 0, .slice none 0 0, .slice none 0 0] 123))) := hid (((Mod.refl _ _).alloc _).alloc _)
 have HB0 : Hid (((w.alloc (.cells #[.bool n.leaf, .slice n.ka n.keys.length n.kc, .slice n.va n.values.length n.vc, .slice n.ia n.kids.length n.ic] 123)).alloc (.cells #[.bool false, .slice none 0 0, .slice none 0 0, .slice none 0 0] 123)).heap[w.heap.size]? = some (.cells #[.bool n.leaf, .slice n.ka n.keys.length n.kc, .slice n.va n.values.length n.vc, .slice n.ia n.kids.length n.ic] 123 (0, 0))) := hid ((Mod.alloc (S := fun _ => False) (Mod.refl _ _) _).block _ (by simp) (fun h => h) |>.trans (heap_alloc_new _ _))
 have HB1 : Hid (((w.alloc (.cells #[.bool n.leaf, .slice n.ka n.keys.length n.kc, .slice n.va n.values.length n.vc, .slice n.ia n.kids.length n.ic] 123)).alloc (.cells #[.bool false, .slice none 0 0, .slice none 0 0, .slice none 0 0] 123)).heap[w.heap.size + 1]? = some (.cells #[.bool false, .slice none 0 0, .slice none 0 0, .slice none 0 0] 123 (0, 0))) := hid (by have := heap_alloc_new (w.alloc (.cells #[.bool n.leaf, .slice n.ka n.keys.length n.kc, .slice n.va n.values.length n.vc, .slice n.ia n.kids.length n.ic] 123)) (.cells #[.bool false, .slice none 0 0, .slice none 0 0, .slice none 0 0] 123); simpa using this)
 have hac : a <= n.kc := by omega
 have hai : a <= n.ic := by omega
 have HKl := hid hkl; have HIl := hid hil; clear hh hn hp hps hvl hz hta htb hkl hil; go_enter Tryz.func95, Tryz.ntmps95
 go_upto_region 1 with fail
 generalize (w.alloc (.cells #[.bool n.leaf, .slice n.ka n.keys.length n.kc, .slice n.va n.values.length n.vc, .slice n.ia n.kids.length n.ic] 123)).alloc (.cells #[.bool false, .slice none 0 0, .slice none 0 0, .slice none 0 0] 123) = V at *; go_cut [9] (fun v wx => Made V (n.keys.take a) (n.kids.take a) v wx)
 case first =>
  obtain ⟨_, c1, _, c3⟩ := cl4 HB0.out; have HO : Hid (∀ y, Mod (fun _ => False) V y -> y.cell? ⟨w.heap.size, 1, none⟩ = some (.slice n.ka n.keys.length n.kc) /\ y.cell? ⟨w.heap.size, 3, none⟩ = some (.slice n.ia n.kids.length n.ic)) := hid (fun y hy => ⟨(hy.cell (World.block_lt_of_cell? _ _ c1) (fun h => h)).trans c1, (hy.cell (World.block_lt_of_cell? _ _ c3) (fun h => h)).trans c3⟩)
  go_region_held3 (fun w' => w'.cell? ⟨w.heap.size, 1, none⟩ = some (.slice n.ka n.keys.length n.kc) /\ w'.cell? ⟨w.heap.size, 3, none⟩ = some (.slice n.ia n.kids.length n.ic))
   ((refine HO.out _ ?_; repeat (first | with_reducible exact Mod.refl _ _ | exact HM2.out | exact HM1.out | with_reducible refine Mod.drew ?_ | with_reducible refine Mod.alloc ?_ _ | (refine Mod.setCell ?_ (by intro h; have h2 : _ < _ := h; have := HM1.out.size; simp only at h2; omega) _))))
   (first
    | (go_at_call 98; refine (HCk.out _ (HM0.out.trans (by repeat (first | with_reducible exact Mod.refl _ _ | with_reducible refine Mod.drew ?_ | with_reducible refine Mod.alloc ?_ _)))).mono ?_; rintro e w1 ⟨ka, kc, rfl, ho1, hb1, hm1⟩; have HM1 : Hid (Mod (fun _ => False) V w1) := hid (Mod.trans (by repeat (first | with_reducible exact Mod.refl _ _ | with_reducible refine Mod.drew ?_ | with_reducible refine Mod.alloc ?_ _)) hm1); have HO1 := hid ho1; (first | (have HBa := hid (jLw hb1)) | (have HBa := hid (jJx hb1))); (first | (have HQ1 : Hid (w1.heap[V.heap.size]? = some (.cells #[.bool false, .slice none 0 0, .slice none 0 0, .slice none 0 0] 123 (0, 0))) := hid (jBx hm1); have HBn := hid (jLp hb1); obtain ⟨q10, q11, q12, q13⟩ := cl4 HQ1.out; have f10 := frozen_of_row _ _ 0 _ _ HQ1.out; have f11 := frozen_of_row _ _ 1 _ _ HQ1.out; have f12 := frozen_of_row _ _ 2 _ _ HQ1.out; have f13 := frozen_of_row _ _ 3 _ _ HQ1.out) | skip))
    | (go_at_call 128; refine (HCi.out _ (HM0.out.trans (by repeat (first | with_reducible exact Mod.refl _ _ | exact HM1.out | with_reducible refine Mod.drew ?_ | with_reducible refine Mod.alloc ?_ _)))).mono ?_; rintro e w2 ⟨ia, ic, rfl, ho2, hb2, hm2⟩; have HM2 : Hid (Mod (fun _ => False) V w2) := hid (Mod.trans (by repeat (first | with_reducible exact Mod.refl _ _ | exact HM1.out | with_reducible refine Mod.drew ?_ | with_reducible refine Mod.alloc ?_ _)) hm2); have HO2 := hid ho2; (first | (have HBb := hid (jLx hb2)) | (have HBb := hid hb2)); have HM12 : Hid (Mod (fun _ => False) w1 w2) := hid (Mod.trans (by repeat (first | with_reducible exact Mod.refl _ _ | with_reducible refine Mod.alloc ?_ _)) hm2); (first | (have HQ2 : Hid (w2.heap[w1.heap.size]? = some (.cells #[.bool false, .slice none 0 0, .slice none 0 0, .slice none 0 0] 123 (0, 0))) := hid (qVy hm2); have HBn2 := hid (jLq hb2); obtain ⟨q20, q21, q22, q23⟩ := cl4 HQ2.out; have f20 := frozen_of_row _ _ 0 _ _ HQ2.out; have f21 := frozen_of_row _ _ 1 _ _ HQ2.out; have f22 := frozen_of_row _ _ 2 _ _ HQ2.out; have f23 := frozen_of_row _ _ 3 _ _ HQ2.out) | (have HQ2 : Hid (w2.heap[V.heap.size]? = some (.cells #[.bool false, .slice none 0 0, .slice none 0 0, .slice none 0 0] 123 (0, 0))) := hid (qAq hm2 HQ1.out); clear q10 q11 q12 q13 f10 f11 f12 f13; obtain ⟨q20, q21, q22, q23⟩ := cl4 HQ2.out; have f20 := frozen_of_row _ _ 0 _ _ HQ2.out; have f21 := frozen_of_row _ _ 1 _ _ HQ2.out; have f22 := frozen_of_row _ _ 2 _ _ HQ2.out; have f23 := frozen_of_row _ _ 3 _ _ HQ2.out) | skip)))
  ·go_wp2_with fail
   go_meet
   case rel =>
    have hv1 := HM1.out.size; have hv2 := HM12.out.size; have hka : (n.keys.take a).length = a := by rw [List.length_take, HKl.out]; omega
    have hia : (n.kids.take a).length = a := by rw [List.length_take, HIl.out]; omega
    have hk2 := HO1.out.mod HM12.out (fun _ _ e => e)
    have e1 : ∀ b, blk ka b -> V.heap.size <= b /\ b < w1.heap.size := fun b hb => ⟨HBa.out b hb, HO1.out.lt b hb⟩
    have e2 : ∀ b, blk ia b -> w1.heap.size <= b /\ b < w2.heap.size := fun b hb => ⟨HBb.out b hb, HO2.out.lt b hb⟩
    have e3 : ∀ b, blk ka b -> ¬ blk ia b := fun b h1 h2 => by have := (e1 b h1).2; have := (e2 b h2).1; omega
    exact qTk (w2 := w2) (q := w2.heap.size) hka hia HM2.out ((Mod.refl _ _).alloc _) hk2 HO2.out (fun b hb => by have := e1 b hb; omega) (fun b hb => by have := e2 b hb; omega) e3 (heap_alloc_new _ _) (by omega)
  ·go_wp2_with fail
   go_meet
   case rel =>
    have hv1 := HM1.out.size; have hv2 := HM12.out.size; have hka : (n.keys.take a).length = a := by rw [List.length_take, HKl.out]; omega
    have hia : (n.kids.take a).length = a := by rw [List.length_take, HIl.out]; omega
    have hk2 := HO1.out.mod HM12.out (fun _ _ e => e)
    have e1 : ∀ b, blk ka b -> V.heap.size <= b /\ b < w1.heap.size := fun b hb => ⟨HBa.out b hb, HO1.out.lt b hb⟩
    have e2 : ∀ b, blk ia b -> w1.heap.size <= b /\ b < w2.heap.size := fun b hb => ⟨HBb.out b hb, HO2.out.lt b hb⟩
    have e3 : ∀ b, blk ka b -> ¬ blk ia b := fun b h1 h2 => by have := (e1 b h1).2; have := (e2 b h2).1; omega
    exact qTk (w2 := w2) (q := w1.heap.size) hka hia HM2.out (qBl (S := fun k => k = w1.heap.size) (Mod.refl _ _) (fun _ => rfl) _ _ _ _) hk2 HO2.out (fun b hb => by have := e1 b hb; omega) (fun b hb => by have := e2 b hb; exact ⟨by omega, HBn2.out b hb⟩) e3 (qDk HQ2.out _ _ _ _) (by omega)
  ·go_wp2_with fail
   go_meet
   case rel =>
    have hv1 := HM1.out.size; have hv2 := HM12.out.size; have hka : (n.keys.take a).length = a := by rw [List.length_take, HKl.out]; omega
    have hia : (n.kids.take a).length = a := by rw [List.length_take, HIl.out]; omega
    have hk2 := HO1.out.mod HM12.out (fun _ _ e => e)
    have e1 : ∀ b, blk ka b -> V.heap.size <= b /\ b < w1.heap.size := fun b hb => ⟨HBa.out b hb, HO1.out.lt b hb⟩
    have e2 : ∀ b, blk ia b -> w1.heap.size <= b /\ b < w2.heap.size := fun b hb => ⟨HBb.out b hb, HO2.out.lt b hb⟩
    have e3 : ∀ b, blk ka b -> ¬ blk ia b := fun b h1 h2 => by have := (e1 b h1).2; have := (e2 b h2).1; omega
    have hq1 := lth HQ1.out; exact qTk (w2 := w2) (q := V.heap.size) hka hia HM2.out (qBl (S := fun k => k = V.heap.size) (Mod.refl _ _) (fun _ => rfl) _ _ _ _) hk2 HO2.out (fun b hb => ⟨(e1 b hb).1, HBn.out b hb⟩) (fun b hb => by have := e2 b hb; omega) e3 (qDk HQ2.out _ _ _ _) (Nat.le_refl _)
 case rest =>
  obtain ⟨q, ka, ia, kc, ic, rfl, hho, hmx⟩ := hcut; have HHo := hid hho; have HMx := hid hmx; clear hho hmx; go_wp2_with fail
  go_loopw [25] (fun sc wr => ∃ (k : Nat) (m : Nd), k <= ps.length /\ sc = .int .i64 (k : Int) /\ Hold wr V.heap.size q m /\ m.leaf = false /\ m.keys = n.keys.take a ++ (ps.take k).map (·.1) /\ m.values = [] /\ m.kids = n.kids.take a ++ (ps.take k).map (·.2) /\ Mod (fun _ => False) V wr) (fun sc _ => ps.length - (intOf sc).toNat)
  case atStart => exact ⟨0, _, Nat.zero_le _, rfl, HHo.out, rfl, by simp, rfl, by simp, HMx.out⟩
  case round =>
   obtain ⟨k, m, hkp, rfl, hho, hlf, hks, hvs, hki, hmr⟩ := hrel; have HHo := hid hho; have HLf := hid hlf; have HKs := hid hks; have HVs := hid hvs; have HKi := hid hki; have HMr := hid hmr; clear hho hlf hks hvs hki hmr; by_cases hlt : k < ps.length
   ·obtain ⟨p, hp⟩ : ∃ p, ps[k]? = some p := ⟨_, List.getElem?_eq_getElem hlt⟩; obtain ⟨gp, op, rfl⟩ := HP.out.some (by omega)
    have hpw := HP.out.ext (HM0.out.trans HMr.out); have c0 := hpw.cell qTg hp (j := 0) rfl; have c1 := hpw.cell qTg hp (j := 1) rfl; simp only [Nat.add_zero] at c0; have HPk := hid hp; clear hp hpw; obtain ⟨pk, pn⟩ := p; simp only at c0 c1; go_upto_region 5 with fail
    have HBx : Hid ((wr.alloc (.cells #[.string pk, .int .i64 pn] 196)).heap[wr.heap.size]? = some (.cells #[.string pk, .int .i64 pn] 196 (0, 0))) := hid (heap_alloc_new _ _); have HMa : Hid (Mod (fun _ => False) wr (wr.alloc (.cells #[.string pk, .int .i64 pn] 196))) := hid ((Mod.refl _ _).alloc _)
    generalize wr.alloc (.cells #[.string pk, .int .i64 pn] 196) = Z at *; have HZq := hid (HHo.out.ext HMa.out); have HS : Hid (∀ y, Mod (fun k => blk m.ka k \/ blk m.ia k) Z y -> y.cell? ⟨q, 1, none⟩ = some (.slice m.ka m.keys.length m.kc) /\ y.cell? ⟨q, 3, none⟩ = some (.slice m.ia m.kids.length m.ic) /\ y.cell? ⟨wr.heap.size, 0, none⟩ = some (.string pk) /\ y.cell? ⟨wr.heap.size, 1, none⟩ = some (.int .i64 pn)) := hid (fun y hy => by
     have hb := HZq.out.box.mod hy (fun e => e.elim (fun e => (HZq.out.bs q (.inl e)).2 rfl) (fun e => (HZq.out.bs q (.inr (.inr e))).2 rfl))
     have hp := (hy.block _ (lth HBx.out) (fun e => e.elim (fun e => by have := HHo.out.gd.lt (.inl e); omega) (fun e => by have := HHo.out.gd.lt (.inr (.inr e)); omega))).trans HBx.out
     obtain ⟨_, e1, _, e3⟩ := hb.cells; exact ⟨e1, e3, by rw [cell_of_row _ _ _ _ _ _ hp]; rfl, by rw [cell_of_row _ _ _ _ _ _ hp]; rfl⟩)
    have HOk : Hid (∀ y, Mod (fun _ => False) Z y -> Own y 9 1 m.ka m.keys.length m.kc (m.keys.flatMap scs)) := hid (fun y hy => HZq.out.gd.k.mod hy (fun _ _ e => e))
    have HOi : Hid (∀ y, Mod (blk m.ka) Z y -> Own y 3 1 m.ia m.kids.length m.ic (m.kids.flatMap ics)) := hid (fun y hy => HZq.out.gd.i.mod hy (fun k h1 h2 => HZq.out.gd.ki k h2 h1))
    have HNb : Hid (∀ k, Z.heap.size <= k -> ¬ blk m.ka k) := hid (fun k hk e => by have := HZq.out.gd.lt (.inl e); omega)
    have HBd : Hid (m.keys.length <= 4194304 + 16 /\ m.kids.length <= 4194304 + 16) := hid (by
     rw [HKs.out, HKi.out, List.length_append, List.length_append, List.length_map, List.length_map, List.length_take, List.length_take, List.length_take]; have := HIl.out; have := HKl.out; omega)
    obtain ⟨i0, hi, hz0, hz1, hz2⟩ := info_parts qPw; obtain ⟨j0, hj, hy0, hy1, hy2⟩ := info_parts qKm; have HMd : Hid (Mod (fun _ => False) Z Z.drew) := hid (Mod.refl _ _).drew
    refine qBw (S := qAa 13 (fun w' => w'.cell? ⟨q, 1, none⟩ = some (.slice m.ka m.keys.length m.kc) /\ w'.cell? ⟨q, 3, none⟩ = some (.slice m.ia m.kids.length m.ic) /\ w'.cell? ⟨wr.heap.size, 0, none⟩ = some (.string pk) /\ w'.cell? ⟨wr.heap.size, 1, none⟩ = some (.int .i64 pn))) (by kernel_rfl) (qAa.all (HS.out _ (HMd.out.mono (fun _ _ e => e.elim)))) (fun hHeld => ?_)
    generalize Z.drew = Y0 at *; refine aTk (v := .pointer (some ⟨q, 1, none⟩)) (d := 29) 0 rfl rfl (by kernel_rfl) (by kernel_rfl) (by kernel_rfl) (fun _ _ _ h => h) (fun l w h => qAa.same (by decide) h) (fun l j w h => qAa.mono h j) (Or.inl ⟨by rfl, fun w' _ => by go_simp⟩) hHeld (fun hU => ?_)
    clear hHeld; have hHeld := hU; clear hU; simp only [Act.put, sTA, sC0, sC1]; refine aTk (v := .slice m.ka m.keys.length m.kc) (d := 30) 1 rfl rfl (by kernel_rfl) (by kernel_rfl) (by kernel_rfl) (fun _ _ _ h => h) (fun l w h => qAa.same (by decide) h) (fun l j w h => qAa.mono h j) (Or.inl ⟨by rfl, fun w' hT => by (obtain ⟨l', hz', hu', hC', hS'⟩ := hT; obtain ⟨c1, c3, p0, p1⟩ := hS' (hC'.later (i := 1) (j := 13) rfl (by rw [hz']; decide) (by kernel_rfl) hu'); go_simp)⟩) hHeld (fun hU => ?_)
    clear hHeld; have hHeld := hU; clear hU; simp only [Act.put, sTA, sC0, sC1]; refine aTk (v := .pointer (some ⟨wr.heap.size, 0, none⟩)) (d := 31) 2 rfl rfl (by kernel_rfl) (by kernel_rfl) (by kernel_rfl) (fun _ _ _ h => h) (fun l w h => qAa.same (by decide) h) (fun l j w h => qAa.mono h j) (Or.inl ⟨by rfl, fun w' _ => by go_simp⟩) hHeld (fun hU => ?_)
    clear hHeld; have hHeld := hU; clear hU; simp only [Act.put, sTA, sC0, sC1]; refine aTk (v := .string pk) (d := 32) 3 rfl rfl (by kernel_rfl) (by kernel_rfl) (by kernel_rfl) (fun _ _ _ h => h) (fun l w h => qAa.same (by decide) h) (fun l j w h => qAa.mono h j) (Or.inl ⟨by rfl, fun w' hT => by (obtain ⟨l', hz', hu', hC', hS'⟩ := hT; obtain ⟨c1, c3, p0, p1⟩ := hS' (hC'.later (i := 3) (j := 13) rfl (by rw [hz']; decide) (by kernel_rfl) hu'); go_simp)⟩) hHeld (fun hU => ?_)
    clear hHeld; have hHeld := hU; clear hU; simp only [Act.put, sTA, sC0, sC1]; refine aTk (v := .pointer (some ⟨q, 3, none⟩)) (d := 35) 6 rfl rfl (by kernel_rfl) (by kernel_rfl) (by kernel_rfl) (fun _ _ _ h => h) (fun l w h => qAa.same (by decide) h) (fun l j w h => qAa.mono h j) (Or.inl ⟨by rfl, fun w' _ => by go_simp⟩) hHeld (fun hU => ?_)
    clear hHeld; have hHeld := hU; clear hU; simp only [Act.put, sTA, sC0, sC1]; refine aTk (v := .slice m.ia m.kids.length m.ic) (d := 36) 7 rfl rfl (by kernel_rfl) (by kernel_rfl) (by kernel_rfl) (fun _ _ _ h => h) (fun l w h => qAa.same (by decide) h) (fun l j w h => qAa.mono h j) (Or.inl ⟨by rfl, fun w' hT => by (obtain ⟨l', hz', hu', hC', hS'⟩ := hT; obtain ⟨c1, c3, p0, p1⟩ := hS' (hC'.later (i := 7) (j := 13) rfl (by rw [hz']; decide) (by kernel_rfl) hu'); go_simp)⟩) hHeld (fun hU => ?_)
    clear hHeld; have hHeld := hU; clear hU; simp only [Act.put, sTA, sC0, sC1]; refine aTk (v := .pointer (some ⟨wr.heap.size, 1, none⟩)) (d := 37) 8 rfl rfl (by kernel_rfl) (by kernel_rfl) (by kernel_rfl) (fun _ _ _ h => h) (fun l w h => qAa.same (by decide) h) (fun l j w h => qAa.mono h j) (Or.inl ⟨by rfl, fun w' _ => by go_simp⟩) hHeld (fun hU => ?_)
    clear hHeld; have hHeld := hU; clear hU; simp only [Act.put, sTA, sC0, sC1]; refine aTk (v := .int .i64 pn) (d := 38) 9 rfl rfl (by kernel_rfl) (by kernel_rfl) (by kernel_rfl) (fun _ _ _ h => h) (fun l w h => qAa.same (by decide) h) (fun l j w h => qAa.mono h j) (Or.inl ⟨by rfl, fun w' hT => by (obtain ⟨l', hz', hu', hC', hS'⟩ := hT; obtain ⟨c1, c3, p0, p1⟩ := hS' (hC'.later (i := 11) (j := 13) rfl (by rw [hz']; decide) (by kernel_rfl) (hC'.later (i := 10) (j := 11) rfl (by rw [hz']; decide) (by kernel_rfl) (hC'.later (i := 9) (j := 10) rfl (by rw [hz']; decide) (by kernel_rfl) hu'))); go_simp)⟩) hHeld (fun hU => ?_)
    clear hHeld; have hHeld := hU; clear hU; simp only [Act.put, sTA, sC0, sC1]; refine aRd (rs := [4, 10]) (by kernel_rfl) (by simp) (AllL.cons rfl (by kernel_rfl) hHeld (fun K hK => ?_) (AllL.cons rfl (by kernel_rfl) hHeld (fun K hK => ?_) AllL.nil))
    ·go_simp; have hmy : Mod (fun _ => False) Y0 (Y0.alloc (.cells #[.string pk] 9)) := (Mod.refl _ _).alloc _
     have HNb1 : Hid ((Y0.alloc (.cells #[.string pk] 9)).heap[Y0.heap.size]? = some (.cells #[.string pk] 9 (0, 0))) := hid (heap_alloc_new _ _); have HMb1 : Hid (Mod (fun _ => False) Z (Y0.alloc (.cells #[.string pk] 9))) := hid (HMd.out.trans hmy)
     clear hmy; generalize Y0.alloc (.cells #[.string pk] 9) = Y1 at *; refine hK.out _ _ (qAa.all (HS.out Y1 (HMb1.out.mono (fun _ _ e => e.elim)))) (fun hU => ?_)
     clear hK K hHeld; have hHeld := hU; clear hU; try simp only [Act.put, sTA, sC0, sC1]
     refine aRd (rs := [5, 10]) (by kernel_rfl) (by simp) (AllL.cons rfl (by kernel_rfl) hHeld (fun K hK => ?_) (AllL.cons rfl (by kernel_rfl) hHeld (fun K hK => ?_) AllL.nil))
     ·refine qAr rfl (.tmp 30) (.tmp 33) 68 rfl 9 i0 _ 1 16 Tryz.underlying68 hi hz0 hz1 hz2 rfl m.ka m.keys.length m.kc _ (by simp [Act.eval]) (HOk.out Y1 HMb1.out) (some ⟨Y0.heap.size, 0, none⟩) 1 1 [.string pk] (by simp [Act.eval]) (qAw HNb1.out rfl) (by intro u hu; simp at hu; subst hu; rfl) (by have := HBd.out; unfold maxLen; omega) (by have := HBd.out; omega) ?_
      intro a1 c1 w5 hown5 hm5 hb5 hn5 hr5; have HMz5 : Hid (Mod (blk m.ka) Z w5) := hid ((HMb1.out.mono (fun _ _ e => e.elim)).trans hm5)
      have HO5 := hid hown5; have HB5 : Hid (∀ k, blk a1 k -> blk m.ka k \/ Z.heap.size <= k) := hid (fun k hk => (hb5 k hk).imp id (fun h => Nat.le_trans HMb1.out.size h))
      clear hown5 hm5 hb5 hn5 hr5; refine hK.out _ _ (qAa.all (HS.out w5 (HMz5.out.mono (fun _ _ e => .inl e)))) (fun hU => ?_)
      clear hK K hHeld; have hHeld := hU; clear hU; try simp only [Act.put, sTA]
      refine aTk (v := .pointer (some ⟨q, 1, none⟩)) (d := 41) 12 rfl rfl (by kernel_rfl) (by kernel_rfl) (by kernel_rfl) (fun _ _ _ h => h) (fun l w h => qAa.same (by decide) h) (fun l j w h => qAa.mono h j) (Or.inl ⟨by rfl, fun w' _ => by go_simp⟩) hHeld (fun hU => ?_)
      clear hHeld; have hHeld := hU; clear hU; simp only [Act.put]; refine aRd (rs := [10]) (by kernel_rfl) (by simp) (AllL.cons rfl (by kernel_rfl) hHeld (fun K hK => ?_) AllL.nil)
      go_simp; have hmy : Mod (fun _ => False) w5 (w5.alloc (.cells #[.int .i64 pn] 3)) := (Mod.refl _ _).alloc _
      have HNb2 : Hid ((w5.alloc (.cells #[.int .i64 pn] 3)).heap[w5.heap.size]? = some (.cells #[.int .i64 pn] 3 (0, 0))) := hid (heap_alloc_new _ _); have HM5y : Hid (Mod (fun _ => False) w5 (w5.alloc (.cells #[.int .i64 pn] 3))) := hid hmy
      clear hmy; generalize w5.alloc (.cells #[.int .i64 pn] 3) = Y2 at *; refine hK.out _ _ (qAa.all (HS.out Y2 ((HMz5.out.mono (fun _ _ e => .inl e)).trans (HM5y.out.mono (fun _ _ e => e.elim))))) (fun hU => ?_)
      clear hK K hHeld; have hHeld := hU; clear hU; try simp only [Act.put, sTA, sC0, sC1]
      refine aRd (rs := [11]) (by kernel_rfl) (by simp) (AllL.cons rfl (by kernel_rfl) hHeld (fun K hK => ?_) AllL.nil)
      have HM5x : Hid (Mod (fun _ => False) w5 Y2) := hid HM5y.out
      refine qAr rfl (.tmp 36) (.tmp 39) 56 rfl 3 j0 _ 1 8 Tryz.underlying56 hj hy0 hy1 hy2 rfl m.ia m.kids.length m.ic _ (by simp [Act.eval]) ((HOi.out w5 HMz5.out).mod HM5x.out (fun _ _ e => e)) (some ⟨w5.heap.size, 0, none⟩) 1 1 [.int .i64 pn] (by simp [Act.eval]) (qAw HNb2.out rfl) (by intro u hu; simp at hu; subst hu; rfl) (by have := HBd.out; unfold maxLen; omega) (by have := HBd.out; omega) ?_
      intro a2 c2 w7 hown7 hm7 hb7 hn7 hr7; have HM57 : Hid (Mod (blk m.ia) w5 w7) := hid ((HM5x.out.mono (fun _ _ e => e.elim)).trans hm7)
      have HO7 := hid hown7; have HB7 : Hid (∀ k, blk a2 k -> blk m.ia k \/ w5.heap.size <= k) := hid (fun k hk => (hb7 k hk).imp id (fun h => Nat.le_trans HM5x.out.size h))
      have HMz7 : Hid (Mod (fun k => blk m.ka k \/ blk m.ia k) Z w7) := hid ((HMz5.out.mono (fun _ _ e => .inl e)).trans (HM57.out.mono (fun _ _ e => .inr e)))
      clear hown7 hm7 hb7 hn7 hr7; refine hK.out _ _ (qAa.all (HS.out w7 HMz7.out)) (fun hU => ?_)
      clear hK K hHeld; have hHeld := hU; clear hU; try simp only [Act.put, sTA]
      refine aRd (rs := [13]) (by kernel_rfl) (by simp) (AllL.cons rfl (by kernel_rfl) hHeld (fun K hK => ?_) AllL.nil)
      have HX7 : Hid (Bx w7 q m) := hid (HZq.out.box.mod HMz7.out (fun e => e.elim (fun e => (HZq.out.bs q (.inl e)).2 rfl) (fun e => (HZq.out.bs q (.inr (.inr e))).2 rfl)))
      obtain ⟨x0, x1, x2, x3⟩ := HX7.out.cells; have y1 := frozen_of_row _ _ 1 _ _ HX7.out; go_simp; clear x0 x1 x2 x3 y1; refine hK.out _ _ (qAa.set (by rw [hHeld.1]; decide)) (fun hU => ?_)
      clear hK K hHeld; have hHeld := hU; clear hU; try simp only [Act.put, sTA, sC0, sC1]
      refine aTk (v := .pointer (some ⟨q, 3, none⟩)) (d := 42) 14 rfl rfl (by kernel_rfl) (by kernel_rfl) (by kernel_rfl) (fun _ _ _ h => h) (fun l w h => qAa.same (by decide) h) (fun l j w h => qAa.mono h j) (Or.inl ⟨by rfl, fun w' _ => by go_simp⟩) hHeld (fun hU => ?_)
      clear hHeld; have hHeld := hU; clear hU; simp only [Act.put, sTA, sC0, sC1]; refine aRd (rs := [15]) (by kernel_rfl) (by simp) (AllL.cons rfl (by kernel_rfl) hHeld (fun K hK => ?_) AllL.nil)
      have HX8 := hid (set4 HX7.out (.slice a1 (m.keys.length + 1) c1)).2.1; obtain ⟨x0, x1, x2, x3⟩ := cl4 HX8.out; have y3 := frozen_of_row _ _ 3 _ _ HX8.out; go_simp; clear x0 x1 x2 x3 y3; refine hK.out _ _ (fun hu => absurd (show true = false from hu) (by decide)) (fun hU => ?_)
      clear hK K hHeld; have hHeld := hU; clear hU; try simp only [Act.put, sTA, sC0, sC1]
      refine qBc (by kernel_rfl) ?_ _
      clear hHeld; go_wp2_with fail
      go_roundw
      case rel =>
       have hk7 := HO5.out.mod HM57.out (fun k hk e => by rcases HB5.out k hk with h | h; exact HZq.out.gd.ki k h e; have := HZq.out.gd.lt (.inr (.inr e)); omega)
       obtain ⟨hh1, hh2⟩ := qPx (N := w5.heap.size) HZq.out hk7 HO7.out HMz7.out (fun k hk => ⟨HB5.out k hk, HO5.out.lt k hk⟩) HB7.out HMz5.out.size
       have htk : ps.take (k + 1) = ps.take k ++ [(pk, pn)] := by rw [List.take_add_one, HPk.out]; rfl
       exact ⟨k + 1, _, by omega, by go_num, hh1, HLf.out, by rw [htk, List.map_append, <- List.append_assoc, <- HKs.out]; rfl, HVs.out, by rw [htk, List.map_append, <- List.append_assoc, <- HKi.out]; rfl, (HMr.out.trans HMa.out).then hh2 (fun i hi e => by omega)⟩
      case measure => simp [intOf]; omega
     ·go_simp; have hmy : Mod (fun _ => False) Y1 (Y1.alloc (.cells #[.int .i64 pn] 3)) := (Mod.refl _ _).alloc _
      have HNb2 : Hid ((Y1.alloc (.cells #[.int .i64 pn] 3)).heap[Y1.heap.size]? = some (.cells #[.int .i64 pn] 3 (0, 0))) := hid (heap_alloc_new _ _); have HMb2 : Hid (Mod (fun _ => False) Z (Y1.alloc (.cells #[.int .i64 pn] 3))) := hid (HMb1.out.trans hmy)
      have HGe2 : Hid (Z.heap.size <= Y1.heap.size) := hid HMb1.out.size; have HKb1 : Hid ((Y1.alloc (.cells #[.int .i64 pn] 3)).heap[Y0.heap.size]? = some (.cells #[.string pk] 9 (0, 0))) := hid (qAq hmy HNb1.out); clear hmy; generalize Y1.alloc (.cells #[.int .i64 pn] 3) = Y2 at *; refine hK.out _ _ (qAa.all (HS.out Y2 (HMb2.out.mono (fun _ _ e => e.elim)))) (fun hU => ?_)
      clear hK K hHeld; have hHeld := hU; clear hU; try simp only [Act.put, sTA, sC0, sC1]
      refine aRd (rs := [5]) (by kernel_rfl) (by simp) (AllL.cons rfl (by kernel_rfl) hHeld (fun K hK => ?_) AllL.nil)
      refine qAr rfl (.tmp 30) (.tmp 33) 68 rfl 9 i0 _ 1 16 Tryz.underlying68 hi hz0 hz1 hz2 rfl m.ka m.keys.length m.kc _ (by simp [Act.eval]) (HOk.out Y2 HMb2.out) (some ⟨Y0.heap.size, 0, none⟩) 1 1 [.string pk] (by simp [Act.eval]) (qAw HKb1.out rfl) (by intro u hu; simp at hu; subst hu; rfl) (by have := HBd.out; unfold maxLen; omega) (by have := HBd.out; omega) ?_
      intro a1 c1 w5 hown5 hm5 hb5 hn5 hr5; have HMz5 : Hid (Mod (blk m.ka) Z w5) := hid ((HMb2.out.mono (fun _ _ e => e.elim)).trans hm5)
      have HO5 := hid hown5; have HB5 : Hid (∀ k, blk a1 k -> blk m.ka k \/ Z.heap.size <= k) := hid (fun k hk => (hb5 k hk).imp id (fun h => Nat.le_trans HMb2.out.size h))
      have HW2 : Hid (w5.heap[Y1.heap.size]? = some (.cells #[.int .i64 pn] 3 (0, 0))) := hid ((hm5.block _ (lth HNb2.out) (HNb.out _ HGe2.out)).trans HNb2.out); clear hown5 hm5 hb5 hn5 hr5; refine hK.out _ _ (qAa.all (HS.out w5 (HMz5.out.mono (fun _ _ e => .inl e)))) (fun hU => ?_)
      clear hK K hHeld; have hHeld := hU; clear hU; try simp only [Act.put, sTA]
      refine aTk (v := .pointer (some ⟨q, 1, none⟩)) (d := 41) 12 rfl rfl (by kernel_rfl) (by kernel_rfl) (by kernel_rfl) (fun _ _ _ h => h) (fun l w h => qAa.same (by decide) h) (fun l j w h => qAa.mono h j) (Or.inl ⟨by rfl, fun w' _ => by go_simp⟩) hHeld (fun hU => ?_)
      clear hHeld; have hHeld := hU; clear hU; simp only [Act.put]; refine aRd (rs := [11]) (by kernel_rfl) (by simp) (AllL.cons rfl (by kernel_rfl) hHeld (fun K hK => ?_) AllL.nil)
      have HM5x : Hid (Mod (fun _ => False) w5 w5) := hid (Mod.refl _ _)
      refine qAr rfl (.tmp 36) (.tmp 39) 56 rfl 3 j0 _ 1 8 Tryz.underlying56 hj hy0 hy1 hy2 rfl m.ia m.kids.length m.ic _ (by simp [Act.eval]) ((HOi.out w5 HMz5.out).mod HM5x.out (fun _ _ e => e)) (some ⟨Y1.heap.size, 0, none⟩) 1 1 [.int .i64 pn] (by simp [Act.eval]) (qAw HW2.out rfl) (by intro u hu; simp at hu; subst hu; rfl) (by have := HBd.out; unfold maxLen; omega) (by have := HBd.out; omega) ?_
      intro a2 c2 w7 hown7 hm7 hb7 hn7 hr7; have HM57 : Hid (Mod (blk m.ia) w5 w7) := hid ((HM5x.out.mono (fun _ _ e => e.elim)).trans hm7)
      have HO7 := hid hown7; have HB7 : Hid (∀ k, blk a2 k -> blk m.ia k \/ w5.heap.size <= k) := hid (fun k hk => (hb7 k hk).imp id (fun h => Nat.le_trans HM5x.out.size h))
      have HMz7 : Hid (Mod (fun k => blk m.ka k \/ blk m.ia k) Z w7) := hid ((HMz5.out.mono (fun _ _ e => .inl e)).trans (HM57.out.mono (fun _ _ e => .inr e)))
      clear hown7 hm7 hb7 hn7 hr7; refine hK.out _ _ (qAa.all (HS.out w7 HMz7.out)) (fun hU => ?_)
      clear hK K hHeld; have hHeld := hU; clear hU; try simp only [Act.put]
      refine aRd (rs := [13]) (by kernel_rfl) (by simp) (AllL.cons rfl (by kernel_rfl) hHeld (fun K hK => ?_) AllL.nil)
      have HX7 : Hid (Bx w7 q m) := hid (HZq.out.box.mod HMz7.out (fun e => e.elim (fun e => (HZq.out.bs q (.inl e)).2 rfl) (fun e => (HZq.out.bs q (.inr (.inr e))).2 rfl)))
      obtain ⟨x0, x1, x2, x3⟩ := HX7.out.cells; have y1 := frozen_of_row _ _ 1 _ _ HX7.out; go_simp; clear x0 x1 x2 x3 y1; refine hK.out _ _ (qAa.set (by rw [hHeld.1]; decide)) (fun hU => ?_)
      clear hK K hHeld; have hHeld := hU; clear hU; try simp only [Act.put, sTA, sC0, sC1]
      refine aTk (v := .pointer (some ⟨q, 3, none⟩)) (d := 42) 14 rfl rfl (by kernel_rfl) (by kernel_rfl) (by kernel_rfl) (fun _ _ _ h => h) (fun l w h => qAa.same (by decide) h) (fun l j w h => qAa.mono h j) (Or.inl ⟨by rfl, fun w' _ => by go_simp⟩) hHeld (fun hU => ?_)
      clear hHeld; have hHeld := hU; clear hU; simp only [Act.put, sTA, sC0, sC1]; refine aRd (rs := [15]) (by kernel_rfl) (by simp) (AllL.cons rfl (by kernel_rfl) hHeld (fun K hK => ?_) AllL.nil)
      have HX8 := hid (set4 HX7.out (.slice a1 (m.keys.length + 1) c1)).2.1; obtain ⟨x0, x1, x2, x3⟩ := cl4 HX8.out; have y3 := frozen_of_row _ _ 3 _ _ HX8.out; go_simp; clear x0 x1 x2 x3 y3; refine hK.out _ _ (fun hu => absurd (show true = false from hu) (by decide)) (fun hU => ?_)
      clear hK K hHeld; have hHeld := hU; clear hU; try simp only [Act.put, sTA, sC0, sC1]
      refine qBc (by kernel_rfl) ?_ _
      clear hHeld; go_wp2_with fail
      go_roundw
      case rel =>
       have hk7 := HO5.out.mod HM57.out (fun k hk e => by rcases HB5.out k hk with h | h; exact HZq.out.gd.ki k h e; have := HZq.out.gd.lt (.inr (.inr e)); omega)
       obtain ⟨hh1, hh2⟩ := qPx (N := w5.heap.size) HZq.out hk7 HO7.out HMz7.out (fun k hk => ⟨HB5.out k hk, HO5.out.lt k hk⟩) HB7.out HMz5.out.size
       have htk : ps.take (k + 1) = ps.take k ++ [(pk, pn)] := by rw [List.take_add_one, HPk.out]; rfl
       exact ⟨k + 1, _, by omega, by go_num, hh1, HLf.out, by rw [htk, List.map_append, <- List.append_assoc, <- HKs.out]; rfl, HVs.out, by rw [htk, List.map_append, <- List.append_assoc, <- HKi.out]; rfl, (HMr.out.trans HMa.out).then hh2 (fun i hi e => by omega)⟩
      case measure => simp [intOf]; omega
    ·go_simp; have hmy : Mod (fun _ => False) Y0 (Y0.alloc (.cells #[.int .i64 pn] 3)) := (Mod.refl _ _).alloc _
     have HNb2 : Hid ((Y0.alloc (.cells #[.int .i64 pn] 3)).heap[Y0.heap.size]? = some (.cells #[.int .i64 pn] 3 (0, 0))) := hid (heap_alloc_new _ _); have HMb2 : Hid (Mod (fun _ => False) Z (Y0.alloc (.cells #[.int .i64 pn] 3))) := hid (HMd.out.trans hmy)
     have HGe2 : Hid (Z.heap.size <= Y0.heap.size) := hid HMd.out.size; clear hmy; generalize Y0.alloc (.cells #[.int .i64 pn] 3) = Y2 at *; refine hK.out _ _ (qAa.all (HS.out Y2 (HMb2.out.mono (fun _ _ e => e.elim)))) (fun hU => ?_)
     clear hK K hHeld; have hHeld := hU; clear hU; try simp only [Act.put, sTA, sC0, sC1]
     refine aRd (rs := [4]) (by kernel_rfl) (by simp) (AllL.cons rfl (by kernel_rfl) hHeld (fun K hK => ?_) AllL.nil)
     go_simp; have hmy : Mod (fun _ => False) Y2 (Y2.alloc (.cells #[.string pk] 9)) := (Mod.refl _ _).alloc _
     have HNb1 : Hid ((Y2.alloc (.cells #[.string pk] 9)).heap[Y2.heap.size]? = some (.cells #[.string pk] 9 (0, 0))) := hid (heap_alloc_new _ _); have HMb1 : Hid (Mod (fun _ => False) Z (Y2.alloc (.cells #[.string pk] 9))) := hid (HMb2.out.trans hmy)
     have HKb2 : Hid ((Y2.alloc (.cells #[.string pk] 9)).heap[Y0.heap.size]? = some (.cells #[.int .i64 pn] 3 (0, 0))) := hid (qAq hmy HNb2.out); clear hmy; generalize Y2.alloc (.cells #[.string pk] 9) = Y1 at *; refine hK.out _ _ (qAa.all (HS.out Y1 (HMb1.out.mono (fun _ _ e => e.elim)))) (fun hU => ?_)
     clear hK K hHeld; have hHeld := hU; clear hU; try simp only [Act.put, sTA, sC0, sC1]
     refine aRd (rs := [5]) (by kernel_rfl) (by simp) (AllL.cons rfl (by kernel_rfl) hHeld (fun K hK => ?_) AllL.nil)
     refine qAr rfl (.tmp 30) (.tmp 33) 68 rfl 9 i0 _ 1 16 Tryz.underlying68 hi hz0 hz1 hz2 rfl m.ka m.keys.length m.kc _ (by simp [Act.eval]) (HOk.out Y1 HMb1.out) (some ⟨Y2.heap.size, 0, none⟩) 1 1 [.string pk] (by simp [Act.eval]) (qAw HNb1.out rfl) (by intro u hu; simp at hu; subst hu; rfl) (by have := HBd.out; unfold maxLen; omega) (by have := HBd.out; omega) ?_
     intro a1 c1 w5 hown5 hm5 hb5 hn5 hr5; have HMz5 : Hid (Mod (blk m.ka) Z w5) := hid ((HMb1.out.mono (fun _ _ e => e.elim)).trans hm5)
     have HO5 := hid hown5; have HB5 : Hid (∀ k, blk a1 k -> blk m.ka k \/ Z.heap.size <= k) := hid (fun k hk => (hb5 k hk).imp id (fun h => Nat.le_trans HMb1.out.size h))
     have HW2 : Hid (w5.heap[Y0.heap.size]? = some (.cells #[.int .i64 pn] 3 (0, 0))) := hid ((hm5.block _ (lth HKb2.out) (HNb.out _ HGe2.out)).trans HKb2.out); clear hown5 hm5 hb5 hn5 hr5; refine hK.out _ _ (qAa.all (HS.out w5 (HMz5.out.mono (fun _ _ e => .inl e)))) (fun hU => ?_)
     clear hK K hHeld; have hHeld := hU; clear hU; try simp only [Act.put, sTA]
     refine aTk (v := .pointer (some ⟨q, 1, none⟩)) (d := 41) 12 rfl rfl (by kernel_rfl) (by kernel_rfl) (by kernel_rfl) (fun _ _ _ h => h) (fun l w h => qAa.same (by decide) h) (fun l j w h => qAa.mono h j) (Or.inl ⟨by rfl, fun w' _ => by go_simp⟩) hHeld (fun hU => ?_)
     clear hHeld; have hHeld := hU; clear hU; simp only [Act.put]; refine aRd (rs := [11]) (by kernel_rfl) (by simp) (AllL.cons rfl (by kernel_rfl) hHeld (fun K hK => ?_) AllL.nil)
     have HM5x : Hid (Mod (fun _ => False) w5 w5) := hid (Mod.refl _ _)
     refine qAr rfl (.tmp 36) (.tmp 39) 56 rfl 3 j0 _ 1 8 Tryz.underlying56 hj hy0 hy1 hy2 rfl m.ia m.kids.length m.ic _ (by simp [Act.eval]) ((HOi.out w5 HMz5.out).mod HM5x.out (fun _ _ e => e)) (some ⟨Y0.heap.size, 0, none⟩) 1 1 [.int .i64 pn] (by simp [Act.eval]) (qAw HW2.out rfl) (by intro u hu; simp at hu; subst hu; rfl) (by have := HBd.out; unfold maxLen; omega) (by have := HBd.out; omega) ?_
     intro a2 c2 w7 hown7 hm7 hb7 hn7 hr7; have HM57 : Hid (Mod (blk m.ia) w5 w7) := hid ((HM5x.out.mono (fun _ _ e => e.elim)).trans hm7)
     have HO7 := hid hown7; have HB7 : Hid (∀ k, blk a2 k -> blk m.ia k \/ w5.heap.size <= k) := hid (fun k hk => (hb7 k hk).imp id (fun h => Nat.le_trans HM5x.out.size h))
     have HMz7 : Hid (Mod (fun k => blk m.ka k \/ blk m.ia k) Z w7) := hid ((HMz5.out.mono (fun _ _ e => .inl e)).trans (HM57.out.mono (fun _ _ e => .inr e)))
     clear hown7 hm7 hb7 hn7 hr7; refine hK.out _ _ (qAa.all (HS.out w7 HMz7.out)) (fun hU => ?_)
     clear hK K hHeld; have hHeld := hU; clear hU; try simp only [Act.put]
     refine aRd (rs := [13]) (by kernel_rfl) (by simp) (AllL.cons rfl (by kernel_rfl) hHeld (fun K hK => ?_) AllL.nil)
     have HX7 : Hid (Bx w7 q m) := hid (HZq.out.box.mod HMz7.out (fun e => e.elim (fun e => (HZq.out.bs q (.inl e)).2 rfl) (fun e => (HZq.out.bs q (.inr (.inr e))).2 rfl)))
     obtain ⟨x0, x1, x2, x3⟩ := HX7.out.cells; have y1 := frozen_of_row _ _ 1 _ _ HX7.out; go_simp; clear x0 x1 x2 x3 y1; refine hK.out _ _ (qAa.set (by rw [hHeld.1]; decide)) (fun hU => ?_)
     clear hK K hHeld; have hHeld := hU; clear hU; try simp only [Act.put, sTA, sC0, sC1]
     refine aTk (v := .pointer (some ⟨q, 3, none⟩)) (d := 42) 14 rfl rfl (by kernel_rfl) (by kernel_rfl) (by kernel_rfl) (fun _ _ _ h => h) (fun l w h => qAa.same (by decide) h) (fun l j w h => qAa.mono h j) (Or.inl ⟨by rfl, fun w' _ => by go_simp⟩) hHeld (fun hU => ?_)
     clear hHeld; have hHeld := hU; clear hU; simp only [Act.put, sTA, sC0, sC1]; refine aRd (rs := [15]) (by kernel_rfl) (by simp) (AllL.cons rfl (by kernel_rfl) hHeld (fun K hK => ?_) AllL.nil)
     have HX8 := hid (set4 HX7.out (.slice a1 (m.keys.length + 1) c1)).2.1; obtain ⟨x0, x1, x2, x3⟩ := cl4 HX8.out; have y3 := frozen_of_row _ _ 3 _ _ HX8.out; go_simp; clear x0 x1 x2 x3 y3; refine hK.out _ _ (fun hu => absurd (show true = false from hu) (by decide)) (fun hU => ?_)
     clear hK K hHeld; have hHeld := hU; clear hU; try simp only [Act.put, sTA, sC0, sC1]
     refine qBc (by kernel_rfl) ?_ _
     clear hHeld; go_wp2_with fail
     go_roundw
     case rel =>
      have hk7 := HO5.out.mod HM57.out (fun k hk e => by rcases HB5.out k hk with h | h; exact HZq.out.gd.ki k h e; have := HZq.out.gd.lt (.inr (.inr e)); omega)
      obtain ⟨hh1, hh2⟩ := qPx (N := w5.heap.size) HZq.out hk7 HO7.out HMz7.out (fun k hk => ⟨HB5.out k hk, HO5.out.lt k hk⟩) HB7.out HMz5.out.size
      have htk : ps.take (k + 1) = ps.take k ++ [(pk, pn)] := by rw [List.take_add_one, HPk.out]; rfl
      exact ⟨k + 1, _, by omega, by go_num, hh1, HLf.out, by rw [htk, List.map_append, <- List.append_assoc, <- HKs.out]; rfl, HVs.out, by rw [htk, List.map_append, <- List.append_assoc, <- HKi.out]; rfl, (HMr.out.trans HMa.out).then hh2 (fun i hi e => by omega)⟩
     case measure => simp [intOf]; omega
   ·have hke : k = ps.length := by omega
    subst hke; rw [List.take_length] at HKs HKi; have hvw := HMr.out; have hbn : wr.heap[w.heap.size]? = _ := (HMr.out.block _ (lth HB0.out) (fun e => e)).trans HB0.out
    have hbr : wr.heap[w.heap.size + 1]? = _ := (HMr.out.block _ (lth HB1.out) (fun e => e)).trans HB1.out
    have HBn := hid hbn; have HBr := hid hbr; clear hvw hbn hbr; have HLk := hid (HN.out.nd.k.ext (HM0.out.trans HMr.out)); have HLi := hid (HN.out.nd.i.ext (HM0.out.trans HMr.out)); have HLtk := hid HN.out.nd.k.lt; have HLti := hid HN.out.nd.i.lt; have HBd : Hid (m.keys.length <= 1048576 + 16 /\ m.kids.length <= 1048576 + 16) := hid (by
     rw [HKs.out, HKi.out, List.length_append, List.length_append, List.length_map, List.length_map, List.length_take, List.length_take]; have := HIl.out; have := HKl.out; omega)
    have HRes : Hid (∀ (X : World) (m' : Nd), Hold X V.heap.size q m' -> m'.leaf = false -> m'.keys = m.keys ++ n.keys.drop b -> m'.values = [] -> m'.kids = m.kids ++ n.kids.drop b -> Has m' false (qAy es a b ps) /\ NdC X m') := hid (fun X m' hX h1 h2 h3 h4 => by
     have hhas : Has m' false (qAy es a b ps) := by
      refine ⟨h1, ?_, h3, ?_⟩
      ·rw [h2, HKs.out, HH.out.k]; unfold qAy; simp [List.map_take, List.map_drop, qNk, Function.comp_def]
      ·have hk : n.kids = es.map (·.kid) := HH.out.i; rw [h4, HKi.out, hk]; unfold qAy; simp [List.map_take, List.map_drop, qNk, Function.comp_def]
     refine ⟨hhas, hX.gd.ndc (hhas.ok hX.gd ?_ ?_)⟩
     ·unfold qAy; rw [List.length_append, List.length_append, List.length_take, List.length_map, List.length_drop]; omega
     ·intro x hx; have hea : ∀ y ∈ es, y.Ok := fun y hy => by
       have hy' := hy; obtain ⟨j, hj, rfl⟩ := List.getElem_of_mem hy; have hkj : n.keys[j]? = some es[j].key := by rw [HH.out.k, List.getElem?_map, List.getElem?_eq_getElem hj]; rfl
       have hij : n.kids[j]? = some es[j].kid := by
        have hk : n.kids = es.map (·.kid) := HH.out.i; rw [hk, List.getElem?_map, List.getElem?_eq_getElem hj]; rfl
       exact ⟨HN.out.nd.sk _ (List.mem_of_getElem? hkj), HVl.out _ hy', HN.out.nd.rk _ (List.mem_of_getElem? hij)⟩
      unfold qAy at hx; rcases List.mem_append.1 hx with hx | hx
      ·exact hea x (List.mem_of_mem_take hx)
      ·rcases List.mem_append.1 hx with hx | hx
       ·obtain ⟨p, hp, rfl⟩ := List.mem_map.1 hx; exact ⟨(HPs.out p hp).1, Nat.zero_le _, (HPs.out p hp).2⟩
       ·exact hea x (List.mem_of_mem_drop hx))
    go_upto_region 7 with fail
    have HZq := hid HHo.out; have HMd : Hid (Mod (fun _ => False) wr wr.drew) := hid (Mod.refl _ _).drew
    have HOk : Hid (∀ y, Mod (fun _ => False) wr y -> Own y 9 1 m.ka m.keys.length m.kc (m.keys.flatMap scs)) := hid (fun y hy => HZq.out.gd.k.mod hy (fun _ _ e => e))
    have HOi : Hid (∀ y, Mod (blk m.ka) wr y -> Own y 3 1 m.ia m.kids.length m.ic (m.kids.flatMap ics)) := hid (fun y hy => HZq.out.gd.i.mod hy (fun k h1 h2 => HZq.out.gd.ki k h2 h1))
    have HLo : Hid (∀ k, k < V.heap.size -> ¬ (blk m.ka k \/ blk m.ia k)) := hid (fun k hk e => e.elim (fun e => by have := (HZq.out.bs k (.inl e)).1; omega) (fun e => by have := (HZq.out.bs k (.inr (.inr e))).1; omega))
    have HVw : Hid (w.heap.size + 1 < V.heap.size) := hid (lth HB1.out); obtain ⟨i0, hi, hz0, hz1, hz2⟩ := info_parts qPw; obtain ⟨j0, hj, hy0, hy1, hy2⟩ := info_parts qKm; by_cases hem : es = []
    ·obtain ⟨e1, e2, e3, e4⟩ := HZe.out hem; have hkn : n.keys = [] := List.eq_nil_of_length_eq_zero (by rw [HKl.out, hem]; rfl)
     have hin : n.kids = [] := List.eq_nil_of_length_eq_zero (by rw [HIl.out, hem]; rfl)
     obtain rfl : b = 0 := by rw [hem] at hb; exact Nat.le_zero.1 hb
     have HKn : Hid (n.keys.drop 0 = []) := hid (by rw [hkn]; rfl)
     have HIn : Hid (n.kids.drop 0 = []) := hid (by rw [hin]; rfl)
     rw [e1, e2, e3, e4, hkn, hin] at HBn; simp only [List.length_nil] at HBn; have HS : Hid (∀ y, Mod (fun k => blk m.ka k \/ blk m.ia k) wr y -> y.cell? ⟨q, 1, none⟩ = some (.slice m.ka m.keys.length m.kc) /\ y.cell? ⟨q, 3, none⟩ = some (.slice m.ia m.kids.length m.ic) /\ y.cell? ⟨w.heap.size, 1, none⟩ = some (.slice none 0 0) /\ y.cell? ⟨w.heap.size, 3, none⟩ = some (.slice none 0 0)) := hid (fun y hy => by
      have hb := HZq.out.box.mod hy (fun e => e.elim (fun e => (HZq.out.bs q (.inl e)).2 rfl) (fun e => (HZq.out.bs q (.inr (.inr e))).2 rfl))
      have hp := (hy.block _ (lth HBn.out) (HLo.out _ (by have := HVw.out; omega))).trans HBn.out
      obtain ⟨_, e1, _, e3⟩ := hb.cells; obtain ⟨_, e5, _, e7⟩ := cl4 hp; exact ⟨e1, e3, e5, e7⟩)
     have HSk : Hid (∀ y : World, Mod (fun _ => False) wr y -> Src y 1 none 0 []) := hid (fun y _ => ⟨rfl, fun _ => rfl, fun a _ j u hu => by simp at hu⟩)
     have HSi : Hid (∀ y : World, Mod (blk m.ka) wr y -> Src y 1 none 0 []) := hid (fun y _ => ⟨rfl, fun _ => rfl, fun a _ j u hu => by simp at hu⟩)
     clear hkn hin e1 e2 e3 e4; refine qBw (S := qAa 15 (fun w' => w'.cell? ⟨q, 1, none⟩ = some (.slice m.ka m.keys.length m.kc) /\ w'.cell? ⟨q, 3, none⟩ = some (.slice m.ia m.kids.length m.ic) /\ w'.cell? ⟨w.heap.size, 1, none⟩ = some (.slice none 0 0) /\ w'.cell? ⟨w.heap.size, 3, none⟩ = some (.slice none 0 0))) (by kernel_rfl) (qAa.all (HS.out _ (HMd.out.mono (fun _ _ e => e.elim)))) (fun hHeld => ?_)
     generalize wr.drew = Y0 at *; refine aTk (v := .pointer (some ⟨q, 1, none⟩)) (d := 44) 0 rfl rfl (by kernel_rfl) (by kernel_rfl) (by kernel_rfl) (fun _ _ _ h => h) (fun l w h => qAa.same (by decide) h) (fun l j w h => qAa.mono h j) (Or.inl ⟨by rfl, fun w' _ => by go_simp⟩) hHeld (fun hU => ?_)
     clear hHeld; have hHeld := hU; clear hU; simp only [Act.put, sTA, sC0, sC1]; refine aTk (v := .slice m.ka m.keys.length m.kc) (d := 45) 1 rfl rfl (by kernel_rfl) (by kernel_rfl) (by kernel_rfl) (fun _ _ _ h => h) (fun l w h => qAa.same (by decide) h) (fun l j w h => qAa.mono h j) (Or.inl ⟨by rfl, fun w' hT => by (obtain ⟨l', hz', hu', hC', hS'⟩ := hT; obtain ⟨c1, c3, p1, p3⟩ := hS' (hC'.later (i := 1) (j := 15) rfl (by rw [hz']; decide) (by kernel_rfl) hu'); go_simp)⟩) hHeld (fun hU => ?_)
     clear hHeld; have hHeld := hU; clear hU; simp only [Act.put, sTA, sC0, sC1]; refine aTk (v := .pointer (some ⟨w.heap.size, 1, none⟩)) (d := 46) 2 rfl rfl (by kernel_rfl) (by kernel_rfl) (by kernel_rfl) (fun _ _ _ h => h) (fun l w h => qAa.same (by decide) h) (fun l j w h => qAa.mono h j) (Or.inl ⟨by rfl, fun w' _ => by go_simp⟩) hHeld (fun hU => ?_)
     clear hHeld; have hHeld := hU; clear hU; simp only [Act.put, sTA, sC0, sC1]; refine aTk (v := .slice none 0 0) (d := 47) 3 rfl rfl (by kernel_rfl) (by kernel_rfl) (by kernel_rfl) (fun _ _ _ h => h) (fun l w h => qAa.same (by decide) h) (fun l j w h => qAa.mono h j) (Or.inl ⟨by rfl, fun w' hT => by (obtain ⟨l', hz', hu', hC', hS'⟩ := hT; obtain ⟨c1, c3, p1, p3⟩ := hS' (hC'.later (i := 3) (j := 15) rfl (by rw [hz']; decide) (by kernel_rfl) hu'); go_simp)⟩) hHeld (fun hU => ?_)
     clear hHeld; have hHeld := hU; clear hU; simp only [Act.put, sTA, sC0, sC1]; refine aTk (v := .int .i64 ((0 : Nat) : Int)) (d := 48) 4 rfl rfl (by kernel_rfl) (by kernel_rfl) (by kernel_rfl) (fun _ _ _ h => h) (fun l w h => qAa.same (by decide) h) (fun l j w h => qAa.mono h j) (Or.inl ⟨by rfl, fun w' _ => by go_simp⟩) hHeld (fun hU => ?_)
     clear hHeld; have hHeld := hU; clear hU; simp only [Act.put, sTA, sC0, sC1]; refine aTk (v := .slice none 0 0) (d := 49) 5 rfl rfl (by kernel_rfl) (by kernel_rfl) (by kernel_rfl) (fun _ _ _ h => h) (fun l w h => qAa.same (by decide) h) (fun l j w h => qAa.mono h j) (Or.inl ⟨by rfl, fun w' _ => by go_simp⟩) hHeld (fun hU => ?_)
     clear hHeld; have hHeld := hU; clear hU; simp only [Act.put, sTA, sC0, sC1]; refine aTk (v := .pointer (some ⟨q, 3, none⟩)) (d := 51) 7 rfl rfl (by kernel_rfl) (by kernel_rfl) (by kernel_rfl) (fun _ _ _ h => h) (fun l w h => qAa.same (by decide) h) (fun l j w h => qAa.mono h j) (Or.inl ⟨by rfl, fun w' _ => by go_simp⟩) hHeld (fun hU => ?_)
     clear hHeld; have hHeld := hU; clear hU; simp only [Act.put, sTA, sC0, sC1]; refine aTk (v := .slice m.ia m.kids.length m.ic) (d := 52) 8 rfl rfl (by kernel_rfl) (by kernel_rfl) (by kernel_rfl) (fun _ _ _ h => h) (fun l w h => qAa.same (by decide) h) (fun l j w h => qAa.mono h j) (Or.inl ⟨by rfl, fun w' hT => by (obtain ⟨l', hz', hu', hC', hS'⟩ := hT; obtain ⟨c1, c3, p1, p3⟩ := hS' (hC'.later (i := 8) (j := 15) rfl (by rw [hz']; decide) (by kernel_rfl) hu'); go_simp)⟩) hHeld (fun hU => ?_)
     clear hHeld; have hHeld := hU; clear hU; simp only [Act.put, sTA, sC0, sC1]; refine aTk (v := .pointer (some ⟨w.heap.size, 3, none⟩)) (d := 53) 9 rfl rfl (by kernel_rfl) (by kernel_rfl) (by kernel_rfl) (fun _ _ _ h => h) (fun l w h => qAa.same (by decide) h) (fun l j w h => qAa.mono h j) (Or.inl ⟨by rfl, fun w' _ => by go_simp⟩) hHeld (fun hU => ?_)
     clear hHeld; have hHeld := hU; clear hU; simp only [Act.put, sTA, sC0, sC1]
     refine aTk (v := .slice none 0 0) (d := 54) 10 rfl rfl (by kernel_rfl) (by kernel_rfl) (by kernel_rfl) (fun _ _ _ h => h) (fun l w h => qAa.same (by decide) h) (fun l j w h => qAa.mono h j) (Or.inl ⟨by rfl, fun w' hT => by (obtain ⟨l', hz', hu', hC', hS'⟩ := hT; obtain ⟨c1, c3, p1, p3⟩ := hS' (hC'.later (i := 13) (j := 15) rfl (by rw [hz']; decide) (by kernel_rfl) (hC'.later (i := 12) (j := 13) rfl (by rw [hz']; decide) (by kernel_rfl) (hC'.later (i := 10) (j := 12) rfl (by rw [hz']; decide) (by kernel_rfl) hu'))); go_simp)⟩) hHeld (fun hU => ?_)
     clear hHeld; have hHeld := hU; clear hU; simp only [Act.put, sTA, sC0, sC1]; refine aTk (v := .int .i64 ((0 : Nat) : Int)) (d := 55) 11 rfl rfl (by kernel_rfl) (by kernel_rfl) (by kernel_rfl) (fun _ _ _ h => h) (fun l w h => qAa.same (by decide) h) (fun l j w h => qAa.mono h j) (Or.inl ⟨by rfl, fun w' _ => by go_simp⟩) hHeld (fun hU => ?_)
     clear hHeld; have hHeld := hU; clear hU; simp only [Act.put, sTA, sC0, sC1]; refine aTk (v := .slice none 0 0) (d := 56) 12 rfl rfl (by kernel_rfl) (by kernel_rfl) (by kernel_rfl) (fun _ _ _ h => h) (fun l w h => qAa.same (by decide) h) (fun l j w h => qAa.mono h j) (Or.inl ⟨by rfl, fun w' _ => by go_simp⟩) hHeld (fun hU => ?_)
     clear hHeld; have hHeld := hU; clear hU; simp only [Act.put, sTA, sC0, sC1]; refine aRd (rs := [6]) (by kernel_rfl) (by simp) (AllL.cons rfl (by kernel_rfl) hHeld (fun K hK => ?_) AllL.nil)
     refine qAr rfl (.tmp 45) (.tmp 49) 68 rfl 9 i0 _ 1 16 Tryz.underlying68 hi hz0 hz1 hz2 rfl m.ka m.keys.length m.kc _ (by simp [Act.eval]) (HOk.out Y0 HMd.out) none 0 0 [] (by simp [Act.eval]) (HSk.out Y0 HMd.out) (fun u hu => by cases hu) (by have := HBd.out; unfold maxLen; omega) (by have := HBd.out; omega) ?_
     intro a1 c1 w5 hown5 hm5 hb5 hn5 hr5; have HMz5 : Hid (Mod (blk m.ka) wr w5) := hid ((HMd.out.mono (fun _ _ e => e.elim)).trans hm5)
     have HO5 := hid hown5; have HB5 : Hid (∀ k, blk a1 k -> blk m.ka k \/ wr.heap.size <= k) := hid (fun k hk => (hb5 k hk).imp id (fun h => Nat.le_trans HMd.out.size h))
     clear hown5 hm5 hb5 hn5 hr5; refine hK.out _ _ (qAa.all (HS.out w5 (HMz5.out.mono (fun _ _ e => .inl e)))) (fun hU => ?_)
     clear hK K hHeld; have hHeld := hU; clear hU; try simp only [Act.put, sTA]
     refine aTk (v := .pointer (some ⟨q, 1, none⟩)) (d := 58) 14 rfl rfl (by kernel_rfl) (by kernel_rfl) (by kernel_rfl) (fun _ _ _ h => h) (fun l w h => qAa.same (by decide) h) (fun l j w h => qAa.mono h j) (Or.inl ⟨by rfl, fun w' _ => by go_simp⟩) hHeld (fun hU => ?_)
     clear hHeld; have hHeld := hU; clear hU; simp only [Act.put]; refine aRd (rs := [13]) (by kernel_rfl) (by simp) (AllL.cons rfl (by kernel_rfl) hHeld (fun K hK => ?_) AllL.nil)
     refine qAr rfl (.tmp 52) (.tmp 56) 56 rfl 3 j0 _ 1 8 Tryz.underlying56 hj hy0 hy1 hy2 rfl m.ia m.kids.length m.ic _ (by simp [Act.eval]) (HOi.out w5 HMz5.out) none 0 0 [] (by simp [Act.eval]) (HSi.out w5 HMz5.out) (fun u hu => by cases hu) (by have := HBd.out; have := HIl.out; unfold maxLen; omega) (by have := HBd.out; have := HIl.out; omega) ?_
     intro a2 c2 w7 hown7 hm7 hb7 hn7 hr7; have HM57 : Hid (Mod (blk m.ia) w5 w7) := hid hm7; have HO7 := hid hown7; have HB7 : Hid (∀ k, blk a2 k -> blk m.ia k \/ w5.heap.size <= k) := hid hb7; have HMz7 : Hid (Mod (fun k => blk m.ka k \/ blk m.ia k) wr w7) := hid ((HMz5.out.mono (fun _ _ e => .inl e)).trans (HM57.out.mono (fun _ _ e => .inr e)))
     clear hown7 hm7 hb7 hn7 hr7; refine hK.out _ _ (qAa.all (HS.out w7 HMz7.out)) (fun hU => ?_)
     clear hK K hHeld; have hHeld := hU; clear hU; try simp only [Act.put]
     refine aRd (rs := [15]) (by kernel_rfl) (by simp) (AllL.cons rfl (by kernel_rfl) hHeld (fun K hK => ?_) AllL.nil)
     have HX7 : Hid (Bx w7 q m) := hid (HZq.out.box.mod HMz7.out (fun e => e.elim (fun e => (HZq.out.bs q (.inl e)).2 rfl) (fun e => (HZq.out.bs q (.inr (.inr e))).2 rfl)))
     obtain ⟨x0, x1, x2, x3⟩ := HX7.out.cells; have y1 := frozen_of_row _ _ 1 _ _ HX7.out; go_simp; clear x0 x1 x2 x3 y1; refine hK.out _ _ (qAa.set (by rw [hHeld.1]; decide)) (fun hU => ?_)
     clear hK K hHeld; have hHeld := hU; clear hU; try simp only [Act.put, sTA, sC0, sC1]
     refine aTk (v := .pointer (some ⟨q, 3, none⟩)) (d := 59) 16 rfl rfl (by kernel_rfl) (by kernel_rfl) (by kernel_rfl) (fun _ _ _ h => h) (fun l w h => qAa.same (by decide) h) (fun l j w h => qAa.mono h j) (Or.inl ⟨by rfl, fun w' _ => by go_simp⟩) hHeld (fun hU => ?_)
     clear hHeld; have hHeld := hU; clear hU; simp only [Act.put, sTA, sC0, sC1]; refine aRd (rs := [17]) (by kernel_rfl) (by simp) (AllL.cons rfl (by kernel_rfl) hHeld (fun K hK => ?_) AllL.nil)
     have HX8 := hid (set4 HX7.out (.slice a1 (m.keys.length) c1)).2.1; obtain ⟨x0, x1, x2, x3⟩ := cl4 HX8.out; have y3 := frozen_of_row _ _ 3 _ _ HX8.out; go_simp; clear x0 x1 x2 x3 y3; refine hK.out _ _ (fun hu => absurd (show true = false from hu) (by decide)) (fun hU => ?_)
     clear hK K hHeld; have hHeld := hU; clear hU; try simp only [Act.put, sTA, sC0, sC1]
     refine qBc (by kernel_rfl) ?_ _
     clear hHeld; have hk7 := HO5.out.mod HM57.out (fun k hk e => by rcases HB5.out k hk with h | h; exact HZq.out.gd.ki k h e; have := HZq.out.gd.lt (.inr (.inr e)); omega)
     obtain ⟨hh1, hh2⟩ := qWd (N := w5.heap.size) (nx := 0) (ny := 0) (xs := []) (ys := []) HZq.out rfl rfl hk7 HO7.out HMz7.out (fun k hk => ⟨HB5.out k hk, HO5.out.lt k hk⟩) HB7.out HMz5.out.size
     simp only [Nat.add_zero] at hh1 hh2; generalize (w7.setCell ⟨q, 1, none⟩ (.slice a1 (m.keys.length) c1)).setCell ⟨q, 3, none⟩ (.slice a2 (m.kids.length) c2) = X at *; generalize hmm : ({ m with keys := m.keys ++ [], ka := a1, kc := c1, kids := m.kids ++ [], ia := a2, ic := c2 } : Nd) = mm at hh1
     have hbr := (hh2.block _ (lth HBr.out) (fun e => by have := HVw.out; omega)).trans HBr.out
     obtain ⟨hres1, hres2⟩ := HRes.out X mm hh1 (by rw [<- hmm]; exact HLf.out) (by rw [<- hmm, HKn.out]) (by rw [<- hmm]; exact HVs.out) (by rw [<- hmm, HIn.out])
     have hfin : ∀ v0 v1 v2 v3, NdC ((((X.setCell ⟨w.heap.size + 1, 0, none⟩ v0).setCell ⟨w.heap.size + 1, 1, none⟩ v1).setCell ⟨w.heap.size + 1, 2, none⟩ v2).setCell ⟨w.heap.size + 1, 3, none⟩ v3) mm /\ Mod (fun _ => False) w ((((X.setCell ⟨w.heap.size + 1, 0, none⟩ v0).setCell ⟨w.heap.size + 1, 1, none⟩ v1).setCell ⟨w.heap.size + 1, 2, none⟩ v2).setCell ⟨w.heap.size + 1, 3, none⟩ v3) := fun v0 v1 v2 v3 =>
      ⟨qBq (S := fun k => k = w.heap.size + 1) hres2 (fun k hk e => by have := (hh1.bs k hk).1; have := HVw.out; omega) (qBl (S := fun k => k = w.heap.size + 1) (Mod.refl _ _) (fun _ => rfl) _ _ _ _) (fun _ e => e),
       qBl ((HM0.out.trans HMr.out).then hh2 (fun i hi e => by have := HVw.out; omega)) (fun h => by omega) _ _ _ _⟩
     have HF := hid hfin; have HBs9 : Hid (∀ k, mm.bs k -> w.heap.size <= k) := hid (fun k hk => by have := (hh1.bs k hk).1; have := HVw.out; omega)
     have HR1 := hid hres1; have HBr2 := hid hbr; obtain ⟨x0, x1, x2, x3⟩ := hh1.box.cells; obtain ⟨z0, z1, z2, z3⟩ := cl4 hbr; have f0 := frozen_of_row _ _ 0 _ _ hbr; have f1 := frozen_of_row _ _ 1 _ _ hbr; have f2 := frozen_of_row _ _ 2 _ _ hbr; have f3 := frozen_of_row _ _ 3 _ _ hbr; clear hfin hres1 hres2 hh1 hh2 hbr hmm hk7; go_wp2_with fail
     obtain ⟨g0, g1, g2, g3⟩ := cl4 (qDk HBr2.out (.bool mm.leaf) (.slice mm.ka mm.keys.length mm.kc) (.slice mm.va mm.values.length mm.vc) (.slice mm.ia mm.kids.length mm.ic)); exact bodyPost_ret (v := .agg #[.bool mm.leaf, .slice mm.ka mm.keys.length mm.kc, .slice mm.va mm.values.length mm.vc, .slice mm.ia mm.kids.length mm.ic]) (by simp [results, Tryz.results95, go_sem, g0, g1, g2, g3]) rfl ⟨mm, rfl, HR1.out, (HF.out _ _ _ _).1, HBs9.out, (HF.out _ _ _ _).2⟩
    ·obtain ⟨gk, ok, hka⟩ := HN.out.nd.k.some (by rw [HKl.out]; exact List.length_pos_iff.2 hem)
     obtain ⟨gi, oi, hia⟩ := HN.out.nd.i.some (by rw [HIl.out]; exact List.length_pos_iff.2 hem)
     rw [hka] at HBn HLk HLtk; rw [hia] at HBn HLi HLti; have hbl : b <= n.keys.length := by rw [HKl.out]; exact hb
     have hbi : b <= n.kids.length := by rw [HIl.out]; exact hb
     have hck1 := hck.1; have hck2 := hck.2; have hci1 := hci.1; have hci2 := hci.2; have HS : Hid (∀ y, Mod (fun k => blk m.ka k \/ blk m.ia k) wr y -> y.cell? ⟨q, 1, none⟩ = some (.slice m.ka m.keys.length m.kc) /\ y.cell? ⟨q, 3, none⟩ = some (.slice m.ia m.kids.length m.ic) /\ y.cell? ⟨w.heap.size, 1, none⟩ = some (.slice (some ⟨gk, ok, none⟩) n.keys.length n.kc) /\ y.cell? ⟨w.heap.size, 3, none⟩ = some (.slice (some ⟨gi, oi, none⟩) n.kids.length n.ic)) := hid (fun y hy => by
      have hb := HZq.out.box.mod hy (fun e => e.elim (fun e => (HZq.out.bs q (.inl e)).2 rfl) (fun e => (HZq.out.bs q (.inr (.inr e))).2 rfl))
      have hp := (hy.block _ (lth HBn.out) (HLo.out _ (by have := HVw.out; omega))).trans HBn.out
      obtain ⟨_, e1, _, e3⟩ := hb.cells; obtain ⟨_, e5, _, e7⟩ := cl4 hp; exact ⟨e1, e3, e5, e7⟩)
     have HSk : Hid (∀ y, Mod (fun _ => False) wr y -> Src y 1 (if n.kc = b then some ⟨gk, ok, none⟩ else some ⟨gk, ok + b, none⟩) (n.keys.length - b) ((n.keys.drop b).flatMap scs)) := hid (fun y hy => qVu (fun _ => rfl) (HLk.out.ext hy) hbl hck1)
     have HSi : Hid (∀ y, Mod (blk m.ka) wr y -> Src y 1 (if n.ic = b then some ⟨gi, oi, none⟩ else some ⟨gi, oi + b, none⟩) (n.kids.length - b) ((n.kids.drop b).flatMap ics)) := hid (fun y hy => qVu (fun _ => rfl) (HLi.out.mod hy (fun h0 k hk e => by have := HLti.out k h0 hk; have := (HZq.out.bs k (.inl e)).1; have := HVw.out; omega)) hbi hci1)
     clear hka hia hck hci; obtain ⟨sk, hsk⟩ : ∃ x, (if n.kc = b then (some ⟨gk, ok, none⟩ : Option Addr) else some ⟨gk, ok + b, none⟩) = x := ⟨_, rfl⟩
     obtain ⟨si, hsi⟩ : ∃ x, (if n.ic = b then (some ⟨gi, oi, none⟩ : Option Addr) else some ⟨gi, oi + b, none⟩) = x := ⟨_, rfl⟩
     rw [hsk] at HSk; rw [hsi] at HSi; refine qBw (S := qAa 15 (fun w' => w'.cell? ⟨q, 1, none⟩ = some (.slice m.ka m.keys.length m.kc) /\ w'.cell? ⟨q, 3, none⟩ = some (.slice m.ia m.kids.length m.ic) /\ w'.cell? ⟨w.heap.size, 1, none⟩ = some (.slice (some ⟨gk, ok, none⟩) n.keys.length n.kc) /\ w'.cell? ⟨w.heap.size, 3, none⟩ = some (.slice (some ⟨gi, oi, none⟩) n.kids.length n.ic))) (by kernel_rfl) (qAa.all (HS.out _ (HMd.out.mono (fun _ _ e => e.elim)))) (fun hHeld => ?_)
     generalize wr.drew = Y0 at *; refine aTk (v := .pointer (some ⟨q, 1, none⟩)) (d := 44) 0 rfl rfl (by kernel_rfl) (by kernel_rfl) (by kernel_rfl) (fun _ _ _ h => h) (fun l w h => qAa.same (by decide) h) (fun l j w h => qAa.mono h j) (Or.inl ⟨by rfl, fun w' _ => by go_simp⟩) hHeld (fun hU => ?_)
     clear hHeld; have hHeld := hU; clear hU; simp only [Act.put, sTA, sC0, sC1]; refine aTk (v := .slice m.ka m.keys.length m.kc) (d := 45) 1 rfl rfl (by kernel_rfl) (by kernel_rfl) (by kernel_rfl) (fun _ _ _ h => h) (fun l w h => qAa.same (by decide) h) (fun l j w h => qAa.mono h j) (Or.inl ⟨by rfl, fun w' hT => by (obtain ⟨l', hz', hu', hC', hS'⟩ := hT; obtain ⟨c1, c3, p1, p3⟩ := hS' (hC'.later (i := 1) (j := 15) rfl (by rw [hz']; decide) (by kernel_rfl) hu'); go_simp)⟩) hHeld (fun hU => ?_)
     clear hHeld; have hHeld := hU; clear hU; simp only [Act.put, sTA, sC0, sC1]; refine aTk (v := .pointer (some ⟨w.heap.size, 1, none⟩)) (d := 46) 2 rfl rfl (by kernel_rfl) (by kernel_rfl) (by kernel_rfl) (fun _ _ _ h => h) (fun l w h => qAa.same (by decide) h) (fun l j w h => qAa.mono h j) (Or.inl ⟨by rfl, fun w' _ => by go_simp⟩) hHeld (fun hU => ?_)
     clear hHeld; have hHeld := hU; clear hU; simp only [Act.put, sTA, sC0, sC1]; refine aTk (v := .slice (some ⟨gk, ok, none⟩) n.keys.length n.kc) (d := 47) 3 rfl rfl (by kernel_rfl) (by kernel_rfl) (by kernel_rfl) (fun _ _ _ h => h) (fun l w h => qAa.same (by decide) h) (fun l j w h => qAa.mono h j) (Or.inl ⟨by rfl, fun w' hT => by (obtain ⟨l', hz', hu', hC', hS'⟩ := hT; obtain ⟨c1, c3, p1, p3⟩ := hS' (hC'.later (i := 3) (j := 15) rfl (by rw [hz']; decide) (by kernel_rfl) hu'); go_simp)⟩) hHeld (fun hU => ?_)
     clear hHeld; have hHeld := hU; clear hU; simp only [Act.put, sTA, sC0, sC1]; refine aTk (v := .int .i64 b) (d := 48) 4 rfl rfl (by kernel_rfl) (by kernel_rfl) (by kernel_rfl) (fun _ _ _ h => h) (fun l w h => qAa.same (by decide) h) (fun l j w h => qAa.mono h j) (Or.inl ⟨by rfl, fun w' _ => by go_simp⟩) hHeld (fun hU => ?_)
     clear hHeld; have hHeld := hU; clear hU; simp only [Act.put, sTA, sC0, sC1]; refine aTk (v := .slice sk (n.keys.length - b) (n.kc - b)) (d := 49) 5 rfl rfl (by kernel_rfl) (by kernel_rfl) (by kernel_rfl) (fun _ _ _ h => h) (fun l w h => qAa.same (by decide) h) (fun l j w h => qAa.mono h j) (Or.inl ⟨by rfl, fun w' _ => by go_simp⟩) hHeld (fun hU => ?_)
     clear hHeld; have hHeld := hU; clear hU; simp only [Act.put, sTA, sC0, sC1]; refine aTk (v := .pointer (some ⟨q, 3, none⟩)) (d := 51) 7 rfl rfl (by kernel_rfl) (by kernel_rfl) (by kernel_rfl) (fun _ _ _ h => h) (fun l w h => qAa.same (by decide) h) (fun l j w h => qAa.mono h j) (Or.inl ⟨by rfl, fun w' _ => by go_simp⟩) hHeld (fun hU => ?_)
     clear hHeld; have hHeld := hU; clear hU; simp only [Act.put, sTA, sC0, sC1]; refine aTk (v := .slice m.ia m.kids.length m.ic) (d := 52) 8 rfl rfl (by kernel_rfl) (by kernel_rfl) (by kernel_rfl) (fun _ _ _ h => h) (fun l w h => qAa.same (by decide) h) (fun l j w h => qAa.mono h j) (Or.inl ⟨by rfl, fun w' hT => by (obtain ⟨l', hz', hu', hC', hS'⟩ := hT; obtain ⟨c1, c3, p1, p3⟩ := hS' (hC'.later (i := 8) (j := 15) rfl (by rw [hz']; decide) (by kernel_rfl) hu'); go_simp)⟩) hHeld (fun hU => ?_)
     clear hHeld; have hHeld := hU; clear hU; simp only [Act.put, sTA, sC0, sC1]; refine aTk (v := .pointer (some ⟨w.heap.size, 3, none⟩)) (d := 53) 9 rfl rfl (by kernel_rfl) (by kernel_rfl) (by kernel_rfl) (fun _ _ _ h => h) (fun l w h => qAa.same (by decide) h) (fun l j w h => qAa.mono h j) (Or.inl ⟨by rfl, fun w' _ => by go_simp⟩) hHeld (fun hU => ?_)
     clear hHeld; have hHeld := hU; clear hU; simp only [Act.put, sTA, sC0, sC1]
     refine aTk (v := .slice (some ⟨gi, oi, none⟩) n.kids.length n.ic) (d := 54) 10 rfl rfl (by kernel_rfl) (by kernel_rfl) (by kernel_rfl) (fun _ _ _ h => h) (fun l w h => qAa.same (by decide) h) (fun l j w h => qAa.mono h j) (Or.inl ⟨by rfl, fun w' hT => by (obtain ⟨l', hz', hu', hC', hS'⟩ := hT; obtain ⟨c1, c3, p1, p3⟩ := hS' (hC'.later (i := 13) (j := 15) rfl (by rw [hz']; decide) (by kernel_rfl) (hC'.later (i := 12) (j := 13) rfl (by rw [hz']; decide) (by kernel_rfl) (hC'.later (i := 10) (j := 12) rfl (by rw [hz']; decide) (by kernel_rfl) hu'))); go_simp)⟩) hHeld (fun hU => ?_)
     clear hHeld; have hHeld := hU; clear hU; simp only [Act.put, sTA, sC0, sC1]; refine aTk (v := .int .i64 b) (d := 55) 11 rfl rfl (by kernel_rfl) (by kernel_rfl) (by kernel_rfl) (fun _ _ _ h => h) (fun l w h => qAa.same (by decide) h) (fun l j w h => qAa.mono h j) (Or.inl ⟨by rfl, fun w' _ => by go_simp⟩) hHeld (fun hU => ?_)
     clear hHeld; have hHeld := hU; clear hU; simp only [Act.put, sTA, sC0, sC1]; refine aTk (v := .slice si (n.kids.length - b) (n.ic - b)) (d := 56) 12 rfl rfl (by kernel_rfl) (by kernel_rfl) (by kernel_rfl) (fun _ _ _ h => h) (fun l w h => qAa.same (by decide) h) (fun l j w h => qAa.mono h j) (Or.inl ⟨by rfl, fun w' _ => by go_simp⟩) hHeld (fun hU => ?_)
     clear hHeld; have hHeld := hU; clear hU; simp only [Act.put, sTA, sC0, sC1]; refine aRd (rs := [6]) (by kernel_rfl) (by simp) (AllL.cons rfl (by kernel_rfl) hHeld (fun K hK => ?_) AllL.nil)
     refine qAr rfl (.tmp 45) (.tmp 49) 68 rfl 9 i0 _ 1 16 Tryz.underlying68 hi hz0 hz1 hz2 rfl m.ka m.keys.length m.kc _ (by simp [Act.eval]) (HOk.out Y0 HMd.out) sk (n.keys.length - b) (n.kc - b) ((n.keys.drop b).flatMap scs) (by simp [Act.eval]) (HSk.out Y0 HMd.out) (by rw [qFl]; intro u hu; obtain ⟨x, _, rfl⟩ := List.mem_map.1 hu; rfl) (by have := HBd.out; unfold maxLen; omega) (by have := HBd.out; omega) ?_
     intro a1 c1 w5 hown5 hm5 hb5 hn5 hr5; have HMz5 : Hid (Mod (blk m.ka) wr w5) := hid ((HMd.out.mono (fun _ _ e => e.elim)).trans hm5)
     have HO5 := hid hown5; have HB5 : Hid (∀ k, blk a1 k -> blk m.ka k \/ wr.heap.size <= k) := hid (fun k hk => (hb5 k hk).imp id (fun h => Nat.le_trans HMd.out.size h))
     clear hown5 hm5 hb5 hn5 hr5; refine hK.out _ _ (qAa.all (HS.out w5 (HMz5.out.mono (fun _ _ e => .inl e)))) (fun hU => ?_)
     clear hK K hHeld; have hHeld := hU; clear hU; try simp only [Act.put, sTA]
     refine aTk (v := .pointer (some ⟨q, 1, none⟩)) (d := 58) 14 rfl rfl (by kernel_rfl) (by kernel_rfl) (by kernel_rfl) (fun _ _ _ h => h) (fun l w h => qAa.same (by decide) h) (fun l j w h => qAa.mono h j) (Or.inl ⟨by rfl, fun w' _ => by go_simp⟩) hHeld (fun hU => ?_)
     clear hHeld; have hHeld := hU; clear hU; simp only [Act.put]; refine aRd (rs := [13]) (by kernel_rfl) (by simp) (AllL.cons rfl (by kernel_rfl) hHeld (fun K hK => ?_) AllL.nil)
     refine qAr rfl (.tmp 52) (.tmp 56) 56 rfl 3 j0 _ 1 8 Tryz.underlying56 hj hy0 hy1 hy2 rfl m.ia m.kids.length m.ic _ (by simp [Act.eval]) (HOi.out w5 HMz5.out) si (n.kids.length - b) (n.ic - b) ((n.kids.drop b).flatMap ics) (by simp [Act.eval]) (HSi.out w5 HMz5.out) (by rw [jCg]; intro u hu; obtain ⟨x, _, rfl⟩ := List.mem_map.1 hu; rfl) (by have := HBd.out; have := HIl.out; unfold maxLen; omega) (by have := HBd.out; have := HIl.out; omega) ?_
     intro a2 c2 w7 hown7 hm7 hb7 hn7 hr7; have HM57 : Hid (Mod (blk m.ia) w5 w7) := hid hm7; have HO7 := hid hown7; have HB7 : Hid (∀ k, blk a2 k -> blk m.ia k \/ w5.heap.size <= k) := hid hb7; have HMz7 : Hid (Mod (fun k => blk m.ka k \/ blk m.ia k) wr w7) := hid ((HMz5.out.mono (fun _ _ e => .inl e)).trans (HM57.out.mono (fun _ _ e => .inr e)))
     clear hown7 hm7 hb7 hn7 hr7; refine hK.out _ _ (qAa.all (HS.out w7 HMz7.out)) (fun hU => ?_)
     clear hK K hHeld; have hHeld := hU; clear hU; try simp only [Act.put]
     refine aRd (rs := [15]) (by kernel_rfl) (by simp) (AllL.cons rfl (by kernel_rfl) hHeld (fun K hK => ?_) AllL.nil)
     have HX7 : Hid (Bx w7 q m) := hid (HZq.out.box.mod HMz7.out (fun e => e.elim (fun e => (HZq.out.bs q (.inl e)).2 rfl) (fun e => (HZq.out.bs q (.inr (.inr e))).2 rfl)))
     obtain ⟨x0, x1, x2, x3⟩ := HX7.out.cells; have y1 := frozen_of_row _ _ 1 _ _ HX7.out; go_simp; clear x0 x1 x2 x3 y1; refine hK.out _ _ (qAa.set (by rw [hHeld.1]; decide)) (fun hU => ?_)
     clear hK K hHeld; have hHeld := hU; clear hU; try simp only [Act.put, sTA, sC0, sC1]
     refine aTk (v := .pointer (some ⟨q, 3, none⟩)) (d := 59) 16 rfl rfl (by kernel_rfl) (by kernel_rfl) (by kernel_rfl) (fun _ _ _ h => h) (fun l w h => qAa.same (by decide) h) (fun l j w h => qAa.mono h j) (Or.inl ⟨by rfl, fun w' _ => by go_simp⟩) hHeld (fun hU => ?_)
     clear hHeld; have hHeld := hU; clear hU; simp only [Act.put, sTA, sC0, sC1]; refine aRd (rs := [17]) (by kernel_rfl) (by simp) (AllL.cons rfl (by kernel_rfl) hHeld (fun K hK => ?_) AllL.nil)
     have HX8 := hid (set4 HX7.out (.slice a1 (m.keys.length + (n.keys.length - b)) c1)).2.1; obtain ⟨x0, x1, x2, x3⟩ := cl4 HX8.out; have y3 := frozen_of_row _ _ 3 _ _ HX8.out; go_simp; clear x0 x1 x2 x3 y3; refine hK.out _ _ (fun hu => absurd (show true = false from hu) (by decide)) (fun hU => ?_)
     clear hK K hHeld; have hHeld := hU; clear hU; try simp only [Act.put, sTA, sC0, sC1]
     refine qBc (by kernel_rfl) ?_ _
     clear hHeld; have hk7 := HO5.out.mod HM57.out (fun k hk e => by rcases HB5.out k hk with h | h; exact HZq.out.gd.ki k h e; have := HZq.out.gd.lt (.inr (.inr e)); omega)
     obtain ⟨hh1, hh2⟩ := qWd (N := w5.heap.size) (nx := (n.keys.length - b)) (ny := (n.kids.length - b)) HZq.out (by rw [List.length_drop]) (by rw [List.length_drop]) hk7 HO7.out HMz7.out (fun k hk => ⟨HB5.out k hk, HO5.out.lt k hk⟩) HB7.out HMz5.out.size
     skip
     generalize (w7.setCell ⟨q, 1, none⟩ (.slice a1 (m.keys.length + (n.keys.length - b)) c1)).setCell ⟨q, 3, none⟩ (.slice a2 (m.kids.length + (n.kids.length - b)) c2) = X at *; generalize hmm : ({ m with keys := m.keys ++ n.keys.drop b, ka := a1, kc := c1, kids := m.kids ++ n.kids.drop b, ia := a2, ic := c2 } : Nd) = mm at hh1
     have hbr := (hh2.block _ (lth HBr.out) (fun e => by have := HVw.out; omega)).trans HBr.out
     obtain ⟨hres1, hres2⟩ := HRes.out X mm hh1 (by rw [<- hmm]; exact HLf.out) (by rw [<- hmm]) (by rw [<- hmm]; exact HVs.out) (by rw [<- hmm])
     have hfin : ∀ v0 v1 v2 v3, NdC ((((X.setCell ⟨w.heap.size + 1, 0, none⟩ v0).setCell ⟨w.heap.size + 1, 1, none⟩ v1).setCell ⟨w.heap.size + 1, 2, none⟩ v2).setCell ⟨w.heap.size + 1, 3, none⟩ v3) mm /\ Mod (fun _ => False) w ((((X.setCell ⟨w.heap.size + 1, 0, none⟩ v0).setCell ⟨w.heap.size + 1, 1, none⟩ v1).setCell ⟨w.heap.size + 1, 2, none⟩ v2).setCell ⟨w.heap.size + 1, 3, none⟩ v3) := fun v0 v1 v2 v3 =>
      ⟨qBq (S := fun k => k = w.heap.size + 1) hres2 (fun k hk e => by have := (hh1.bs k hk).1; have := HVw.out; omega) (qBl (S := fun k => k = w.heap.size + 1) (Mod.refl _ _) (fun _ => rfl) _ _ _ _) (fun _ e => e),
       qBl ((HM0.out.trans HMr.out).then hh2 (fun i hi e => by have := HVw.out; omega)) (fun h => by omega) _ _ _ _⟩
     have HF := hid hfin; have HBs9 : Hid (∀ k, mm.bs k -> w.heap.size <= k) := hid (fun k hk => by have := (hh1.bs k hk).1; have := HVw.out; omega)
     have HR1 := hid hres1; have HBr2 := hid hbr; obtain ⟨x0, x1, x2, x3⟩ := hh1.box.cells; obtain ⟨z0, z1, z2, z3⟩ := cl4 hbr; have f0 := frozen_of_row _ _ 0 _ _ hbr; have f1 := frozen_of_row _ _ 1 _ _ hbr; have f2 := frozen_of_row _ _ 2 _ _ hbr; have f3 := frozen_of_row _ _ 3 _ _ hbr; clear hfin hres1 hres2 hh1 hh2 hbr hmm hk7; go_wp2_with fail
     obtain ⟨g0, g1, g2, g3⟩ := cl4 (qDk HBr2.out (.bool mm.leaf) (.slice mm.ka mm.keys.length mm.kc) (.slice mm.va mm.values.length mm.vc) (.slice mm.ia mm.kids.length mm.ic)); exact bodyPost_ret (v := .agg #[.bool mm.leaf, .slice mm.ka mm.keys.length mm.kc, .slice mm.va mm.values.length mm.vc, .slice mm.ia mm.kids.length mm.ic]) (by simp [results, Tryz.results95, go_sem, g0, g1, g2, g3]) rfl ⟨mm, rfl, HR1.out, (HF.out _ _ _ _).1, HBs9.out, (HF.out _ _ _ _).2⟩
end
end Go.Proofs.YtkinkgbmlhiakaaGreatDoor
