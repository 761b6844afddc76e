/- merged: TwE TwO TwH Td2 TrY Td3 TrW TailIn -/
import Derived.Test.YtkinkgbmlhiakaaGreatDoorNb14
import Derived.Test.YtkinkgbmlhiakaaGreatDoorNb13
import Derived.Test.YtkinkgbmlhiakaaGreatDoorNb25
import Derived.Deep.DeepCutAuto
import Derived.Test.YtkinkgbmlhiakaaGreatDoorNb23
import Derived.Test.YtkinkgbmlhiakaaGreatDoorNb05
import Derived.Test.YtkinkgbmlhiakaaGreatDoorNb12
import Derived.Test.YtkinkgbmlhiakaaGreatDoorNb22
import Derived.Test.YtkinkgbmlhiakaaGreatDoorNb08
import Derived.RangeFuncNested
import Derived.RangeFuncBound
import Derived.RangeFuncCalls
import Derived.RangeFuncLeaves
import Derived.Shelf.Abstract
import Derived.Shelf.RegionOpen
import Derived.WalkKit
import Derived.OwnWalkIn
import Derived.TacticsInMore
import Derived.LoopNIn
import Derived.LoopIn
namespace Go.Proofs.YtkinkgbmlhiakaaGreatDoor
section
open Go Go.RowKit
theorem qJy (t : TypeId) (a b : ByteArray) : binOp .leq t (.string a) (.string b) = pure (.bool (Op.bytesLess a.toList b.toList || a.toList == b.toList)) := by simp [binOp, Op.stringOp]
attribute [local go_sem] qJy
theorem qBa.lt' {S : Nat -> Prop} {w : World} {B : TB} {T : TM} {D : Dsk} {off : Bool} (h : qBa S w B T D off) {k : Nat} (hk : TS B k) : k < w.heap.size := by
 rcases hk with hk | hk | hk | hk | hk
 ·rw [hk]; exact lth h.box
 ·obtain ⟨l, h1, _⟩ := h.nodes; rw [hk]; exact h1.lt
 ·obtain ⟨l, h1, _⟩ := h.after; rw [hk]; exact h1.lt
 ·rw [hk]; exact h.jr.lt
 ·exact h.disk.lt k hk
theorem qXe (W : World) (b : Bool) (ka va ia : Option Addr) (kn kc vn vc jn jc : Nat) : (Instr.field 123 (.agg #[.bool b, .slice ka kn kc, .slice va vn vc, .slice ia jn jc]) 1).run Tryz.prog W = .ok (.slice ka kn kc) W := by kernel_rfl
theorem qXd (W : World) (b : Bool) (ka va ia : Option Addr) (kn kc vn vc jn jc : Nat) : (Instr.field 123 (.agg #[.bool b, .slice ka kn kc, .slice va vn vc, .slice ia jn jc]) 0).run Tryz.prog W = .ok (.bool b) W := by kernel_rfl
attribute [local go_sem] qXe qXd
end
section
open Go Go.RowKit
def newB (N j d : Nat) (sa : Option Addr) (room : Nat) : TB := ⟨N + 1 + 1, N, N + 1, j, d, sa, room⟩
theorem jEq {w : World} {d j room : Nat} {sa : Option Addr} {D : Dsk} (hD : qAp w d sa D) (hj : JAt w j d room) (hs : ¬ qBi d sa j) (hn : D.secs.length <= 16384) (hr : room <= 500) :
  qBa (TS (newB w.heap.size j d sa room)) (((w.alloc (.map #[] 0)).alloc (.map #[] 0)).alloc (.cells #[.int .i64 0, .int .i64 1, .int .i64 0, .int .i64 0, .pointer (some ⟨j, 0, none⟩), .int .i64 (room : Int), .map (some w.heap.size), .map (some (w.heap.size + 1)), .bool false] 84)) (newB w.heap.size j d sa room) newT D false ∧
  Mod (fun _ => False) w (((w.alloc (.map #[] 0)).alloc (.map #[] 0)).alloc (.cells #[.int .i64 0, .int .i64 1, .int .i64 0, .int .i64 0, .pointer (some ⟨j, 0, none⟩), .int .i64 (room : Int), .map (some w.heap.size), .map (some (w.heap.size + 1)), .bool false] 84)) := by
 have s1 : (w.alloc (.map #[] 0)).heap.size = w.heap.size + 1 := by simp
 have s2 : ((w.alloc (.map #[] 0)).alloc (.map #[] 0)).heap.size = w.heap.size + 1 + 1 := by simp
 have m1 : qAs KI.kv (w.alloc (.map #[] 0)) w.heap.size [] := qAs.made KI.kv w; have m2 : qAs KI.kv ((w.alloc (.map #[] 0)).alloc (.map #[] 0)) (w.heap.size + 1) [] := by have := qAs.made KI.kv (w.alloc (.map #[] 0)); rw [s1] at this; exact this
 have hb := heap_alloc_new ((w.alloc (.map #[] 0)).alloc (.map #[] 0)) (.cells #[.int .i64 0, .int .i64 1, .int .i64 0, .int .i64 0, .pointer (some ⟨j, 0, none⟩), .int .i64 (room : Int), .map (some w.heap.size), .map (some (w.heap.size + 1)), .bool false] 84); rw [s2] at hb; have e2 : Mod (fun _ => False) ((w.alloc (.map #[] 0)).alloc (.map #[] 0)) (((w.alloc (.map #[] 0)).alloc (.map #[] 0)).alloc (.cells #[.int .i64 0, .int .i64 1, .int .i64 0, .int .i64 0, .pointer (some ⟨j, 0, none⟩), .int .i64 (room : Int), .map (some w.heap.size), .map (some (w.heap.size + 1)), .bool false] 84)) := (Mod.refl _ _).alloc _
 have e1 : Mod (fun _ => False) (w.alloc (.map #[] 0)) _ := ((Mod.refl (fun _ => False) (w.alloc (.map #[] 0))).alloc (.map #[] 0)).trans e2
 have e0 : Mod (fun _ => False) w _ := ((Mod.refl (fun _ => False) w).alloc (.map #[] 0)).trans e1
 exact ⟨⟨hb, ⟨[], m1.mod e1 (fun e => e), (fun _ _ => rfl), (fun s n hn => by cases hn)⟩, ⟨[], m2.mod e2 (fun e => e), (fun s => rfl)⟩, hD.mod e0 (fun _ _ e => e), hj.mod e0 (fun e => e), hs, hn, hr⟩, e0⟩
set_option maxRecDepth 100000
set_option maxHeartbeats 1000000 in
theorem qYo {w : World} {d k0 room : Nat} {sa : Option Addr} {D : Dsk} (hD : qAp w d sa D) (hb : Bud D k0) (hk0 : k0 <= 2305843009213693952) (h1 : 1 <= room) (hr : room <= 500) (hn : (qJj room D).2.secs.length <= 16384) (ho : (qJj room D).1 = 0)
  (hrd : (qEj room (qJj room D).2 0).2 = 0) (hsz : (qEj room (qJj room D).2 0).1.size <= maxLen) (hz : AllZ (qEj room (qJj room D).2 0).1.data.toList) :
  Calls Tryz.prog 7 #[.pointer (some ⟨d, 0, none⟩), .int .i64 (room : Int)] w fun e w' => ∃ N j : Nat, e = .returned (.tuple #[.pointer (some ⟨(newB N j d sa room).tb, 0, none⟩), .int .i64 0]) /\ qBa (TS (newB N j d sa room)) w' (newB N j d sa room) newT (qJj room D).2 false /\ w.heap.size <= N /\ w.heap.size <= j /\ Mod (qBi d sa) w w' := by
 have HO := hid (jEk hD hb hk0 h1 hr); have HLt := hid hD.lt; obtain ⟨⟨E, D1⟩, hE⟩ : ∃ R, qJj room D = R := ⟨_, rfl⟩; rw [hE] at HO hn ho hrd hsz hz ⊢; simp only at ho hn hrd hsz hz HO ⊢; subst ho; have HJr := hid (fun (w1 : World) (j : Nat) (hd : qAp w1 d sa D1) (hj : JAt w1 j d room) (hs : ¬ qBi d sa j) => jAu hd hj hs hn hr 0)
 have HTr := hid (fun v => qTt (qEj room D1 0).1 v hsz)
 have HNil := hid (qQc (qEj room D1 0).1); have HZ := hid hz; rw [hrd] at HJr; obtain ⟨s, hs⟩ : ∃ s, (qEj room D1 0).1 = s := ⟨_, rfl⟩; rw [hs] at HJr HTr HNil HZ; have ez : (qMo s).toList.isEmpty = true := by rw [ByteArray.toList_eq, HNil.out.2 HZ.out]; rfl
 have HNl := hid hn; have hmm := @run_makeMap Tryz.prog; generalize qMo s = tb at *; clear hD hb hE hn hrd hsz hz hs HNil; go_enter Tryz.func7, Tryz.ntmps7
 go_wp2_with (first
  | (go_at_call 23; refine HO.out.mono ?_; rintro e w1 ⟨hd1, hm1, hc⟩; obtain ⟨j, rfl, hj, hjn⟩ := (hc.resolve_right (fun h => h.1 rfl)).2; have HD1 := hid hd1; have HM1 := hid hm1; have HJ1 := hid hj; have HJn := hid hjn; have HSep : Hid (¬ qBi d sa j) := hid (fun e => by have h2 := HLt.out j e; have h3 := HJn.out; omega); clear hd1 hm1 hc hj hjn)
  | (go_at_call 24; refine (HJr.out _ _ HD1.out HJ1.out HSep.out).mono ?_; rintro e w2 ⟨rfl, hd2, hm2⟩; have HNt := hid (jEq hd2 (HJ1.out.mod hm2 HSep.out) HSep.out HNl.out hr); have HM2 := hid (HM1.out.trans hm2); clear hd2 hm2)
  | (go_at_call 25; refine (HTr.out _).mono ?_; rintro e wt ⟨rfl, nq, rfl⟩))
 go_ret2; refine ⟨w2.heap.size, _, rfl, HNt.out.1.mod (S' := fun _ => False) ((Mod.refl _ _).drewN nq) (fun _ e => e.elim) (fun _ e => e.elim), ?_, HJn.out, ?_⟩
 ·have h2 := HM2.out.size; omega
 ·exact (HM2.out.trans (HNt.out.2.mono (fun _ _ e => e.elim))).trans (((Mod.refl (fun _ => False) _).drewN nq).mono (fun _ _ e => e.elim))
end
section
open Go Go.RowKit
noncomputable def qNa (room : Nat) (D : Dsk) (q : Nat) : ByteArray := (qEj room D (q : Int)).1
theorem jDv {room : Nat} {D : Dsk} (h : D.off = false) {i : Int} (h1 : 0 <= i) (h2 : i < jlen room D) : (qEj room D i).2 = 0 := by
 unfold qEj; rw [if_neg (by omega), qOk]
 have h3 : qBe D ((room : Int) + 1 + i) = 0 := by
  unfold qBe; rw [h]; unfold jlen at h2; simp only [Bool.false_eq_true, if_false]; rw [if_neg (by omega)]
 rw [if_neg (by rw [h3]; simp)]
theorem qNc {D : Dsk} {k room : Nat} (h : Bud D k) (i : Int) : (qEj room D i).1.size <= 1024 := by
 unfold qEj; split
 ·exact Nat.zero_le _
 ·exact h.read _
end
section
open Go Go.RowKit
def qDa (l : List KV) : Nat := (l.map (fun p => p.1.size + p.2.size + 4)).sum
theorem qQl : ∀ (l : List KV), (∀ p ∈ l, p.1.size <= 48 /\ p.2.size <= 200) -> qDa l <= 252 * l.length
 | [], _ => by simp [qDa]
 | p :: l, h => by
  have h1 := h p List.mem_cons_self; have h2 := qQl l (fun q hq => h q (List.mem_cons_of_mem _ hq))
  unfold qDa at h2 ⊢; rw [List.map_cons, List.sum_cons, List.length_cons]; omega
end
section
open Go Go.RowKit
theorem qZf {look : Int -> Option NP} {m : Nat} : ∀ (g : Nat) (s : Int) (u : Tr g), Sd look m g s u -> ∀ x ∈ secs g s u, ∀ n, look x = some n -> qBj n.1 n.2
 | 0, s, u, hu, x, hx, n, hn => by
  have hx : x ∈ [s] := hx; rw [List.mem_singleton] at hx; subst hx; rw [hu.1] at hn; cases hn
  exact hu.2
 | g + 1, s, u, hu, x, hx, n, hn => by
  have hx : x ∈ s :: qAl u := hx; rcases List.mem_cons.1 hx with hx | hx
  ·subst hx; rw [hu.1.1] at hn; cases hn
   exact hu.1.2
  ·unfold qAl at hx; obtain ⟨y, hy, hx⟩ := List.mem_flatMap.1 hx; exact qZf g y.spot y.sub (hu.2 y hy).1 x hx n hn
theorem jCu {T : TM} {W : WM} {U F : List Int} (hA : Acc T W U [] F) : (0 <= W.free /\ W.free < W.next) /\ (∀ x, qMv W x -> 1 <= x /\ x < W.next) /\ (∀ x y, W.after x = some y -> 0 <= y /\ y < W.next) /\ (∀ x n, W.nodes x = some n -> x ∈ U) := by
 have hp := hA.pos; have hin : ∀ x, (W.nodes x ≠ none \/ W.after x ≠ none) -> 1 <= x /\ x < W.next := fun x hx => by
  by_cases hc : 1 <= x /\ x < W.next
  ·exact hc
  ·have := hA.out x hc; exact hx.elim (fun h => absurd this.1 h) (fun h => absurd this.2.1 h)
 refine ⟨?_, hin, fun x y hy => ?_, fun x n hx => ?_⟩
 ·rcases qGm hA.chain with ⟨h, _⟩ | ⟨h, _⟩
  ·omega
  ·have := hA.spot (.inr (.inl h)); omega
 ·have h1 := hin x (.inr (by rw [hy]; exact fun e => by cases e))
  have hxf : x ∈ F := by
   by_cases hf : x ∈ F
   ·exact hf
   ·exfalso
    have hc := hA.cnt x; rw [List.count_eq_zero.2 hf, if_pos h1] at hc; have hu : x ∈ U := List.count_pos_iff.1 (by simp at hc; omega)
    have := (hA.used x (.inl hu)).1; rw [hy] at this; cases this
  have hlink : W.link T x = some y := by unfold WM.link; rw [hy]
  have haux : ∀ (G : List Int) (f : Int), qMl (W.link T) f G -> x ∈ G -> y = 0 \/ y ∈ G := by
   intro G; induction G with
   | nil => intro f _ hx; cases hx
   | cons z G ih =>
    intro f hc hx; obtain ⟨rfl, _, w, q1, q2⟩ := hc; rcases List.mem_cons.1 hx with rfl | hx
    ·rw [hlink] at q1; cases q1
     rcases qGm q2 with ⟨h, _⟩ | ⟨h, _⟩
     ·exact .inl h
     ·exact .inr (List.mem_cons_of_mem _ h)
    ·exact (ih w q2 hx).imp id (List.mem_cons_of_mem _)
  rcases haux F W.free hA.chain hxf with h | h
  ·omega
  ·have := hA.spot (.inr (.inl h)); omega
 ·have h1 := hin x (.inl (by rw [hx]; exact fun e => by cases e))
  by_cases hu : x ∈ U
  ·exact hu
  ·exfalso
   by_cases hf : x ∈ F
   ·have := (hA.free x hf).1; rw [hx] at this; cases this
   ·have hc := hA.cnt x; rw [List.count_eq_zero.2 hu, List.count_eq_zero.2 hf, if_pos h1] at hc; simp at hc
theorem WI.rng {T : TM} {m : Nat} {W : WM} {l : List KV} {H N : Nat} (h : WI T m W l H N) : (0 <= W.root /\ W.root < W.next) /\ 1 <= W.next /\ (0 <= W.free /\ W.free < W.next) /\ (0 <= W.count /\ W.count <= 511 * W.next) /\ (∀ x, qMv W x -> 1 <= x /\ x < W.next) /\ (∀ x y, W.after x = some y -> 0 <= y /\ y < W.next) /\ (∀ x n, W.nodes x = some n -> qBj n.1 n.2) := by
 obtain ⟨_, h2, h3⟩ := h; rcases h3 with ⟨h4, rfl, _, F, hA⟩ | ⟨ht, t, F, hR, hN⟩
 ·obtain ⟨a1, a2, a3, a4⟩ := jCu hA; have hp := hA.pos; have e : ([] : List KV).length = 0 := rfl; rw [e] at h2; exact ⟨by omega, hp, a1, by omega, a2, a3, fun x n hx => absurd (a4 x n hx) (by simp)⟩
 ·have hA := hR.acc; obtain ⟨a1, a2, a3, a4⟩ := jCu hA; have hp := hA.pos; have hr : 1 <= W.root /\ W.root < W.next := hA.spot (.inl (by rw [qDe]; exact List.mem_cons_self))
  have hl := hA.len; have hf := qPd hR.sd; rw [hR.fl] at hf; simp only [List.length_nil] at hl; exact ⟨by omega, hp, a1, by omega, a2, a3, fun x n hx => qZf ht W.root t hR.sd x (a4 x n hx) n (by unfold WM.look; rw [hx])⟩
theorem qWw (l : List KV) (hl : ∀ p ∈ l, p.1.size <= 48 /\ p.2.size <= 200) (hn : l.length <= 511) : (qAn true (eOf 0 l)).length <= qDa l + 3 := by
 have hlen : (eOf 0 l).length = l.length := List.length_map ..; have aux : ∀ r : List KV, (∀ p ∈ r, p.1.size <= 48 /\ p.2.size <= 200) -> wt true (eOf 0 r) <= qDa r := by
  intro r; induction r with
  | nil => intro _; exact Nat.zero_le _
  | cons p r ih =>
   intro hr; have h1 := ih (fun q hq => hr q (List.mem_cons_of_mem _ hq))
   have h2 := hr p List.mem_cons_self; have e1 : wt true (eOf 0 (p :: r)) = (entL true ⟨p.1, p.2, 0⟩).length + wt true (eOf 0 r) := by unfold wt; show (List.flatMap _ (_ :: _)).length = _; rw [List.flatMap_cons, List.length_append]; rfl
   have e2 : qDa (p :: r) = p.1.size + p.2.size + 4 + qDa r := by unfold qDa; rw [List.map_cons, List.sum_cons]
   have e3 : (entL true ⟨p.1, p.2, 0⟩).length = (qCy p.1).length + (qCy p.2).length := by unfold entL; simp
   have t1 : (qCy p.1).length <= p.1.size + 2 := by
    unfold qCy; rw [List.length_append]; have h3 := qGb (k := p.1.size) (by omega)
    have : p.1.data.toList.length = p.1.size := rfl; omega
   have t2 : (qCy p.2).length <= p.2.size + 2 := by
    unfold qCy; rw [List.length_append]; have h3 := qGb (k := p.2.size) (by omega)
    have : p.2.data.toList.length = p.2.size := rfl; omega
   omega
 rw [qGy, hlen]; have h1 := aux l hl; have h2 := qGb (k := l.length) (by omega)
 omega
theorem qIe (a b : List KV) : qDa (a ++ b) = qDa a + qDa b := by unfold qDa; rw [List.map_append, List.sum_append]
theorem qMz {look : Int -> Option NP} : ∀ {h : Nat} {s : Int} {t : Tr h}, Sd look 250 h s t -> 250 <= wtN h t -> (∀ p ∈ flat h t, p.1.size <= 48 /\ p.2.size <= 200) -> 190 * (secs h s t).length + 50 <= qDa (flat h t)
 | 0, s, l, hS, hw, hp => by
  have h1 : (qAn true (eOf 0 l)).length <= qDa l + 3 := qWw l hp (by
   have h2 := hS.2.len; have h3 : (eOf 0 l).length = List.length (α := KV) l := List.length_map ..; omega)
  have hw : 250 <= (qAn true (eOf 0 l)).length := hw; show 190 * 1 + 50 <= qDa l; omega
 | h + 1, s, l, hS, hw, hp => by
  have hl : 5 <= (eOf (h + 1) l).length := qBj.many hS.1.2 hw; have hl2 : 5 <= List.length (α := TE (Tr h)) l := by
   have e : (eOf (h + 1) l).length = List.length (α := TE (Tr h)) l := List.length_map ..; omega
  have aux : ∀ r : List (TE (Tr h)), (∀ e ∈ r, Sd look 250 h e.spot e.sub /\ 250 <= wtN h e.sub) -> (∀ p ∈ qAf r, p.1.size <= 48 /\ p.2.size <= 200) -> 190 * (qAl r).length + 50 * r.length <= qDa (qAf r) := by
   intro r; induction r with
   | nil => intro _ _; simp [qCe]
   | cons e r ih =>
    intro hr hq; have e1 : qAf (e :: r) = flat h e.sub ++ qAf r := by unfold qAf; rw [List.flatMap_cons]
    rw [e1] at hq ⊢; rw [qBn, List.length_append, List.length_cons, qIe]; have h1 := qMz (hr e List.mem_cons_self).1 (hr e List.mem_cons_self).2 (fun p hp => hq p (List.mem_append_left _ hp))
    have h2 := ih (fun x hx => hr x (List.mem_cons_of_mem _ hx)) (fun p hp => hq p (List.mem_append_right _ hp))
    omega
  have h1 := aux l (fun e he => ⟨(hS.2 e he).1, (hS.2 e he).2.2⟩) hp
  show 190 * (s :: qAl l).length + 50 <= qDa (qAf l); rw [List.length_cons]; omega
theorem qZd {look : Int -> Option NP} : ∀ {h : Nat} {s : Int} {t : Tr h}, Sd look 250 h s t -> (∀ p ∈ flat h t, p.1.size <= 48 /\ p.2.size <= 200) -> 190 * (secs h s t).length <= qDa (flat h t) + 190
 | 0, s, l, _, _ => by
  show 190 * 1 <= _; omega
 | h + 1, s, l, hS, hp => by
  have aux : ∀ r : List (TE (Tr h)), (∀ e ∈ r, Sd look 250 h e.spot e.sub /\ 250 <= wtN h e.sub) -> (∀ p ∈ qAf r, p.1.size <= 48 /\ p.2.size <= 200) -> 190 * (qAl r).length <= qDa (qAf r) := by
   intro r; induction r with
   | nil => intro _ _; simp [qCe]
   | cons e r ih =>
    intro hr hq; have e1 : qAf (e :: r) = flat h e.sub ++ qAf r := by unfold qAf; rw [List.flatMap_cons]
    rw [e1] at hq ⊢; rw [qBn, List.length_append, qIe]; have h1 := qMz (hr e List.mem_cons_self).1 (hr e List.mem_cons_self).2 (fun p hp => hq p (List.mem_append_left _ hp))
    have h2 := ih (fun x hx => hr x (List.mem_cons_of_mem _ hx)) (fun p hp => hq p (List.mem_append_right _ hp))
    omega
  have h1 := aux l (fun e he => ⟨(hS.2 e he).1, (hS.2 e he).2.2⟩) hp
  show 190 * (s :: qAl l).length <= qDa (qAf l) + 190; rw [List.length_cons]; omega
theorem qZe {look : Int -> Option NP} {m : Nat} : ∀ (g : Nat) (s : Int) (u : Tr g), Sd look m g s u -> ∀ x ∈ secs g s u, (look x).isSome = true
 | 0, s, u, hu, x, hx => by
  have hx : x ∈ [s] := hx; rw [List.mem_singleton] at hx; rw [hx, hu.1]; rfl
 | g + 1, s, u, hu, x, hx => by
  have hx : x ∈ s :: qAl u := hx; rcases List.mem_cons.1 hx with hx | hx
  ·rw [hx, hu.1.1]; rfl
  ·unfold qAl at hx; obtain ⟨y, hy, hx⟩ := List.mem_flatMap.1 hx; exact qZe g y.spot y.sub (hu.2 y hy).1 x hx
theorem TI.secs {T : TM} {l : List KV} {H N : Nat} (h : TI T 250 l H N) : (190 * N <= qDa l + 190) /\ (l ≠ [] -> 1 <= N) /\ ∃ U : List Int, U.Nodup /\ U.length = N /\ ∀ x, x ∈ U ↔ (T.nodes x).isSome = true := by
 obtain ⟨hf, _, h3⟩ := h; have key : ∀ (U F : List Int), Acc T T.begin U [] F -> (∀ x ∈ U, (T.nodes x).isSome = true) -> U.Nodup /\ ∀ x, x ∈ U ↔ (T.nodes x).isSome = true := fun U F hA hU => by
  refine ⟨qHi (fun x => by have := hA.cnt x; split at this <;> omega), fun x => ⟨hU x, fun hx => ?_⟩⟩
  by_cases hc : 1 <= x /\ x < T.begin.next
  ·have h1 := hA.cnt x; rw [if_pos hc] at h1; by_cases hu : x ∈ U
   ·exact hu
   ·exfalso
    rw [List.count_eq_zero.2 hu] at h1; have hxF : x ∈ F := List.count_pos_iff.1 (by simp at h1; omega)
    have h2 := ((hA.free x hxF).2 rfl).2; rw [h2] at hx; cases hx
  ·have h2 := (hA.out x hc).2.2.2.1; rw [h2] at hx; cases hx
 rcases h3 with ⟨_, rfl, rfl, F, hA⟩ | ⟨ht, t, F, hR, rfl⟩
 ·obtain ⟨k1, k2⟩ := key [] F hA (fun x hx => by cases hx)
  exact ⟨by omega, (fun h => absurd rfl h), [], k1, rfl, k2⟩
 ·obtain ⟨k1, k2⟩ := key _ F hR.acc (fun x hx => qZe ht _ t hR.sd x hx)
  have h1 := qZd hR.sd (by rw [hR.fl]; exact fun p hp => ⟨(hf.ok p hp).1.2, (hf.ok p hp).2⟩)
  rw [hR.fl] at h1; refine ⟨h1, fun _ => ?_, _, k1, rfl, k2⟩
  rw [qDe]; simp
structure Std (room : Nat) (D : Dsk) (T : TM) (l : List KV) (N : Nat) : Prop where
 clear : jJi D
 dt : DT (jlen room D) (qNa room D) T
 ti : TI T 250 l 26 N
 next : T.next <= (jlen room D : Int)
 r1 : 1 <= room
 r2 : room <= 500
theorem qIb {room : Nat} {D : Dsk} (h : D.off = false) (q : Nat) : qNa room D q = if q < jlen room D then sec D (room + 1 + q) else ⟨#[]⟩ := by
 unfold qNa qEj; by_cases hq : q < jlen room D
 ·rw [if_pos hq, if_neg (by omega)]
  have hd : room + 1 + q < D.secs.length := by unfold jlen at hq; omega
  have := jHk h (room + 1 + q) hd; rw [show ((room : Int) + 1 + (q : Int)) = ((room + 1 + q : Nat) : Int) by omega, this]
 ·rw [if_neg hq, if_pos (by omega)]
theorem qMy {D : Dsk} {k room : Nat} {T : TM} {l l' : List KV} {N N' : Nat} {W' : WM} {ls : List Chg} {ln : List (Int × NP)} {la : List (Int × Int)} (hL : Lit D k) (hs : Std room D T l N) (hW : WI T 250 W' l' 26 N') (hn : W'.next <= (jlen room D : Int)) (hlaid : Laid W' ls ln la) (hroom : ls.length <= room) :
  (qAj room ls D).1 = 0 /\ Lit (qAj room ls D).2 (k + 2 * ls.length + 2) /\ Std room (qAj room ls D).2 (W'.done T) l' N' := by
 have hj : jlen room D <= 16384 := by have := hL.b.n; unfold jlen; omega
 obtain ⟨r1, r2, r3, r4, r5, r6, r7⟩ := hW.rng; have hf := hW.fits hn hj r7; have hlo : qKk W' ls := by
  obtain ⟨_, _, h3⟩ := hW; rcases h3 with ⟨_, _, _, F, hA⟩ | ⟨ht, t, F, hR, _⟩
  ·exact qIl hA hlaid
  ·exact qIl hR.acc hlaid
 have hck := qWu hf hlo; have hne : ls ≠ [] := fun e => by
  have h1 := jEv hlaid; rw [e] at h1; simp at h1
 obtain ⟨c1, c2⟩ := jBx hL hs.r2 ls hroom hne hck; have hjl : jlen room (qAj room ls D).2 = jlen room D := by unfold jlen; rw [c2.len]
 have hnd := qGd hf hlo; have hin : ∀ c ∈ ls, c.pos.toNat < jlen room D := fun c hc => (qGw ls [] hck).1 c hc |>.2.1
 have hsec : qNa room (qAj room ls D).2 = upc (qNa room D) ls := funext fun q => by
  rw [qIb c2.lit.off, hjl]; by_cases hq : q ∈ places ls
  ·obtain ⟨c, hc, rfl⟩ := List.mem_map.1 hq; rw [if_pos (hin c hc), c2.new c hc]; obtain ⟨m, hm⟩ := List.mem_iff_getElem?.1 hc; exact (qOc hnd hm).symm
  ·rw [qTp hq, qIb hL.off]; by_cases hql : q < jlen room D
   ·rw [if_pos hql, if_pos hql, c2.old q hq]
   ·rw [if_neg hql, if_neg hql]
 refine ⟨c1, c2.lit, .inr c2.head, ?_, qVc hW, by rw [hjl]; exact hn, hs.r1, hs.r2⟩
 rw [hjl, hsec]; refine jIm hs.dt hf hlo (fun x hx => ?_)
 obtain ⟨_, _, h3⟩ := hs.ti; rcases h3 with ⟨_, _, _, F, hA⟩ | ⟨ht, t, F, hR, _⟩
 ·have := hA.out x (fun h => hx h.1)
  exact ⟨this.2.2.2.1, this.2.2.2.2⟩
 ·have := hR.acc.out x (fun h => hx h.1)
  exact ⟨this.2.2.2.1, this.2.2.2.2⟩
theorem qRx {room : Nat} {D : Dsk} {k : Nat} (h : Bud D k) (q : Nat) : (qNa room D q).size <= 1024 := qNc h _
theorem jHe {n : Int} {room : Nat} (h1 : 1 <= room) (h2 : room <= 500) (hn : 1 <= jlen room (newD n)) : Std room (newD n) newT [] 0 := by
 refine ⟨jBy n, ⟨fun q _ => qRx (jCh n) q, (fun x n h => by cases h), (fun x y h => by cases h), .inl ⟨rfl, ?_⟩⟩, jHt 250 26, by show (1 : Int) <= _; omega, h1, h2⟩
 rw [qIb (jAk n).off, if_pos (by omega), qRy, qHa]
 exact qJb _
theorem qYw {D : Dsk} {k room : Nat} {T : TM} {l : List KV} {N : Nat} (hL : Lit D k) (hs : Std room D T l N) (cs : List Cg) (hc : ∀ c ∈ cs, CgOk c) (hn : cs.length <= 1048576) :
  ∃ (W' : WM) (N' : Nat), allM T (jlen room D : Int) 70 cs T.begin = some W' /\ WI T 250 W' (chgs cs l) 26 N' /\ (W'.full = true -> (jlen room D : Int) <= (N : Int) + 8 * cs.length) /\ (W'.full = false -> W'.next <= (jlen room D : Int)) /\ W'.next <= 16384 + 32 * cs.length ∧
   ∀ (ls : List Chg) (ln : List (Int × NP)) (la : List (Int × Int)), Laid W' ls ln la -> W'.full = false -> ls.length <= 21 * cs.length + 1 := by
 have hj : jlen room D <= 16384 := by have := hL.b.n; unfold jlen; omega
 have hnx := hs.next; obtain ⟨W', N', h1, h2, h3⟩ := jCp (L := (jlen room D : Int)) cs hc hs.ti (by omega)
 have hb : T.begin.next = T.next := rfl; obtain ⟨q1, q2⟩ := h3.sharp rfl (by rw [hb]; exact hnx) (by omega)
 refine ⟨W', N', h1, h2, q1, fun hf => (q2 hf).1, by have := h3.hi; rw [hb] at this; omega, fun ls ln la hlaid hf => ?_⟩
 obtain ⟨_, _, X, x1, x2⟩ := q2 hf; have hlo : qKk W' ls := by
  obtain ⟨_, _, h3⟩ := h2; rcases h3 with ⟨_, _, _, F, hA⟩ | ⟨ht, t, F, hR, _⟩
  ·exact qIl hA hlaid
  ·exact qIl hR.acc hlaid
 have h4 := qWt hlo (X := X) (fun y hy => (x2 y hy).resolve_right (fun h => h.elim (fun h => h rfl) (fun h => h rfl)))
 omega
end
section
open Go Go.RowKit
attribute [local go_sem] qFn
def geK (key : ByteArray) (p : KV) : Bool := !kl p.1 key
def qRz (l : List KV) (key : ByteArray) (most : Int) : List KV := (l.filter (geK key)).take most.toNat
end
section
open Go Go.RowKit
def pvE (x : Ent) : KV := (x.key, x.value)
def qWx (g : Int -> Option (List KV)) : List Ent -> Option (List KV)
 | [] => some []
 | x :: r => (g x.kid).bind fun a => (qWx g r).map (a ++ ·)
def qJf (look : Int -> Option NP) : Nat -> Int -> ByteArray -> Option (List KV)
 | 0, _, _ => none
 | f + 1, s, key => (look s).bind fun n => if n.1 then some (((n.2.drop (qCv key n.2)).map pvE).filter (geK key)) else qWx (fun s => qJf look f s key) (n.2.drop (qCv key n.2))
theorem qNk {look : Int -> Option NP} {f h : Nat} {key : ByteArray} : ∀ (b : List (TE (Tr h))), (∀ e ∈ b, qJf look f e.spot key = some ((flat h e.sub).filter (geK key))) -> qWx (fun s => qJf look f s key) (b.map eE) = some ((qAf b).filter (geK key))
 | [], _ => rfl
 | e :: b, k => by
  have h1 := k e List.mem_cons_self; have h2 := qNk b (fun x hx => k x (List.mem_cons_of_mem _ hx))
  show (qJf look f e.spot key).bind (fun a => (qWx (fun s => qJf look f s key) (b.map eE)).map (a ++ ·)) = _
  rw [h1, h2]; have e1 : qAf (e :: b) = flat h e.sub ++ qAf b := by unfold qAf; rw [List.flatMap_cons]
  rw [e1, List.filter_append]; rfl
theorem jBf {key : ByteArray} {p : KV} (h : kl p.1 key = true) : geK key p = false := by unfold geK; rw [h]; rfl
theorem qTn {look : Int -> Option NP} {m : Nat} (key : ByteArray) : ∀ (h : Nat) (s : Int) (t : Tr h), Sd look m h s t -> Asc (flat h t) -> qJf look (h + 1) s key = some ((flat h t).filter (geK key))
 | 0, s, l, hS, hf => by
  have hlk : look s = some (true, eOf 0 l) := (qKd.1 hS).1.1; have hg : qBj true (eOf 0 l) := (qKd.1 hS).1.2; have hne : l ≠ ([] : List KV) := fun e => hg.ne (by rw [e]; rfl)
  have hf : Asc l := hf; obtain ⟨a, e, b, rfl, hpl, hle, hgt⟩ := qFt (fun p : KV => p.1) key l hne hf
  have hi : qCv key (eOf 0 (a ++ e :: b)) = a.length := by
   refine Eq.trans ?_ hpl; unfold qCv; show (List.filter _ (List.map _ (a ++ e :: b))).length - 1 = _; rw [List.filter_map, List.length_map]; rfl
  have hdr : ((eOf 0 (a ++ e :: b)).drop a.length).map pvE = e :: b := by
   show ((List.map _ (a ++ e :: b)).drop a.length).map pvE = _; rw [<- List.map_drop, List.drop_left, List.map_map]; exact List.map_id _
  show (look s).bind _ = _; rw [hlk]; show some _ = _; rw [hi, hdr]; show some ((e :: b).filter (geK key)) = some ((a ++ e :: b).filter (geK key)); rw [List.filter_append, qBd (p := geK key) (l := a) (fun x hx => ?_), List.nil_append]
  have h1 : kl x.1 e.1 = true := (qEh.1 hf).2.2 x hx e List.mem_cons_self; refine jBf ?_; rcases hle with rfl | hle
  ·cases hx
  ·rcases hle with hle | hle
   ·rw [<- hle]; exact h1
   ·exact qDw h1 hle
 | h + 1, s, l, hS, hf => by
  obtain ⟨⟨hlk, hg⟩, hB⟩ := hS; have hB : Lowr look m (h + 1) l := hB; have hok : Ok l := qOs hB; have hf : Asc (qAf l) := hf; have hne : l ≠ [] := fun e => hg.ne (by rw [e]; rfl)
  obtain ⟨a, e, b, rfl, hpl, hle, hgt⟩ := qFt (fun e : TE (Tr h) => e.key) key l hne (qKr hok hf)
  have hi : qCv key (eOf (h + 1) (a ++ e :: b)) = a.length := (qNe key _).trans hpl; have hfl : qAf (a ++ e :: b) = qAf a ++ qAf (e :: b) := qAi _ _; have hdr : (eOf (h + 1) (a ++ e :: b)).drop a.length = (e :: b).map eE := by
   rw [qBk, <- List.map_drop, List.drop_left]
  have hlo : (qAf a).filter (geK key) = [] := qBd (fun p hp => by
   refine jBf ?_; rcases hle with rfl | hle
   ·simp [qAf] at hp
   ·obtain ⟨v0, r, hfe2⟩ := qHh hok (e := e) (List.mem_append_right _ List.mem_cons_self); have h1 := hf; rw [hfl] at h1; obtain ⟨_, _, hab⟩ := qEh.1 h1; have h4 : kl p.1 e.key = true := hab p hp (e.key, v0) (by
     have e1 : qAf (e :: b) = flat h e.sub ++ qAf b := by unfold qAf; rw [List.flatMap_cons]
     rw [e1, hfe2]; exact List.mem_append_left _ List.mem_cons_self)
    rcases hle with hle | hle
    ·rw [<- hle]; exact h4
    ·exact qDw h4 hle)
  have hsub : ∀ x ∈ e :: b, Asc (flat h x.sub) := fun x hx => by
   have hmem : x ∈ a ++ e :: b := List.mem_append_right _ hx; refine List.Pairwise.sublist ?_ hf; obtain ⟨p, q, hpq⟩ := List.append_of_mem hmem; rw [hpq, show p ++ x :: q = p ++ ([x] ++ q) from rfl, qAi, qAi]
   refine List.Sublist.trans ?_ (List.sublist_append_right _ _); have e1 : qAf [x] = flat h x.sub := by unfold qAf; simp
   rw [e1]; exact List.sublist_append_left _ _
  have hkids := qNk (look := look) (f := h + 1) (key := key) (e :: b) (fun x hx => qTn key h x.spot x.sub (hB x (List.mem_append_right _ hx)).1 (hsub x hx))
  show (look s).bind _ = _; rw [hlk]; show qWx (fun s => qJf look (h + 1) s key) ((eOf (h + 1) (a ++ e :: b)).drop (qCv key (eOf (h + 1) (a ++ e :: b)))) = some ((qAf (a ++ e :: b)).filter (geK key))
  rw [hi, hdr, hkids, hfl, List.filter_append, hlo, List.nil_append]
end
section
open Go Go.RowKit
section
variable {P : Program} {ops : Array Oper} {md : Region.Mode} {C : World -> Prop} {m : Nat}
theorem qVx {p : Prop} : Fence.wide.depth.isSome = true -> p := fun h => by cases h
theorem qHw {o : Oper} {a : Act} {K : Act -> Prop} {K' : Act -> World -> Prop} {Q' : Exit -> Act -> World -> Prop} {w : World} (hw : C w) (h : ∀ a w', C w' -> K a -> K' a w') (hh : o.quiet P a C K) : o.wpIn Fence.wide m P a w K' Q' := by
 obtain ⟨v, h1, h2⟩ := hh; have h3 := h1 w hw; unfold Oper.quietAt at h3; unfold Oper.wpIn; refine ⟨fun _ _ => trivial, ?_⟩
 rw [show Fence.wide.round = none from rfl, Oper.semAt_none]
 generalize (execOp a.eval o).run P w = r at *; cases r with
 | ok x w' =>
  cases x <;> simp only [Oper.quietUpon] at h3 <;> simp only [Oper.uponIn]
  case value u =>
   obtain ⟨e1, e2⟩ := h3; rw [e1, e2]; exact h _ _ hw h2
  case skip =>
   obtain ⟨e1, e2⟩ := h3; rw [e1, <- e2]; exact h _ _ hw h2
  case enter f args =>
   obtain ⟨e1, hc⟩ := h3; rw [e1]; exact ⟨qVx, callsIn_wide.2 (hc.mono fun e w'' ⟨he, hw''⟩ => by subst he; exact h _ _ hw'' h2)⟩
 | halt x w' => simp only [Oper.quietUpon] at h3
theorem qRs {i : Nat} {a : Act} {K : Act -> Prop} {K' : Act -> World -> Prop} {Q' : Exit -> Act -> World -> Prop} {w : World} (hC : C w) (h : ∀ a w', C w' -> K a -> K' a w') (hh : qOp P ops C i K a) : wpOpIn Fence.wide m P ops Q' i K' a w := by
 unfold qOp at hh; unfold wpOpIn; split
 ·rename_i ho; simp only [ho] at hh; exact h _ _ hC hh
 ·rename_i o ho
  simp only [ho] at hh; split
  ·rename_i hw; simp only [hw, if_true] at hh; exact qHw hC h hh
  ·rename_i hw; simp only [hw] at hh; exact ⟨fun _ _ => trivial, h _ _ hC hh⟩
theorem qJa {n g : Nat} {L : Array Bool -> Act -> Prop} {Q : Exit -> Act -> World -> Prop} (hL : ∀ listed a w, C w -> L listed a -> wpAnyIn Fence.wide m P md ops Q g listed a w) :
  ∀ (f : Nat) (listed : Array Bool) (a : Act) (w : World), C w -> qKa P md ops C n L f listed a -> wpAnyIn Fence.wide m P md ops Q (f + g) listed a w
 | 0, listed, a, w, hw, h => by rw [Nat.zero_add]; exact hL _ _ _ hw h
 | f + 1, listed, a, w, hw, h => by
  rw [show f + 1 + g = (f + g) + 1 by omega]
  exact ⟨fun h0 => absurd h0 h.1, fun i hi => qRs hw (fun a' w' hw' h' => qJa hL f _ a' w' hw' h') (h.2 i hi).2⟩
theorem qHe {F : Fence} {Q' : Exit -> Act -> World -> Prop} : ∀ (l : List Oper) (k : Nat) (listed : Array Bool) (a : Act) (w : World), (∀ j, l[j]? = ops[k + j]?) →
  Region.seqB md ops l.length k listed = true -> wpListIn F m P ops Q' l a w -> wpAnyIn F m P md ops Q' l.length listed a w
 | [], _, _, _, _, _, hB, h => ⟨by simpa [Region.seqB] using hB, h⟩
 | o :: l, k, listed, a, w, hl, hB, h => by
  have h0 : ops[k]? = some o := by simpa using (hl 0).symm
  simp only [List.length_cons, Region.seqB, Bool.and_eq_true, decide_eq_true_eq] at hB; refine ⟨fun h1 => (by rw [hB.1] at h1; cases h1), fun i hi => ?_⟩
  rw [hB.1] at hi; have hik : i = k := by simpa using hi
  subst hik; have hw : wpOpIn F m P ops Q' i (wpListIn F m P ops Q' l) a w := by unfold wpOpIn; simp only [h0]; exact h
  exact wpOpIn_mono (fun a' w' h' => qHe l (i + 1) _ a' w' (fun j => by have := hl (j + 1); simpa [Nat.add_assoc, Nat.add_comm 1 j] using this) hB.2 h') hw
end
theorem qHb {P : Program} {id m : Nat} {Q : Exit -> Act -> World -> Prop} {a : Act} {w : World} {l : List Oper} (n : Nat) (hm : P.follows .mixedOrders = true) (hB : Region.lexTailB .any l.toArray n = true)
  (h : wpQuiet P l.toArray (fun w' => ∃ x : Ext w, w' = x.val) (fun a' => ∀ w', (∃ x : Ext w, w' = x.val) -> wpListIn Fence.wide m P l.toArray Q (l.drop n) a' w') (l.take n) a) : (Code.region id l.toArray true).wpIn Fence.wide m P Q a w := by
 simp only [Region.lexTailB, Bool.and_eq_true, decide_eq_true_eq] at hB; obtain ⟨⟨⟨⟨hsel, hn⟩, hs⟩, hc⟩, hlex⟩ := hB; have htl : (l.take n).length = n := by simp at hn ⊢; omega
 have hdl : (l.drop n).length = l.toArray.size - n := by simp
 have inv0 : HeadInv .any l.toArray n (Array.replicate l.toArray.size false) :=
  ⟨by simp, fun j oj _ hl => (by rw [getD_replicate_false] at hl; cases hl), fun t _ ht => getD_in (by simpa using ht) (getD_replicate_false _ _)⟩
 have H := qPb (md := .any) (g := l.toArray.size - n) hsel hs hc hn (l.take n) 0 _ a (fun j hj => by
  have hj' : j < n := by rw [htl] at hj; exact hj
  simp [hj']) (by simpa using htl) inv0 (by rw [htl]; exact hlex) h
 refine wpIn_region_any hm ?_; have := qJa (m := m) (Q := Q) (g := l.toArray.size - n) (fun listed a' w' hC hL => by
  have := qHe (F := Fence.wide) (m := m) (md := .any) (Q' := Q) (l.drop n) n listed a' w' (fun j => by simp [List.getElem?_drop]) (by rw [hdl]; exact hL.1) (hL.2 w' hC)
  rwa [hdl] at this) _ _ _ { w with drawn := w.drawn + 1 } ⟨⟨_, (Mod.refl _ w).drew⟩, rfl⟩ H
 rw [htl, show n + (l.toArray.size - n) = l.toArray.size by omega] at this
 exact this
theorem qEi {F : Fence} {r : Nat} {P : Program} {ops : Array Oper} {rest : List Oper} {o : Oper} {a : Act} {w : World} {Q : Exit -> Act -> World -> Prop}
  (hg : o.guard = none) (s x : Operand) (t : TypeId) (hop : o.op = Op.call { callee := Callee.builtin Builtin.append, args := #[s, x], argTypes := #[t, t] })
  (e : TypeId) (i : TypeInfo) (z : Value) (size bytes : Nat) (h1 : P.underlying t = some (.slice e)) (h2 : P.info? e = some i) (hz : i.zero = some z) (h4 : i.size = size) (hby : i.bytes = bytes) (hzs : z.cells.size = size)
  (sa : Option Addr) (n cap : Nat) (xs : List Value) (hs : a.eval s = .slice sa n cap) (hown : Own w e size sa n cap xs)
  (xa : Option Addr) (m c : Nat) (news : List Value) (hx : a.eval x = .slice xa m c) (hsrc : Src w size xa m news) (h1c : ∀ u ∈ news, u.oneCell' = true)
  (h63 : n + m <= maxLen) (hbytes : (n + m) * bytes <= 140737488355328)
  (hK : ∀ sa' cap' w', Own w' e size sa' (n + m) cap' (xs ++ news) -> Mod (blk sa) w w' -> (∀ k, blk sa' k -> blk sa k \/ w.heap.size <= k) -> (sa' = none -> sa = none /\ m = 0) -> (n + m <= cap -> sa' = sa /\ cap' = cap) -> wpListIn F r P ops Q rest (a.put o.dst (.slice sa' (n + m) cap')) w') :
  wpListIn F r P ops Q (o :: rest) a w := by
 refine wpListIn_plain hg fun K hK' => ?_
 obtain ⟨sa', cap', w', hrun, r1, r2, r3, r4, r5⟩ := qHg (P := P) w t o.type e i z size bytes h1 h2 hz h4 hby hzs sa n cap xs hown xa m c news hsrc h1c h63 hbytes; unfold Oper.wpIn; refine ⟨?_, ?_⟩
 ·simp [Oper.about, hop, resolve, Target.leads, Sem.run_pure]
 ·rw [Oper.semAt_plain F _ _ (by rw [hop]; intro c hc'; cases hc')]
  simp [execOp, hop, resolve, invoke, builtin, hs, hx, hrun, Result.andThen]
  exact hK' _ _ (hK sa' cap' w' r1 r2 r3 r4 r5)
theorem qOx {T : Nat -> Prop} {W W' : World} (B : Nat) (h : Mod T W W') (ht : ∀ k o, T k -> W.heap[k]? = some o -> o.isCells = true) : KeepsFrom B W W' :=
 ⟨h.size, fun k o _ hk ho => (h.block k (lth hk) (fun e => by rw [ht k o e hk] at ho; cases ho)).trans hk⟩
end
end Go.Proofs.YtkinkgbmlhiakaaGreatDoor
