/- merged: TwE TwO TwH TrY TwL TrG -/
import Derived.Test.YtkinkgbmlhiakaaGreatDoorNd21
import Derived.Test.YtkinkgbmlhiakaaGreatDoorNd20
import Derived.Test.YtkinkgbmlhiakaaGreatDoorNd29
import Derived.Deep.DeepCutAuto
import Derived.Test.YtkinkgbmlhiakaaGreatDoorNd13
import Derived.Test.YtkinkgbmlhiakaaGreatDoorNd27
import Derived.Test.YtkinkgbmlhiakaaGreatDoorNd18
import Derived.Test.YtkinkgbmlhiakaaGreatDoorNd17
import Derived.Test.YtkinkgbmlhiakaaGreatDoorNd05
import Derived.Test.YtkinkgbmlhiakaaGreatDoorNd26
import Derived.Test.YtkinkgbmlhiakaaGreatDoorNd12
namespace Go.Proofs.YtkinkgbmlhiakaaGreatDoor
section
open Go Go.RowKit
theorem qKv (t : TypeId) (a b : ByteArray) : binOp .leq t (.string a) (.string b) = pure (.bool (Op.bytesLess a.toList b.toList || a.toList == b.toList)) := by simp [binOp, Op.stringOp]
attribute [local go_sem] qKv
theorem qAu.lt' {S : Nat -> Prop} {w : World} {B : TB} {T : TM} {D : Dsk} {off : Bool} (h : qAu S w B T D off) {k : Nat} (hk : TS B k) : k < w.heap.size := by
 rcases hk with hk | hk | hk | hk | hk
 ·rw [hk]; exact lth h.box
 ·obtain ⟨l, h1, _⟩ := h.nodes; rw [hk]; exact h1.lt
 ·obtain ⟨l, h1, _⟩ := h.after; rw [hk]; exact h1.lt
 ·rw [hk]; exact h.jr.lt
 ·exact h.disk.lt k hk
theorem qYo (W : World) (b : Bool) (ka va ia : Option Addr) (kn kc vn vc jn jc : Nat) : (Instr.field 123 (.agg #[.bool b, .slice ka kn kc, .slice va vn vc, .slice ia jn jc]) 1).run Tryz.prog W = .ok (.slice ka kn kc) W := by kernel_rfl
theorem qYn (W : World) (b : Bool) (ka va ia : Option Addr) (kn kc vn vc jn jc : Nat) : (Instr.field 123 (.agg #[.bool b, .slice ka kn kc, .slice va vn vc, .slice ia jn jc]) 0).run Tryz.prog W = .ok (.bool b) W := by kernel_rfl
attribute [local go_sem] qYo qYn
end
section
open Go Go.RowKit
def newB (N j d : Nat) (sa : Option Addr) (room : Nat) : TB := ⟨N + 1 + 1, N, N + 1, j, d, sa, room⟩
theorem jGc {w : World} {d j room : Nat} {sa : Option Addr} {D : Dsk} (hD : qAp w d sa D) (hj : JAt w j d room) (hs : ¬ qBj d sa j) (hn : D.secs.length <= 16384) (hr : room <= 500) :
  qAu (TS (newB w.heap.size j d sa room)) (((w.alloc (.map #[] 0)).alloc (.map #[] 0)).alloc (.cells #[.int .i64 0, .int .i64 1, .int .i64 0, .int .i64 0, .pointer (some ⟨j, 0, none⟩), .int .i64 (room : Int), .map (some w.heap.size), .map (some (w.heap.size + 1)), .bool false] 84)) (newB w.heap.size j d sa room) newT D false ∧
  Mod (fun _ => False) w (((w.alloc (.map #[] 0)).alloc (.map #[] 0)).alloc (.cells #[.int .i64 0, .int .i64 1, .int .i64 0, .int .i64 0, .pointer (some ⟨j, 0, none⟩), .int .i64 (room : Int), .map (some w.heap.size), .map (some (w.heap.size + 1)), .bool false] 84)) := by
 have s1 : (w.alloc (.map #[] 0)).heap.size = w.heap.size + 1 := by simp
 have s2 : ((w.alloc (.map #[] 0)).alloc (.map #[] 0)).heap.size = w.heap.size + 1 + 1 := by simp
 have m1 : qAv KI.kv (w.alloc (.map #[] 0)) w.heap.size [] := qAv.made KI.kv w; have m2 : qAv KI.kv ((w.alloc (.map #[] 0)).alloc (.map #[] 0)) (w.heap.size + 1) [] := by have := qAv.made KI.kv (w.alloc (.map #[] 0)); rw [s1] at this; exact this
 have hb := heap_alloc_new ((w.alloc (.map #[] 0)).alloc (.map #[] 0)) (.cells #[.int .i64 0, .int .i64 1, .int .i64 0, .int .i64 0, .pointer (some ⟨j, 0, none⟩), .int .i64 (room : Int), .map (some w.heap.size), .map (some (w.heap.size + 1)), .bool false] 84); rw [s2] at hb; have e2 : Mod (fun _ => False) ((w.alloc (.map #[] 0)).alloc (.map #[] 0)) (((w.alloc (.map #[] 0)).alloc (.map #[] 0)).alloc (.cells #[.int .i64 0, .int .i64 1, .int .i64 0, .int .i64 0, .pointer (some ⟨j, 0, none⟩), .int .i64 (room : Int), .map (some w.heap.size), .map (some (w.heap.size + 1)), .bool false] 84)) := (Mod.refl _ _).alloc _
 have e1 : Mod (fun _ => False) (w.alloc (.map #[] 0)) _ := ((Mod.refl (fun _ => False) (w.alloc (.map #[] 0))).alloc (.map #[] 0)).trans e2
 have e0 : Mod (fun _ => False) w _ := ((Mod.refl (fun _ => False) w).alloc (.map #[] 0)).trans e1
 exact ⟨⟨hb, ⟨[], m1.mod e1 (fun e => e), (fun _ _ => rfl), (fun s n hn => by cases hn)⟩, ⟨[], m2.mod e2 (fun e => e), (fun s => rfl)⟩, hD.mod e0 (fun _ _ e => e), hj.mod e0 (fun e => e), hs, hn, hr⟩, e0⟩
set_option maxRecDepth 100000
set_option maxHeartbeats 1000000 in
theorem qZw {w : World} {d k0 room : Nat} {sa : Option Addr} {D : Dsk} (hD : qAp w d sa D) (hb : Bud D k0) (hk0 : k0 <= 2305843009213693952) (h1 : 1 <= room) (hr : room <= 500) (hn : (qKg room D).2.secs.length <= 16384) (ho : (qKg room D).1 = 0)
  (hrd : (qEu room (qKg room D).2 0).2 = 0) (hsz : (qEu room (qKg room D).2 0).1.size <= maxLen) (hz : AllZ (qEu room (qKg room D).2 0).1.data.toList) :
  Calls Tryz.prog 7 #[.pointer (some ⟨d, 0, none⟩), .int .i64 (room : Int)] w fun e w' => ∃ N j : Nat, e = .returned (.tuple #[.pointer (some ⟨(newB N j d sa room).tb, 0, none⟩), .int .i64 0]) /\ qAu (TS (newB N j d sa room)) w' (newB N j d sa room) newT (qKg room D).2 false /\ w.heap.size <= N /\ w.heap.size <= j /\ Mod (qBj d sa) w w' := by
 have HO := hid (jFw hD hb hk0 h1 hr); have HLt := hid hD.lt; obtain ⟨⟨E, D1⟩, hE⟩ : ∃ R, qKg room D = R := ⟨_, rfl⟩; rw [hE] at HO hn ho hrd hsz hz ⊢; simp only at ho hn hrd hsz hz HO ⊢; subst ho; have HJr := hid (fun (w1 : World) (j : Nat) (hd : qAp w1 d sa D1) (hj : JAt w1 j d room) (hs : ¬ qBj d sa j) => jCa hd hj hs hn hr 0)
 have HTr := hid (fun v => qUv (qEu room D1 0).1 v hsz)
 have HNil := hid (qQy (qEu room D1 0).1); have HZ := hid hz; rw [hrd] at HJr; obtain ⟨s, hs⟩ : ∃ s, (qEu room D1 0).1 = s := ⟨_, rfl⟩; rw [hs] at HJr HTr HNil HZ; have ez : (qNg s).toList.isEmpty = true := by rw [ByteArray.toList_eq, HNil.out.2 HZ.out]; rfl
 have HNl := hid hn; have hmm := @run_makeMap Tryz.prog; generalize qNg s = tb at *; clear hD hb hE hn hrd hsz hz hs HNil; go_enter Tryz.func7, Tryz.ntmps7
 go_wp2_with (first
  | (go_at_call 23; refine HO.out.mono ?_; rintro e w1 ⟨hd1, hm1, hc⟩; obtain ⟨j, rfl, hj, hjn⟩ := (hc.resolve_right (fun h => h.1 rfl)).2; have HD1 := hid hd1; have HM1 := hid hm1; have HJ1 := hid hj; have HJn := hid hjn; have HSep : Hid (¬ qBj d sa j) := hid (fun e => by have h2 := HLt.out j e; have h3 := HJn.out; omega); clear hd1 hm1 hc hj hjn)
  | (go_at_call 24; refine (HJr.out _ _ HD1.out HJ1.out HSep.out).mono ?_; rintro e w2 ⟨rfl, hd2, hm2⟩; have HNt := hid (jGc hd2 (HJ1.out.mod hm2 HSep.out) HSep.out HNl.out hr); have HM2 := hid (HM1.out.trans hm2); clear hd2 hm2)
  | (go_at_call 25; refine (HTr.out _).mono ?_; rintro e wt ⟨rfl, nq, rfl⟩))
 go_ret2; refine ⟨w2.heap.size, _, rfl, HNt.out.1.mod (S' := fun _ => False) ((Mod.refl _ _).drewN nq) (fun _ e => e.elim) (fun _ e => e.elim), ?_, HJn.out, ?_⟩
 ·have h2 := HM2.out.size; omega
 ·exact (HM2.out.trans (HNt.out.2.mono (fun _ _ e => e.elim))).trans (((Mod.refl (fun _ => False) _).drewN nq).mono (fun _ _ e => e.elim))
end
section
open Go Go.RowKit
noncomputable def qNu (room : Nat) (D : Dsk) (q : Nat) : ByteArray := (qEu room D (q : Int)).1
theorem jFh {room : Nat} {D : Dsk} (h : D.off = false) {i : Int} (h1 : 0 <= i) (h2 : i < jlen room D) : (qEu room D i).2 = 0 := by
 unfold qEu; rw [if_neg (by omega), qPe]
 have h3 : qBd D ((room : Int) + 1 + i) = 0 := by
  unfold qBd; rw [h]; unfold jlen at h2; simp only [Bool.false_eq_true, if_false]; rw [if_neg (by omega)]
 rw [if_neg (by rw [h3]; simp)]
theorem qNv {D : Dsk} {k room : Nat} (h : Bud D k) (i : Int) : (qEu room D i).1.size <= 1024 := by
 unfold qEu; split
 ·exact Nat.zero_le _
 ·exact h.read _
end
section
open Go Go.RowKit
theorem jAl {look : Int -> Option NP} {m : Nat} : ∀ (g : Nat) (s : Int) (u : Tr g), Sd look m g s u -> ∀ x ∈ secs g s u, ∀ n, look x = some n -> qBg n.1 n.2
 | 0, s, u, hu, x, hx, n, hn => by
  have hx : x ∈ [s] := hx; rw [List.mem_singleton] at hx; subst hx; rw [hu.1] at hn; cases hn
  exact hu.2
 | g + 1, s, u, hu, x, hx, n, hn => by
  have hx : x ∈ s :: qAl u := hx; rcases List.mem_cons.1 hx with hx | hx
  ·subst hx; rw [hu.1.1] at hn; cases hn
   exact hu.1.2
  ·unfold qAl at hx; obtain ⟨y, hy, hx⟩ := List.mem_flatMap.1 hx; exact jAl g y.spot y.sub (hu.2 y hy).1 x hx n hn
theorem jEc {T : TM} {W : WM} {U F : List Int} (hA : Acc T W U [] F) : (0 <= W.free /\ W.free < W.next) /\ (∀ x, qNo W x -> 1 <= x /\ x < W.next) /\ (∀ x y, W.after x = some y -> 0 <= y /\ y < W.next) /\ (∀ x n, W.nodes x = some n -> x ∈ U) := by
 have hp := hA.pos; have hin : ∀ x, (W.nodes x ≠ none \/ W.after x ≠ none) -> 1 <= x /\ x < W.next := fun x hx => by
  by_cases hc : 1 <= x /\ x < W.next
  ·exact hc
  ·have := hA.out x hc; exact hx.elim (fun h => absurd this.1 h) (fun h => absurd this.2.1 h)
 refine ⟨?_, hin, fun x y hy => ?_, fun x n hx => ?_⟩
 ·rcases qHc hA.chain with ⟨h, _⟩ | ⟨h, _⟩
  ·omega
  ·have := hA.spot (.inr (.inl h)); omega
 ·have h1 := hin x (.inr (by rw [hy]; exact fun e => by cases e))
  have hxf : x ∈ F := by
   by_cases hf : x ∈ F
   ·exact hf
   ·exfalso
    have hc := hA.cnt x; rw [List.count_eq_zero.2 hf, if_pos h1] at hc; have hu : x ∈ U := List.count_pos_iff.1 (by simp at hc; omega)
    have := (hA.used x (.inl hu)).1; rw [hy] at this; cases this
  have hlink : W.link T x = some y := by unfold WM.link; rw [hy]
  have haux : ∀ (G : List Int) (f : Int), qNe (W.link T) f G -> x ∈ G -> y = 0 \/ y ∈ G := by
   intro G; induction G with
   | nil => intro f _ hx; cases hx
   | cons z G ih =>
    intro f hc hx; obtain ⟨rfl, _, w, q1, q2⟩ := hc; rcases List.mem_cons.1 hx with rfl | hx
    ·rw [hlink] at q1; cases q1
     rcases qHc q2 with ⟨h, _⟩ | ⟨h, _⟩
     ·exact .inl h
     ·exact .inr (List.mem_cons_of_mem _ h)
    ·exact (ih w q2 hx).imp id (List.mem_cons_of_mem _)
  rcases haux F W.free hA.chain hxf with h | h
  ·omega
  ·have := hA.spot (.inr (.inl h)); omega
 ·have h1 := hin x (.inl (by rw [hx]; exact fun e => by cases e))
  by_cases hu : x ∈ U
  ·exact hu
  ·exfalso
   by_cases hf : x ∈ F
   ·have := (hA.free x hf).1; rw [hx] at this; cases this
   ·have hc := hA.cnt x; rw [List.count_eq_zero.2 hu, List.count_eq_zero.2 hf, if_pos h1] at hc; simp at hc
theorem WI.rng {T : TM} {m : Nat} {W : WM} {l : List KV} {H N : Nat} (h : WI T m W l H N) : (0 <= W.root /\ W.root < W.next) /\ 1 <= W.next /\ (0 <= W.free /\ W.free < W.next) /\ (0 <= W.count /\ W.count <= 511 * W.next) /\ (∀ x, qNo W x -> 1 <= x /\ x < W.next) /\ (∀ x y, W.after x = some y -> 0 <= y /\ y < W.next) /\ (∀ x n, W.nodes x = some n -> qBg n.1 n.2) := by
 obtain ⟨_, h2, h3⟩ := h; rcases h3 with ⟨h4, rfl, _, F, hA⟩ | ⟨ht, t, F, hR, hN⟩
 ·obtain ⟨a1, a2, a3, a4⟩ := jEc hA; have hp := hA.pos; have e : ([] : List KV).length = 0 := rfl; rw [e] at h2; exact ⟨by omega, hp, a1, by omega, a2, a3, fun x n hx => absurd (a4 x n hx) (by simp)⟩
 ·have hA := hR.acc; obtain ⟨a1, a2, a3, a4⟩ := jEc hA; have hp := hA.pos; have hr : 1 <= W.root /\ W.root < W.next := hA.spot (.inl (by rw [qDl]; exact List.mem_cons_self))
  have hl := hA.len; have hf := qQb hR.sd; rw [hR.fl] at hf; simp only [List.length_nil] at hl; exact ⟨by omega, hp, a1, by omega, a2, a3, fun x n hx => jAl ht W.root t hR.sd x (a4 x n hx) n (by unfold WM.look; rw [hx])⟩
theorem qYg (l : List KV) (hl : ∀ p ∈ l, p.1.size <= 48 /\ p.2.size <= 200) (hn : l.length <= 511) : (qAo true (eOf 0 l)).length <= qDg l + 3 := by
 have hlen : (eOf 0 l).length = l.length := List.length_map ..; have aux : ∀ r : List KV, (∀ p ∈ r, p.1.size <= 48 /\ p.2.size <= 200) -> wt true (eOf 0 r) <= qDg r := by
  intro r; induction r with
  | nil => intro _; exact Nat.zero_le _
  | cons p r ih =>
   intro hr; have h1 := ih (fun q hq => hr q (List.mem_cons_of_mem _ hq))
   have h2 := hr p List.mem_cons_self; have e1 : wt true (eOf 0 (p :: r)) = (entL true ⟨p.1, p.2, 0⟩).length + wt true (eOf 0 r) := by unfold wt; show (List.flatMap _ (_ :: _)).length = _; rw [List.flatMap_cons, List.length_append]; rfl
   have e2 : qDg (p :: r) = p.1.size + p.2.size + 4 + qDg r := by unfold qDg; rw [List.map_cons, List.sum_cons]
   have e3 : (entL true ⟨p.1, p.2, 0⟩).length = (qCq p.1).length + (qCq p.2).length := by unfold entL; simp
   have t1 : (qCq p.1).length <= p.1.size + 2 := by
    unfold qCq; rw [List.length_append]; have h3 := qGm (k := p.1.size) (by omega)
    have : p.1.data.toList.length = p.1.size := rfl; omega
   have t2 : (qCq p.2).length <= p.2.size + 2 := by
    unfold qCq; rw [List.length_append]; have h3 := qGm (k := p.2.size) (by omega)
    have : p.2.data.toList.length = p.2.size := rfl; omega
   omega
 rw [qHq, hlen]; have h1 := aux l hl; have h2 := qGm (k := l.length) (by omega)
 omega
theorem qIx (a b : List KV) : qDg (a ++ b) = qDg a + qDg b := by unfold qDg; rw [List.map_append, List.sum_append]
theorem qNt {look : Int -> Option NP} : ∀ {h : Nat} {s : Int} {t : Tr h}, Sd look 250 h s t -> 250 <= wtN h t -> (∀ p ∈ flat h t, p.1.size <= 48 /\ p.2.size <= 200) -> 190 * (secs h s t).length + 50 <= qDg (flat h t)
 | 0, s, l, hS, hw, hp => by
  have h1 : (qAo true (eOf 0 l)).length <= qDg l + 3 := qYg l hp (by
   have h2 := hS.2.len; have h3 : (eOf 0 l).length = List.length (α := KV) l := List.length_map ..; omega)
  have hw : 250 <= (qAo true (eOf 0 l)).length := hw; show 190 * 1 + 50 <= qDg l; omega
 | h + 1, s, l, hS, hw, hp => by
  have hl : 5 <= (eOf (h + 1) l).length := qBg.many hS.1.2 hw; have hl2 : 5 <= List.length (α := TE (Tr h)) l := by
   have e : (eOf (h + 1) l).length = List.length (α := TE (Tr h)) l := List.length_map ..; omega
  have aux : ∀ r : List (TE (Tr h)), (∀ e ∈ r, Sd look 250 h e.spot e.sub /\ 250 <= wtN h e.sub) -> (∀ p ∈ qAg r, p.1.size <= 48 /\ p.2.size <= 200) -> 190 * (qAl r).length + 50 * r.length <= qDg (qAg r) := by
   intro r; induction r with
   | nil => intro _ _; simp [qCh]
   | cons e r ih =>
    intro hr hq; have e1 : qAg (e :: r) = flat h e.sub ++ qAg r := by unfold qAg; rw [List.flatMap_cons]
    rw [e1] at hq ⊢; rw [qBn, List.length_append, List.length_cons, qIx]; have h1 := qNt (hr e List.mem_cons_self).1 (hr e List.mem_cons_self).2 (fun p hp => hq p (List.mem_append_left _ hp))
    have h2 := ih (fun x hx => hr x (List.mem_cons_of_mem _ hx)) (fun p hp => hq p (List.mem_append_right _ hp))
    omega
  have h1 := aux l (fun e he => ⟨(hS.2 e he).1, (hS.2 e he).2.2⟩) hp
  show 190 * (s :: qAl l).length + 50 <= qDg (qAg l); rw [List.length_cons]; omega
theorem jAj {look : Int -> Option NP} : ∀ {h : Nat} {s : Int} {t : Tr h}, Sd look 250 h s t -> (∀ p ∈ flat h t, p.1.size <= 48 /\ p.2.size <= 200) -> 190 * (secs h s t).length <= qDg (flat h t) + 190
 | 0, s, l, _, _ => by
  show 190 * 1 <= _; omega
 | h + 1, s, l, hS, hp => by
  have aux : ∀ r : List (TE (Tr h)), (∀ e ∈ r, Sd look 250 h e.spot e.sub /\ 250 <= wtN h e.sub) -> (∀ p ∈ qAg r, p.1.size <= 48 /\ p.2.size <= 200) -> 190 * (qAl r).length <= qDg (qAg r) := by
   intro r; induction r with
   | nil => intro _ _; simp [qCh]
   | cons e r ih =>
    intro hr hq; have e1 : qAg (e :: r) = flat h e.sub ++ qAg r := by unfold qAg; rw [List.flatMap_cons]
    rw [e1] at hq ⊢; rw [qBn, List.length_append, qIx]; have h1 := qNt (hr e List.mem_cons_self).1 (hr e List.mem_cons_self).2 (fun p hp => hq p (List.mem_append_left _ hp))
    have h2 := ih (fun x hx => hr x (List.mem_cons_of_mem _ hx)) (fun p hp => hq p (List.mem_append_right _ hp))
    omega
  have h1 := aux l (fun e he => ⟨(hS.2 e he).1, (hS.2 e he).2.2⟩) hp
  show 190 * (s :: qAl l).length <= qDg (qAg l) + 190; rw [List.length_cons]; omega
theorem jAk {look : Int -> Option NP} {m : Nat} : ∀ (g : Nat) (s : Int) (u : Tr g), Sd look m g s u -> ∀ x ∈ secs g s u, (look x).isSome = true
 | 0, s, u, hu, x, hx => by
  have hx : x ∈ [s] := hx; rw [List.mem_singleton] at hx; rw [hx, hu.1]; rfl
 | g + 1, s, u, hu, x, hx => by
  have hx : x ∈ s :: qAl u := hx; rcases List.mem_cons.1 hx with hx | hx
  ·rw [hx, hu.1.1]; rfl
  ·unfold qAl at hx; obtain ⟨y, hy, hx⟩ := List.mem_flatMap.1 hx; exact jAk g y.spot y.sub (hu.2 y hy).1 x hx
theorem TI.secs {T : TM} {l : List KV} {H N : Nat} (h : TI T 250 l H N) : (190 * N <= qDg l + 190) /\ (l ≠ [] -> 1 <= N) /\ ∃ U : List Int, U.Nodup /\ U.length = N /\ ∀ x, x ∈ U ↔ (T.nodes x).isSome = true := by
 obtain ⟨hf, _, h3⟩ := h; have key : ∀ (U F : List Int), Acc T T.begin U [] F -> (∀ x ∈ U, (T.nodes x).isSome = true) -> U.Nodup /\ ∀ x, x ∈ U ↔ (T.nodes x).isSome = true := fun U F hA hU => by
  refine ⟨qHy (fun x => by have := hA.cnt x; split at this <;> omega), fun x => ⟨hU x, fun hx => ?_⟩⟩
  by_cases hc : 1 <= x /\ x < T.begin.next
  ·have h1 := hA.cnt x; rw [if_pos hc] at h1; by_cases hu : x ∈ U
   ·exact hu
   ·exfalso
    rw [List.count_eq_zero.2 hu] at h1; have hxF : x ∈ F := List.count_pos_iff.1 (by simp at h1; omega)
    have h2 := ((hA.free x hxF).2 rfl).2; rw [h2] at hx; cases hx
  ·have h2 := (hA.out x hc).2.2.2.1; rw [h2] at hx; cases hx
 rcases h3 with ⟨_, rfl, rfl, F, hA⟩ | ⟨ht, t, F, hR, rfl⟩
 ·obtain ⟨k1, k2⟩ := key [] F hA (fun x hx => by cases hx)
  exact ⟨by omega, (fun h => absurd rfl h), [], k1, rfl, k2⟩
 ·obtain ⟨k1, k2⟩ := key _ F hR.acc (fun x hx => jAk ht _ t hR.sd x hx)
  have h1 := jAj hR.sd (by rw [hR.fl]; exact fun p hp => ⟨(hf.ok p hp).1.2, (hf.ok p hp).2⟩)
  rw [hR.fl] at h1; refine ⟨h1, fun _ => ?_, _, k1, rfl, k2⟩
  rw [qDl]; simp
structure Std (room : Nat) (D : Dsk) (T : TM) (l : List KV) (N : Nat) : Prop where
 clear : jKy D
 dt : DT (jlen room D) (qNu room D) T
 ti : TI T 250 l 26 N
 next : T.next <= (jlen room D : Int)
 r1 : 1 <= room
 r2 : room <= 500
theorem qIv {room : Nat} {D : Dsk} (h : D.off = false) (q : Nat) : qNu room D q = if q < jlen room D then sec D (room + 1 + q) else ⟨#[]⟩ := by
 unfold qNu qEu; by_cases hq : q < jlen room D
 ·rw [if_pos hq, if_neg (by omega)]
  have hd : room + 1 + q < D.secs.length := by unfold jlen at hq; omega
  have := jIw h (room + 1 + q) hd; rw [show ((room : Int) + 1 + (q : Int)) = ((room + 1 + q : Nat) : Int) by omega, this]
 ·rw [if_neg hq, if_pos (by omega)]
theorem qNs {D : Dsk} {k room : Nat} {T : TM} {l l' : List KV} {N N' : Nat} {W' : WM} {ls : List Chg} {ln : List (Int × NP)} {la : List (Int × Int)} (hL : Lit D k) (hs : Std room D T l N) (hW : WI T 250 W' l' 26 N') (hn : W'.next <= (jlen room D : Int)) (hlaid : Laid W' ls ln la) (hroom : ls.length <= room) :
  (qAk room ls D).1 = 0 /\ Lit (qAk room ls D).2 (k + 2 * ls.length + 2) /\ Std room (qAk room ls D).2 (W'.done T) l' N' := by
 have hj : jlen room D <= 16384 := by have := hL.b.n; unfold jlen; omega
 obtain ⟨r1, r2, r3, r4, r5, r6, r7⟩ := hW.rng; have hf := hW.fits hn hj r7; have hlo : qLh W' ls := by
  obtain ⟨_, _, h3⟩ := hW; rcases h3 with ⟨_, _, _, F, hA⟩ | ⟨ht, t, F, hR, _⟩
  ·exact qJf hA hlaid
  ·exact qJf hR.acc hlaid
 have hck := qYe hf hlo; have hne : ls ≠ [] := fun e => by
  have h1 := jGi hlaid; rw [e] at h1; simp at h1
 obtain ⟨c1, c2⟩ := jDh hL hs.r2 ls hroom hne hck; have hjl : jlen room (qAk room ls D).2 = jlen room D := by unfold jlen; rw [c2.len]
 have hnd := qGp hf hlo; have hin : ∀ c ∈ ls, c.pos.toNat < jlen room D := fun c hc => (qHo ls [] hck).1 c hc |>.2.1
 have hsec : qNu room (qAk room ls D).2 = upc (qNu room D) ls := funext fun q => by
  rw [qIv c2.lit.off, hjl]; by_cases hq : q ∈ places ls
  ·obtain ⟨c, hc, rfl⟩ := List.mem_map.1 hq; rw [if_pos (hin c hc), c2.new c hc]; obtain ⟨m, hm⟩ := List.mem_iff_getElem?.1 hc; exact (qOv hnd hm).symm
  ·rw [qUs hq, qIv hL.off]; by_cases hql : q < jlen room D
   ·rw [if_pos hql, if_pos hql, c2.old q hq]
   ·rw [if_neg hql, if_neg hql]
 refine ⟨c1, c2.lit, .inr c2.head, ?_, qWj hW, by rw [hjl]; exact hn, hs.r1, hs.r2⟩
 rw [hjl, hsec]; refine jKc hs.dt hf hlo (fun x hx => ?_)
 obtain ⟨_, _, h3⟩ := hs.ti; rcases h3 with ⟨_, _, _, F, hA⟩ | ⟨ht, t, F, hR, _⟩
 ·have := hA.out x (fun h => hx h.1)
  exact ⟨this.2.2.2.1, this.2.2.2.2⟩
 ·have := hR.acc.out x (fun h => hx h.1)
  exact ⟨this.2.2.2.1, this.2.2.2.2⟩
theorem qSu {room : Nat} {D : Dsk} {k : Nat} (h : Bud D k) (q : Nat) : (qNu room D q).size <= 1024 := qNv h _
theorem jIr {n : Int} {room : Nat} (h1 : 1 <= room) (h2 : room <= 500) (hn : 1 <= jlen room (newD n)) : Std room (newD n) newT [] 0 := by
 refine ⟨jDi n, ⟨fun q _ => qSu (jDq n) q, (fun x n h => by cases h), (fun x y h => by cases h), .inl ⟨rfl, ?_⟩⟩, jJf 250 26, by show (1 : Int) <= _; omega, h1, h2⟩
 rw [qIv (jBp n).off, if_pos (by omega), qSv, qHr]
 exact qJw _
theorem jAb {D : Dsk} {k room : Nat} {T : TM} {l : List KV} {N : Nat} (hL : Lit D k) (hs : Std room D T l N) (cs : List Cg) (hc : ∀ c ∈ cs, CgOk c) (hn : cs.length <= 1048576) :
  ∃ (W' : WM) (N' : Nat), allM T (jlen room D : Int) 70 cs T.begin = some W' /\ WI T 250 W' (chgs cs l) 26 N' /\ (W'.full = true -> (jlen room D : Int) <= (N : Int) + 8 * cs.length) /\ (W'.full = false -> W'.next <= (jlen room D : Int)) /\ W'.next <= 16384 + 32 * cs.length ∧
   ∀ (ls : List Chg) (ln : List (Int × NP)) (la : List (Int × Int)), Laid W' ls ln la -> W'.full = false -> ls.length <= 21 * cs.length + 1 := by
 have hj : jlen room D <= 16384 := by have := hL.b.n; unfold jlen; omega
 have hnx := hs.next; obtain ⟨W', N', h1, h2, h3⟩ := jDx (L := (jlen room D : Int)) cs hc hs.ti (by omega)
 have hb : T.begin.next = T.next := rfl; obtain ⟨q1, q2⟩ := h3.sharp rfl (by rw [hb]; exact hnx) (by omega)
 refine ⟨W', N', h1, h2, q1, fun hf => (q2 hf).1, by have := h3.hi; rw [hb] at this; omega, fun ls ln la hlaid hf => ?_⟩
 obtain ⟨_, _, X, x1, x2⟩ := q2 hf; have hlo : qLh W' ls := by
  obtain ⟨_, _, h3⟩ := h2; rcases h3 with ⟨_, _, _, F, hA⟩ | ⟨ht, t, F, hR, _⟩
  ·exact qJf hA hlaid
  ·exact qJf hR.acc hlaid
 have h4 := qYd hlo (X := X) (fun y hy => (x2 y hy).resolve_right (fun h => h.elim (fun h => h rfl) (fun h => h rfl)))
 omega
end
section
open Go Go.RowKit
def qTx (look : Int -> Option NP) : Nat -> NP -> ByteArray -> Option NP
 | 0, _, _ => none
 | f + 1, n, key => if n.1 then some n else (n.2[qBv key n.2]?).bind fun x => (look x.kid).bind fun k => qTx look f k key
def qUm (S : Nat -> Prop) (w wr : World) (T : TM) (q : Nat) (fin : NP) (key : ByteArray) (f : Nat) (n : NP) (m : Nd) : Prop :=
 qTx T.nodes f n key = some fin /\ qBg n.1 n.2 /\ Has m n.1 n.2 /\ NdC w m /\ (∀ b, m.bs b -> ¬ S b /\ b < w.heap.size) /\ wr.heap[q]? = some (.cells #[.bool m.leaf, .slice m.ka m.keys.length m.kc, .slice m.va m.values.length m.vc, .slice m.ia m.kids.length m.ic] 123 (0, 0)) /\ Mod (fun _ => False) w wr ∧
 wr.heap[w.heap.size]? = some (.cells #[.bool false, .slice none 0 0, .slice none 0 0, .slice none 0 0] 123 (0, 0))
set_option maxRecDepth 100000
set_option maxHeartbeats 2000000 in
theorem jGh {S : Nat -> Prop} {w : World} {B : TB} {T : TM} {D : Dsk} {off : Bool} (h : qAu S w B T D off) {key : ByteArray} {F : Nat} {n0 fin : NP} (hr : T.nodes T.root = some n0) (hd : qTx T.nodes F n0 key = some fin) :
  Calls Tryz.prog 41 #[.pointer (some ⟨B.tb, 0, none⟩), .string key] w fun e w' => ∃ m : Nd, e = .returned m.val /\ Has m fin.1 fin.2 /\ NdC w' m /\ qBg fin.1 fin.2 /\ (∀ b, m.bs b -> ¬ S b /\ b < w.heap.size) /\ fin.1 = true /\ Mod (fun _ => False) w w' := by
 obtain ⟨m0, hlk0, hh0, hat0, hbs0⟩ := h.nodes.get hr; have HT := hid h; have HD := hid hd; have HG0 : Hid (qBg n0.1 n0.2) := hid (by obtain ⟨l, _, _, h3⟩ := h.nodes; exact (h3 _ _ hr).1)
 have HH0 := hid hh0; have HN0 := hid hat0; have HB0 := hid hbs0; have HLk := hid hlk0; have HMa : Hid (Mod (fun _ => False) w (w.alloc (.cells #[.bool false, .slice none 0 0, .slice none 0 0, .slice none 0 0] 123))) := hid ((Mod.refl _ _).alloc _)
 have HBr : Hid ((w.alloc (.cells #[.bool false, .slice none 0 0, .slice none 0 0, .slice none 0 0] 123)).heap[w.heap.size]? = some (.cells #[.bool false, .slice none 0 0, .slice none 0 0, .slice none 0 0] 123 (0, 0))) := hid (heap_alloc_new _ _); have HSz : Hid ((w.alloc (.cells #[.bool false, .slice none 0 0, .slice none 0 0, .slice none 0 0] 123)).heap.size = w.heap.size + 1) := hid (by simp)
 clear h hr hd hlk0 hh0 hat0 hbs0; go_enter Tryz.func41, Tryz.ntmps41
 go_upto_region 1 with fail
 generalize w.alloc (.cells #[.bool false, .slice none 0 0, .slice none 0 0, .slice none 0 0] 123) = X at *; have HS : Hid (∀ y, Mod (fun _ => False) w y -> y.cell? ⟨B.tb, 0, none⟩ = some (.int .i64 T.root) /\ y.cell? ⟨B.tb, 6, none⟩ = some (.map (some B.nb)) /\ (Instr.lookup 81 (.map (some B.nb)) (.int .i64 T.root) false).run Tryz.prog y = .ok (.agg #[.bool m0.leaf, .slice m0.ka m0.keys.length m0.kc, .slice m0.va m0.values.length m0.vc, .slice m0.ia m0.kids.length m0.ic]) y) := hid (fun y hy => by
  obtain ⟨t0, _, _, _, _, _, t6, _, _⟩ := (HT.out.mod hy (fun _ e => e.elim) (fun _ e => e.elim)).cells
  exact ⟨t0, t6, HLk.out y hy false⟩)
 have HMy : Hid (Mod (fun _ => False) w X.drew) := hid (HMa.out.trans (Mod.refl _ _).drew)
 have HSy : Hid (X.drew.heap.size = w.heap.size + 1) := hid HSz.out; have HBy : Hid (X.drew.heap[w.heap.size]? = some (.cells #[.bool false, .slice none 0 0, .slice none 0 0, .slice none 0 0] 123 (0, 0))) := hid (qAq (Mod.refl _ _).drew HBr.out); refine qBw (S := qAa 11 (fun y => y.cell? ⟨B.tb, 0, none⟩ = some (.int .i64 T.root) /\ y.cell? ⟨B.tb, 6, none⟩ = some (.map (some B.nb)) /\ (Instr.lookup 81 (.map (some B.nb)) (.int .i64 T.root) false).run Tryz.prog y = .ok (.agg #[.bool m0.leaf, .slice m0.ka m0.keys.length m0.kc, .slice m0.va m0.values.length m0.vc, .slice m0.ia m0.kids.length m0.ic]) y)) (by kernel_rfl) (qAa.all (HS.out _ HMy.out)) (fun hHeld => ?_)
 generalize X.drew = Y0 at *; refine aTk (v := .pointer (some ⟨B.tb, 0, none⟩)) (d := 8) 0 rfl rfl (by kernel_rfl) (by kernel_rfl) (by kernel_rfl) (fun _ _ _ h => h) (fun l w h => qAa.same (by decide) h) (fun l j w h => qAa.mono h j) (Or.inl ⟨by rfl, fun w' _ => by go_simp⟩) hHeld (fun hU => ?_)
 clear hHeld; have hHeld := hU; clear hU; simp only [Act.put, sTA, sC0, sC1]; refine aTk (v := .pointer (some ⟨B.tb, 0, none⟩)) (d := 9) 1 rfl rfl (by kernel_rfl) (by kernel_rfl) (by kernel_rfl) (fun _ _ _ h => h) (fun l w h => qAa.same (by decide) h) (fun l j w h => qAa.mono h j) (Or.inl ⟨by rfl, fun w' _ => by go_simp⟩) hHeld (fun hU => ?_)
 clear hHeld; have hHeld := hU; clear hU; simp only [Act.put, sTA, sC0, sC1]; refine aTk (v := .pointer (some ⟨B.tb, 6, none⟩)) (d := 10) 2 rfl rfl (by kernel_rfl) (by kernel_rfl) (by kernel_rfl) (fun _ _ _ h => h) (fun l w h => qAa.same (by decide) h) (fun l j w h => qAa.mono h j) (Or.inl ⟨by rfl, fun w' _ => by go_simp⟩) hHeld (fun hU => ?_)
 clear hHeld; have hHeld := hU; clear hU; simp only [Act.put, sTA, sC0, sC1]; refine aTk (v := .map (some B.nb)) (d := 11) 3 rfl rfl (by kernel_rfl) (by kernel_rfl) (by kernel_rfl) (fun _ _ _ h => h) (fun l w h => qAa.same (by decide) h) (fun l j w h => qAa.mono h j) (Or.inl ⟨by rfl, fun w' hT => by (obtain ⟨l', hz', hu', hC', hS'⟩ := hT; obtain ⟨c0, c6, c9⟩ := hS' (hC'.later (i := 3) (j := 11) rfl (by rw [hz']; decide) (by kernel_rfl) hu'); go_simp)⟩) hHeld (fun hU => ?_)
 clear hHeld; have hHeld := hU; clear hU; simp only [Act.put, sTA, sC0, sC1]; refine aTk (v := .pointer (some ⟨B.tb, 0, none⟩)) (d := 12) 4 rfl rfl (by kernel_rfl) (by kernel_rfl) (by kernel_rfl) (fun _ _ _ h => h) (fun l w h => qAa.same (by decide) h) (fun l j w h => qAa.mono h j) (Or.inl ⟨by rfl, fun w' _ => by go_simp⟩) hHeld (fun hU => ?_)
 clear hHeld; have hHeld := hU; clear hU; simp only [Act.put, sTA, sC0, sC1]; refine aTk (v := .pointer (some ⟨B.tb, 0, none⟩)) (d := 13) 5 rfl rfl (by kernel_rfl) (by kernel_rfl) (by kernel_rfl) (fun _ _ _ h => h) (fun l w h => qAa.same (by decide) h) (fun l j w h => qAa.mono h j) (Or.inl ⟨by rfl, fun w' _ => by go_simp⟩) hHeld (fun hU => ?_)
 clear hHeld; have hHeld := hU; clear hU; simp only [Act.put, sTA, sC0, sC1]; refine aTk (v := .pointer (some ⟨B.tb, 0, none⟩)) (d := 14) 6 rfl rfl (by kernel_rfl) (by kernel_rfl) (by kernel_rfl) (fun _ _ _ h => h) (fun l w h => qAa.same (by decide) h) (fun l j w h => qAa.mono h j) (Or.inl ⟨by rfl, fun w' _ => by go_simp⟩) hHeld (fun hU => ?_)
 clear hHeld; have hHeld := hU; clear hU; simp only [Act.put, sTA, sC0, sC1]; refine aTk (v := .pointer (some ⟨B.tb, 0, none⟩)) (d := 15) 7 rfl rfl (by kernel_rfl) (by kernel_rfl) (by kernel_rfl) (fun _ _ _ h => h) (fun l w h => qAa.same (by decide) h) (fun l j w h => qAa.mono h j) (Or.inl ⟨by rfl, fun w' _ => by go_simp⟩) hHeld (fun hU => ?_)
 clear hHeld; have hHeld := hU; clear hU; simp only [Act.put, sTA, sC0, sC1]; refine aTk (v := .int .i64 T.root) (d := 16) 8 rfl rfl (by kernel_rfl) (by kernel_rfl) (by kernel_rfl) (fun _ _ _ h => h) (fun l w h => qAa.same (by decide) h) (fun l j w h => qAa.mono h j) (Or.inl ⟨by rfl, fun w' hT => by (obtain ⟨l', hz', hu', hC', hS'⟩ := hT; obtain ⟨c0, c6, c9⟩ := hS' (hC'.later (i := 8) (j := 11) rfl (by rw [hz']; decide) (by kernel_rfl) hu'); go_simp)⟩) hHeld (fun hU => ?_)
 clear hHeld; have hHeld := hU; clear hU; simp only [Act.put, sTA, sC0, sC1]; refine aTk (v := .agg #[.bool m0.leaf, .slice m0.ka m0.keys.length m0.kc, .slice m0.va m0.values.length m0.vc, .slice m0.ia m0.kids.length m0.ic]) (d := 17) 9 rfl rfl (by kernel_rfl) (by kernel_rfl) (by kernel_rfl) (fun _ _ _ h => h) (fun l w h => qAa.same (by decide) h) (fun l j w h => qAa.mono h j) (Or.inl ⟨by rfl, fun w' hT => by (obtain ⟨l', hz', hu', hC', hS'⟩ := hT; obtain ⟨c0, c6, c9⟩ := hS' (hC'.later (i := 9) (j := 11) rfl (by rw [hz']; decide) (by kernel_rfl) hu'); go_simp)⟩) hHeld (fun hU => ?_)
 clear hHeld; have hHeld := hU; clear hU; simp only [Act.put, sTA, sC0, sC1]; refine aRd (rs := [10]) (by kernel_rfl) (by simp) (AllL.cons rfl (by kernel_rfl) hHeld (fun K hK => ?_) AllL.nil)
 go_simp; have hmy : Mod (fun _ => False) Y0 (Y0.alloc (.cells #[.bool false, .slice none 0 0, .slice none 0 0, .slice none 0 0] 123)) := (Mod.refl _ _).alloc _
 have HNx : Hid ((Y0.alloc (.cells #[.bool false, .slice none 0 0, .slice none 0 0, .slice none 0 0] 123)).heap[Y0.heap.size]? = some (.cells #[.bool false, .slice none 0 0, .slice none 0 0, .slice none 0 0] 123 (0, 0))) := hid (heap_alloc_new _ _); have HM1 := hid (HMy.out.trans hmy); have HBz := hid (qAq hmy HBy.out); clear hmy; generalize Y0.alloc (.cells #[.bool false, .slice none 0 0, .slice none 0 0, .slice none 0 0] 123) = Y1 at *; refine hK.out _ _ (qAa.all (HS.out Y1 HM1.out)) (fun hU => ?_)
 clear hK K hHeld; have hHeld := hU; clear hU; try simp only [Act.put, sTA, sC0, sC1]
 refine aRd (rs := [11]) (by kernel_rfl) (by simp) (AllL.cons rfl (by kernel_rfl) hHeld (fun K hK => ?_) AllL.nil)
 obtain ⟨x0, x1, x2, x3⟩ := cl4 HNx.out; have f0 := frozen_of_row _ _ 0 _ _ HNx.out; have f1 := frozen_of_row _ _ 1 _ _ HNx.out; have f2 := frozen_of_row _ _ 2 _ _ HNx.out; have f3 := frozen_of_row _ _ 3 _ _ HNx.out; go_simp; clear x0 x1 x2 x3 f0 f1 f2 f3; refine hK.out _ _ (fun hu => absurd (show true = false from hu) (by decide)) (fun hU => ?_)
 clear hK K hHeld; have hHeld := hU; clear hU; try simp only [Act.put, sTA, sC0, sC1]
 refine qBc (by kernel_rfl) ?_ _
 clear hHeld; have hq1 := qDk HNx.out (.bool m0.leaf) (.slice m0.ka m0.keys.length m0.kc) (.slice m0.va m0.values.length m0.vc) (.slice m0.ia m0.kids.length m0.ic); have hmx : Mod (fun k => k = Y0.heap.size) Y1 ((((Y1.setCell ⟨Y0.heap.size, 0, none⟩ (.bool m0.leaf)).setCell ⟨Y0.heap.size, 1, none⟩ (.slice m0.ka m0.keys.length m0.kc)).setCell ⟨Y0.heap.size, 2, none⟩ (.slice m0.va m0.values.length m0.vc)).setCell ⟨Y0.heap.size, 3, none⟩ (.slice m0.ia m0.kids.length m0.ic)) := qBl (S := fun k => k = Y0.heap.size) (Mod.refl _ _) (fun _ => rfl) _ _ _ _
 generalize ((((Y1.setCell ⟨Y0.heap.size, 0, none⟩ (.bool m0.leaf)).setCell ⟨Y0.heap.size, 1, none⟩ (.slice m0.ka m0.keys.length m0.kc)).setCell ⟨Y0.heap.size, 2, none⟩ (.slice m0.va m0.values.length m0.vc)).setCell ⟨Y0.heap.size, 3, none⟩ (.slice m0.ia m0.kids.length m0.ic)) = V at *; have hSy := HSy.out; have HRel : Hid (qUm S w V T Y0.heap.size fin key F n0 m0) := hid ⟨HD.out, HG0.out, HH0.out, HN0.out, HB0.out, hq1, HM1.out.then hmx (fun k hk e => by omega), (hmx.block _ (lth HBz.out) (fun e => by omega)).trans HBz.out⟩
 have HQ : Hid (Y0.heap.size = w.heap.size + 1) := hid hSy; clear hq1 hmx hSy HD HG0 HH0 HN0 HB0; generalize Y0.heap.size = q at *; go_upto_region 2 with fail
 go_loopg [] F (fun g wr => ∃ (n : NP) (m : Nd), qUm S w wr T q fin key g n m)
 case atStart => exact ⟨n0, m0, HRel.out⟩
 case round =>
  obtain ⟨⟨leaf, es⟩, m, r1, r2, r3, r4, r5, r6, r7, r8⟩ := hrel; have HG := hid r2; have HH := hid r3; have HN := hid r4; have HB := hid r5; have HX := hid r6; have HM := hid r7; have HBr2 := hid r8; obtain ⟨f, hf⟩ : ∃ f, gk = f + 1 := by
   cases gk with
   | zero => unfold qTx at r1; cases r1
   | succ f => exact ⟨f, rfl⟩
  rw [hf] at r1; unfold qTx at r1; obtain ⟨x0, x1, x2, x3⟩ := cl4 r6; cases leaf with
  | true =>
   have HF : Hid ((true, es) = fin) := hid (by simpa using r1)
   have hk0 : m.kids.length = 0 := by rw [HH.out.i]; rfl
   have d0 : decide (0 < m.kids.length) = false := by simpa using hk0
   have d1 : decide ((0 : Int) < (m.kids.length : Int)) = false := by simpa using hk0
   obtain ⟨z0, z1, z2, z3⟩ := cl4 r8; have f0 := frozen_of_row _ _ 0 _ _ r8; have f1 := frozen_of_row _ _ 1 _ _ r8; have f2 := frozen_of_row _ _ 2 _ _ r8; have f3 := frozen_of_row _ _ 3 _ _ r8; clear hk0 r1 r2 r3 r4 r5 r6 r7 r8 hf; go_wp2_with fail
   rw [<- HF.out]; have hmf := qBl (b := w.heap.size) HM.out (fun h => absurd h (Nat.lt_irrefl _)) (.bool m.leaf) (.slice m.ka m.keys.length m.kc) (.slice m.va m.values.length m.vc) (.slice m.ia m.kids.length m.ic)
   refine bodyPost_ret (v := .agg #[.bool m.leaf, .slice m.ka m.keys.length m.kc, .slice m.va m.values.length m.vc, .slice m.ia m.kids.length m.ic]) (by simp only [results, Tryz.results41]; go_simp) rfl ⟨m, rfl, HH.out, ?_, HG.out, HB.out, rfl, ?_⟩
   ·exact HN.out.ext hmf
   ·exact hmf
  | false =>
   simp only [Bool.false_eq_true, if_false] at r1; obtain ⟨x, hx, hx2⟩ := Option.bind_eq_some_iff.1 r1; obtain ⟨n', hn', hd'⟩ := Option.bind_eq_some_iff.1 hx2; have HRi : Hid (qNc m.keys) := hid (by rw [HH.out.k]; exact qFv HG.out)
   have HPl := hid (qGq key (HN.out.ext HM.out).nd HRi.out); obtain ⟨m', hlk', hh', hat', hbs'⟩ := HT.out.nodes.get hn'; have HG' : Hid (qBg n'.1 n'.2) := hid (by obtain ⟨l, _, _, h3⟩ := HT.out.nodes; exact (h3 _ _ hn').1)
   have HH' := hid hh'; have HN' := hid hat'; have HB' := hid hbs'; have HLk' := hid hlk'; have HD' := hid hd'; have HXx := hid hx; have HGf := hid hf; have hkl : m.kids.length = es.length := by rw [HH.out.i]; simp
   have hjl : qBv key es < es.length := (List.getElem?_eq_some_iff.1 hx).1; have d0 : decide (0 < m.kids.length) = true := by simp; omega
   have d1 : decide ((0 : Int) < (m.kids.length : Int)) = true := by simp; omega
   have HKl := hid hkl; clear hkl hjl r1 hx2 hx hn' hd' hlk' hh' hat' hbs' r2 r3 r4 r5 r6 r7 r8 hf; go_upto_region 4 with (go_at_call 42; refine HPl.out.mono ?_; rintro e w3 ⟨⟨i, ok, hat, hok, rfl⟩, hm3⟩; have HAt := hid hat; have HOk := hid hok; have HM3 := hid hm3; have hb3 := qAq hm3 HX.out; have HB3 := hid hb3; obtain ⟨y0, y1, y2, y3⟩ := cl4 hb3; obtain ⟨ii, hii⟩ : ∃ z : Int, (if ok = true then (i : Int) else ((i - 1 : Nat) : Int)) = z := ⟨_, rfl⟩; rw [hii]; have HIi := hid hii; clear hat hok hm3 hb3 x0 x1 x2 x3 hii)
   have HCut := hid (qOr (c := ⟨key, emp, false⟩) (es := es) (i := i) (ok := ok) (by have h1 := HRi.out; rw [HH.out.k] at h1; exact h1) (by have h1 := HAt.out; rw [HH.out.k] at h1; exact h1) (by have h1 := HOk.out; rw [HH.out.k] at h1; exact h1))
   have hil0 : i <= es.length := by have h1 := HAt.out.le; rw [HH.out.k, List.length_map] at h1; exact h1
   have hpe := qPg HCut.out hil0; change qBv key es = _ at hpe; obtain ⟨j, hj⟩ : ∃ j, qBv key es = j := ⟨_, rfl⟩; rw [hj] at HXx hpe; have hij : ii = (j : Int) := by rw [<- HIi.out, hpe]; cases ok <;> rfl
   subst hij; have hjm : j < m.kids.length := by rw [HKl.out]; exact (List.getElem?_eq_some_iff.1 HXx.out).1
   have hdj : ¬ m.kids.length <= j := by omega
   have hgk : m.kids[j]? = some x.kid := by rw [HH.out.i]; simp only [Bool.false_eq_true, if_false]; rw [List.getElem?_map, HXx.out]; rfl
   have HMz := hid (HM.out.trans HM3.out); obtain ⟨gi, oi, hia, hkc⟩ := (HN.out.nd.ext HMz.out).i.one hgk; rw [hia] at y3; obtain ⟨_, _, _, _, _, _, t6, _, _⟩ := (HT.out.mod HMz.out (fun _ e => e.elim) (fun _ e => e.elim)).cells
   have g3 := fun y : Ext w3 => y.cell y3
   have gk3 := fun y : Ext w3 => y.cell hkc
   have g6 := fun y : Ext w3 => y.cell t6
   have gl : ∀ y : Ext w3, (Instr.lookup 81 (.map (some B.nb)) (.int .i64 x.kid) false).run Tryz.prog y.val = .ok (.agg #[.bool m'.leaf, .slice m'.ka m'.keys.length m'.kc, .slice m'.va m'.values.length m'.vc, .slice m'.ia m'.kids.length m'.ic]) y.val := fun y => HLk'.out y.val (HMz.out.trans y.mod) false
   clear hil0 hpe hj hgk y0 y1 y2 hia d0 d1 y3 hkc t6; refine qAt 10 (by kernel_rfl) (by kernel_rfl) ?_
   simp only [List.take_succ_cons, List.take_zero, List.drop_succ_cons, List.drop_zero]; repeat (go_big_quiet_step ((fail)))
   refine wpQuiet_nil ?_; rintro _ ⟨z, rfl⟩; have hbz := z.heap HB3.out; obtain ⟨v0, v1, v2, v3⟩ := cl4 hbz; have f0 := frozen_of_row _ _ 0 _ _ hbz; have f1 := frozen_of_row _ _ 1 _ _ hbz; have f2 := frozen_of_row _ _ 2 _ _ hbz; have f3 := frozen_of_row _ _ 3 _ _ hbz; have HBz2 := hid hbz; have HMq := hid (HMz.out.trans z.mod); have HBw := hid (z.heap (qAq HM3.out HBr2.out)); clear g3 gk3 g6 gl hbz; go_wp2_with fail
   have hqz := qDk HBz2.out (.bool m'.leaf) (.slice m'.ka m'.keys.length m'.kc) (.slice m'.va m'.values.length m'.vc) (.slice m'.ia m'.kids.length m'.ic); have hmq : Mod (fun k => k = q) z.val ((((z.val.setCell ⟨q, 0, none⟩ (.bool m'.leaf)).setCell ⟨q, 1, none⟩ (.slice m'.ka m'.keys.length m'.kc)).setCell ⟨q, 2, none⟩ (.slice m'.va m'.values.length m'.vc)).setCell ⟨q, 3, none⟩ (.slice m'.ia m'.kids.length m'.ic)) := qBl (S := fun k => k = q) (Mod.refl _ _) (fun _ => rfl) _ _ _ _
   have hQ := HQ.out; have HR : Hid (qUm S w ((((z.val.setCell ⟨q, 0, none⟩ (.bool m'.leaf)).setCell ⟨q, 1, none⟩ (.slice m'.ka m'.keys.length m'.kc)).setCell ⟨q, 2, none⟩ (.slice m'.va m'.values.length m'.vc)).setCell ⟨q, 3, none⟩ (.slice m'.ia m'.kids.length m'.ic)) T q fin key f n' m') := hid ⟨HD'.out, HG'.out, HH'.out, HN'.out, HB'.out, hqz, HMq.out.then hmq (fun k hk e => by omega), (hmq.block _ (lth HBw.out) (fun e => by omega)).trans HBw.out⟩
   clear hqz hmq hQ; go_roundg f
   case measure => have h1 := HGf.out; omega
   case rel => exact ⟨n', m', HR.out⟩
end
section
open Go Go.RowKit
theorem qVw {a b : ByteArray} (h : kl a b = true) : a ≠ b := fun e => by rw [e, qBz] at h; cases h
theorem qWh {look : Int -> Option NP} {m : Nat} (key : ByteArray) : ∀ (h : Nat) (s : Int) (t : Tr h), Sd look m h s t -> Asc (flat h t) →
  ∃ es, qTx look (h + 1) (lf h, eOf h t) key = some (true, es) /\ ∀ v, (∃ x ∈ es, x.key = key /\ x.value = v) ↔ (key, v) ∈ flat h t
 | 0, s, t, _, _ => by
  refine ⟨eOf 0 t, rfl, fun v => ⟨fun ⟨x, hx, h1, h2⟩ => ?_, fun hv => ⟨⟨key, v, 0⟩, List.mem_map.2 ⟨(key, v), hv, rfl⟩, rfl, rfl⟩⟩⟩
  obtain ⟨p, hp, rfl⟩ := List.mem_map.1 hx; have : p = (key, v) := by rw [<- h1, <- h2]
  rw [<- this]; exact hp
 | h + 1, s, l, hS, hf => by
  obtain ⟨⟨hlk, hg⟩, hB⟩ := hS; have hB : Lowr look m (h + 1) l := hB; have hok : Ok l := qLl hB; have hf : Asc (qAg l) := hf; have hne : l ≠ [] := fun e => hg.ne (by rw [e]; rfl)
  obtain ⟨a, e, b, rfl, hpl, hle, hgt⟩ := qEw (fun e : TE (Tr h) => e.key) key l hne (qJg hok hf)
  have hi : qBv key (eOf (h + 1) (a ++ e :: b)) = a.length := (qKe key _).trans hpl; obtain ⟨hSe, hfe, hwe⟩ := hB e (List.mem_append_right _ List.mem_cons_self); have hfl : qAg (a ++ e :: b) = qAg a ++ (flat h e.sub ++ qAg b) := by
   rw [qAi]; have : qAg (e :: b) = flat h e.sub ++ qAg b := by unfold qAg; rw [List.flatMap_cons]
   rw [this]
  have hsub : Asc (flat h e.sub) := by
   have h1 := hf; rw [hfl] at h1; exact (qCa.1 (qCa.1 h1).2.1).1
  obtain ⟨es, hd, hv⟩ := qWh key h e.spot e.sub hSe hsub; have hlkx : (eOf (h + 1) (a ++ e :: b))[qBv key (eOf (h + 1) (a ++ e :: b))]? = some (eE e) := by
   rw [hi, qBi, List.getElem?_map]; simp
  have hln : look e.spot = some (lf h, eOf h e.sub) := (qHv.1 hSe).1.1; refine ⟨es, ?_, fun v => (hv v).trans ?_⟩
  ·show ((eOf (h + 1) (a ++ e :: b))[qBv key (eOf (h + 1) (a ++ e :: b))]?).bind _ = _; rw [hlkx]; show (look e.spot).bind _ = _; rw [hln]; exact hd
  ·show (key, v) ∈ flat h e.sub ↔ (key, v) ∈ qAg (a ++ e :: b); rw [hfl, List.mem_append, List.mem_append]; refine ⟨fun h => .inr (.inl h), fun h3 => ?_⟩
   rcases h3 with h3 | h3 | h3
   ·exfalso
    rcases hle with rfl | hle
    ·simp [qAg] at h3
    ·obtain ⟨v0, r, hfe2⟩ := qGs hok (e := e) (List.mem_append_right _ List.mem_cons_self); have h1 := hf; rw [hfl] at h1; obtain ⟨_, _, hab⟩ := qCa.1 h1; have h4 : kl key e.key = true := hab _ h3 (e.key, v0) (List.mem_append_left _ (by rw [hfe2]; exact List.mem_cons_self))
     rcases hle with hle | hle
     ·exact qVw h4 hle.symm
     ·exact qVw (qCz h4 hle) rfl
   ·exact h3
   ·exfalso
    obtain ⟨x, hx, hp⟩ := qRp h3; have h4 := jIc hok hf (e := x) (List.mem_append_right _ (List.mem_cons_of_mem _ hx)) hp; have h5 : kl key x.key = true := hgt x hx; rcases h4 with h4 | h4
    ·exact qVw h5 h4
    ·exact qVw (qCz h5 h4) rfl
end
end Go.Proofs.YtkinkgbmlhiakaaGreatDoor
