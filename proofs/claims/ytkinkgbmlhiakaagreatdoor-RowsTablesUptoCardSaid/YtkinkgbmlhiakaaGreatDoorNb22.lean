/- merged: TwE TwO TwH Td2 TrY Td3 TrW TailIn TwW -/
import Derived.Test.YtkinkgbmlhiakaaGreatDoorNb11
import Derived.Test.YtkinkgbmlhiakaaGreatDoorNb21
import Derived.Deep.DeepCutAuto
import Derived.Test.YtkinkgbmlhiakaaGreatDoorNb19
import Derived.Test.YtkinkgbmlhiakaaGreatDoorNb12
import Derived.Test.YtkinkgbmlhiakaaGreatDoorNb05
import Derived.Test.YtkinkgbmlhiakaaGreatDoorNb10
import Derived.Test.YtkinkgbmlhiakaaGreatDoorNb18
import Derived.Test.YtkinkgbmlhiakaaGreatDoorNb07
import Derived.RangeFuncNested
import Derived.RangeFuncBound
import Derived.RangeFuncCalls
import Derived.RangeFuncLeaves
import Derived.Shelf.Abstract
import Derived.Shelf.RegionOpen
import Derived.WalkKit
import Derived.OwnWalkIn
import Derived.TacticsInMore
import Derived.LoopNIn
import Derived.LoopIn
namespace Go.Proofs.YtkinkgbmlhiakaaGreatDoor
section
open Go Go.RowKit
theorem qIv (t : TypeId) (a b : ByteArray) : binOp .leq t (.string a) (.string b) = pure (.bool (Op.bytesLess a.toList b.toList || a.toList == b.toList)) := by simp [binOp, Op.stringOp]
attribute [local go_sem] qIv
theorem qVq (W : World) (b : Bool) (ka va ia : Option Addr) (kn kc vn vc jn jc : Nat) : (Instr.field 123 (.agg #[.bool b, .slice ka kn kc, .slice va vn vc, .slice ia jn jc]) 1).run Tryz.prog W = .ok (.slice ka kn kc) W := by kernel_rfl
theorem qVp (W : World) (b : Bool) (ka va ia : Option Addr) (kn kc vn vc jn jc : Nat) : (Instr.field 123 (.agg #[.bool b, .slice ka kn kc, .slice va vn vc, .slice ia jn jc]) 0).run Tryz.prog W = .ok (.bool b) W := by kernel_rfl
attribute [local go_sem] qVq qVp
end
section
open Go Go.RowKit
def newB (N j d : Nat) (sa : Option Addr) (room : Nat) : TB := ⟨N + 1 + 1, N, N + 1, j, d, sa, room⟩
theorem jCs {w : World} {d j room : Nat} {sa : Option Addr} {D : Dsk} (hD : qAr w d sa D) (hj : JAt w j d room) (hs : ¬ qBg d sa j) (hn : D.secs.length <= 16384) (hr : room <= 500) :
  qCa (TS (newB w.heap.size j d sa room)) (((w.alloc (.map #[] 0)).alloc (.map #[] 0)).alloc (.cells #[.int .i64 0, .int .i64 1, .int .i64 0, .int .i64 0, .pointer (some ⟨j, 0, none⟩), .int .i64 (room : Int), .map (some w.heap.size), .map (some (w.heap.size + 1)), .bool false] 84)) (newB w.heap.size j d sa room) newT D false ∧
  Mod (fun _ => False) w (((w.alloc (.map #[] 0)).alloc (.map #[] 0)).alloc (.cells #[.int .i64 0, .int .i64 1, .int .i64 0, .int .i64 0, .pointer (some ⟨j, 0, none⟩), .int .i64 (room : Int), .map (some w.heap.size), .map (some (w.heap.size + 1)), .bool false] 84)) := by
 have s1 : (w.alloc (.map #[] 0)).heap.size = w.heap.size + 1 := by simp
 have s2 : ((w.alloc (.map #[] 0)).alloc (.map #[] 0)).heap.size = w.heap.size + 1 + 1 := by simp
 have m1 : qAy KI.kv (w.alloc (.map #[] 0)) w.heap.size [] := qAy.made KI.kv w; have m2 : qAy KI.kv ((w.alloc (.map #[] 0)).alloc (.map #[] 0)) (w.heap.size + 1) [] := by have := qAy.made KI.kv (w.alloc (.map #[] 0)); rw [s1] at this; exact this
 have hb := heap_alloc_new ((w.alloc (.map #[] 0)).alloc (.map #[] 0)) (.cells #[.int .i64 0, .int .i64 1, .int .i64 0, .int .i64 0, .pointer (some ⟨j, 0, none⟩), .int .i64 (room : Int), .map (some w.heap.size), .map (some (w.heap.size + 1)), .bool false] 84); rw [s2] at hb; have e2 : Mod (fun _ => False) ((w.alloc (.map #[] 0)).alloc (.map #[] 0)) (((w.alloc (.map #[] 0)).alloc (.map #[] 0)).alloc (.cells #[.int .i64 0, .int .i64 1, .int .i64 0, .int .i64 0, .pointer (some ⟨j, 0, none⟩), .int .i64 (room : Int), .map (some w.heap.size), .map (some (w.heap.size + 1)), .bool false] 84)) := (Mod.refl _ _).alloc _
 have e1 : Mod (fun _ => False) (w.alloc (.map #[] 0)) _ := ((Mod.refl (fun _ => False) (w.alloc (.map #[] 0))).alloc (.map #[] 0)).trans e2
 have e0 : Mod (fun _ => False) w _ := ((Mod.refl (fun _ => False) w).alloc (.map #[] 0)).trans e1
 exact ⟨⟨hb, ⟨[], m1.mod e1 (fun e => e), (fun _ _ => rfl), (fun s n hn => by cases hn)⟩, ⟨[], m2.mod e2 (fun e => e), (fun s => rfl)⟩, hD.mod e0 (fun _ _ e => e), hj.mod e0 (fun e => e), hs, hn, hr⟩, e0⟩
set_option maxRecDepth 100000
set_option maxHeartbeats 1000000 in
theorem qWz {w : World} {d k0 room : Nat} {sa : Option Addr} {D : Dsk} (hD : qAr w d sa D) (hb : Bud D k0) (hk0 : k0 <= 2305843009213693952) (h1 : 1 <= room) (hr : room <= 500) (hn : (qIk room D).2.secs.length <= 16384) (ho : (qIk room D).1 = 0)
  (hrd : (qEb room (qIk room D).2 0).2 = 0) (hsz : (qEb room (qIk room D).2 0).1.size <= maxLen) (hz : AllZ (qEb room (qIk room D).2 0).1.data.toList) :
  Calls Tryz.prog 7 #[.pointer (some ⟨d, 0, none⟩), .int .i64 (room : Int)] w fun e w' => ∃ N j : Nat, e = .returned (.tuple #[.pointer (some ⟨(newB N j d sa room).tb, 0, none⟩), .int .i64 0]) /\ qCa (TS (newB N j d sa room)) w' (newB N j d sa room) newT (qIk room D).2 false /\ w.heap.size <= N /\ w.heap.size <= j /\ Mod (qBg d sa) w w' := by
 have HO := hid (jCn hD hb hk0 h1 hr); have HLt := hid hD.lt; obtain ⟨⟨E, D1⟩, hE⟩ : ∃ R, qIk room D = R := ⟨_, rfl⟩; rw [hE] at HO hn ho hrd hsz hz ⊢; simp only at ho hn hrd hsz hz HO ⊢; subst ho; have HJr := hid (fun (w1 : World) (j : Nat) (hd : qAr w1 d sa D1) (hj : JAt w1 j d room) (hs : ¬ qBg d sa j) => qYz hd hj hs hn hr 0)
 have HTr := hid (fun v => qSl (qEb room D1 0).1 v hsz)
 have HNil := hid (qOz (qEb room D1 0).1); have HZ := hid hz; rw [hrd] at HJr; obtain ⟨s, hs⟩ : ∃ s, (qEb room D1 0).1 = s := ⟨_, rfl⟩; rw [hs] at HJr HTr HNil HZ; have ez : (qLk s).toList.isEmpty = true := by rw [ByteArray.toList_eq, HNil.out.2 HZ.out]; rfl
 have HNl := hid hn; have hmm := @run_makeMap Tryz.prog; generalize qLk s = tb at *; clear hD hb hE hn hrd hsz hz hs HNil; go_enter Tryz.func7, Tryz.ntmps7
 go_wp2_with (first
  | (go_at_call 23; refine HO.out.mono ?_; rintro e w1 ⟨hd1, hm1, hc⟩; obtain ⟨j, rfl, hj, hjn⟩ := (hc.resolve_right (fun h => h.1 rfl)).2; have HD1 := hid hd1; have HM1 := hid hm1; have HJ1 := hid hj; have HJn := hid hjn; have HSep : Hid (¬ qBg d sa j) := hid (fun e => by have h2 := HLt.out j e; have h3 := HJn.out; omega); clear hd1 hm1 hc hj hjn)
  | (go_at_call 24; refine (HJr.out _ _ HD1.out HJ1.out HSep.out).mono ?_; rintro e w2 ⟨rfl, hd2, hm2⟩; have HNt := hid (jCs hd2 (HJ1.out.mod hm2 HSep.out) HSep.out HNl.out hr); have HM2 := hid (HM1.out.trans hm2); clear hd2 hm2)
  | (go_at_call 25; refine (HTr.out _).mono ?_; rintro e wt ⟨rfl, nq, rfl⟩))
 go_ret2; refine ⟨w2.heap.size, _, rfl, HNt.out.1.mod (S' := fun _ => False) ((Mod.refl _ _).drewN nq) (fun _ e => e.elim) (fun _ e => e.elim), ?_, HJn.out, ?_⟩
 ·have h2 := HM2.out.size; omega
 ·exact (HM2.out.trans (HNt.out.2.mono (fun _ _ e => e.elim))).trans (((Mod.refl (fun _ => False) _).drewN nq).mono (fun _ _ e => e.elim))
end
section
open Go Go.RowKit
noncomputable def qLw (room : Nat) (D : Dsk) (q : Nat) : ByteArray := (qEb room D (q : Int)).1
theorem jBx {room : Nat} {D : Dsk} (h : D.off = false) {i : Int} (h1 : 0 <= i) (h2 : i < jlen room D) : (qEb room D i).2 = 0 := by
 unfold qEb; rw [if_neg (by omega), qSu]
 have h3 : qBc D ((room : Int) + 1 + i) = 0 := by
  unfold qBc; rw [h]; unfold jlen at h2; simp only [Bool.false_eq_true, if_false]; rw [if_neg (by omega)]
 rw [if_neg (by rw [h3]; simp)]
theorem qLy {D : Dsk} {k room : Nat} (h : Bud D k) (i : Int) : (qEb room D i).1.size <= 1024 := by
 unfold qEb; split
 ·exact Nat.zero_le _
 ·exact h.read _
end
section
open Go Go.RowKit
def qXy (l : List KV) : Nat := (l.map (fun p => p.1.size + p.2.size + 4)).sum
theorem qPg : ∀ (l : List KV), (∀ p ∈ l, p.1.size <= 48 /\ p.2.size <= 200) -> qXy l <= 252 * l.length
 | [], _ => by simp [qXy]
 | p :: l, h => by
  have h1 := h p List.mem_cons_self; have h2 := qPg l (fun q hq => h q (List.mem_cons_of_mem _ hq))
  unfold qXy at h2 ⊢; rw [List.map_cons, List.sum_cons, List.length_cons]; omega
end
section
open Go Go.RowKit
structure Std (room : Nat) (D : Dsk) (T : TM) (l : List KV) (N : Nat) : Prop where
 clear : jHf D
 dt : DT (jlen room D) (qLw room D) T
 ti : TI T 250 l 26 N
 next : T.next <= (jlen room D : Int)
 r1 : 1 <= room
 r2 : room <= 500
theorem qHj {room : Nat} {D : Dsk} (h : D.off = false) (q : Nat) : qLw room D q = if q < jlen room D then sec D (room + 1 + q) else ⟨#[]⟩ := by
 unfold qLw qEb; by_cases hq : q < jlen room D
 ·rw [if_pos hq, if_neg (by omega)]
  have hd : room + 1 + q < D.secs.length := by unfold jlen at hq; omega
  have := jFj h (room + 1 + q) hd; rw [show ((room : Int) + 1 + (q : Int)) = ((room + 1 + q : Nat) : Int) by omega, this]
 ·rw [if_neg hq, if_pos (by omega)]
theorem qLv {D : Dsk} {k room : Nat} {T : TM} {l l' : List KV} {N N' : Nat} {W' : WM} {ls : List Chg} {ln : List (Int × NP)} {la : List (Int × Int)} (hL : Lit D k) (hs : Std room D T l N) (hW : WI T 250 W' l' 26 N') (hn : W'.next <= (jlen room D : Int)) (hlaid : Laid W' ls ln la) (hroom : ls.length <= room) :
  (qAh room ls D).1 = 0 /\ Lit (qAh room ls D).2 (k + 2 * ls.length + 2) /\ Std room (qAh room ls D).2 (W'.done T) l' N' := by
 have hj : jlen room D <= 16384 := by have := hL.b.n; unfold jlen; omega
 obtain ⟨r1, r2, r3, r4, r5, r6, r7⟩ := hW.rng; have hf := hW.fits hn hj r7; have hlo : qJi W' ls := by
  obtain ⟨_, _, h3⟩ := hW; rcases h3 with ⟨_, _, _, F, hA⟩ | ⟨ht, t, F, hR, _⟩
  ·exact qHs hA hlaid
  ·exact qHs hR.acc hlaid
 have hck := qVh hf hlo; have hne : ls ≠ [] := fun e => by
  have h1 := jCx hlaid; rw [e] at h1; simp at h1
 obtain ⟨c1, c2⟩ := jAb hL hs.r2 ls hroom hne hck; have hjl : jlen room (qAh room ls D).2 = jlen room D := by unfold jlen; rw [c2.len]
 have hnd := qFs hf hlo; have hin : ∀ c ∈ ls, c.pos.toNat < jlen room D := fun c hc => (qGk ls [] hck).1 c hc |>.2.1
 have hsec : qLw room (qAh room ls D).2 = upc (qLw room D) ls := funext fun q => by
  rw [qHj c2.lit.off, hjl]; by_cases hq : q ∈ places ls
  ·obtain ⟨c, hc, rfl⟩ := List.mem_map.1 hq; rw [if_pos (hin c hc), c2.new c hc]; obtain ⟨m, hm⟩ := List.mem_iff_getElem?.1 hc; exact (qMz hnd hm).symm
  ·rw [qSi hq, qHj hL.off]; by_cases hql : q < jlen room D
   ·rw [if_pos hql, if_pos hql, c2.old q hq]
   ·rw [if_neg hql, if_neg hql]
 refine ⟨c1, c2.lit, .inr c2.head, ?_, jDx hW, by rw [hjl]; exact hn, hs.r1, hs.r2⟩
 rw [hjl, hsec]; refine jGk hs.dt hf hlo (fun x hx => ?_)
 obtain ⟨_, _, h3⟩ := hs.ti; rcases h3 with ⟨_, _, _, F, hA⟩ | ⟨ht, t, F, hR, _⟩
 ·have := hA.out x (fun h => hx h.1)
  exact ⟨this.2.2.2.1, this.2.2.2.2⟩
 ·have := hR.acc.out x (fun h => hx h.1)
  exact ⟨this.2.2.2.1, this.2.2.2.2⟩
theorem qQr {room : Nat} {D : Dsk} {k : Nat} (h : Bud D k) (q : Nat) : (qLw room D q).size <= 1024 := qLy h _
theorem jFe {n : Int} {room : Nat} (h1 : 1 <= room) (h2 : room <= 500) (hn : 1 <= jlen room (newD n)) : Std room (newD n) newT [] 0 := by
 refine ⟨jAc n, ⟨fun q _ => qQr (jAk n) q, (fun x n h => by cases h), (fun x y h => by cases h), .inl ⟨rfl, ?_⟩⟩, jFs 250 26, by show (1 : Int) <= _; omega, h1, h2⟩
 rw [qHj (qYp n).off, if_pos (by omega), qQs, qGm]
 exact qId _
theorem qXe {D : Dsk} {k room : Nat} {T : TM} {l : List KV} {N : Nat} (hL : Lit D k) (hs : Std room D T l N) (cs : List Cg) (hc : ∀ c ∈ cs, CgOk c) (hn : cs.length <= 1048576) :
  ∃ (W' : WM) (N' : Nat), allM T (jlen room D : Int) 70 cs T.begin = some W' /\ WI T 250 W' (chgs cs l) 26 N' /\ (W'.full = true -> (jlen room D : Int) <= (N : Int) + 8 * cs.length) /\ (W'.full = false -> W'.next <= (jlen room D : Int)) /\ W'.next <= 16384 + 32 * cs.length ∧
   ∀ (ls : List Chg) (ln : List (Int × NP)) (la : List (Int × Int)), Laid W' ls ln la -> W'.full = false -> ls.length <= 21 * cs.length + 1 := by
 have hj : jlen room D <= 16384 := by have := hL.b.n; unfold jlen; omega
 have hnx := hs.next; obtain ⟨W', N', h1, h2, h3⟩ := jAq (L := (jlen room D : Int)) cs hc hs.ti (by omega)
 have hb : T.begin.next = T.next := rfl; obtain ⟨q1, q2⟩ := h3.sharp rfl (by rw [hb]; exact hnx) (by omega)
 refine ⟨W', N', h1, h2, q1, fun hf => (q2 hf).1, by have := h3.hi; rw [hb] at this; omega, fun ls ln la hlaid hf => ?_⟩
 obtain ⟨_, _, X, x1, x2⟩ := q2 hf; have hlo : qJi W' ls := by
  obtain ⟨_, _, h3⟩ := h2; rcases h3 with ⟨_, _, _, F, hA⟩ | ⟨ht, t, F, hR, _⟩
  ·exact qHs hA hlaid
  ·exact qHs hR.acc hlaid
 have h4 := qVg hlo (X := X) (fun y hy => (x2 y hy).resolve_right (fun h => h.elim (fun h => h rfl) (fun h => h rfl)))
 omega
end
section
open Go Go.RowKit
attribute [local go_sem] qFd
def geK (key : ByteArray) (p : KV) : Bool := !kl p.1 key
def qQt (l : List KV) (key : ByteArray) (most : Int) : List KV := (l.filter (geK key)).take most.toNat
end
section
open Go Go.RowKit
def pvE (x : Ent) : KV := (x.key, x.value)
def qVj (g : Int -> Option (List KV)) : List Ent -> Option (List KV)
 | [] => some []
 | x :: r => (g x.kid).bind fun a => (qVj g r).map (a ++ ·)
def qIg (look : Int -> Option NP) : Nat -> Int -> ByteArray -> Option (List KV)
 | 0, _, _ => none
 | f + 1, s, key => (look s).bind fun n => if n.1 then some (((n.2.drop (qCl key n.2)).map pvE).filter (geK key)) else qVj (fun s => qIg look f s key) (n.2.drop (qCl key n.2))
theorem qMg {look : Int -> Option NP} {f h : Nat} {key : ByteArray} : ∀ (b : List (TE (Tr h))), (∀ e ∈ b, qIg look f e.spot key = some ((flat h e.sub).filter (geK key))) -> qVj (fun s => qIg look f s key) (b.map eE) = some ((qAj b).filter (geK key))
 | [], _ => rfl
 | e :: b, k => by
  have h1 := k e List.mem_cons_self; have h2 := qMg b (fun x hx => k x (List.mem_cons_of_mem _ hx))
  show (qIg look f e.spot key).bind (fun a => (qVj (fun s => qIg look f s key) (b.map eE)).map (a ++ ·)) = _
  rw [h1, h2]; have e1 : qAj (e :: b) = flat h e.sub ++ qAj b := by unfold qAj; rw [List.flatMap_cons]
  rw [e1, List.filter_append]; rfl
theorem qZi {key : ByteArray} {p : KV} (h : kl p.1 key = true) : geK key p = false := by unfold geK; rw [h]; rfl
theorem qSg {look : Int -> Option NP} {m : Nat} (key : ByteArray) : ∀ (h : Nat) (s : Int) (t : Tr h), Sd look m h s t -> Asc (flat h t) -> qIg look (h + 1) s key = some ((flat h t).filter (geK key))
 | 0, s, l, hS, hf => by
  have hlk : look s = some (true, eOf 0 l) := (qJb.1 hS).1.1; have hg : qBx true (eOf 0 l) := (qJb.1 hS).1.2; have hne : l ≠ ([] : List KV) := fun e => hg.ne (by rw [e]; rfl)
  have hf : Asc l := hf; obtain ⟨a, e, b, rfl, hpl, hle, hgt⟩ := qFj (fun p : KV => p.1) key l hne hf
  have hi : qCl key (eOf 0 (a ++ e :: b)) = a.length := by
   refine Eq.trans ?_ hpl; unfold qCl; show (List.filter _ (List.map _ (a ++ e :: b))).length - 1 = _; rw [List.filter_map, List.length_map]; rfl
  have hdr : ((eOf 0 (a ++ e :: b)).drop a.length).map pvE = e :: b := by
   show ((List.map _ (a ++ e :: b)).drop a.length).map pvE = _; rw [<- List.map_drop, List.drop_left, List.map_map]; exact List.map_id _
  show (look s).bind _ = _; rw [hlk]; show some _ = _; rw [hi, hdr]; show some ((e :: b).filter (geK key)) = some ((a ++ e :: b).filter (geK key)); rw [List.filter_append, qAx (p := geK key) (l := a) (fun x hx => ?_), List.nil_append]
  have h1 : kl x.1 e.1 = true := (qDy.1 hf).2.2 x hx e List.mem_cons_self; refine qZi ?_; rcases hle with rfl | hle
  ·cases hx
  ·rcases hle with hle | hle
   ·rw [<- hle]; exact h1
   ·exact qDl h1 hle
 | h + 1, s, l, hS, hf => by
  obtain ⟨⟨hlk, hg⟩, hB⟩ := hS; have hB : Lowr look m (h + 1) l := hB; have hok : Ok l := qNp hB; have hf : Asc (qAj l) := hf; have hne : l ≠ [] := fun e => hg.ne (by rw [e]; rfl)
  obtain ⟨a, e, b, rfl, hpl, hle, hgt⟩ := qFj (fun e : TE (Tr h) => e.key) key l hne (qJp hok hf)
  have hi : qCl key (eOf (h + 1) (a ++ e :: b)) = a.length := (qMa key _).trans hpl; have hfl : qAj (a ++ e :: b) = qAj a ++ qAj (e :: b) := qAg _ _; have hdr : (eOf (h + 1) (a ++ e :: b)).drop a.length = (e :: b).map eE := by
   rw [qBh, <- List.map_drop, List.drop_left]
  have hlo : (qAj a).filter (geK key) = [] := qAx (fun p hp => by
   refine qZi ?_; rcases hle with rfl | hle
   ·simp [qAj] at hp
   ·obtain ⟨v0, r, hfe2⟩ := qGu hok (e := e) (List.mem_append_right _ List.mem_cons_self); have h1 := hf; rw [hfl] at h1; obtain ⟨_, _, hab⟩ := qDy.1 h1; have h4 : kl p.1 e.key = true := hab p hp (e.key, v0) (by
     have e1 : qAj (e :: b) = flat h e.sub ++ qAj b := by unfold qAj; rw [List.flatMap_cons]
     rw [e1, hfe2]; exact List.mem_append_left _ List.mem_cons_self)
    rcases hle with hle | hle
    ·rw [<- hle]; exact h4
    ·exact qDl h4 hle)
  have hsub : ∀ x ∈ e :: b, Asc (flat h x.sub) := fun x hx => by
   have hmem : x ∈ a ++ e :: b := List.mem_append_right _ hx; refine List.Pairwise.sublist ?_ hf; obtain ⟨p, q, hpq⟩ := List.append_of_mem hmem; rw [hpq, show p ++ x :: q = p ++ ([x] ++ q) from rfl, qAg, qAg]
   refine List.Sublist.trans ?_ (List.sublist_append_right _ _); have e1 : qAj [x] = flat h x.sub := by unfold qAj; simp
   rw [e1]; exact List.sublist_append_left _ _
  have hkids := qMg (look := look) (f := h + 1) (key := key) (e :: b) (fun x hx => qSg key h x.spot x.sub (hB x (List.mem_append_right _ hx)).1 (hsub x hx))
  show (look s).bind _ = _; rw [hlk]; show qVj (fun s => qIg look (h + 1) s key) ((eOf (h + 1) (a ++ e :: b)).drop (qCl key (eOf (h + 1) (a ++ e :: b)))) = some ((qAj (a ++ e :: b)).filter (geK key))
  rw [hi, hdr, hkids, hfl, List.filter_append, hlo, List.nil_append]
end
section
open Go Go.RowKit
section
variable {P : Program} {ops : Array Oper} {md : Region.Mode} {C : World -> Prop} {m : Nat}
theorem qUk {p : Prop} : Fence.wide.depth.isSome = true -> p := fun h => by cases h
theorem qHh {o : Oper} {a : Act} {K : Act -> Prop} {K' : Act -> World -> Prop} {Q' : Exit -> Act -> World -> Prop} {w : World} (hw : C w) (h : ∀ a w', C w' -> K a -> K' a w') (hh : o.quiet P a C K) : o.wpIn Fence.wide m P a w K' Q' := by
 obtain ⟨v, h1, h2⟩ := hh; have h3 := h1 w hw; unfold Oper.quietAt at h3; unfold Oper.wpIn; refine ⟨fun _ _ => trivial, ?_⟩
 rw [show Fence.wide.round = none from rfl, Oper.semAt_none]
 generalize (execOp a.eval o).run P w = r at *; cases r with
 | ok x w' =>
  cases x <;> simp only [Oper.quietUpon] at h3 <;> simp only [Oper.uponIn]
  case value u =>
   obtain ⟨e1, e2⟩ := h3; rw [e1, e2]; exact h _ _ hw h2
  case skip =>
   obtain ⟨e1, e2⟩ := h3; rw [e1, <- e2]; exact h _ _ hw h2
  case enter f args =>
   obtain ⟨e1, hc⟩ := h3; rw [e1]; exact ⟨qUk, callsIn_wide.2 (hc.mono fun e w'' ⟨he, hw''⟩ => by subst he; exact h _ _ hw'' h2)⟩
 | halt x w' => simp only [Oper.quietUpon] at h3
theorem qQm {i : Nat} {a : Act} {K : Act -> Prop} {K' : Act -> World -> Prop} {Q' : Exit -> Act -> World -> Prop} {w : World} (hC : C w) (h : ∀ a w', C w' -> K a -> K' a w') (hh : qOp P ops C i K a) : wpOpIn Fence.wide m P ops Q' i K' a w := by
 unfold qOp at hh; unfold wpOpIn; split
 ·rename_i ho; simp only [ho] at hh; exact h _ _ hC hh
 ·rename_i o ho
  simp only [ho] at hh; split
  ·rename_i hw; simp only [hw, if_true] at hh; exact qHh hC h hh
  ·rename_i hw; simp only [hw] at hh; exact ⟨fun _ _ => trivial, h _ _ hC hh⟩
theorem qIc {n g : Nat} {L : Array Bool -> Act -> Prop} {Q : Exit -> Act -> World -> Prop} (hL : ∀ listed a w, C w -> L listed a -> wpAnyIn Fence.wide m P md ops Q g listed a w) :
  ∀ (f : Nat) (listed : Array Bool) (a : Act) (w : World), C w -> qIy P md ops C n L f listed a -> wpAnyIn Fence.wide m P md ops Q (f + g) listed a w
 | 0, listed, a, w, hw, h => by rw [Nat.zero_add]; exact hL _ _ _ hw h
 | f + 1, listed, a, w, hw, h => by
  rw [show f + 1 + g = (f + g) + 1 by omega]
  exact ⟨fun h0 => absurd h0 h.1, fun i hi => qQm hw (fun a' w' hw' h' => qIc hL f _ a' w' hw' h') (h.2 i hi).2⟩
theorem qGr {F : Fence} {Q' : Exit -> Act -> World -> Prop} : ∀ (l : List Oper) (k : Nat) (listed : Array Bool) (a : Act) (w : World), (∀ j, l[j]? = ops[k + j]?) →
  Region.seqB md ops l.length k listed = true -> wpListIn F m P ops Q' l a w -> wpAnyIn F m P md ops Q' l.length listed a w
 | [], _, _, _, _, _, hB, h => ⟨by simpa [Region.seqB] using hB, h⟩
 | o :: l, k, listed, a, w, hl, hB, h => by
  have h0 : ops[k]? = some o := by simpa using (hl 0).symm
  simp only [List.length_cons, Region.seqB, Bool.and_eq_true, decide_eq_true_eq] at hB; refine ⟨fun h1 => (by rw [hB.1] at h1; cases h1), fun i hi => ?_⟩
  rw [hB.1] at hi; have hik : i = k := by simpa using hi
  subst hik; have hw : wpOpIn F m P ops Q' i (wpListIn F m P ops Q' l) a w := by unfold wpOpIn; simp only [h0]; exact h
  exact wpOpIn_mono (fun a' w' h' => qGr l (i + 1) _ a' w' (fun j => by have := hl (j + 1); simpa [Nat.add_assoc, Nat.add_comm 1 j] using this) hB.2 h') hw
end
theorem qGn {P : Program} {id m : Nat} {Q : Exit -> Act -> World -> Prop} {a : Act} {w : World} {l : List Oper} (n : Nat) (hm : P.follows .mixedOrders = true) (hB : Region.lexTailB .any l.toArray n = true)
  (h : wpQuiet P l.toArray (fun w' => ∃ x : Ext w, w' = x.val) (fun a' => ∀ w', (∃ x : Ext w, w' = x.val) -> wpListIn Fence.wide m P l.toArray Q (l.drop n) a' w') (l.take n) a) : (Code.region id l.toArray true).wpIn Fence.wide m P Q a w := by
 simp only [Region.lexTailB, Bool.and_eq_true, decide_eq_true_eq] at hB; obtain ⟨⟨⟨⟨hsel, hn⟩, hs⟩, hc⟩, hlex⟩ := hB; have htl : (l.take n).length = n := by simp at hn ⊢; omega
 have hdl : (l.drop n).length = l.toArray.size - n := by simp
 have inv0 : HeadInv .any l.toArray n (Array.replicate l.toArray.size false) :=
  ⟨by simp, fun j oj _ hl => (by rw [getD_replicate_false] at hl; cases hl), fun t _ ht => getD_in (by simpa using ht) (getD_replicate_false _ _)⟩
 have H := qNx (md := .any) (g := l.toArray.size - n) hsel hs hc hn (l.take n) 0 _ a (fun j hj => by
  have hj' : j < n := by rw [htl] at hj; exact hj
  simp [hj']) (by simpa using htl) inv0 (by rw [htl]; exact hlex) h
 refine wpIn_region_any hm ?_; have := qIc (m := m) (Q := Q) (g := l.toArray.size - n) (fun listed a' w' hC hL => by
  have := qGr (F := Fence.wide) (m := m) (md := .any) (Q' := Q) (l.drop n) n listed a' w' (fun j => by simp [List.getElem?_drop]) (by rw [hdl]; exact hL.1) (hL.2 w' hC)
  rwa [hdl] at this) _ _ _ { w with drawn := w.drawn + 1 } ⟨⟨_, (Mod.refl _ w).drew⟩, rfl⟩ H
 rw [htl, show n + (l.toArray.size - n) = l.toArray.size by omega] at this
 exact this
theorem qDz {F : Fence} {r : Nat} {P : Program} {ops : Array Oper} {rest : List Oper} {o : Oper} {a : Act} {w : World} {Q : Exit -> Act -> World -> Prop}
  (hg : o.guard = none) (s x : Operand) (t : TypeId) (hop : o.op = Op.call { callee := Callee.builtin Builtin.append, args := #[s, x], argTypes := #[t, t] })
  (e : TypeId) (i : TypeInfo) (z : Value) (size bytes : Nat) (h1 : P.underlying t = some (.slice e)) (h2 : P.info? e = some i) (hz : i.zero = some z) (h4 : i.size = size) (hby : i.bytes = bytes) (hzs : z.cells.size = size)
  (sa : Option Addr) (n cap : Nat) (xs : List Value) (hs : a.eval s = .slice sa n cap) (hown : Own w e size sa n cap xs)
  (xa : Option Addr) (m c : Nat) (news : List Value) (hx : a.eval x = .slice xa m c) (hsrc : Src w size xa m news) (h1c : ∀ u ∈ news, u.oneCell' = true)
  (h63 : n + m <= maxLen) (hbytes : (n + m) * bytes <= 140737488355328)
  (hK : ∀ sa' cap' w', Own w' e size sa' (n + m) cap' (xs ++ news) -> Mod (blk sa) w w' -> (∀ k, blk sa' k -> blk sa k \/ w.heap.size <= k) -> (sa' = none -> sa = none /\ m = 0) -> (n + m <= cap -> sa' = sa /\ cap' = cap) -> wpListIn F r P ops Q rest (a.put o.dst (.slice sa' (n + m) cap')) w') :
  wpListIn F r P ops Q (o :: rest) a w := by
 refine wpListIn_plain hg fun K hK' => ?_
 obtain ⟨sa', cap', w', hrun, r1, r2, r3, r4, r5⟩ := qGt (P := P) w t o.type e i z size bytes h1 h2 hz h4 hby hzs sa n cap xs hown xa m c news hsrc h1c h63 hbytes; unfold Oper.wpIn; refine ⟨?_, ?_⟩
 ·simp [Oper.about, hop, resolve, Target.leads, Sem.run_pure]
 ·rw [Oper.semAt_plain F _ _ (by rw [hop]; intro c hc'; cases hc')]
  simp [execOp, hop, resolve, invoke, builtin, hs, hx, hrun, Result.andThen]
  exact hK' _ _ (hK sa' cap' w' r1 r2 r3 r4 r5)
theorem qNt {T : Nat -> Prop} {W W' : World} (B : Nat) (h : Mod T W W') (ht : ∀ k o, T k -> W.heap[k]? = some o -> o.isCells = true) : KeepsFrom B W W' :=
 ⟨h.size, fun k o _ hk ho => (h.block k (lth hk) (fun e => by rw [ht k o e hk] at ho; cases ho)).trans hk⟩
end
section
open Go Go.RowKit
def Kp (n₀ : Nat) (W W' : World) : Prop := RowKit.Below n₀ W W' /\ ∀ (k : Nat) vs, W.heap[k]? = some (.cells vs 123 (0, 0)) -> W'.heap[k]? = some (.cells vs 123 (0, 0))
theorem Kp.of_mod {n₀ : Nat} {A B : World} (h : Mod (fun _ => False) A B) (hn : n₀ <= A.heap.size) : Kp n₀ A B := ⟨h.below hn (fun _ e => e.elim), fun k _ hk => (h.block k (lth hk) (fun e => e)).trans hk⟩
def TW (n₀ : Nat) (B : TB) (T : TM) (D : Dsk) (off : Bool) (W : World) : Prop := qCa (fun k => TS B k \/ n₀ <= k) W B T D off /\ (∀ k, TS B k -> k < n₀) /\ n₀ <= W.heap.size
theorem TW.start {w : World} {B : TB} {T : TM} {D : Dsk} {off : Bool} (h : qCa (TS B) w B T D off) : TW w.heap.size B T D off w :=
 ⟨h.narrow (fun k hk e => e.elim id (fun e => by omega)), fun _ hk => h.lt hk, Nat.le_refl _⟩
def qXp (look : Int -> Option NP) (f : Nat) (key : ByteArray) (leaf : Bool) (l : List Ent) : Option (List KV) := if leaf then some ((l.map pvE).filter (geK key)) else qVj (fun s => qIg look f s key) l
def jGz (n₀ : Nat) (J Jx : List KV -> World -> Prop) (pre L : List KV) (W : World) (e : Ending) (W' : World) : Prop :=
 (e = .returned (.bool true) /\ J (pre ++ L) W' /\ Kp n₀ W W') \/ (e = .returned (.bool false) /\ ∃ q, q <+: L /\ Jx (pre ++ q) W')
structure WRel (n₀ : Nat) (J : List KV -> World -> Prop) (B : TB) (T : TM) (D : Dsk) (off : Bool) (W wr : World) (q : Nat) (m : Nd) (leaf : Bool) (es : List Ent) (key : ByteArray) (f : Nat) (pre L : List KV) (i : Nat) (dn : List KV) : Prop where
 j : J (pre ++ dn) wr
 kp : Kp n₀ W wr
 tw : TW n₀ B T D off wr
 box : wr.heap[q]? = some (.cells #[.bool m.leaf, .slice m.ka m.keys.length m.kc, .slice m.va m.values.length m.vc, .slice m.ia m.kids.length m.ic] 123 (0, 0))
 rest : ∃ R, qXp T.nodes f key leaf (es.drop i) = some R /\ L = dn ++ R
 le : i <= es.length
theorem jGj {α : Type} {l : List α} {i : Nat} {x : α} (h : l[i]? = some x) : l.drop i = x :: l.drop (i + 1) := by
 obtain ⟨hlt, rfl⟩ := List.getElem?_eq_some_iff.1 h; exact List.drop_eq_getElem_cons hlt
set_option maxRecDepth 100000
set_option maxHeartbeats 4000000 in
theorem jBa {n₀ N l : Nat} {B : TB} {T : TM} {D : Dsk} {off : Bool} {J Jx : List KV -> World -> Prop} (hJ : ∀ pre W W', J pre W -> Mod (fun _ => False) W W' -> J pre W') (key : ByteArray)
  (hY : ∀ m pre x W, J pre W -> pre.length < N -> YieldAt Fence.wide m Tryz.prog l #[.agg #[.string x.1, .string x.2]] W fun e W' => (e = .returned (.bool true) /\ J (pre ++ [x]) W' /\ Kp n₀ W W') \/ (e = .returned (.bool false) /\ Jx (pre ++ [x]) W')) :
  ∀ (f : Nat) (s : Int) (L pre : List KV) (W : World), qIg T.nodes f s key = some L -> TW n₀ B T D off W -> J pre W -> pre.length + L.length <= N →
   Calls Tryz.prog 74 #[.pointer (some ⟨B.tb, 0, none⟩), .int .i64 s, .string key, .func (.yield l) #[] #[]] W (jGz n₀ J Jx pre L W) := by
 intro f; induction f with
 | zero => intro s L pre W h; cases h
 | succ f ih =>
  intro s L pre W hw ht hj hN; obtain ⟨⟨leaf, es⟩, hn, hw2⟩ := Option.bind_eq_some_iff.1 (show (T.nodes s).bind _ = some L from hw)
  have HR0 : Hid (qXp T.nodes f key leaf (es.drop (qCl key es)) = some L) := hid hw2; obtain ⟨m, hlk, hh, hat, hbs⟩ := ht.1.nodes.get hn; have HG : Hid (qBx leaf es) := hid (by obtain ⟨l, _, _, h3⟩ := ht.1.nodes; exact (h3 _ _ hn).1)
  have HT := hid ht; have HJ := hid hj; have HH := hid hh; have HN := hid hat; have HB := hid hbs; have HIh := hid ih; have HNl := hid hN; have HJa := hid hJ; have HYa := hid hY; have HRi : Hid (qOm m.keys) := hid (by rw [HH.out.k]; exact qIq HG.out)
  obtain ⟨_, _, _, _, _, _, c6, _, _⟩ := ht.1.cells; have hl0 := hlk W (Mod.refl _ _) false; clear hw hw2 ht hj hN hn hlk hh hat hbs ih hJ hY; simp only [Nd.val, Bool.false_eq_true, if_false] at hl0; go_enter Tryz.func74, Tryz.ntmps74
  go_upto_region 2 with fail
  have HBx : Hid ((W.alloc (.cells #[.bool m.leaf, .slice m.ka m.keys.length m.kc, .slice m.va m.values.length m.vc, .slice m.ia m.kids.length m.ic] 123)).heap[W.heap.size]? = some (.cells #[.bool m.leaf, .slice m.ka m.keys.length m.kc, .slice m.va m.values.length m.vc, .slice m.ia m.kids.length m.ic] 123 (0, 0))) := hid (heap_alloc_new _ _); have HM2 : Hid (Mod (fun _ => False) W (W.alloc (.cells #[.bool m.leaf, .slice m.ka m.keys.length m.kc, .slice m.va m.values.length m.vc, .slice m.ia m.kids.length m.ic] 123))) := hid ((Mod.refl _ _).alloc _)
  have HPl := hid (qKj key (HN.out.nd.ext HM2.out) HRi.out); generalize W.alloc (.cells #[.bool m.leaf, .slice m.ka m.keys.length m.kc, .slice m.va m.values.length m.vc, .slice m.ia m.kids.length m.ic] 123) = Z at *; obtain ⟨x0, x1, x2, x3⟩ := cl4 HBx.out; go_upto_region 3 with (go_at_call 42; refine HPl.out.mono ?_; rintro e w3 ⟨⟨i, ok, hat, hok, rfl⟩, hm3⟩; have HAt := hid hat; have HOk := hid hok; have HM3 := hid hm3; obtain ⟨ii, hii⟩ : ∃ z : Int, (if ok = true then (i : Int) else ((i - 1 : Nat) : Int)) = z := ⟨_, rfl⟩; rw [hii]; have HIi := hid hii; clear hat hok hm3 hii)
  have HCut := hid (qTz (c := ⟨key, emp, false⟩) (es := es) (i := i) (ok := ok) (by have h1 := HRi.out; rw [HH.out.k] at h1; exact h1) (by have h1 := HAt.out; rw [HH.out.k] at h1; exact h1) (by have h1 := HOk.out; rw [HH.out.k] at h1; exact h1))
  have hil0 : i <= es.length := by have h1 := HAt.out.le; rw [HH.out.k, List.length_map] at h1; exact h1
  have hpe := qTb HCut.out hil0; change qCl key es = _ at hpe; obtain ⟨j0, hj0⟩ : ∃ j, qCl key es = j := ⟨_, rfl⟩; rw [hj0] at HR0 hpe; have hij : ii = (j0 : Int) := by rw [<- HIi.out, hpe]; cases ok <;> rfl
  have HJl : Hid (j0 <= es.length) := hid (by rw [hpe]; cases ok <;> simp only [Bool.false_eq_true, if_false, if_true] <;> omega)
  subst hij; have HKs : Hid (m.keys.length = es.length) := hid (by rw [HH.out.k, List.length_map])
  have HMz := hid (HM2.out.trans HM3.out); have HW0 : Hid (WRel n₀ J B T D off W w3 W.heap.size m leaf es key f pre L j0 []) := hid ⟨by rw [List.append_nil]; exact HJa.out _ _ _ HJ.out HMz.out, Kp.of_mod HMz.out HT.out.2.2, HT.out.below (HMz.out.below HT.out.2.2 (fun _ e => e.elim)), qAt HM3.out HBx.out, ⟨L, HR0.out, rfl⟩, HJl.out⟩
  have HLn : Hid (es.length <= 511) := hid HG.out.len; generalize W.heap.size = q at *; clear x0 x1 x2 x3 hil0 hpe hj0 c6 hl0 HCut HIi HAt HOk HPl HBx HR0 HJl HMz; have hkl : m.keys.length = es.length := HKs.out; have hlL : es.length <= 511 := HLn.out; go_loopw [10] (fun si wr => ∃ (i : Nat) (dn : List KV), si = .int .i64 (i : Int) /\ WRel n₀ J B T D off W wr q m leaf es key f pre L i dn) (fun si _ => es.length - (intOf si).toNat)
  case atStart => exact ⟨j0, [], rfl, HW0.out⟩
  case round =>
   obtain ⟨i, dn, rfl, hrel⟩ := hrel; obtain ⟨R, hR, hL⟩ := hrel.rest; have HRel := hid hrel; have HL := hid hL; obtain ⟨y0, y1, y2, y3⟩ := cl4 hrel.box; have hile := hrel.le; clear hrel hL; by_cases hlt : i < es.length
   ·obtain ⟨x, hx⟩ : ∃ x, es[i]? = some x := ⟨_, List.getElem?_eq_getElem hlt⟩; have hdr := jGj hx; rw [hdr] at hR; have d0 : decide ((i : Int) < (m.keys.length : Int)) = true := by simp; omega
    have d1 : decide (i < m.keys.length) = true := by simp; omega
    have hgk : m.keys[i]? = some x.key := by rw [HH.out.k, List.getElem?_map, hx]; rfl
    have hdk : ¬ m.keys.length <= i := by omega
    have hnr : NdAt wr m := (qBn HN.out (fun k hk => (HB.out k hk).1) (Mod.of_below HRel.out.kp.1) (fun k e => .inr e)).nd
    cases leaf with
    | true =>
     have hlf : m.leaf = true := HH.out.l; rw [hlf] at y0; have hR1 : some (((x :: es.drop (i + 1)).map pvE).filter (geK key)) = some R := hR; cases hg : kl x.key key with
     | true =>
      have d2 : Op.bytesLess x.key.toList key.toList = true := hg; have hR3 : some (((es.drop (i + 1)).map pvE).filter (geK key)) = some R := by
       rw [<- hR1, List.map_cons, List.filter_cons_of_neg (by rw [qZi (p := pvE x) hg]; exact Bool.false_ne_true)]
      have HR4 : Hid (WRel n₀ J B T D off W wr q m true es key f pre L (i + 1) dn) := hid ⟨HRel.out.j, HRel.out.kp, HRel.out.tw, HRel.out.box, ⟨R, hR3, HL.out⟩, by omega⟩
      obtain ⟨gk, ok2, hka, hkc⟩ := hnr.k.one hgk; rw [hka] at y1; clear hlf hx hR hR1 hR3 hdr hgk hnr hka y2 y3 hkl hile hg; go_wp2_with fail
      go_roundw
      case rel => exact ⟨i + 1, dn, by go_num, HR4.out⟩
      case measure => simp [intOf]; omega
     | false =>
      have d2 : Op.bytesLess x.key.toList key.toList = false := hg; have hgx : geK key (pvE x) = true := by unfold geK pvE; rw [hg]; rfl
      obtain ⟨R', hR', hRe⟩ : ∃ R', some (((es.drop (i + 1)).map pvE).filter (geK key)) = some R' /\ R = pvE x :: R' := ⟨_, rfl, by
       rw [List.map_cons, List.filter_cons_of_pos hgx] at hR1; exact (Option.some.inj hR1).symm⟩
      have HRn : Hid (L = dn ++ (pvE x :: R')) := hid (by rw [HL.out, hRe])
      have HRb : Hid (qXp T.nodes f key true (es.drop (i + 1)) = some R') := hid hR'; have hvs : m.values[i]? = some x.value := by rw [HH.out.v]; show (es.map (·.value))[i]? = _; rw [List.getElem?_map, hx]; rfl
      have hvl : i < m.values.length := (List.getElem?_eq_some_iff.1 hvs).1; have hdv : ¬ m.values.length <= i := by omega
      obtain ⟨gk, ok2, hka, hkc⟩ := hnr.k.one hgk; obtain ⟨gv, ov, hva, hvc⟩ := hnr.v.one hvs; rw [hka] at y1; rw [hva] at y2; have HHl := hid hlf; have hNx : (pre ++ dn).length < N := by
       have h1 := HNl.out; rw [HRn.out] at h1; simp only [List.length_append, List.length_cons] at h1 ⊢; omega
      have HNx := hid hNx; clear hlf hx hR hR1 hR' hRe hdr hgk hnr hka hva hvs y3 hkl hile hg hgx hNx; go_upto_region 5 with fail
      have g1 := fun y : Ext wr => y.cell y1
      have g2 := fun y : Ext wr => y.cell y2
      have gkc := fun y : Ext wr => y.cell hkc
      have gvc := fun y : Ext wr => y.cell hvc
      clear y0 y1 y2 hkc hvc; refine (wpIn_wide (n := 0)).1 (qGn 12 (by kernel_rfl) (by kernel_rfl) ?_)
      simp only [List.take_succ_cons, List.take_zero, List.drop_succ_cons, List.drop_zero]; repeat (go_big_quiet_step (fail))
      refine wpQuiet_nil ?_; rintro _ ⟨z, rfl⟩; obtain ⟨fn, tmps, assign, body, hy, hR⟩ := HYa.out 0 (pre ++ dn) (pvE x) z.val (HJa.out _ _ _ HRel.out.j z.mod) HNx.out; dsimp only [pvE] at hy; have HKz := hid (Kp.of_mod z.mod (Nat.le_trans HT.out.2.2 (HRel.out.kp.1.size))); clear g1 g2 gkc gvc; gi_wp2
      refine ⟨rfl, hR.mono ?_⟩; rintro e w4 (⟨rfl, hj4, hk4⟩ | ⟨rfl, hx4⟩)
      ·have HR4 : Hid (WRel n₀ J B T D off W w4 q m true es key f pre L (i + 1) (dn ++ [pvE x])) := hid ⟨by rw [<- List.append_assoc]; exact hj4, (HRel.out.kp.trans HKz.out).trans hk4, HRel.out.tw.below (HKz.out.trans hk4).1, (HKz.out.trans hk4).2 _ _ HRel.out.box, ⟨R', HRb.out, by rw [HRn.out, List.append_assoc]; rfl⟩, by omega⟩
       clear hj4 hk4; gi_wp2
       go_wp2_with fail
       go_roundw
       case rel => exact ⟨i + 1, dn ++ [pvE x], by go_num, HR4.out⟩
       case measure => simp [intOf]; omega
      ·gi_wp2
       go_wp2_with fail
       go_ret; refine .inr ⟨rfl, dn ++ [pvE x], ?_, by rw [<- List.append_assoc]; exact hx4⟩
       rw [HRn.out]; exact ⟨R', by simp⟩
    | false =>
     obtain ⟨a, ha, hR2⟩ := Option.bind_eq_some_iff.1 (show (qIg T.nodes f x.kid key).bind _ = some R from hR)
     obtain ⟨b, hb, hab⟩ := Option.map_eq_some_iff.1 hR2; have hlf : m.leaf = false := HH.out.l; rw [hlf] at y0; have hgi : m.kids[i]? = some x.kid := by rw [HH.out.i]; show (es.map (·.kid))[i]? = _; rw [List.getElem?_map, hx]; rfl
     have hil : i < m.kids.length := (List.getElem?_eq_some_iff.1 hgi).1; have hdi : ¬ m.kids.length <= i := by omega
     obtain ⟨gi, oi, hia, hkc⟩ := hnr.i.one hgi; rw [hia] at y3; have HRn : Hid (L = dn ++ (a ++ b)) := hid (by rw [HL.out, <- hab])
     have HRb : Hid (qXp T.nodes f key false (es.drop (i + 1)) = some b) := hid hb; have HC := hid (HIh.out x.kid a (pre ++ dn) wr ha HRel.out.tw HRel.out.j (by have h1 := HNl.out; rw [HRn.out] at h1; simp only [List.length_append] at h1 ⊢; omega))
     clear hlf hx hR hR2 hb hab ha hdr hgk hgi hnr hia y2 hkl hile; go_wp2_with (go_at_call 74; refine HC.out.mono ?_; rintro e w4 (⟨rfl, hj4, hk4⟩ | ⟨rfl, q4, hq4, hx4⟩))
     ·have HR4 : Hid (WRel n₀ J B T D off W w4 q m false es key f pre L (i + 1) (dn ++ a)) := hid ⟨by rw [<- List.append_assoc]; exact hj4, HRel.out.kp.trans hk4, HRel.out.tw.below hk4.1, hk4.2 _ _ HRel.out.box, ⟨b, HRb.out, by rw [HRn.out, List.append_assoc]⟩, by omega⟩
      clear hj4 hk4; go_roundw
      case rel =>
       exact ⟨i + 1, dn ++ a, by go_num, HR4.out⟩
      case measure => simp [intOf]; omega
     ·go_ret; refine .inr ⟨rfl, dn ++ q4, ?_, by rw [<- List.append_assoc]; exact hx4⟩
      rw [HRn.out]; obtain ⟨z, hz⟩ := hq4; exact ⟨z ++ b, by rw [<- hz]; simp⟩
   ·have hie : es.drop i = [] := List.drop_eq_nil_of_le (by omega)
    rw [hie] at hR; have hR0 : R = [] := by
     unfold qXp at hR; cases leaf with
     | true => simpa using hR.symm
     | false => have h1 : some [] = some R := hR; cases h1; rfl
    have HLd : Hid (L = dn) := hid (by rw [HL.out, hR0, List.append_nil])
    have d0 : decide ((i : Int) < (m.keys.length : Int)) = false := by simp; omega
    have d1 : decide (i < m.keys.length) = false := by simp; omega
    clear hR hie hR0 hkl hlt hile hlL; go_wp2_with fail
    go_ret; exact .inl ⟨rfl, by rw [HLd.out]; exact HRel.out.j, HRel.out.kp⟩
end
end Go.Proofs.YtkinkgbmlhiakaaGreatDoor
