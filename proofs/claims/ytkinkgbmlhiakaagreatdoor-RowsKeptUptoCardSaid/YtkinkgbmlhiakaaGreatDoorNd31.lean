/- merged: TrW TailIn TwW -/
import Derived.Test.YtkinkgbmlhiakaaGreatDoorNd30
import Derived.Test.YtkinkgbmlhiakaaGreatDoorNd13
import Derived.Test.YtkinkgbmlhiakaaGreatDoorNd08
import Derived.RangeFuncNested
import Derived.RangeFuncBound
import Derived.RangeFuncCalls
import Derived.RangeFuncLeaves
import Derived.Shelf.Abstract
import Derived.Shelf.RegionOpen
import Derived.WalkKit
import Derived.OwnWalkIn
import Derived.TacticsInMore
import Derived.LoopNIn
import Derived.LoopIn
import Derived.Test.YtkinkgbmlhiakaaGreatDoorNd29
namespace Go.Proofs.YtkinkgbmlhiakaaGreatDoor
section
open Go Go.RowKit
def pvE (x : Ent) : KV := (x.key, x.value)
def qYh (g : Int -> Option (List KV)) : List Ent -> Option (List KV)
 | [] => some []
 | x :: r => (g x.kid).bind fun a => (qYh g r).map (a ++ ·)
def qKc (look : Int -> Option NP) : Nat -> Int -> ByteArray -> Option (List KV)
 | 0, _, _ => none
 | f + 1, s, key => (look s).bind fun n => if n.1 then some (((n.2.drop (qBv key n.2)).map pvE).filter (geK key)) else qYh (fun s => qKc look f s key) (n.2.drop (qBv key n.2))
theorem qOc {look : Int -> Option NP} {f h : Nat} {key : ByteArray} : ∀ (b : List (TE (Tr h))), (∀ e ∈ b, qKc look f e.spot key = some ((flat h e.sub).filter (geK key))) -> qYh (fun s => qKc look f s key) (b.map eE) = some ((qAg b).filter (geK key))
 | [], _ => rfl
 | e :: b, k => by
  have h1 := k e List.mem_cons_self; have h2 := qOc b (fun x hx => k x (List.mem_cons_of_mem _ hx))
  show (qKc look f e.spot key).bind (fun a => (qYh (fun s => qKc look f s key) (b.map eE)).map (a ++ ·)) = _
  rw [h1, h2]; have e1 : qAg (e :: b) = flat h e.sub ++ qAg b := by unfold qAg; rw [List.flatMap_cons]
  rw [e1, List.filter_append]; rfl
theorem jCp {key : ByteArray} {p : KV} (h : kl p.1 key = true) : geK key p = false := by unfold geK; rw [h]; rfl
theorem qUq {look : Int -> Option NP} {m : Nat} (key : ByteArray) : ∀ (h : Nat) (s : Int) (t : Tr h), Sd look m h s t -> Asc (flat h t) -> qKc look (h + 1) s key = some ((flat h t).filter (geK key))
 | 0, s, l, hS, hf => by
  have hlk : look s = some (true, eOf 0 l) := (qHv.1 hS).1.1; have hg : qBg true (eOf 0 l) := (qHv.1 hS).1.2; have hne : l ≠ ([] : List KV) := fun e => hg.ne (by rw [e]; rfl)
  have hf : Asc l := hf; obtain ⟨a, e, b, rfl, hpl, hle, hgt⟩ := qEw (fun p : KV => p.1) key l hne hf
  have hi : qBv key (eOf 0 (a ++ e :: b)) = a.length := by
   refine Eq.trans ?_ hpl; unfold qBv; show (List.filter _ (List.map _ (a ++ e :: b))).length - 1 = _; rw [List.filter_map, List.length_map]; rfl
  have hdr : ((eOf 0 (a ++ e :: b)).drop a.length).map pvE = e :: b := by
   show ((List.map _ (a ++ e :: b)).drop a.length).map pvE = _; rw [<- List.map_drop, List.drop_left, List.map_map]; exact List.map_id _
  show (look s).bind _ = _; rw [hlk]; show some _ = _; rw [hi, hdr]; show some ((e :: b).filter (geK key)) = some ((a ++ e :: b).filter (geK key)); rw [List.filter_append, qBb (p := geK key) (l := a) (fun x hx => ?_), List.nil_append]
  have h1 : kl x.1 e.1 = true := (qCa.1 hf).2.2 x hx e List.mem_cons_self; refine jCp ?_; rcases hle with rfl | hle
  ·cases hx
  ·rcases hle with hle | hle
   ·rw [<- hle]; exact h1
   ·exact qCz h1 hle
 | h + 1, s, l, hS, hf => by
  obtain ⟨⟨hlk, hg⟩, hB⟩ := hS; have hB : Lowr look m (h + 1) l := hB; have hok : Ok l := qLl hB; have hf : Asc (qAg l) := hf; have hne : l ≠ [] := fun e => hg.ne (by rw [e]; rfl)
  obtain ⟨a, e, b, rfl, hpl, hle, hgt⟩ := qEw (fun e : TE (Tr h) => e.key) key l hne (qJg hok hf)
  have hi : qBv key (eOf (h + 1) (a ++ e :: b)) = a.length := (qKe key _).trans hpl; have hfl : qAg (a ++ e :: b) = qAg a ++ qAg (e :: b) := qAi _ _; have hdr : (eOf (h + 1) (a ++ e :: b)).drop a.length = (e :: b).map eE := by
   rw [qBi, <- List.map_drop, List.drop_left]
  have hlo : (qAg a).filter (geK key) = [] := qBb (fun p hp => by
   refine jCp ?_; rcases hle with rfl | hle
   ·simp [qAg] at hp
   ·obtain ⟨v0, r, hfe2⟩ := qGs hok (e := e) (List.mem_append_right _ List.mem_cons_self); have h1 := hf; rw [hfl] at h1; obtain ⟨_, _, hab⟩ := qCa.1 h1; have h4 : kl p.1 e.key = true := hab p hp (e.key, v0) (by
     have e1 : qAg (e :: b) = flat h e.sub ++ qAg b := by unfold qAg; rw [List.flatMap_cons]
     rw [e1, hfe2]; exact List.mem_append_left _ List.mem_cons_self)
    rcases hle with hle | hle
    ·rw [<- hle]; exact h4
    ·exact qCz h4 hle)
  have hsub : ∀ x ∈ e :: b, Asc (flat h x.sub) := fun x hx => by
   have hmem : x ∈ a ++ e :: b := List.mem_append_right _ hx; refine List.Pairwise.sublist ?_ hf; obtain ⟨p, q, hpq⟩ := List.append_of_mem hmem; rw [hpq, show p ++ x :: q = p ++ ([x] ++ q) from rfl, qAi, qAi]
   refine List.Sublist.trans ?_ (List.sublist_append_right _ _); have e1 : qAg [x] = flat h x.sub := by unfold qAg; simp
   rw [e1]; exact List.sublist_append_left _ _
  have hkids := qOc (look := look) (f := h + 1) (key := key) (e :: b) (fun x hx => qUq key h x.spot x.sub (hB x (List.mem_append_right _ hx)).1 (hsub x hx))
  show (look s).bind _ = _; rw [hlk]; show qYh (fun s => qKc look (h + 1) s key) ((eOf (h + 1) (a ++ e :: b)).drop (qBv key (eOf (h + 1) (a ++ e :: b)))) = some ((qAg (a ++ e :: b)).filter (geK key))
  rw [hi, hdr, hkids, hfl, List.filter_append, hlo, List.nil_append]
end
section
open Go Go.RowKit
section
variable {P : Program} {ops : Array Oper} {md : Region.Mode} {C : World -> Prop} {m : Nat}
theorem qXf {p : Prop} : Fence.wide.depth.isSome = true -> p := fun h => by cases h
theorem qIp {o : Oper} {a : Act} {K : Act -> Prop} {K' : Act -> World -> Prop} {Q' : Exit -> Act -> World -> Prop} {w : World} (hw : C w) (h : ∀ a w', C w' -> K a -> K' a w') (hh : o.quiet P a C K) : o.wpIn Fence.wide m P a w K' Q' := by
 obtain ⟨v, h1, h2⟩ := hh; have h3 := h1 w hw; unfold Oper.quietAt at h3; unfold Oper.wpIn; refine ⟨fun _ _ => trivial, ?_⟩
 rw [show Fence.wide.round = none from rfl, Oper.semAt_none]
 generalize (execOp a.eval o).run P w = r at *; cases r with
 | ok x w' =>
  cases x <;> simp only [Oper.quietUpon] at h3 <;> simp only [Oper.uponIn]
  case value u =>
   obtain ⟨e1, e2⟩ := h3; rw [e1, e2]; exact h _ _ hw h2
  case skip =>
   obtain ⟨e1, e2⟩ := h3; rw [e1, <- e2]; exact h _ _ hw h2
  case enter f args =>
   obtain ⟨e1, hc⟩ := h3; rw [e1]; exact ⟨qXf, callsIn_wide.2 (hc.mono fun e w'' ⟨he, hw''⟩ => by subst he; exact h _ _ hw'' h2)⟩
 | halt x w' => simp only [Oper.quietUpon] at h3
theorem qSq {i : Nat} {a : Act} {K : Act -> Prop} {K' : Act -> World -> Prop} {Q' : Exit -> Act -> World -> Prop} {w : World} (hC : C w) (h : ∀ a w', C w' -> K a -> K' a w') (hh : qOp P ops C i K a) : wpOpIn Fence.wide m P ops Q' i K' a w := by
 unfold qOp at hh; unfold wpOpIn; split
 ·rename_i ho; simp only [ho] at hh; exact h _ _ hC hh
 ·rename_i o ho
  simp only [ho] at hh; split
  ·rename_i hw; simp only [hw, if_true] at hh; exact qIp hC h hh
  ·rename_i hw; simp only [hw] at hh; exact ⟨fun _ _ => trivial, h _ _ hC hh⟩
theorem qJv {n g : Nat} {L : Array Bool -> Act -> Prop} {Q : Exit -> Act -> World -> Prop} (hL : ∀ listed a w, C w -> L listed a -> wpAnyIn Fence.wide m P md ops Q g listed a w) :
  ∀ (f : Nat) (listed : Array Bool) (a : Act) (w : World), C w -> qKx P md ops C n L f listed a -> wpAnyIn Fence.wide m P md ops Q (f + g) listed a w
 | 0, listed, a, w, hw, h => by rw [Nat.zero_add]; exact hL _ _ _ hw h
 | f + 1, listed, a, w, hw, h => by
  rw [show f + 1 + g = (f + g) + 1 by omega]
  exact ⟨fun h0 => absurd h0 h.1, fun i hi => qSq hw (fun a' w' hw' h' => qJv hL f _ a' w' hw' h') (h.2 i hi).2⟩
theorem qHu {F : Fence} {Q' : Exit -> Act -> World -> Prop} : ∀ (l : List Oper) (k : Nat) (listed : Array Bool) (a : Act) (w : World), (∀ j, l[j]? = ops[k + j]?) →
  Region.seqB md ops l.length k listed = true -> wpListIn F m P ops Q' l a w -> wpAnyIn F m P md ops Q' l.length listed a w
 | [], _, _, _, _, _, hB, h => ⟨by simpa [Region.seqB] using hB, h⟩
 | o :: l, k, listed, a, w, hl, hB, h => by
  have h0 : ops[k]? = some o := by simpa using (hl 0).symm
  simp only [List.length_cons, Region.seqB, Bool.and_eq_true, decide_eq_true_eq] at hB; refine ⟨fun h1 => (by rw [hB.1] at h1; cases h1), fun i hi => ?_⟩
  rw [hB.1] at hi; have hik : i = k := by simpa using hi
  subst hik; have hw : wpOpIn F m P ops Q' i (wpListIn F m P ops Q' l) a w := by unfold wpOpIn; simp only [h0]; exact h
  exact wpOpIn_mono (fun a' w' h' => qHu l (i + 1) _ a' w' (fun j => by have := hl (j + 1); simpa [Nat.add_assoc, Nat.add_comm 1 j] using this) hB.2 h') hw
end
theorem qHs {P : Program} {id m : Nat} {Q : Exit -> Act -> World -> Prop} {a : Act} {w : World} {l : List Oper} (n : Nat) (hm : P.follows .mixedOrders = true) (hB : Region.lexTailB .any l.toArray n = true)
  (h : wpQuiet P l.toArray (fun w' => ∃ x : Ext w, w' = x.val) (fun a' => ∀ w', (∃ x : Ext w, w' = x.val) -> wpListIn Fence.wide m P l.toArray Q (l.drop n) a' w') (l.take n) a) : (Code.region id l.toArray true).wpIn Fence.wide m P Q a w := by
 simp only [Region.lexTailB, Bool.and_eq_true, decide_eq_true_eq] at hB; obtain ⟨⟨⟨⟨hsel, hn⟩, hs⟩, hc⟩, hlex⟩ := hB; have htl : (l.take n).length = n := by simp at hn ⊢; omega
 have hdl : (l.drop n).length = l.toArray.size - n := by simp
 have inv0 : HeadInv .any l.toArray n (Array.replicate l.toArray.size false) :=
  ⟨by simp, fun j oj _ hl => (by rw [getD_replicate_false] at hl; cases hl), fun t _ ht => getD_in (by simpa using ht) (getD_replicate_false _ _)⟩
 have H := qPy (md := .any) (g := l.toArray.size - n) hsel hs hc hn (l.take n) 0 _ a (fun j hj => by
  have hj' : j < n := by rw [htl] at hj; exact hj
  simp [hj']) (by simpa using htl) inv0 (by rw [htl]; exact hlex) h
 refine wpIn_region_any hm ?_; have := qJv (m := m) (Q := Q) (g := l.toArray.size - n) (fun listed a' w' hC hL => by
  have := qHu (F := Fence.wide) (m := m) (md := .any) (Q' := Q) (l.drop n) n listed a' w' (fun j => by simp [List.getElem?_drop]) (by rw [hdl]; exact hL.1) (hL.2 w' hC)
  rwa [hdl] at this) _ _ _ { w with drawn := w.drawn + 1 } ⟨⟨_, (Mod.refl _ w).drew⟩, rfl⟩ H
 rw [htl, show n + (l.toArray.size - n) = l.toArray.size by omega] at this
 exact this
theorem qEs {F : Fence} {r : Nat} {P : Program} {ops : Array Oper} {rest : List Oper} {o : Oper} {a : Act} {w : World} {Q : Exit -> Act -> World -> Prop}
  (hg : o.guard = none) (s x : Operand) (t : TypeId) (hop : o.op = Op.call { callee := Callee.builtin Builtin.append, args := #[s, x], argTypes := #[t, t] })
  (e : TypeId) (i : TypeInfo) (z : Value) (size bytes : Nat) (h1 : P.underlying t = some (.slice e)) (h2 : P.info? e = some i) (hz : i.zero = some z) (h4 : i.size = size) (hby : i.bytes = bytes) (hzs : z.cells.size = size)
  (sa : Option Addr) (n cap : Nat) (xs : List Value) (hs : a.eval s = .slice sa n cap) (hown : Own w e size sa n cap xs)
  (xa : Option Addr) (m c : Nat) (news : List Value) (hx : a.eval x = .slice xa m c) (hsrc : Src w size xa m news) (h1c : ∀ u ∈ news, u.oneCell' = true)
  (h63 : n + m <= maxLen) (hbytes : (n + m) * bytes <= 140737488355328)
  (hK : ∀ sa' cap' w', Own w' e size sa' (n + m) cap' (xs ++ news) -> Mod (blk sa) w w' -> (∀ k, blk sa' k -> blk sa k \/ w.heap.size <= k) -> (sa' = none -> sa = none /\ m = 0) -> (n + m <= cap -> sa' = sa /\ cap' = cap) -> wpListIn F r P ops Q rest (a.put o.dst (.slice sa' (n + m) cap')) w') :
  wpListIn F r P ops Q (o :: rest) a w := by
 refine wpListIn_plain hg fun K hK' => ?_
 obtain ⟨sa', cap', w', hrun, r1, r2, r3, r4, r5⟩ := qHx (P := P) w t o.type e i z size bytes h1 h2 hz h4 hby hzs sa n cap xs hown xa m c news hsrc h1c h63 hbytes; unfold Oper.wpIn; refine ⟨?_, ?_⟩
 ·simp [Oper.about, hop, resolve, Target.leads, Sem.run_pure]
 ·rw [Oper.semAt_plain F _ _ (by rw [hop]; intro c hc'; cases hc')]
  simp [execOp, hop, resolve, invoke, builtin, hs, hx, hrun, Result.andThen]
  exact hK' _ _ (hK sa' cap' w' r1 r2 r3 r4 r5)
theorem qPu {T : Nat -> Prop} {W W' : World} (B : Nat) (h : Mod T W W') (ht : ∀ k o, T k -> W.heap[k]? = some o -> o.isCells = true) : KeepsFrom B W W' :=
 ⟨h.size, fun k o _ hk ho => (h.block k (lth hk) (fun e => by rw [ht k o e hk] at ho; cases ho)).trans hk⟩
end
section
open Go Go.RowKit
def Kp (n₀ : Nat) (W W' : World) : Prop := RowKit.Below n₀ W W' /\ ∀ (k : Nat) vs, W.heap[k]? = some (.cells vs 123 (0, 0)) -> W'.heap[k]? = some (.cells vs 123 (0, 0))
theorem Kp.trans {n₀ : Nat} {A B C : World} (h : Kp n₀ A B) (k : Kp n₀ B C) : Kp n₀ A C := ⟨h.1.trans k.1, fun i vs hi => k.2 i vs (h.2 i vs hi)⟩
theorem Kp.of_mod {n₀ : Nat} {A B : World} (h : Mod (fun _ => False) A B) (hn : n₀ <= A.heap.size) : Kp n₀ A B := ⟨h.below hn (fun _ e => e.elim), fun k _ hk => (h.block k (lth hk) (fun e => e)).trans hk⟩
def TW (n₀ : Nat) (B : TB) (T : TM) (D : Dsk) (off : Bool) (W : World) : Prop := qAu (fun k => TS B k \/ n₀ <= k) W B T D off /\ (∀ k, TS B k -> k < n₀) /\ n₀ <= W.heap.size
theorem TW.below {n₀ : Nat} {B : TB} {T : TM} {D : Dsk} {off : Bool} {W W' : World} (h : TW n₀ B T D off W) (hb : RowKit.Below n₀ W W') : TW n₀ B T D off W' :=
 ⟨h.1.mod (Mod.of_below hb) (fun _ e => .inr e) (fun k e ht => by have := h.2.1 k ht; omega), h.2.1, Nat.le_trans h.2.2 hb.size⟩
theorem TW.start {w : World} {B : TB} {T : TM} {D : Dsk} {off : Bool} (h : qAu (TS B) w B T D off) : TW w.heap.size B T D off w :=
 ⟨h.narrow (fun k hk e => e.elim id (fun e => by omega)), fun _ hk => h.lt hk, Nat.le_refl _⟩
def jAq (look : Int -> Option NP) (f : Nat) (key : ByteArray) (leaf : Bool) (l : List Ent) : Option (List KV) := if leaf then some ((l.map pvE).filter (geK key)) else qYh (fun s => qKc look f s key) l
def jKr (n₀ : Nat) (J Jx : List KV -> World -> Prop) (pre L : List KV) (W : World) (e : Ending) (W' : World) : Prop :=
 (e = .returned (.bool true) /\ J (pre ++ L) W' /\ Kp n₀ W W') \/ (e = .returned (.bool false) /\ ∃ q, q <+: L /\ Jx (pre ++ q) W')
structure WRel (n₀ : Nat) (J : List KV -> World -> Prop) (B : TB) (T : TM) (D : Dsk) (off : Bool) (W wr : World) (q : Nat) (m : Nd) (leaf : Bool) (es : List Ent) (key : ByteArray) (f : Nat) (pre L : List KV) (i : Nat) (dn : List KV) : Prop where
 j : J (pre ++ dn) wr
 kp : Kp n₀ W wr
 tw : TW n₀ B T D off wr
 box : wr.heap[q]? = some (.cells #[.bool m.leaf, .slice m.ka m.keys.length m.kc, .slice m.va m.values.length m.vc, .slice m.ia m.kids.length m.ic] 123 (0, 0))
 rest : ∃ R, jAq T.nodes f key leaf (es.drop i) = some R /\ L = dn ++ R
 le : i <= es.length
theorem jKb {α : Type} {l : List α} {i : Nat} {x : α} (h : l[i]? = some x) : l.drop i = x :: l.drop (i + 1) := by
 obtain ⟨hlt, rfl⟩ := List.getElem?_eq_some_iff.1 h; exact List.drop_eq_getElem_cons hlt
set_option maxRecDepth 100000
set_option maxHeartbeats 4000000 in
theorem jEh {n₀ N l : Nat} {B : TB} {T : TM} {D : Dsk} {off : Bool} {J Jx : List KV -> World -> Prop} (hJ : ∀ pre W W', J pre W -> Mod (fun _ => False) W W' -> J pre W') (key : ByteArray)
  (hY : ∀ m pre x W, J pre W -> pre.length < N -> YieldAt Fence.wide m Tryz.prog l #[.agg #[.string x.1, .string x.2]] W fun e W' => (e = .returned (.bool true) /\ J (pre ++ [x]) W' /\ Kp n₀ W W') \/ (e = .returned (.bool false) /\ Jx (pre ++ [x]) W')) :
  ∀ (f : Nat) (s : Int) (L pre : List KV) (W : World), qKc T.nodes f s key = some L -> TW n₀ B T D off W -> J pre W -> pre.length + L.length <= N →
   Calls Tryz.prog 74 #[.pointer (some ⟨B.tb, 0, none⟩), .int .i64 s, .string key, .func (.yield l) #[] #[]] W (jKr n₀ J Jx pre L W) := by
 intro f; induction f with
 | zero => intro s L pre W h; cases h
 | succ f ih =>
  intro s L pre W hw ht hj hN; obtain ⟨⟨leaf, es⟩, hn, hw2⟩ := Option.bind_eq_some_iff.1 (show (T.nodes s).bind _ = some L from hw)
  have HR0 : Hid (jAq T.nodes f key leaf (es.drop (qBv key es)) = some L) := hid hw2; obtain ⟨m, hlk, hh, hat, hbs⟩ := ht.1.nodes.get hn; have HG : Hid (qBg leaf es) := hid (by obtain ⟨l, _, _, h3⟩ := ht.1.nodes; exact (h3 _ _ hn).1)
  have HT := hid ht; have HJ := hid hj; have HH := hid hh; have HN := hid hat; have HB := hid hbs; have HIh := hid ih; have HNl := hid hN; have HJa := hid hJ; have HYa := hid hY; have HRi : Hid (qNc m.keys) := hid (by rw [HH.out.k]; exact qFv HG.out)
  obtain ⟨_, _, _, _, _, _, c6, _, _⟩ := ht.1.cells; have hl0 := hlk W (Mod.refl _ _) false; clear hw hw2 ht hj hN hn hlk hh hat hbs ih hJ hY; simp only [Nd.val, Bool.false_eq_true, if_false] at hl0; go_enter Tryz.func74, Tryz.ntmps74
  go_upto_region 2 with fail
  have HBx : Hid ((W.alloc (.cells #[.bool m.leaf, .slice m.ka m.keys.length m.kc, .slice m.va m.values.length m.vc, .slice m.ia m.kids.length m.ic] 123)).heap[W.heap.size]? = some (.cells #[.bool m.leaf, .slice m.ka m.keys.length m.kc, .slice m.va m.values.length m.vc, .slice m.ia m.kids.length m.ic] 123 (0, 0))) := hid (heap_alloc_new _ _); have HM2 : Hid (Mod (fun _ => False) W (W.alloc (.cells #[.bool m.leaf, .slice m.ka m.keys.length m.kc, .slice m.va m.values.length m.vc, .slice m.ia m.kids.length m.ic] 123))) := hid ((Mod.refl _ _).alloc _)
  have HPl := hid (qGq key (HN.out.nd.ext HM2.out) HRi.out); generalize W.alloc (.cells #[.bool m.leaf, .slice m.ka m.keys.length m.kc, .slice m.va m.values.length m.vc, .slice m.ia m.kids.length m.ic] 123) = Z at *; obtain ⟨x0, x1, x2, x3⟩ := cl4 HBx.out; go_upto_region 3 with (go_at_call 42; refine HPl.out.mono ?_; rintro e w3 ⟨⟨i, ok, hat, hok, rfl⟩, hm3⟩; have HAt := hid hat; have HOk := hid hok; have HM3 := hid hm3; obtain ⟨ii, hii⟩ : ∃ z : Int, (if ok = true then (i : Int) else ((i - 1 : Nat) : Int)) = z := ⟨_, rfl⟩; rw [hii]; have HIi := hid hii; clear hat hok hm3 hii)
  have HCut := hid (qOr (c := ⟨key, emp, false⟩) (es := es) (i := i) (ok := ok) (by have h1 := HRi.out; rw [HH.out.k] at h1; exact h1) (by have h1 := HAt.out; rw [HH.out.k] at h1; exact h1) (by have h1 := HOk.out; rw [HH.out.k] at h1; exact h1))
  have hil0 : i <= es.length := by have h1 := HAt.out.le; rw [HH.out.k, List.length_map] at h1; exact h1
  have hpe := qPg HCut.out hil0; change qBv key es = _ at hpe; obtain ⟨j0, hj0⟩ : ∃ j, qBv key es = j := ⟨_, rfl⟩; rw [hj0] at HR0 hpe; have hij : ii = (j0 : Int) := by rw [<- HIi.out, hpe]; cases ok <;> rfl
  have HJl : Hid (j0 <= es.length) := hid (by rw [hpe]; cases ok <;> simp only [Bool.false_eq_true, if_false, if_true] <;> omega)
  subst hij; have HKs : Hid (m.keys.length = es.length) := hid (by rw [HH.out.k, List.length_map])
  have HMz := hid (HM2.out.trans HM3.out); have HW0 : Hid (WRel n₀ J B T D off W w3 W.heap.size m leaf es key f pre L j0 []) := hid ⟨by rw [List.append_nil]; exact HJa.out _ _ _ HJ.out HMz.out, Kp.of_mod HMz.out HT.out.2.2, HT.out.below (HMz.out.below HT.out.2.2 (fun _ e => e.elim)), qAq HM3.out HBx.out, ⟨L, HR0.out, rfl⟩, HJl.out⟩
  have HLn : Hid (es.length <= 511) := hid HG.out.len; generalize W.heap.size = q at *; clear x0 x1 x2 x3 hil0 hpe hj0 c6 hl0 HCut HIi HAt HOk HPl HBx HR0 HJl HMz; have hkl : m.keys.length = es.length := HKs.out; have hlL : es.length <= 511 := HLn.out; go_loopw [10] (fun si wr => ∃ (i : Nat) (dn : List KV), si = .int .i64 (i : Int) /\ WRel n₀ J B T D off W wr q m leaf es key f pre L i dn) (fun si _ => es.length - (intOf si).toNat)
  case atStart => exact ⟨j0, [], rfl, HW0.out⟩
  case round =>
   obtain ⟨i, dn, rfl, hrel⟩ := hrel; obtain ⟨R, hR, hL⟩ := hrel.rest; have HRel := hid hrel; have HL := hid hL; obtain ⟨y0, y1, y2, y3⟩ := cl4 hrel.box; have hile := hrel.le; clear hrel hL; by_cases hlt : i < es.length
   ·obtain ⟨x, hx⟩ : ∃ x, es[i]? = some x := ⟨_, List.getElem?_eq_getElem hlt⟩; have hdr := jKb hx; rw [hdr] at hR; have d0 : decide ((i : Int) < (m.keys.length : Int)) = true := by simp; omega
    have d1 : decide (i < m.keys.length) = true := by simp; omega
    have hgk : m.keys[i]? = some x.key := by rw [HH.out.k, List.getElem?_map, hx]; rfl
    have hdk : ¬ m.keys.length <= i := by omega
    have hnr : NdAt wr m := (qBq HN.out (fun k hk => (HB.out k hk).1) (Mod.of_below HRel.out.kp.1) (fun k e => .inr e)).nd
    cases leaf with
    | true =>
     have hlf : m.leaf = true := HH.out.l; rw [hlf] at y0; have hR1 : some (((x :: es.drop (i + 1)).map pvE).filter (geK key)) = some R := hR; cases hg : kl x.key key with
     | true =>
      have d2 : Op.bytesLess x.key.toList key.toList = true := hg; have hR3 : some (((es.drop (i + 1)).map pvE).filter (geK key)) = some R := by
       rw [<- hR1, List.map_cons, List.filter_cons_of_neg (by rw [jCp (p := pvE x) hg]; exact Bool.false_ne_true)]
      have HR4 : Hid (WRel n₀ J B T D off W wr q m true es key f pre L (i + 1) dn) := hid ⟨HRel.out.j, HRel.out.kp, HRel.out.tw, HRel.out.box, ⟨R, hR3, HL.out⟩, by omega⟩
      obtain ⟨gk, ok2, hka, hkc⟩ := hnr.k.one hgk; rw [hka] at y1; clear hlf hx hR hR1 hR3 hdr hgk hnr hka y2 y3 hkl hile hg; go_wp2_with fail
      go_roundw
      case rel => exact ⟨i + 1, dn, by go_num, HR4.out⟩
      case measure => simp [intOf]; omega
     | false =>
      have d2 : Op.bytesLess x.key.toList key.toList = false := hg; have hgx : geK key (pvE x) = true := by unfold geK pvE; rw [hg]; rfl
      obtain ⟨R', hR', hRe⟩ : ∃ R', some (((es.drop (i + 1)).map pvE).filter (geK key)) = some R' /\ R = pvE x :: R' := ⟨_, rfl, by
       rw [List.map_cons, List.filter_cons_of_pos hgx] at hR1; exact (Option.some.inj hR1).symm⟩
      have HRn : Hid (L = dn ++ (pvE x :: R')) := hid (by rw [HL.out, hRe])
      have HRb : Hid (jAq T.nodes f key true (es.drop (i + 1)) = some R') := hid hR'; have hvs : m.values[i]? = some x.value := by rw [HH.out.v]; show (es.map (·.value))[i]? = _; rw [List.getElem?_map, hx]; rfl
      have hvl : i < m.values.length := (List.getElem?_eq_some_iff.1 hvs).1; have hdv : ¬ m.values.length <= i := by omega
      obtain ⟨gk, ok2, hka, hkc⟩ := hnr.k.one hgk; obtain ⟨gv, ov, hva, hvc⟩ := hnr.v.one hvs; rw [hka] at y1; rw [hva] at y2; have HHl := hid hlf; have hNx : (pre ++ dn).length < N := by
       have h1 := HNl.out; rw [HRn.out] at h1; simp only [List.length_append, List.length_cons] at h1 ⊢; omega
      have HNx := hid hNx; clear hlf hx hR hR1 hR' hRe hdr hgk hnr hka hva hvs y3 hkl hile hg hgx hNx; go_upto_region 5 with fail
      have g1 := fun y : Ext wr => y.cell y1
      have g2 := fun y : Ext wr => y.cell y2
      have gkc := fun y : Ext wr => y.cell hkc
      have gvc := fun y : Ext wr => y.cell hvc
      clear y0 y1 y2 hkc hvc; refine (wpIn_wide (n := 0)).1 (qHs 12 (by kernel_rfl) (by kernel_rfl) ?_)
      simp only [List.take_succ_cons, List.take_zero, List.drop_succ_cons, List.drop_zero]; repeat (go_big_quiet_step (fail))
      refine wpQuiet_nil ?_; rintro _ ⟨z, rfl⟩; obtain ⟨fn, tmps, assign, body, hy, hR⟩ := HYa.out 0 (pre ++ dn) (pvE x) z.val (HJa.out _ _ _ HRel.out.j z.mod) HNx.out; dsimp only [pvE] at hy; have HKz := hid (Kp.of_mod z.mod (Nat.le_trans HT.out.2.2 (HRel.out.kp.1.size))); clear g1 g2 gkc gvc; gi_wp2
      refine ⟨rfl, hR.mono ?_⟩; rintro e w4 (⟨rfl, hj4, hk4⟩ | ⟨rfl, hx4⟩)
      ·have HR4 : Hid (WRel n₀ J B T D off W w4 q m true es key f pre L (i + 1) (dn ++ [pvE x])) := hid ⟨by rw [<- List.append_assoc]; exact hj4, (HRel.out.kp.trans HKz.out).trans hk4, HRel.out.tw.below (HKz.out.trans hk4).1, (HKz.out.trans hk4).2 _ _ HRel.out.box, ⟨R', HRb.out, by rw [HRn.out, List.append_assoc]; rfl⟩, by omega⟩
       clear hj4 hk4; gi_wp2
       go_wp2_with fail
       go_roundw
       case rel => exact ⟨i + 1, dn ++ [pvE x], by go_num, HR4.out⟩
       case measure => simp [intOf]; omega
      ·gi_wp2
       go_wp2_with fail
       go_ret; refine .inr ⟨rfl, dn ++ [pvE x], ?_, by rw [<- List.append_assoc]; exact hx4⟩
       rw [HRn.out]; exact ⟨R', by simp⟩
    | false =>
     obtain ⟨a, ha, hR2⟩ := Option.bind_eq_some_iff.1 (show (qKc T.nodes f x.kid key).bind _ = some R from hR)
     obtain ⟨b, hb, hab⟩ := Option.map_eq_some_iff.1 hR2; have hlf : m.leaf = false := HH.out.l; rw [hlf] at y0; have hgi : m.kids[i]? = some x.kid := by rw [HH.out.i]; show (es.map (·.kid))[i]? = _; rw [List.getElem?_map, hx]; rfl
     have hil : i < m.kids.length := (List.getElem?_eq_some_iff.1 hgi).1; have hdi : ¬ m.kids.length <= i := by omega
     obtain ⟨gi, oi, hia, hkc⟩ := hnr.i.one hgi; rw [hia] at y3; have HRn : Hid (L = dn ++ (a ++ b)) := hid (by rw [HL.out, <- hab])
     have HRb : Hid (jAq T.nodes f key false (es.drop (i + 1)) = some b) := hid hb; have HC := hid (HIh.out x.kid a (pre ++ dn) wr ha HRel.out.tw HRel.out.j (by have h1 := HNl.out; rw [HRn.out] at h1; simp only [List.length_append] at h1 ⊢; omega))
     clear hlf hx hR hR2 hb hab ha hdr hgk hgi hnr hia y2 hkl hile; go_wp2_with (go_at_call 74; refine HC.out.mono ?_; rintro e w4 (⟨rfl, hj4, hk4⟩ | ⟨rfl, q4, hq4, hx4⟩))
     ·have HR4 : Hid (WRel n₀ J B T D off W w4 q m false es key f pre L (i + 1) (dn ++ a)) := hid ⟨by rw [<- List.append_assoc]; exact hj4, HRel.out.kp.trans hk4, HRel.out.tw.below hk4.1, hk4.2 _ _ HRel.out.box, ⟨b, HRb.out, by rw [HRn.out, List.append_assoc]⟩, by omega⟩
      clear hj4 hk4; go_roundw
      case rel =>
       exact ⟨i + 1, dn ++ a, by go_num, HR4.out⟩
      case measure => simp [intOf]; omega
     ·go_ret; refine .inr ⟨rfl, dn ++ q4, ?_, by rw [<- List.append_assoc]; exact hx4⟩
      rw [HRn.out]; obtain ⟨z, hz⟩ := hq4; exact ⟨z ++ b, by rw [<- hz]; simp⟩
   ·have hie : es.drop i = [] := List.drop_eq_nil_of_le (by omega)
    rw [hie] at hR; have hR0 : R = [] := by
     unfold jAq at hR; cases leaf with
     | true => simpa using hR.symm
     | false => have h1 : some [] = some R := hR; cases h1; rfl
    have HLd : Hid (L = dn) := hid (by rw [HL.out, hR0, List.append_nil])
    have d0 : decide ((i : Int) < (m.keys.length : Int)) = false := by simp; omega
    have d1 : decide (i < m.keys.length) = false := by simp; omega
    clear hR hie hR0 hkl hlt hile hlL; go_wp2_with fail
    go_ret; exact .inl ⟨rfl, by rw [HLd.out]; exact HRel.out.j, HRel.out.kp⟩
end
end Go.Proofs.YtkinkgbmlhiakaaGreatDoor
