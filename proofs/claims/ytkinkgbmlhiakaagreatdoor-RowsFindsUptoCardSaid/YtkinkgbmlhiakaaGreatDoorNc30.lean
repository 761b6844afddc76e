/- merged: TailIn TwW TwX -/
import Derived.Test.YtkinkgbmlhiakaaGreatDoorNc08
import Derived.RangeFuncNested
import Derived.RangeFuncBound
import Derived.RangeFuncCalls
import Derived.RangeFuncLeaves
import Derived.Shelf.Abstract
import Derived.Shelf.RegionOpen
import Derived.WalkKit
import Derived.OwnWalkIn
import Derived.TacticsInMore
import Derived.LoopNIn
import Derived.LoopIn
import Derived.Test.YtkinkgbmlhiakaaGreatDoorNc29
import Derived.Test.YtkinkgbmlhiakaaGreatDoorNc28
namespace Go.Proofs.YtkinkgbmlhiakaaGreatDoor
section
open Go Go.RowKit
section
variable {P : Program} {ops : Array Oper} {md : Region.Mode} {C : World -> Prop} {m : Nat}
theorem qUz {p : Prop} : Fence.wide.depth.isSome = true -> p := fun h => by cases h
theorem qHv {o : Oper} {a : Act} {K : Act -> Prop} {K' : Act -> World -> Prop} {Q' : Exit -> Act -> World -> Prop} {w : World} (hw : C w) (h : ∀ a w', C w' -> K a -> K' a w') (hh : o.quiet P a C K) : o.wpIn Fence.wide m P a w K' Q' := by
 obtain ⟨v, h1, h2⟩ := hh; have h3 := h1 w hw; unfold Oper.quietAt at h3; unfold Oper.wpIn; refine ⟨fun _ _ => trivial, ?_⟩
 rw [show Fence.wide.round = none from rfl, Oper.semAt_none]
 generalize (execOp a.eval o).run P w = r at *; cases r with
 | ok x w' =>
  cases x <;> simp only [Oper.quietUpon] at h3 <;> simp only [Oper.uponIn]
  case value u =>
   obtain ⟨e1, e2⟩ := h3; rw [e1, e2]; exact h _ _ hw h2
  case skip =>
   obtain ⟨e1, e2⟩ := h3; rw [e1, <- e2]; exact h _ _ hw h2
  case enter f args =>
   obtain ⟨e1, hc⟩ := h3; rw [e1]; exact ⟨qUz, callsIn_wide.2 (hc.mono fun e w'' ⟨he, hw''⟩ => by subst he; exact h _ _ hw'' h2)⟩
 | halt x w' => simp only [Oper.quietUpon] at h3
theorem qQz {i : Nat} {a : Act} {K : Act -> Prop} {K' : Act -> World -> Prop} {Q' : Exit -> Act -> World -> Prop} {w : World} (hC : C w) (h : ∀ a w', C w' -> K a -> K' a w') (hh : qOp P ops C i K a) : wpOpIn Fence.wide m P ops Q' i K' a w := by
 unfold qOp at hh; unfold wpOpIn; split
 ·rename_i ho; simp only [ho] at hh; exact h _ _ hC hh
 ·rename_i o ho
  simp only [ho] at hh; split
  ·rename_i hw; simp only [hw, if_true] at hh; exact qHv hC h hh
  ·rename_i hw; simp only [hw] at hh; exact ⟨fun _ _ => trivial, h _ _ hC hh⟩
theorem qIx {n g : Nat} {L : Array Bool -> Act -> Prop} {Q : Exit -> Act -> World -> Prop} (hL : ∀ listed a w, C w -> L listed a -> wpAnyIn Fence.wide m P md ops Q g listed a w) :
  ∀ (f : Nat) (listed : Array Bool) (a : Act) (w : World), C w -> qJv P md ops C n L f listed a -> wpAnyIn Fence.wide m P md ops Q (f + g) listed a w
 | 0, listed, a, w, hw, h => by rw [Nat.zero_add]; exact hL _ _ _ hw h
 | f + 1, listed, a, w, hw, h => by
  rw [show f + 1 + g = (f + g) + 1 by omega]
  exact ⟨fun h0 => absurd h0 h.1, fun i hi => qQz hw (fun a' w' hw' h' => qIx hL f _ a' w' hw' h') (h.2 i hi).2⟩
theorem qHe {F : Fence} {Q' : Exit -> Act -> World -> Prop} : ∀ (l : List Oper) (k : Nat) (listed : Array Bool) (a : Act) (w : World), (∀ j, l[j]? = ops[k + j]?) →
  Region.seqB md ops l.length k listed = true -> wpListIn F m P ops Q' l a w -> wpAnyIn F m P md ops Q' l.length listed a w
 | [], _, _, _, _, _, hB, h => ⟨by simpa [Region.seqB] using hB, h⟩
 | o :: l, k, listed, a, w, hl, hB, h => by
  have h0 : ops[k]? = some o := by simpa using (hl 0).symm
  simp only [List.length_cons, Region.seqB, Bool.and_eq_true, decide_eq_true_eq] at hB; refine ⟨fun h1 => (by rw [hB.1] at h1; cases h1), fun i hi => ?_⟩
  rw [hB.1] at hi; have hik : i = k := by simpa using hi
  subst hik; have hw : wpOpIn F m P ops Q' i (wpListIn F m P ops Q' l) a w := by unfold wpOpIn; simp only [h0]; exact h
  exact wpOpIn_mono (fun a' w' h' => qHe l (i + 1) _ a' w' (fun j => by have := hl (j + 1); simpa [Nat.add_assoc, Nat.add_comm 1 j] using this) hB.2 h') hw
end
theorem qHb {P : Program} {id m : Nat} {Q : Exit -> Act -> World -> Prop} {a : Act} {w : World} {l : List Oper} (n : Nat) (hm : P.follows .mixedOrders = true) (hB : Region.lexTailB .any l.toArray n = true)
  (h : wpQuiet P l.toArray (fun w' => ∃ x : Ext w, w' = x.val) (fun a' => ∀ w', (∃ x : Ext w, w' = x.val) -> wpListIn Fence.wide m P l.toArray Q (l.drop n) a' w') (l.take n) a) : (Code.region id l.toArray true).wpIn Fence.wide m P Q a w := by
 simp only [Region.lexTailB, Bool.and_eq_true, decide_eq_true_eq] at hB; obtain ⟨⟨⟨⟨hsel, hn⟩, hs⟩, hc⟩, hlex⟩ := hB; have htl : (l.take n).length = n := by simp at hn ⊢; omega
 have hdl : (l.drop n).length = l.toArray.size - n := by simp
 have inv0 : HeadInv .any l.toArray n (Array.replicate l.toArray.size false) :=
  ⟨by simp, fun j oj _ hl => (by rw [getD_replicate_false] at hl; cases hl), fun t _ ht => getD_in (by simpa using ht) (getD_replicate_false _ _)⟩
 have H := qOk (md := .any) (g := l.toArray.size - n) hsel hs hc hn (l.take n) 0 _ a (fun j hj => by
  have hj' : j < n := by rw [htl] at hj; exact hj
  simp [hj']) (by simpa using htl) inv0 (by rw [htl]; exact hlex) h
 refine wpIn_region_any hm ?_; have := qIx (m := m) (Q := Q) (g := l.toArray.size - n) (fun listed a' w' hC hL => by
  have := qHe (F := Fence.wide) (m := m) (md := .any) (Q' := Q) (l.drop n) n listed a' w' (fun j => by simp [List.getElem?_drop]) (by rw [hdl]; exact hL.1) (hL.2 w' hC)
  rwa [hdl] at this) _ _ _ { w with drawn := w.drawn + 1 } ⟨⟨_, (Mod.refl _ w).drew⟩, rfl⟩ H
 rw [htl, show n + (l.toArray.size - n) = l.toArray.size by omega] at this
 exact this
theorem qEk {F : Fence} {r : Nat} {P : Program} {ops : Array Oper} {rest : List Oper} {o : Oper} {a : Act} {w : World} {Q : Exit -> Act -> World -> Prop}
  (hg : o.guard = none) (s x : Operand) (t : TypeId) (hop : o.op = Op.call { callee := Callee.builtin Builtin.append, args := #[s, x], argTypes := #[t, t] })
  (e : TypeId) (i : TypeInfo) (z : Value) (size bytes : Nat) (h1 : P.underlying t = some (.slice e)) (h2 : P.info? e = some i) (hz : i.zero = some z) (h4 : i.size = size) (hby : i.bytes = bytes) (hzs : z.cells.size = size)
  (sa : Option Addr) (n cap : Nat) (xs : List Value) (hs : a.eval s = .slice sa n cap) (hown : Own w e size sa n cap xs)
  (xa : Option Addr) (m c : Nat) (news : List Value) (hx : a.eval x = .slice xa m c) (hsrc : Src w size xa m news) (h1c : ∀ u ∈ news, u.oneCell' = true)
  (h63 : n + m <= maxLen) (hbytes : (n + m) * bytes <= 140737488355328)
  (hK : ∀ sa' cap' w', Own w' e size sa' (n + m) cap' (xs ++ news) -> Mod (blk sa) w w' -> (∀ k, blk sa' k -> blk sa k \/ w.heap.size <= k) -> (sa' = none -> sa = none /\ m = 0) -> (n + m <= cap -> sa' = sa /\ cap' = cap) -> wpListIn F r P ops Q rest (a.put o.dst (.slice sa' (n + m) cap')) w') :
  wpListIn F r P ops Q (o :: rest) a w := by
 refine wpListIn_plain hg fun K hK' => ?_
 obtain ⟨sa', cap', w', hrun, r1, r2, r3, r4, r5⟩ := qHi (P := P) w t o.type e i z size bytes h1 h2 hz h4 hby hzs sa n cap xs hown xa m c news hsrc h1c h63 hbytes; unfold Oper.wpIn; refine ⟨?_, ?_⟩
 ·simp [Oper.about, hop, resolve, Target.leads, Sem.run_pure]
 ·rw [Oper.semAt_plain F _ _ (by rw [hop]; intro c hc'; cases hc')]
  simp [execOp, hop, resolve, invoke, builtin, hs, hx, hrun, Result.andThen]
  exact hK' _ _ (hK sa' cap' w' r1 r2 r3 r4 r5)
theorem qOg {T : Nat -> Prop} {W W' : World} (B : Nat) (h : Mod T W W') (ht : ∀ k o, T k -> W.heap[k]? = some o -> o.isCells = true) : KeepsFrom B W W' :=
 ⟨h.size, fun k o _ hk ho => (h.block k (lth hk) (fun e => by rw [ht k o e hk] at ho; cases ho)).trans hk⟩
end
section
open Go Go.RowKit
def Kp (n₀ : Nat) (W W' : World) : Prop := RowKit.Below n₀ W W' /\ ∀ (k : Nat) vs, W.heap[k]? = some (.cells vs 123 (0, 0)) -> W'.heap[k]? = some (.cells vs 123 (0, 0))
theorem Kp.trans {n₀ : Nat} {A B C : World} (h : Kp n₀ A B) (k : Kp n₀ B C) : Kp n₀ A C := ⟨h.1.trans k.1, fun i vs hi => k.2 i vs (h.2 i vs hi)⟩
theorem Kp.of_mod {n₀ : Nat} {A B : World} (h : Mod (fun _ => False) A B) (hn : n₀ <= A.heap.size) : Kp n₀ A B := ⟨h.below hn (fun _ e => e.elim), fun k _ hk => (h.block k (lth hk) (fun e => e)).trans hk⟩
def TW (n₀ : Nat) (B : TB) (T : TM) (D : Dsk) (off : Bool) (W : World) : Prop := qAu (fun k => TS B k \/ n₀ <= k) W B T D off /\ (∀ k, TS B k -> k < n₀) /\ n₀ <= W.heap.size
theorem TW.below {n₀ : Nat} {B : TB} {T : TM} {D : Dsk} {off : Bool} {W W' : World} (h : TW n₀ B T D off W) (hb : RowKit.Below n₀ W W') : TW n₀ B T D off W' :=
 ⟨h.1.mod (Mod.of_below hb) (fun _ e => .inr e) (fun k e ht => by have := h.2.1 k ht; omega), h.2.1, Nat.le_trans h.2.2 hb.size⟩
theorem TW.start {w : World} {B : TB} {T : TM} {D : Dsk} {off : Bool} (h : qAu (TS B) w B T D off) : TW w.heap.size B T D off w :=
 ⟨h.narrow (fun k hk e => e.elim id (fun e => by omega)), fun _ hk => h.lt hk, Nat.le_refl _⟩
def qYi (look : Int -> Option NP) (f : Nat) (key : ByteArray) (leaf : Bool) (l : List Ent) : Option (List KV) := if leaf then some ((l.map pvE).filter (geK key)) else qVy (fun s => qJb look f s key) l
def jIl (n₀ : Nat) (J Jx : List KV -> World -> Prop) (pre L : List KV) (W : World) (e : Ending) (W' : World) : Prop :=
 (e = .returned (.bool true) /\ J (pre ++ L) W' /\ Kp n₀ W W') \/ (e = .returned (.bool false) /\ ∃ q, q <+: L /\ Jx (pre ++ q) W')
structure WRel (n₀ : Nat) (J : List KV -> World -> Prop) (B : TB) (T : TM) (D : Dsk) (off : Bool) (W wr : World) (q : Nat) (m : Nd) (leaf : Bool) (es : List Ent) (key : ByteArray) (f : Nat) (pre L : List KV) (i : Nat) (dn : List KV) : Prop where
 j : J (pre ++ dn) wr
 kp : Kp n₀ W wr
 tw : TW n₀ B T D off wr
 box : wr.heap[q]? = some (.cells #[.bool m.leaf, .slice m.ka m.keys.length m.kc, .slice m.va m.values.length m.vc, .slice m.ia m.kids.length m.ic] 123 (0, 0))
 rest : ∃ R, qYi T.nodes f key leaf (es.drop i) = some R /\ L = dn ++ R
 le : i <= es.length
theorem jHu {α : Type} {l : List α} {i : Nat} {x : α} (h : l[i]? = some x) : l.drop i = x :: l.drop (i + 1) := by
 obtain ⟨hlt, rfl⟩ := List.getElem?_eq_some_iff.1 h; exact List.drop_eq_getElem_cons hlt
set_option maxRecDepth 100000
set_option maxHeartbeats 4000000 in
theorem jCc {n₀ N l : Nat} {B : TB} {T : TM} {D : Dsk} {off : Bool} {J Jx : List KV -> World -> Prop} (hJ : ∀ pre W W', J pre W -> Mod (fun _ => False) W W' -> J pre W') (key : ByteArray)
  (hY : ∀ m pre x W, J pre W -> pre.length < N -> YieldAt Fence.wide m Tryz.prog l #[.agg #[.string x.1, .string x.2]] W fun e W' => (e = .returned (.bool true) /\ J (pre ++ [x]) W' /\ Kp n₀ W W') \/ (e = .returned (.bool false) /\ Jx (pre ++ [x]) W')) :
  ∀ (f : Nat) (s : Int) (L pre : List KV) (W : World), qJb T.nodes f s key = some L -> TW n₀ B T D off W -> J pre W -> pre.length + L.length <= N →
   Calls Tryz.prog 74 #[.pointer (some ⟨B.tb, 0, none⟩), .int .i64 s, .string key, .func (.yield l) #[] #[]] W (jIl n₀ J Jx pre L W) := by
 intro f; induction f with
 | zero => intro s L pre W h; cases h
 | succ f ih =>
  intro s L pre W hw ht hj hN; obtain ⟨⟨leaf, es⟩, hn, hw2⟩ := Option.bind_eq_some_iff.1 (show (T.nodes s).bind _ = some L from hw)
  have HR0 : Hid (qYi T.nodes f key leaf (es.drop (qBr key es)) = some L) := hid hw2; obtain ⟨m, hlk, hh, hat, hbs⟩ := ht.1.nodes.get hn; have HG : Hid (qBd leaf es) := hid (by obtain ⟨l, _, _, h3⟩ := ht.1.nodes; exact (h3 _ _ hn).1)
  have HT := hid ht; have HJ := hid hj; have HH := hid hh; have HN := hid hat; have HB := hid hbs; have HIh := hid ih; have HNl := hid hN; have HJa := hid hJ; have HYa := hid hY; have HRi : Hid (qMc m.keys) := hid (by rw [HH.out.k]; exact qFo HG.out)
  obtain ⟨_, _, _, _, _, _, c6, _, _⟩ := ht.1.cells; have hl0 := hlk W (Mod.refl _ _) false; clear hw hw2 ht hj hN hn hlk hh hat hbs ih hJ hY; simp only [Nd.val, Bool.false_eq_true, if_false] at hl0; go_enter Tryz.func74, Tryz.ntmps74
  go_upto_region 2 with fail
  have HBx : Hid ((W.alloc (.cells #[.bool m.leaf, .slice m.ka m.keys.length m.kc, .slice m.va m.values.length m.vc, .slice m.ia m.kids.length m.ic] 123)).heap[W.heap.size]? = some (.cells #[.bool m.leaf, .slice m.ka m.keys.length m.kc, .slice m.va m.values.length m.vc, .slice m.ia m.kids.length m.ic] 123 (0, 0))) := hid (heap_alloc_new _ _); have HM2 : Hid (Mod (fun _ => False) W (W.alloc (.cells #[.bool m.leaf, .slice m.ka m.keys.length m.kc, .slice m.va m.values.length m.vc, .slice m.ia m.kids.length m.ic] 123))) := hid ((Mod.refl _ _).alloc _)
  have HPl := hid (qGf key (HN.out.nd.ext HM2.out) HRi.out); generalize W.alloc (.cells #[.bool m.leaf, .slice m.ka m.keys.length m.kc, .slice m.va m.values.length m.vc, .slice m.ia m.kids.length m.ic] 123) = Z at *; obtain ⟨x0, x1, x2, x3⟩ := cl4 HBx.out; go_upto_region 3 with (go_at_call 42; refine HPl.out.mono ?_; rintro e w3 ⟨⟨i, ok, hat, hok, rfl⟩, hm3⟩; have HAt := hid hat; have HOk := hid hok; have HM3 := hid hm3; obtain ⟨ii, hii⟩ : ∃ z : Int, (if ok = true then (i : Int) else ((i - 1 : Nat) : Int)) = z := ⟨_, rfl⟩; rw [hii]; have HIi := hid hii; clear hat hok hm3 hii)
  have HCut := hid (qNn (c := ⟨key, emp, false⟩) (es := es) (i := i) (ok := ok) (by have h1 := HRi.out; rw [HH.out.k] at h1; exact h1) (by have h1 := HAt.out; rw [HH.out.k] at h1; exact h1) (by have h1 := HOk.out; rw [HH.out.k] at h1; exact h1))
  have hil0 : i <= es.length := by have h1 := HAt.out.le; rw [HH.out.k, List.length_map] at h1; exact h1
  have hpe := qNy HCut.out hil0; change qBr key es = _ at hpe; obtain ⟨j0, hj0⟩ : ∃ j, qBr key es = j := ⟨_, rfl⟩; rw [hj0] at HR0 hpe; have hij : ii = (j0 : Int) := by rw [<- HIi.out, hpe]; cases ok <;> rfl
  have HJl : Hid (j0 <= es.length) := hid (by rw [hpe]; cases ok <;> simp only [Bool.false_eq_true, if_false, if_true] <;> omega)
  subst hij; have HKs : Hid (m.keys.length = es.length) := hid (by rw [HH.out.k, List.length_map])
  have HMz := hid (HM2.out.trans HM3.out); have HW0 : Hid (WRel n₀ J B T D off W w3 W.heap.size m leaf es key f pre L j0 []) := hid ⟨by rw [List.append_nil]; exact HJa.out _ _ _ HJ.out HMz.out, Kp.of_mod HMz.out HT.out.2.2, HT.out.below (HMz.out.below HT.out.2.2 (fun _ e => e.elim)), qAp HM3.out HBx.out, ⟨L, HR0.out, rfl⟩, HJl.out⟩
  have HLn : Hid (es.length <= 511) := hid HG.out.len; generalize W.heap.size = q at *; clear x0 x1 x2 x3 hil0 hpe hj0 c6 hl0 HCut HIi HAt HOk HPl HBx HR0 HJl HMz; have hkl : m.keys.length = es.length := HKs.out; have hlL : es.length <= 511 := HLn.out; go_loopw [10] (fun si wr => ∃ (i : Nat) (dn : List KV), si = .int .i64 (i : Int) /\ WRel n₀ J B T D off W wr q m leaf es key f pre L i dn) (fun si _ => es.length - (intOf si).toNat)
  case atStart => exact ⟨j0, [], rfl, HW0.out⟩
  case round =>
   obtain ⟨i, dn, rfl, hrel⟩ := hrel; obtain ⟨R, hR, hL⟩ := hrel.rest; have HRel := hid hrel; have HL := hid hL; obtain ⟨y0, y1, y2, y3⟩ := cl4 hrel.box; have hile := hrel.le; clear hrel hL; by_cases hlt : i < es.length
   ·obtain ⟨x, hx⟩ : ∃ x, es[i]? = some x := ⟨_, List.getElem?_eq_getElem hlt⟩; have hdr := jHu hx; rw [hdr] at hR; have d0 : decide ((i : Int) < (m.keys.length : Int)) = true := by simp; omega
    have d1 : decide (i < m.keys.length) = true := by simp; omega
    have hgk : m.keys[i]? = some x.key := by rw [HH.out.k, List.getElem?_map, hx]; rfl
    have hdk : ¬ m.keys.length <= i := by omega
    have hnr : NdAt wr m := (qBm HN.out (fun k hk => (HB.out k hk).1) (Mod.of_below HRel.out.kp.1) (fun k e => .inr e)).nd
    cases leaf with
    | true =>
     have hlf : m.leaf = true := HH.out.l; rw [hlf] at y0; have hR1 : some (((x :: es.drop (i + 1)).map pvE).filter (geK key)) = some R := hR; cases hg : kl x.key key with
     | true =>
      have d2 : Op.bytesLess x.key.toList key.toList = true := hg; have hR3 : some (((es.drop (i + 1)).map pvE).filter (geK key)) = some R := by
       rw [<- hR1, List.map_cons, List.filter_cons_of_neg (by rw [jAi (p := pvE x) hg]; exact Bool.false_ne_true)]
      have HR4 : Hid (WRel n₀ J B T D off W wr q m true es key f pre L (i + 1) dn) := hid ⟨HRel.out.j, HRel.out.kp, HRel.out.tw, HRel.out.box, ⟨R, hR3, HL.out⟩, by omega⟩
      obtain ⟨gk, ok2, hka, hkc⟩ := hnr.k.one hgk; rw [hka] at y1; clear hlf hx hR hR1 hR3 hdr hgk hnr hka y2 y3 hkl hile hg; go_wp2_with fail
      go_roundw
      case rel => exact ⟨i + 1, dn, by go_num, HR4.out⟩
      case measure => simp [intOf]; omega
     | false =>
      have d2 : Op.bytesLess x.key.toList key.toList = false := hg; have hgx : geK key (pvE x) = true := by unfold geK pvE; rw [hg]; rfl
      obtain ⟨R', hR', hRe⟩ : ∃ R', some (((es.drop (i + 1)).map pvE).filter (geK key)) = some R' /\ R = pvE x :: R' := ⟨_, rfl, by
       rw [List.map_cons, List.filter_cons_of_pos hgx] at hR1; exact (Option.some.inj hR1).symm⟩
      have HRn : Hid (L = dn ++ (pvE x :: R')) := hid (by rw [HL.out, hRe])
      have HRb : Hid (qYi T.nodes f key true (es.drop (i + 1)) = some R') := hid hR'; have hvs : m.values[i]? = some x.value := by rw [HH.out.v]; show (es.map (·.value))[i]? = _; rw [List.getElem?_map, hx]; rfl
      have hvl : i < m.values.length := (List.getElem?_eq_some_iff.1 hvs).1; have hdv : ¬ m.values.length <= i := by omega
      obtain ⟨gk, ok2, hka, hkc⟩ := hnr.k.one hgk; obtain ⟨gv, ov, hva, hvc⟩ := hnr.v.one hvs; rw [hka] at y1; rw [hva] at y2; have HHl := hid hlf; have hNx : (pre ++ dn).length < N := by
       have h1 := HNl.out; rw [HRn.out] at h1; simp only [List.length_append, List.length_cons] at h1 ⊢; omega
      have HNx := hid hNx; clear hlf hx hR hR1 hR' hRe hdr hgk hnr hka hva hvs y3 hkl hile hg hgx hNx; go_upto_region 5 with fail
      have g1 := fun y : Ext wr => y.cell y1
      have g2 := fun y : Ext wr => y.cell y2
      have gkc := fun y : Ext wr => y.cell hkc
      have gvc := fun y : Ext wr => y.cell hvc
      clear y0 y1 y2 hkc hvc; refine (wpIn_wide (n := 0)).1 (qHb 12 (by kernel_rfl) (by kernel_rfl) ?_)
      simp only [List.take_succ_cons, List.take_zero, List.drop_succ_cons, List.drop_zero]; repeat (go_big_quiet_step (fail))
      refine wpQuiet_nil ?_; rintro _ ⟨z, rfl⟩; obtain ⟨fn, tmps, assign, body, hy, hR⟩ := HYa.out 0 (pre ++ dn) (pvE x) z.val (HJa.out _ _ _ HRel.out.j z.mod) HNx.out; dsimp only [pvE] at hy; have HKz := hid (Kp.of_mod z.mod (Nat.le_trans HT.out.2.2 (HRel.out.kp.1.size))); clear g1 g2 gkc gvc; gi_wp2
      refine ⟨rfl, hR.mono ?_⟩; rintro e w4 (⟨rfl, hj4, hk4⟩ | ⟨rfl, hx4⟩)
      ·have HR4 : Hid (WRel n₀ J B T D off W w4 q m true es key f pre L (i + 1) (dn ++ [pvE x])) := hid ⟨by rw [<- List.append_assoc]; exact hj4, (HRel.out.kp.trans HKz.out).trans hk4, HRel.out.tw.below (HKz.out.trans hk4).1, (HKz.out.trans hk4).2 _ _ HRel.out.box, ⟨R', HRb.out, by rw [HRn.out, List.append_assoc]; rfl⟩, by omega⟩
       clear hj4 hk4; gi_wp2
       go_wp2_with fail
       go_roundw
       case rel => exact ⟨i + 1, dn ++ [pvE x], by go_num, HR4.out⟩
       case measure => simp [intOf]; omega
      ·gi_wp2
       go_wp2_with fail
       go_ret; refine .inr ⟨rfl, dn ++ [pvE x], ?_, by rw [<- List.append_assoc]; exact hx4⟩
       rw [HRn.out]; exact ⟨R', by simp⟩
    | false =>
     obtain ⟨a, ha, hR2⟩ := Option.bind_eq_some_iff.1 (show (qJb T.nodes f x.kid key).bind _ = some R from hR)
     obtain ⟨b, hb, hab⟩ := Option.map_eq_some_iff.1 hR2; have hlf : m.leaf = false := HH.out.l; rw [hlf] at y0; have hgi : m.kids[i]? = some x.kid := by rw [HH.out.i]; show (es.map (·.kid))[i]? = _; rw [List.getElem?_map, hx]; rfl
     have hil : i < m.kids.length := (List.getElem?_eq_some_iff.1 hgi).1; have hdi : ¬ m.kids.length <= i := by omega
     obtain ⟨gi, oi, hia, hkc⟩ := hnr.i.one hgi; rw [hia] at y3; have HRn : Hid (L = dn ++ (a ++ b)) := hid (by rw [HL.out, <- hab])
     have HRb : Hid (qYi T.nodes f key false (es.drop (i + 1)) = some b) := hid hb; have HC := hid (HIh.out x.kid a (pre ++ dn) wr ha HRel.out.tw HRel.out.j (by have h1 := HNl.out; rw [HRn.out] at h1; simp only [List.length_append] at h1 ⊢; omega))
     clear hlf hx hR hR2 hb hab ha hdr hgk hgi hnr hia y2 hkl hile; go_wp2_with (go_at_call 74; refine HC.out.mono ?_; rintro e w4 (⟨rfl, hj4, hk4⟩ | ⟨rfl, q4, hq4, hx4⟩))
     ·have HR4 : Hid (WRel n₀ J B T D off W w4 q m false es key f pre L (i + 1) (dn ++ a)) := hid ⟨by rw [<- List.append_assoc]; exact hj4, HRel.out.kp.trans hk4, HRel.out.tw.below hk4.1, hk4.2 _ _ HRel.out.box, ⟨b, HRb.out, by rw [HRn.out, List.append_assoc]⟩, by omega⟩
      clear hj4 hk4; go_roundw
      case rel =>
       exact ⟨i + 1, dn ++ a, by go_num, HR4.out⟩
      case measure => simp [intOf]; omega
     ·go_ret; refine .inr ⟨rfl, dn ++ q4, ?_, by rw [<- List.append_assoc]; exact hx4⟩
      rw [HRn.out]; obtain ⟨z, hz⟩ := hq4; exact ⟨z ++ b, by rw [<- hz]; simp⟩
   ·have hie : es.drop i = [] := List.drop_eq_nil_of_le (by omega)
    rw [hie] at hR; have hR0 : R = [] := by
     unfold qYi at hR; cases leaf with
     | true => simpa using hR.symm
     | false => have h1 : some [] = some R := hR; cases h1; rfl
    have HLd : Hid (L = dn) := hid (by rw [HL.out, hR0, List.append_nil])
    have d0 : decide ((i : Int) < (m.keys.length : Int)) = false := by simp; omega
    have d1 : decide (i < m.keys.length) = false := by simp; omega
    clear hR hie hR0 hkl hlt hile hlL; go_wp2_with fail
    go_ret; exact .inl ⟨rfl, by rw [HLd.out]; exact HRel.out.j, HRel.out.kp⟩
end
section
open Go Go.RowKit
attribute [local go_sem] Oper.semAt_some
theorem qWw {J : List KV -> World -> Prop} {B : Nat} (h : AbidesFrom B J) : ∀ pre W W', J pre W -> Mod (fun _ => False) W W' -> J pre W' := fun pre W W' hj hm => h pre W W' none hj ⟨hm.os, hm.tape, hm.output, hm.size, fun k hk _ => hm.block k hk (fun e => e)⟩ (fun r e => by cases e)
theorem qXa {P : Program} {l m m' : Nat} {args : Array Value} {W : World} {R : Ending -> World -> Prop} (h : YieldAt Fence.wide m P l args W R) : YieldAt Fence.wide m' P l args W R := by
 obtain ⟨fn, tmps, assign, body, hy, hR⟩ := h; exact ⟨fn, tmps, assign, body, hy, hR.1, fun c cs _ => hR.2 c cs (room_wide _)⟩
set_option maxRecDepth 100000
set_option maxHeartbeats 1000000 in
theorem qVs {n₀ l F bt bf : Nat} {B : TB} {T : TM} {D : Dsk} {off : Bool} {J Jx : List KV -> World -> Prop} (hJ : ∀ pre W W', J pre W -> Mod (fun _ => False) W W' -> J pre W') {key : ByteArray} {L : List KV}
  (hY : ∀ m pre x W, J pre W -> pre.length < L.length -> YieldAt Fence.wide m Tryz.prog l #[.agg #[.string x.1, .string x.2]] W fun e W' => (e = .returned (.bool true) /\ J (pre ++ [x]) W' /\ Kp n₀ W W') \/ (e = .returned (.bool false) /\ Jx (pre ++ [x]) W'))
  (hL : qJb T.nodes F T.root key = some L) {W : World} (ht : TW n₀ B T D off W) (hj : J [] W) (hbt : W.cell? ⟨bt, 0, none⟩ = some (.pointer (some ⟨B.tb, 0, none⟩))) (hbf : W.cell? ⟨bf, 0, none⟩ = some (.string key)) :
  Calls Tryz.prog 73 #[.func (.yield l) #[] #[], .pointer (some ⟨bt, 0, none⟩), .pointer (some ⟨bf, 0, none⟩)] W fun e W' => (∃ v, e = .returned v) /\ ((∃ xs, xs = L /\ J xs W') \/ ∃ pre, pre <+: L /\ Jx pre W') := by
 have HW := hid (fun (z : World) (hm : Mod (fun _ => False) W z) => jCc hJ key hY F T.root L [] z hL (ht.below (hm.below ht.2.2 (fun _ e => e.elim))) (hJ _ _ _ hj hm) (by simp))
 obtain ⟨c0, _⟩ := ht.1.cells; have g0 := fun y : Ext W => y.cell c0
 have g1 := fun y : Ext W => y.cell hbt
 have g2 := fun y : Ext W => y.cell hbf
 clear hJ hY hL ht hj hbt hbf c0; go_enter Tryz.func73, Tryz.ntmps73
 refine qAs 8 (by kernel_rfl) (by kernel_rfl) ?_
 simp only [List.take_succ_cons, List.take_zero, List.drop_succ_cons, List.drop_zero]; repeat (go_big_quiet_step (fail))
 refine wpQuiet_nil ?_; rintro _ ⟨z, rfl⟩; have HC := hid (HW.out z.val z.mod); clear g0 g1 g2; go_wp2_with (go_at_call 74; refine HC.out.mono ?_; rintro e w4 (⟨rfl, hj4, hk4⟩ | ⟨rfl, q4, hq4, hx4⟩))
 ·go_end0; exact ⟨⟨_, rfl⟩, .inl ⟨L, rfl, hj4⟩⟩
 ·go_end0; exact ⟨⟨_, rfl⟩, .inr ⟨q4, hq4, hx4⟩⟩
theorem qRp {n₀ n F bt bf : Nat} {B : TB} {T : TM} {D : Dsk} {off : Bool} {key : ByteArray} {L : List KV} (hL : qJb T.nodes F T.root key = some L) {w : World} (ht : TW n₀ B T D off w)
  (hbt : w.cell? ⟨bt, 0, none⟩ = some (.pointer (some ⟨B.tb, 0, none⟩))) (hbf : w.cell? ⟨bf, 0, none⟩ = some (.string key)) (h1 : bt < w.heap.size) (h2 : bf < w.heap.size) :
  SeqStopsK Fence.wide n Tryz.prog 73 #[.pointer (some ⟨bt, 0, none⟩), .pointer (some ⟨bf, 0, none⟩)] (fun x : KV => #[Value.agg #[.string x.1, .string x.2]]) (Kp n₀) (fun ys => ys = L) (fun pre => pre <+: L) L.length w := fun _ _ _ _ hW hJa _ hY h0 =>
 callsIn_wide.2 (qVs (qWw hJa) (fun _m pre x W1 hj hl => qXa (hY pre x W1 hj hl)) hL (ht.below (hW.mono ht.2.2)) h0 ((hW.cell (p := ⟨bt, 0, none⟩) h1).trans hbt) ((hW.cell (p := ⟨bf, 0, none⟩) h2).trans hbf))
theorem qYw (w : World) (tb : Nat) (key : ByteArray) : Calls Tryz.prog 36 #[.pointer (some ⟨tb, 0, none⟩), .string key] w fun e w' => e = .returned (.func (.func 73) #[] #[.pointer (some ⟨w.heap.size, 0, none⟩), .pointer (some ⟨w.heap.size + 1, 0, none⟩)]) /\ w' = (w.alloc (.cells #[.pointer (some ⟨tb, 0, none⟩)] 27)).alloc (.cells #[.string key] 9) := by
 go_enter Tryz.func36, Tryz.ntmps36
 go_wp2
 go_ret; exact ⟨rfl, rfl⟩
theorem jJm : (Tryz.prog.info? 41).map (fun i => (i.zero, i.size, i.bytes)) = some (some (.agg #[.string ⟨#[]⟩, .string ⟨#[]⟩]), 2, 32) := by kernel_rfl
structure qPc (w W : World) (most : Int) (pre : List KV) : Prop where
 out : ∃ la cap, W.heap[w.heap.size + 1]? = some (.cells #[.slice la pre.length cap] 38 (0, 0)) /\ Own W 41 2 la pre.length cap (pre.flatMap kcs) /\ ∀ b, blk la b -> w.heap.size <= b
 most : W.heap[w.heap.size]? = some (.cells #[.int .i64 most] 3 (0, 0))
 mod : Mod (fun _ => False) w W
theorem Own.cells {w : World} {e : TypeId} {size : Nat} {sa : Option Addr} {n cap : Nat} {xs : List Value} (h : Own w e size sa n cap xs) {k : Nat} (hk : blk sa k) : ∃ cur, w.heap[k]? = some (.cells cur e (0, 0)) := by
 obtain ⟨a, rfl, rfl⟩ := hk; rcases h.2.2.2 with ⟨h0, _⟩ | ⟨g, off, cur, h1, h2, _⟩
 ·cases h0
 ·cases h1; exact ⟨cur, h2⟩
theorem qPc.turn {w X Y : World} {most : Int} {pre : List KV} {row : Option Nat} {B : Nat} (h : qPc w X most pre) (hg : X.grownBy Y row) (hr : ∀ r, row = some r -> B <= r /\ ∃ o : Obj, X.heap[r]? = some o /\ o.isCells = false) (hB : w.heap.size <= B) : qPc w Y most pre := by
 have hm : Mod (fun k => row = some k) X Y := ⟨hg.os, hg.tape, hg.output, hg.size, fun k hk hn => hg.block k hk (fun e => hn e.symm)⟩
 have hnc : ∀ k cs t, X.heap[k]? = some (.cells cs t (0, 0)) -> row ≠ some k := fun k cs t hk e => by
  obtain ⟨_, o, ho, hc⟩ := hr k e; rw [hk] at ho; cases ho; cases hc
 obtain ⟨la, cap, h1, h2, h3⟩ := h.out; refine ⟨⟨la, cap, (hm.block _ (lth h1) (hnc _ _ _ h1)).trans h1, h2.mod hm (fun k hk e => ?_), h3⟩, (hm.block _ (lth h.most) (hnc _ _ _ h.most)).trans h.most, h.mod.then hm (fun k hk e => ?_)⟩
 ·obtain ⟨cur, hc⟩ := h2.cells hk; exact hnc _ _ _ hc e
 ·have h4 := (hr k e).1; omega
def qMb (w : World) (L : List KV) (e : Ending) (w' : World) : Prop := ∃ la cap, e = .returned (.slice la L.length cap) /\ Own w' 41 2 la L.length cap (L.flatMap kcs) /\ (∀ b, blk la b -> w.heap.size <= b) /\ Mod (fun _ => False) w w'
theorem qTg {w W : World} {most : Int} {pre L : List KV} {la : Option Addr} {cap D : Nat} {ds : List Deferred} {o' : Obj} (h : qPc w W most pre) (ho : Own W 41 2 la pre.length cap (pre.flatMap kcs)) (hb : ∀ b, blk la b -> w.heap.size <= b) (hK : W.heap[D]? = some (.deferred (some ds))) (hD : w.heap.size <= D) (hL : L = pre) :
  qMb w L (.returned (.slice la pre.length cap)) (W.putObj D o') := by
 subst hL; have hm : Mod (fun k => k = D) W (W.putObj D o') := ⟨rfl, rfl, rfl, by simp, fun k _ hk => World.putObj_heap_other hk⟩
 refine ⟨la, cap, rfl, ho.mod hm (fun k hk e => ?_), hb, h.mod.then hm (fun k hk e => by omega)⟩
 obtain ⟨cur, hc⟩ := ho.cells hk; rw [e, hK] at hc; cases hc
theorem jEd {n₀ : Nat} {W : World} {l : Nat} {o : Obj} (o' : Obj) (hn : n₀ <= l) (h : W.heap[l]? = some o) (hc : o.isCells = false) : Kp n₀ W (W.putObj l o') :=
 ⟨⟨rfl, rfl, rfl, by simp, fun k hk => World.putObj_heap_other (by omega)⟩, fun k vs hk => (World.putObj_heap_other (fun e => by rw [e, h] at hk; cases hk; cases hc)).trans hk⟩
theorem qYc (w : World) (v : Value) (most : Int) : Calls Tryz.prog 12 #[.pointer none, v, .int .i64 most] w fun e w' => e = .returned (.slice none 0 0) /\ Mod (fun _ => False) w w' := by
 go_enter Tryz.func12, Tryz.ntmps12
 go_wp2
 go_ret; exact ⟨rfl, (Mod.refl _ _).alloc _⟩
theorem qTf {S : Nat -> Prop} {w : World} {B : TB} {T : TM} {D : Dsk} {off : Bool} (h : qAu S w B T D off) {most : Int} (hm : T.root = 0 \/ most < 1) (v : Value) : Calls Tryz.prog 12 #[.pointer (some ⟨B.tb, 0, none⟩), v, .int .i64 most] w fun e w' => e = .returned (.slice none 0 0) /\ Mod (fun _ => False) w w' := by
 have hma : Mod (fun _ => False) w (w.alloc (.cells #[.int .i64 most] 3)) := (Mod.refl _ w).alloc _
 obtain ⟨c0, _⟩ := (h.mod hma (fun _ e => e.elim) (fun _ e => e.elim)).cells
 have hM := hid hma; clear h hma; by_cases h0 : T.root = 0
 ·rw [h0] at c0; clear hm h0; go_enter Tryz.func12, Tryz.ntmps12
  go_wp2
  go_ret; exact ⟨rfl, hM.out⟩
 ·have d0 : (T.root == 0) = false := by rw [beq_eq_false_iff_ne]; exact h0
  have d1 : decide (most < 1) = true := by simpa using hm.resolve_left h0
  clear hm h0; go_enter Tryz.func12, Tryz.ntmps12
  go_wp2
  go_ret; exact ⟨rfl, hM.out⟩
set_option maxHeartbeats 4000000 in
theorem jCx {w : World} {B : TB} {T : TM} {D : Dsk} {off : Bool} (h : qAu (TS B) w B T D off) (h0 : T.root ≠ 0) {most : Int} (hm : 1 <= most) {F : Nat} {key : ByteArray} {L : List KV} (hL : qJb T.nodes F T.root key = some L) (hb : L.length <= 1099511627776) :
  Calls Tryz.prog 12 #[.pointer (some ⟨B.tb, 0, none⟩), .string key, .int .i64 most] w (qMb w (L.take most.toNat)) := by
 obtain ⟨i0, hi, hz0, hz1, hz2⟩ := info_parts jJm; obtain ⟨c0, _⟩ := h.cells; have d0 : (T.root == 0) = false := by rw [beq_eq_false_iff_ne]; exact h0
 have d1 : decide (most < 1) = false := by simpa using hm
 have HT := hid (TW.start h); have c0' : (w.alloc (.cells #[.int .i64 most] 3)).cell? ⟨B.tb, 0, none⟩ = some (.int .i64 T.root) := (((Mod.refl (fun _ => False) w).alloc _).cell (p := ⟨B.tb, 0, none⟩) (lth h.box) (fun e => e)).trans c0
 have HL := hid hL; have HB := hid hb; clear h h0 hm hL hb; refine (callsIn_wide (n := 3)).1 ?_; refine callsIn_of_wp_marks Tryz.func12 rfl trivial ?_ rfl; simp only [Tryz.ntmps12, List.size_toArray, List.length_cons, List.length_nil, Nat.reduceAdd, Nat.reduceSub, Array.replicate_succ, Array.replicate_zero, List.push_toArray, List.append_toArray, List.nil_append, List.cons_append]; refine wpIn_wide.2 ?_; go_wp2_with (go_at_call 36; refine (qYw _ _ _).mono ?_; rintro e w' ⟨rfl, rfl⟩)
 have hsz : ((((w.alloc (.cells #[.int .i64 most] 3)).alloc (.cells #[.slice none 0 0] 38)).alloc (.cells #[.pointer (some ⟨B.tb, 0, none⟩)] 27)).alloc (.cells #[.string key] 9)).heap.size = w.heap.size + 4 := by simp
 have hM0 : Mod (fun _ => False) w ((((w.alloc (.cells #[.int .i64 most] 3)).alloc (.cells #[.slice none 0 0] 38)).alloc (.cells #[.pointer (some ⟨B.tb, 0, none⟩)] 27)).alloc (.cells #[.string key] 9)) := ((((Mod.refl _ _).alloc _).alloc _).alloc _).alloc _
 have hB0 := qAp (((((Mod.refl (fun _ => False) (w.alloc (.cells #[.int .i64 most] 3))).alloc (.cells #[.slice none 0 0] 38)).alloc (.cells #[.pointer (some ⟨B.tb, 0, none⟩)] 27)).alloc (.cells #[.string key] 9))) (heap_alloc_new w (.cells #[.int .i64 most] 3))
 have hB1 := qAp (((Mod.refl (fun _ => False) ((w.alloc (.cells #[.int .i64 most] 3)).alloc (.cells #[.slice none 0 0] 38))).alloc (.cells #[.pointer (some ⟨B.tb, 0, none⟩)] 27)).alloc (.cells #[.string key] 9)) (heap_alloc_new (w.alloc (.cells #[.int .i64 most] 3)) (.cells #[.slice none 0 0] 38))
 have hB2 := qAp ((Mod.refl (fun _ => False) (((w.alloc (.cells #[.int .i64 most] 3)).alloc (.cells #[.slice none 0 0] 38)).alloc (.cells #[.pointer (some ⟨B.tb, 0, none⟩)] 27))).alloc (.cells #[.string key] 9)) (heap_alloc_new ((w.alloc (.cells #[.int .i64 most] 3)).alloc (.cells #[.slice none 0 0] 38)) (.cells #[.pointer (some ⟨B.tb, 0, none⟩)] 27))
 have hB3 := heap_alloc_new (((w.alloc (.cells #[.int .i64 most] 3)).alloc (.cells #[.slice none 0 0] 38)).alloc (.cells #[.pointer (some ⟨B.tb, 0, none⟩)] 27)) (.cells #[.string key] 9); simp only [World.size_alloc] at hB1 hB2 hB3; generalize ((((w.alloc (.cells #[.int .i64 most] 3)).alloc (.cells #[.slice none 0 0] 38)).alloc (.cells #[.pointer (some ⟨B.tb, 0, none⟩)] 27)).alloc (.cells #[.string key] 9)) = W0 at *; have hT0 : TW w.heap.size B T D off W0 := HT.out.below (hM0.below (Nat.le_refl _) (fun _ e => e.elim))
 have hI0 : qPc w W0 most [] := ⟨⟨none, 0, hB1, Own.nil _ _ _, fun k hk => (qAm k hk).elim⟩, hB0, hM0⟩
 refine wpIn_wide.1 (wpIn_rangeFunc_ownH (n := 3) rfl (by omega) (gf := 73) (lb := #[.pointer (some ⟨w.heap.size + 1 + 1, 0, none⟩), .pointer (some ⟨w.heap.size + 1 + 1 + 1, 0, none⟩)]) rfl trivial (enters_of Tryz.func73 (by kernel_rfl) rfl)
  (qRp HL.out hT0 (by rw [cell_of_row _ _ _ _ _ _ hB2]; rfl) (by rw [cell_of_row _ _ _ _ _ _ hB3]; rfl) (by omega) (by omega)) (fun h k => h.trans k) (fun W l o o' hl hk hc _ => jEd o' (by omega) hk hc) (RowKit.Below.refl _ _) (fun _ => rfl)
  (fun pre W => qPc w W most pre /\ (pre.length : Int) < most)
  (fun c pre W => c = .exit 0 /\ qPc w W most pre /\ (pre.length : Int) = most)
  (fun s X Y row hs hg hr => ⟨hs.1.turn hg hr (by omega), hs.2⟩)
  (fun c s X Y row hs hg hr => ⟨hs.1, hs.2.1.turn hg hr (by omega), hs.2.2⟩)
  ⟨hI0, by have h1 : ¬ most < 1 := (by simpa using d1); simp; omega⟩
  (fun x a' W => ∃ Bx, W.heap[Bx]? = some (.cells #[.string x.1, .string x.2] 41 (0, 0)) /\ a' = { tmps := #[.pointer (some ⟨B.tb, 0, none⟩), .string key, .int .i64 most, undef, undef, .pointer (some ⟨w.heap.size, 0, none⟩), .slice none 0 0, .pointer (some ⟨w.heap.size + 1, 0, none⟩), .pointer (some ⟨Bx, 0, none⟩), .pointer (some ⟨B.tb, 0, none⟩), .bool false, .bool false, .pointer (some ⟨B.tb, 0, none⟩), .pointer (some ⟨B.tb, 0, none⟩), .pointer (some ⟨B.tb, 0, none⟩), .pointer (some ⟨B.tb, 0, none⟩), .int .i64 T.root, .bool false, .bool false, .bool false, .int .i64 most, .bool false, .bool false, .pointer (some ⟨B.tb, 0, none⟩), .string key, .func (.func 73) #[] #[.pointer (some ⟨w.heap.size + 1 + 1, 0, none⟩), .pointer (some ⟨w.heap.size + 1 + 1 + 1, 0, none⟩)], .agg #[.string x.1, .string x.2], undef, undef, undef, undef, undef, undef, undef, undef, undef], defers := [] })
  (fun x a' _ X Y row hs hg hr => by
   obtain ⟨Bx, h1, h3⟩ := hs; refine ⟨Bx, (hg.block Bx (lth h1) (fun e => ?_)).trans h1, h3⟩
   obtain ⟨_, o, ho, hc⟩ := hr Bx e.symm; rw [h1] at ho; cases ho; cases hc)
  ?assign ?body ?done ?stop)
 case assign =>
  rintro l pre x W K ⟨hI, hlt⟩ hK; have hma : Mod (fun _ => False) W (W.alloc (.cells #[.string x.1, .string x.2] 41)) := (Mod.refl _ _).alloc _
  gi_wp2
  have hIa : qPc w (W.alloc (.cells #[.string x.1, .string x.2] 41)) most pre := hI.turn (row := none) ⟨hma.os, hma.tape, hma.output, hma.size, fun k hk _ => hma.block k hk (fun e => e)⟩ (fun r e => by cases e) (Nat.le_refl _)
  exact hK _ _ ((KeepsOthers.alloc _ _).from _) (Kp.of_mod hma hI.mod.size) ⟨hIa, hlt⟩ ⟨W.heap.size, heap_alloc_new _ _, rfl⟩
 case body =>
  rintro l pre x a' W hl ⟨r, hr⟩ ⟨hI, hlt⟩ ⟨Bx, hBx, rfl⟩ hlen; obtain ⟨la, cap, hbo, hown, hbl⟩ := hI.out; obtain ⟨x1, x2⟩ := x; have q0 : W.cell? ⟨Bx, 0, none⟩ = some (.string x1) := by rw [cell_of_row _ _ _ _ _ _ hBx]; rfl
  have q1 : W.cell? ⟨Bx, 1, none⟩ = some (.string x2) := by rw [cell_of_row _ _ _ _ _ _ hBx]; rfl
  have qo : W.cell? ⟨w.heap.size + 1, 0, none⟩ = some (.slice la pre.length cap) := by rw [cell_of_row _ _ _ _ _ _ hbo]; rfl
  have HI := hid hI; have HO := hid hown; have HBl := hid hbl; have HBo := hid hbo; have hpl : pre.length < L.length := hlen; have hpb : pre.length + 1 <= 1099511627776 := by have := HB.out; omega
  have HLt := hid hlt; clear hI hr hBx hbo hown hbl hlen hlt; have HNb : Hid (¬ blk la (w.heap.size + 1)) := hid (fun e => by
   obtain ⟨cur, hc⟩ := HO.out.cells e; rw [HBo.out] at hc; cases hc)
  have HNm : Hid (¬ blk la w.heap.size) := hid (fun e => by
   obtain ⟨cur, hc⟩ := HO.out.cells e; rw [HI.out.most] at hc; cases hc)
  have HFin : Hid (∀ (w5 : World) (la5 : Option Addr) (cap5 : Nat), Mod (blk la) W w5 -> w5.heap[w.heap.size + 1]? = some (.cells #[.slice la pre.length cap] 38 (0, 0)) -> w5.heap[w.heap.size]? = some (.cells #[.int .i64 most] 3 (0, 0)) -> Own w5 41 2 la5 (pre.length + 1) cap5 (pre.flatMap kcs ++ [.string x1, .string x2]) -> (∀ k, blk la5 k -> w.heap.size <= k) →
    KeepsFrom W0.heap.size W (w5.setCell ⟨w.heap.size + 1, 0, none⟩ (.slice la5 (pre.length + 1) cap5)) /\ Kp w.heap.size W (w5.setCell ⟨w.heap.size + 1, 0, none⟩ (.slice la5 (pre.length + 1) cap5)) /\ qPc w (w5.setCell ⟨w.heap.size + 1, 0, none⟩ (.slice la5 (pre.length + 1) cap5)) most (pre ++ [(x1, x2)])) := hid (fun w5 la5 cap5 hm5 hb5 hbm5 ho5 hbl5 => by
   have hm6 : Mod (fun k => blk la k \/ k = w.heap.size + 1) W (w5.setCell ⟨w.heap.size + 1, 0, none⟩ (.slice la5 (pre.length + 1) cap5)) := (hm5.mono (fun k _ e => .inl e)).setCell (p := ⟨w.heap.size + 1, 0, none⟩) (fun _ => .inr rfl) _
   have hmS : Mod (fun k => k = w.heap.size + 1) w5 (w5.setCell ⟨w.heap.size + 1, 0, none⟩ (.slice la5 (pre.length + 1) cap5)) := Mod.setCell (S := fun k => k = w.heap.size + 1) (p := ⟨w.heap.size + 1, 0, none⟩) (Mod.refl _ _) (fun _ => rfl) _
   have hcl : ∀ k, (blk la k \/ k = w.heap.size + 1) -> ∃ cur t, W.heap[k]? = some (.cells cur t (0, 0)) /\ t ≠ 123 := fun k hk => by
    rcases hk with hk | hk
    ·obtain ⟨cur, hc⟩ := HO.out.cells hk; exact ⟨cur, _, hc, by decide⟩
    ·rw [hk]; exact ⟨_, _, HBo.out, by decide⟩
   refine ⟨qOg _ hm6 (fun k o hk ho => ?_), ⟨hm6.below HI.out.mod.size (fun k hk => ?_), fun k vs hk => (hm6.block k (lth hk) (fun e => ?_)).trans hk⟩, ⟨la5, cap5, ?_, ?_, hbl5⟩, (hmS.block _ (lth hbm5) (by omega)).trans hbm5, HI.out.mod.then hm6 (fun k hk e => ?_)⟩
   ·obtain ⟨cur, t, hc, _⟩ := hcl k hk; rw [ho] at hc; cases hc; rfl
   ·rcases hk with hk | hk
    ·exact HBl.out k hk
    ·omega
   ·obtain ⟨cur, t, hc, hne⟩ := hcl k e; rw [hk] at hc; cases hc
    exact hne rfl
   ·rw [qAf hb5, List.length_append]; rfl
   ·rw [jEh, List.length_append]; refine ho5.mod hmS (fun k hk e => ?_)
    obtain ⟨cur, hc⟩ := ho5.cells hk; rw [e, hb5] at hc; cases hc
   ·rcases e with e | e
    ·have := HBl.out k e; omega
    ·omega)
  by_cases he : (pre.length : Int) + 1 = most
  ·have dE : (((pre.length : Int) + 1) == most) = true := by rw [beq_iff_eq]; exact he
   gi_wp2_with (gi_at_builtin; refine qEk rfl (.tmp 27) (.tmp 29) 38 rfl 41 i0 _ 2 32 Tryz.underlying38 hi hz0 hz1 hz2 rfl la pre.length cap _ rfl (qPx HO.out _) (some ⟨W.heap.size, 0, none⟩) 1 1 _ rfl (qTq _ _ _) qTr (by unfold maxLen; omega) (by omega) ?_; intro la5 cap5 w5 hown5 hmo5 hbo5 hn5 hr5; have HM5 : Hid (Mod (blk la) W w5) := hid (((Mod.refl _ W).alloc _).trans hmo5); have hb5 : w5.heap[w.heap.size + 1]? = some (.cells #[.slice la pre.length cap] 38 (0, 0)) := (HM5.out.block _ (lth HBo.out) HNb.out).trans HBo.out; have hm5 : w5.heap[w.heap.size]? = some (.cells #[.int .i64 most] 3 (0, 0)) := (HM5.out.block _ (lth HI.out.most) HNm.out).trans HI.out.most; have HB5 := hid hb5; have HMo5 := hid hm5; have HO5 := hid hown5; have HBl5 : Hid (∀ k, blk la5 k -> w.heap.size <= k) := hid (fun k hk => (hbo5 k hk).elim (fun e => HBl.out k e) (fun e => by have h1 := HI.out.mod.size; simp at e; omega)); have z1 := cell_of_row w5 (w.heap.size + 1) 0 _ _ _ hb5; have z2 := frozen_of_row w5 (w.heap.size + 1) 0 _ _ hb5; have z3 := cell_of_row w5 w.heap.size 0 _ _ _ hm5; simp only [List.getElem?_toArray, List.getElem?_cons_zero] at z1 z3; clear hown5 hmo5 hbo5 hn5 hr5 hb5 hm5)
   obtain ⟨f1, f2, f3⟩ := HFin.out w5 la5 cap5 HM5.out HB5.out HMo5.out HO5.out HBl5.out; exact ⟨f1, rfl, f3, by rw [List.length_append]; simpa using he⟩
  ·have dE : (((pre.length : Int) + 1) == most) = false := by rw [beq_eq_false_iff_ne]; exact he
   gi_wp2_with (gi_at_builtin; refine qEk rfl (.tmp 27) (.tmp 29) 38 rfl 41 i0 _ 2 32 Tryz.underlying38 hi hz0 hz1 hz2 rfl la pre.length cap _ rfl (qPx HO.out _) (some ⟨W.heap.size, 0, none⟩) 1 1 _ rfl (qTq _ _ _) qTr (by unfold maxLen; omega) (by omega) ?_; intro la5 cap5 w5 hown5 hmo5 hbo5 hn5 hr5; have HM5 : Hid (Mod (blk la) W w5) := hid (((Mod.refl _ W).alloc _).trans hmo5); have hb5 : w5.heap[w.heap.size + 1]? = some (.cells #[.slice la pre.length cap] 38 (0, 0)) := (HM5.out.block _ (lth HBo.out) HNb.out).trans HBo.out; have hm5 : w5.heap[w.heap.size]? = some (.cells #[.int .i64 most] 3 (0, 0)) := (HM5.out.block _ (lth HI.out.most) HNm.out).trans HI.out.most; have HB5 := hid hb5; have HMo5 := hid hm5; have HO5 := hid hown5; have HBl5 : Hid (∀ k, blk la5 k -> w.heap.size <= k) := hid (fun k hk => (hbo5 k hk).elim (fun e => HBl.out k e) (fun e => by have h1 := HI.out.mod.size; simp at e; omega)); have z1 := cell_of_row w5 (w.heap.size + 1) 0 _ _ _ hb5; have z2 := frozen_of_row w5 (w.heap.size + 1) 0 _ _ hb5; have z3 := cell_of_row w5 w.heap.size 0 _ _ _ hm5; simp only [List.getElem?_toArray, List.getElem?_cons_zero] at z1 z3; clear hown5 hmo5 hbo5 hn5 hr5 hb5 hm5)
   obtain ⟨f1, f2, f3⟩ := HFin.out w5 la5 cap5 HM5.out HB5.out HMo5.out HO5.out HBl5.out; exact ⟨f1, f2, f3, by rw [List.length_append]; have h1 := HLt.out; simp; omega⟩
 case done =>
  rintro D ys W hD rfl ⟨hI, hlt⟩ hK; obtain ⟨la, cap, hbo, hown, hbl⟩ := hI.out; have qo := cell_of_row _ (w.heap.size + 1) 0 _ _ _ hbo; simp only [List.getElem?_toArray, List.getElem?_cons_zero] at qo; have HF := hid (fun o' => qTg (o' := o') hI hown hbl hK (by omega) (List.take_of_length_le (by omega : ys.length <= most.toNat)))
  clear hI hbo hown hbl hlt; go_wp2_with fail
  refine ⟨by simp, .inl ⟨_, _, rfl, run_takeDeferred hK, ?_⟩⟩
  refine ⟨_, results_tmp rfl _ _ _, ?_⟩; go_simp; exact HF.out _
 case stop =>
  rintro D c pre W hD hpre ⟨rfl, hI, hlt⟩ hK; obtain ⟨la, cap, hbo, hown, hbl⟩ := hI.out; have qo := cell_of_row _ (w.heap.size + 1) 0 _ _ _ hbo; simp only [List.getElem?_toArray, List.getElem?_cons_zero] at qo; have hLp : L.take most.toNat = pre := by
   have h9 : pre <+: L := hpre; rw [show most.toNat = pre.length by omega]
   exact (List.prefix_iff_eq_take.1 h9).symm
  have HF := hid (fun o' => qTg (o' := o') hI hown hbl hK (by omega) hLp)
  clear hI hbo hown hbl hlt hpre hLp; refine wpIn_wide.2 ?_; go_wp2_with fail
  refine ⟨by simp, .inl ⟨_, _, rfl, run_takeDeferred hK, ?_⟩⟩
  refine ⟨_, results_tmp rfl _ _ _, ?_⟩; go_simp; exact HF.out _
end
end Go.Proofs.YtkinkgbmlhiakaaGreatDoor
