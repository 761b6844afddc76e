/- merged: TwW TwX TwG TwY RoL -/
import Derived.Test.YtkinkgbmlhiakaaGreatDoorNb26
import Derived.Test.YtkinkgbmlhiakaaGreatDoorNb25
import Derived.Test.YtkinkgbmlhiakaaGreatDoorNb22
import Derived.Test.YtkinkgbmlhiakaaGreatDoorNb12
import Derived.Test.YtkinkgbmlhiakaaGreatDoorNb13
namespace Go.Proofs.YtkinkgbmlhiakaaGreatDoor
section
open Go Go.RowKit
def Kp (n₀ : Nat) (W W' : World) : Prop := RowKit.Below n₀ W W' /\ ∀ (k : Nat) vs, W.heap[k]? = some (.cells vs 123 (0, 0)) -> W'.heap[k]? = some (.cells vs 123 (0, 0))
theorem Kp.trans {n₀ : Nat} {A B C : World} (h : Kp n₀ A B) (k : Kp n₀ B C) : Kp n₀ A C := ⟨h.1.trans k.1, fun i vs hi => k.2 i vs (h.2 i vs hi)⟩
theorem Kp.of_mod {n₀ : Nat} {A B : World} (h : Mod (fun _ => False) A B) (hn : n₀ <= A.heap.size) : Kp n₀ A B := ⟨h.below hn (fun _ e => e.elim), fun k _ hk => (h.block k (lth hk) (fun e => e)).trans hk⟩
def TW (n₀ : Nat) (B : TB) (T : TM) (D : Dsk) (off : Bool) (W : World) : Prop := qBa (fun k => TS B k \/ n₀ <= k) W B T D off /\ (∀ k, TS B k -> k < n₀) /\ n₀ <= W.heap.size
theorem TW.below {n₀ : Nat} {B : TB} {T : TM} {D : Dsk} {off : Bool} {W W' : World} (h : TW n₀ B T D off W) (hb : RowKit.Below n₀ W W') : TW n₀ B T D off W' :=
 ⟨h.1.mod (Mod.of_below hb) (fun _ e => .inr e) (fun k e ht => by have := h.2.1 k ht; omega), h.2.1, Nat.le_trans h.2.2 hb.size⟩
theorem TW.start {w : World} {B : TB} {T : TM} {D : Dsk} {off : Bool} (h : qBa (TS B) w B T D off) : TW w.heap.size B T D off w :=
 ⟨h.narrow (fun k hk e => e.elim id (fun e => by omega)), fun _ hk => h.lt hk, Nat.le_refl _⟩
def qZk (look : Int -> Option NP) (f : Nat) (key : ByteArray) (leaf : Bool) (l : List Ent) : Option (List KV) := if leaf then some ((l.map pvE).filter (geK key)) else qWx (fun s => qJf look f s key) l
def jJc (n₀ : Nat) (J Jx : List KV -> World -> Prop) (pre L : List KV) (W : World) (e : Ending) (W' : World) : Prop :=
 (e = .returned (.bool true) /\ J (pre ++ L) W' /\ Kp n₀ W W') \/ (e = .returned (.bool false) /\ ∃ q, q <+: L /\ Jx (pre ++ q) W')
structure WRel (n₀ : Nat) (J : List KV -> World -> Prop) (B : TB) (T : TM) (D : Dsk) (off : Bool) (W wr : World) (q : Nat) (m : Nd) (leaf : Bool) (es : List Ent) (key : ByteArray) (f : Nat) (pre L : List KV) (i : Nat) (dn : List KV) : Prop where
 j : J (pre ++ dn) wr
 kp : Kp n₀ W wr
 tw : TW n₀ B T D off wr
 box : wr.heap[q]? = some (.cells #[.bool m.leaf, .slice m.ka m.keys.length m.kc, .slice m.va m.values.length m.vc, .slice m.ia m.kids.length m.ic] 123 (0, 0))
 rest : ∃ R, qZk T.nodes f key leaf (es.drop i) = some R /\ L = dn ++ R
 le : i <= es.length
theorem jIl {α : Type} {l : List α} {i : Nat} {x : α} (h : l[i]? = some x) : l.drop i = x :: l.drop (i + 1) := by
 obtain ⟨hlt, rfl⟩ := List.getElem?_eq_some_iff.1 h; exact List.drop_eq_getElem_cons hlt
set_option maxRecDepth 100000
set_option maxHeartbeats 4000000 in
theorem jCy {n₀ N l : Nat} {B : TB} {T : TM} {D : Dsk} {off : Bool} {J Jx : List KV -> World -> Prop} (hJ : ∀ pre W W', J pre W -> Mod (fun _ => False) W W' -> J pre W') (key : ByteArray)
  (hY : ∀ m pre x W, J pre W -> pre.length < N -> YieldAt Fence.wide m Tryz.prog l #[.agg #[.string x.1, .string x.2]] W fun e W' => (e = .returned (.bool true) /\ J (pre ++ [x]) W' /\ Kp n₀ W W') \/ (e = .returned (.bool false) /\ Jx (pre ++ [x]) W')) :
  ∀ (f : Nat) (s : Int) (L pre : List KV) (W : World), qJf T.nodes f s key = some L -> TW n₀ B T D off W -> J pre W -> pre.length + L.length <= N →
   Calls Tryz.prog 74 #[.pointer (some ⟨B.tb, 0, none⟩), .int .i64 s, .string key, .func (.yield l) #[] #[]] W (jJc n₀ J Jx pre L W) := by
 intro f; induction f with
 | zero => intro s L pre W h; cases h
 | succ f ih =>
  intro s L pre W hw ht hj hN; obtain ⟨⟨leaf, es⟩, hn, hw2⟩ := Option.bind_eq_some_iff.1 (show (T.nodes s).bind _ = some L from hw)
  have HR0 : Hid (qZk T.nodes f key leaf (es.drop (qCv key es)) = some L) := hid hw2; obtain ⟨m, hlk, hh, hat, hbs⟩ := ht.1.nodes.get hn; have HG : Hid (qBj leaf es) := hid (by obtain ⟨l, _, _, h3⟩ := ht.1.nodes; exact (h3 _ _ hn).1)
  have HT := hid ht; have HJ := hid hj; have HH := hid hh; have HN := hid hat; have HB := hid hbs; have HIh := hid ih; have HNl := hid hN; have HJa := hid hJ; have HYa := hid hY; have HRi : Hid (qPu m.keys) := hid (by rw [HH.out.k]; exact qJq HG.out)
  obtain ⟨_, _, _, _, _, _, c6, _, _⟩ := ht.1.cells; have hl0 := hlk W (Mod.refl _ _) false; clear hw hw2 ht hj hN hn hlk hh hat hbs ih hJ hY; simp only [Nd.val, Bool.false_eq_true, if_false] at hl0; go_enter Tryz.func74, Tryz.ntmps74
  go_upto_region 2 with fail
  have HBx : Hid ((W.alloc (.cells #[.bool m.leaf, .slice m.ka m.keys.length m.kc, .slice m.va m.values.length m.vc, .slice m.ia m.kids.length m.ic] 123)).heap[W.heap.size]? = some (.cells #[.bool m.leaf, .slice m.ka m.keys.length m.kc, .slice m.va m.values.length m.vc, .slice m.ia m.kids.length m.ic] 123 (0, 0))) := hid (heap_alloc_new _ _); have HM2 : Hid (Mod (fun _ => False) W (W.alloc (.cells #[.bool m.leaf, .slice m.ka m.keys.length m.kc, .slice m.va m.values.length m.vc, .slice m.ia m.kids.length m.ic] 123))) := hid ((Mod.refl _ _).alloc _)
  have HPl := hid (qLi key (HN.out.nd.ext HM2.out) HRi.out); generalize W.alloc (.cells #[.bool m.leaf, .slice m.ka m.keys.length m.kc, .slice m.va m.values.length m.vc, .slice m.ia m.kids.length m.ic] 123) = Z at *; obtain ⟨x0, x1, x2, x3⟩ := cl4 HBx.out; go_upto_region 3 with (go_at_call 42; refine HPl.out.mono ?_; rintro e w3 ⟨⟨i, ok, hat, hok, rfl⟩, hm3⟩; have HAt := hid hat; have HOk := hid hok; have HM3 := hid hm3; obtain ⟨ii, hii⟩ : ∃ z : Int, (if ok = true then (i : Int) else ((i - 1 : Nat) : Int)) = z := ⟨_, rfl⟩; rw [hii]; have HIi := hid hii; clear hat hok hm3 hii)
  have HCut := hid (qVl (c := ⟨key, emp, false⟩) (es := es) (i := i) (ok := ok) (by have h1 := HRi.out; rw [HH.out.k] at h1; exact h1) (by have h1 := HAt.out; rw [HH.out.k] at h1; exact h1) (by have h1 := HOk.out; rw [HH.out.k] at h1; exact h1))
  have hil0 : i <= es.length := by have h1 := HAt.out.le; rw [HH.out.k, List.length_map] at h1; exact h1
  have hpe := qUi HCut.out hil0; change qCv key es = _ at hpe; obtain ⟨j0, hj0⟩ : ∃ j, qCv key es = j := ⟨_, rfl⟩; rw [hj0] at HR0 hpe; have hij : ii = (j0 : Int) := by rw [<- HIi.out, hpe]; cases ok <;> rfl
  have HJl : Hid (j0 <= es.length) := hid (by rw [hpe]; cases ok <;> simp only [Bool.false_eq_true, if_false, if_true] <;> omega)
  subst hij; have HKs : Hid (m.keys.length = es.length) := hid (by rw [HH.out.k, List.length_map])
  have HMz := hid (HM2.out.trans HM3.out); have HW0 : Hid (WRel n₀ J B T D off W w3 W.heap.size m leaf es key f pre L j0 []) := hid ⟨by rw [List.append_nil]; exact HJa.out _ _ _ HJ.out HMz.out, Kp.of_mod HMz.out HT.out.2.2, HT.out.below (HMz.out.below HT.out.2.2 (fun _ e => e.elim)), qAx HM3.out HBx.out, ⟨L, HR0.out, rfl⟩, HJl.out⟩
  have HLn : Hid (es.length <= 511) := hid HG.out.len; generalize W.heap.size = q at *; clear x0 x1 x2 x3 hil0 hpe hj0 c6 hl0 HCut HIi HAt HOk HPl HBx HR0 HJl HMz; have hkl : m.keys.length = es.length := HKs.out; have hlL : es.length <= 511 := HLn.out; go_loopw [10] (fun si wr => ∃ (i : Nat) (dn : List KV), si = .int .i64 (i : Int) /\ WRel n₀ J B T D off W wr q m leaf es key f pre L i dn) (fun si _ => es.length - (intOf si).toNat)
  case atStart => exact ⟨j0, [], rfl, HW0.out⟩
  case round =>
   obtain ⟨i, dn, rfl, hrel⟩ := hrel; obtain ⟨R, hR, hL⟩ := hrel.rest; have HRel := hid hrel; have HL := hid hL; obtain ⟨y0, y1, y2, y3⟩ := cl4 hrel.box; have hile := hrel.le; clear hrel hL; by_cases hlt : i < es.length
   ·obtain ⟨x, hx⟩ : ∃ x, es[i]? = some x := ⟨_, List.getElem?_eq_getElem hlt⟩; have hdr := jIl hx; rw [hdr] at hR; have d0 : decide ((i : Int) < (m.keys.length : Int)) = true := by simp; omega
    have d1 : decide (i < m.keys.length) = true := by simp; omega
    have hgk : m.keys[i]? = some x.key := by rw [HH.out.k, List.getElem?_map, hx]; rfl
    have hdk : ¬ m.keys.length <= i := by omega
    have hnr : NdAt wr m := (qBq HN.out (fun k hk => (HB.out k hk).1) (Mod.of_below HRel.out.kp.1) (fun k e => .inr e)).nd
    cases leaf with
    | true =>
     have hlf : m.leaf = true := HH.out.l; rw [hlf] at y0; have hR1 : some (((x :: es.drop (i + 1)).map pvE).filter (geK key)) = some R := hR; cases hg : kl x.key key with
     | true =>
      have d2 : Op.bytesLess x.key.toList key.toList = true := hg; have hR3 : some (((es.drop (i + 1)).map pvE).filter (geK key)) = some R := by
       rw [<- hR1, List.map_cons, List.filter_cons_of_neg (by rw [jBf (p := pvE x) hg]; exact Bool.false_ne_true)]
      have HR4 : Hid (WRel n₀ J B T D off W wr q m true es key f pre L (i + 1) dn) := hid ⟨HRel.out.j, HRel.out.kp, HRel.out.tw, HRel.out.box, ⟨R, hR3, HL.out⟩, by omega⟩
      obtain ⟨gk, ok2, hka, hkc⟩ := hnr.k.one hgk; rw [hka] at y1; clear hlf hx hR hR1 hR3 hdr hgk hnr hka y2 y3 hkl hile hg; go_wp2_with fail
      go_roundw
      case rel => exact ⟨i + 1, dn, by go_num, HR4.out⟩
      case measure => simp [intOf]; omega
     | false =>
      have d2 : Op.bytesLess x.key.toList key.toList = false := hg; have hgx : geK key (pvE x) = true := by unfold geK pvE; rw [hg]; rfl
      obtain ⟨R', hR', hRe⟩ : ∃ R', some (((es.drop (i + 1)).map pvE).filter (geK key)) = some R' /\ R = pvE x :: R' := ⟨_, rfl, by
       rw [List.map_cons, List.filter_cons_of_pos hgx] at hR1; exact (Option.some.inj hR1).symm⟩
      have HRn : Hid (L = dn ++ (pvE x :: R')) := hid (by rw [HL.out, hRe])
      have HRb : Hid (qZk T.nodes f key true (es.drop (i + 1)) = some R') := hid hR'; have hvs : m.values[i]? = some x.value := by rw [HH.out.v]; show (es.map (·.value))[i]? = _; rw [List.getElem?_map, hx]; rfl
      have hvl : i < m.values.length := (List.getElem?_eq_some_iff.1 hvs).1; have hdv : ¬ m.values.length <= i := by omega
      obtain ⟨gk, ok2, hka, hkc⟩ := hnr.k.one hgk; obtain ⟨gv, ov, hva, hvc⟩ := hnr.v.one hvs; rw [hka] at y1; rw [hva] at y2; have HHl := hid hlf; have hNx : (pre ++ dn).length < N := by
       have h1 := HNl.out; rw [HRn.out] at h1; simp only [List.length_append, List.length_cons] at h1 ⊢; omega
      have HNx := hid hNx; clear hlf hx hR hR1 hR' hRe hdr hgk hnr hka hva hvs y3 hkl hile hg hgx hNx; go_upto_region 5 with fail
      have g1 := fun y : Ext wr => y.cell y1
      have g2 := fun y : Ext wr => y.cell y2
      have gkc := fun y : Ext wr => y.cell hkc
      have gvc := fun y : Ext wr => y.cell hvc
      clear y0 y1 y2 hkc hvc; refine (wpIn_wide (n := 0)).1 (qHb 12 (by kernel_rfl) (by kernel_rfl) ?_)
      simp only [List.take_succ_cons, List.take_zero, List.drop_succ_cons, List.drop_zero]; repeat (go_big_quiet_step (fail))
      refine wpQuiet_nil ?_; rintro _ ⟨z, rfl⟩; obtain ⟨fn, tmps, assign, body, hy, hR⟩ := HYa.out 0 (pre ++ dn) (pvE x) z.val (HJa.out _ _ _ HRel.out.j z.mod) HNx.out; dsimp only [pvE] at hy; have HKz := hid (Kp.of_mod z.mod (Nat.le_trans HT.out.2.2 (HRel.out.kp.1.size))); clear g1 g2 gkc gvc; gi_wp2
      refine ⟨rfl, hR.mono ?_⟩; rintro e w4 (⟨rfl, hj4, hk4⟩ | ⟨rfl, hx4⟩)
      ·have HR4 : Hid (WRel n₀ J B T D off W w4 q m true es key f pre L (i + 1) (dn ++ [pvE x])) := hid ⟨by rw [<- List.append_assoc]; exact hj4, (HRel.out.kp.trans HKz.out).trans hk4, HRel.out.tw.below (HKz.out.trans hk4).1, (HKz.out.trans hk4).2 _ _ HRel.out.box, ⟨R', HRb.out, by rw [HRn.out, List.append_assoc]; rfl⟩, by omega⟩
       clear hj4 hk4; gi_wp2
       go_wp2_with fail
       go_roundw
       case rel => exact ⟨i + 1, dn ++ [pvE x], by go_num, HR4.out⟩
       case measure => simp [intOf]; omega
      ·gi_wp2
       go_wp2_with fail
       go_ret; refine .inr ⟨rfl, dn ++ [pvE x], ?_, by rw [<- List.append_assoc]; exact hx4⟩
       rw [HRn.out]; exact ⟨R', by simp⟩
    | false =>
     obtain ⟨a, ha, hR2⟩ := Option.bind_eq_some_iff.1 (show (qJf T.nodes f x.kid key).bind _ = some R from hR)
     obtain ⟨b, hb, hab⟩ := Option.map_eq_some_iff.1 hR2; have hlf : m.leaf = false := HH.out.l; rw [hlf] at y0; have hgi : m.kids[i]? = some x.kid := by rw [HH.out.i]; show (es.map (·.kid))[i]? = _; rw [List.getElem?_map, hx]; rfl
     have hil : i < m.kids.length := (List.getElem?_eq_some_iff.1 hgi).1; have hdi : ¬ m.kids.length <= i := by omega
     obtain ⟨gi, oi, hia, hkc⟩ := hnr.i.one hgi; rw [hia] at y3; have HRn : Hid (L = dn ++ (a ++ b)) := hid (by rw [HL.out, <- hab])
     have HRb : Hid (qZk T.nodes f key false (es.drop (i + 1)) = some b) := hid hb; have HC := hid (HIh.out x.kid a (pre ++ dn) wr ha HRel.out.tw HRel.out.j (by have h1 := HNl.out; rw [HRn.out] at h1; simp only [List.length_append] at h1 ⊢; omega))
     clear hlf hx hR hR2 hb hab ha hdr hgk hgi hnr hia y2 hkl hile; go_wp2_with (go_at_call 74; refine HC.out.mono ?_; rintro e w4 (⟨rfl, hj4, hk4⟩ | ⟨rfl, q4, hq4, hx4⟩))
     ·have HR4 : Hid (WRel n₀ J B T D off W w4 q m false es key f pre L (i + 1) (dn ++ a)) := hid ⟨by rw [<- List.append_assoc]; exact hj4, HRel.out.kp.trans hk4, HRel.out.tw.below hk4.1, hk4.2 _ _ HRel.out.box, ⟨b, HRb.out, by rw [HRn.out, List.append_assoc]⟩, by omega⟩
      clear hj4 hk4; go_roundw
      case rel =>
       exact ⟨i + 1, dn ++ a, by go_num, HR4.out⟩
      case measure => simp [intOf]; omega
     ·go_ret; refine .inr ⟨rfl, dn ++ q4, ?_, by rw [<- List.append_assoc]; exact hx4⟩
      rw [HRn.out]; obtain ⟨z, hz⟩ := hq4; exact ⟨z ++ b, by rw [<- hz]; simp⟩
   ·have hie : es.drop i = [] := List.drop_eq_nil_of_le (by omega)
    rw [hie] at hR; have hR0 : R = [] := by
     unfold qZk at hR; cases leaf with
     | true => simpa using hR.symm
     | false => have h1 : some [] = some R := hR; cases h1; rfl
    have HLd : Hid (L = dn) := hid (by rw [HL.out, hR0, List.append_nil])
    have d0 : decide ((i : Int) < (m.keys.length : Int)) = false := by simp; omega
    have d1 : decide (i < m.keys.length) = false := by simp; omega
    clear hR hie hR0 hkl hlt hile hlL; go_wp2_with fail
    go_ret; exact .inl ⟨rfl, by rw [HLd.out]; exact HRel.out.j, HRel.out.kp⟩
end
section
open Go Go.RowKit
attribute [local go_sem] Oper.semAt_some
theorem qXv {J : List KV -> World -> Prop} {B : Nat} (h : AbidesFrom B J) : ∀ pre W W', J pre W -> Mod (fun _ => False) W W' -> J pre W' := fun pre W W' hj hm => h pre W W' none hj ⟨hm.os, hm.tape, hm.output, hm.size, fun k hk _ => hm.block k hk (fun e => e)⟩ (fun r e => by cases e)
theorem qXz {P : Program} {l m m' : Nat} {args : Array Value} {W : World} {R : Ending -> World -> Prop} (h : YieldAt Fence.wide m P l args W R) : YieldAt Fence.wide m' P l args W R := by
 obtain ⟨fn, tmps, assign, body, hy, hR⟩ := h; exact ⟨fn, tmps, assign, body, hy, hR.1, fun c cs _ => hR.2 c cs (room_wide _)⟩
set_option maxRecDepth 100000
set_option maxHeartbeats 1000000 in
theorem qWq {n₀ l F bt bf : Nat} {B : TB} {T : TM} {D : Dsk} {off : Bool} {J Jx : List KV -> World -> Prop} (hJ : ∀ pre W W', J pre W -> Mod (fun _ => False) W W' -> J pre W') {key : ByteArray} {L : List KV}
  (hY : ∀ m pre x W, J pre W -> pre.length < L.length -> YieldAt Fence.wide m Tryz.prog l #[.agg #[.string x.1, .string x.2]] W fun e W' => (e = .returned (.bool true) /\ J (pre ++ [x]) W' /\ Kp n₀ W W') \/ (e = .returned (.bool false) /\ Jx (pre ++ [x]) W'))
  (hL : qJf T.nodes F T.root key = some L) {W : World} (ht : TW n₀ B T D off W) (hj : J [] W) (hbt : W.cell? ⟨bt, 0, none⟩ = some (.pointer (some ⟨B.tb, 0, none⟩))) (hbf : W.cell? ⟨bf, 0, none⟩ = some (.string key)) :
  Calls Tryz.prog 73 #[.func (.yield l) #[] #[], .pointer (some ⟨bt, 0, none⟩), .pointer (some ⟨bf, 0, none⟩)] W fun e W' => (∃ v, e = .returned v) /\ ((∃ xs, xs = L /\ J xs W') \/ ∃ pre, pre <+: L /\ Jx pre W') := by
 have HW := hid (fun (z : World) (hm : Mod (fun _ => False) W z) => jCy hJ key hY F T.root L [] z hL (ht.below (hm.below ht.2.2 (fun _ e => e.elim))) (hJ _ _ _ hj hm) (by simp))
 obtain ⟨c0, _⟩ := ht.1.cells; have g0 := fun y : Ext W => y.cell c0
 have g1 := fun y : Ext W => y.cell hbt
 have g2 := fun y : Ext W => y.cell hbf
 clear hJ hY hL ht hj hbt hbf c0; go_enter Tryz.func73, Tryz.ntmps73
 refine qAh 8 (by kernel_rfl) (by kernel_rfl) ?_
 simp only [List.take_succ_cons, List.take_zero, List.drop_succ_cons, List.drop_zero]; repeat (go_big_quiet_step (fail))
 refine wpQuiet_nil ?_; rintro _ ⟨z, rfl⟩; have HC := hid (HW.out z.val z.mod); clear g0 g1 g2; go_wp2_with (go_at_call 74; refine HC.out.mono ?_; rintro e w4 (⟨rfl, hj4, hk4⟩ | ⟨rfl, q4, hq4, hx4⟩))
 ·go_end0; exact ⟨⟨_, rfl⟩, .inl ⟨L, rfl, hj4⟩⟩
 ·go_end0; exact ⟨⟨_, rfl⟩, .inr ⟨q4, hq4, hx4⟩⟩
theorem qSi {n₀ n F bt bf : Nat} {B : TB} {T : TM} {D : Dsk} {off : Bool} {key : ByteArray} {L : List KV} (hL : qJf T.nodes F T.root key = some L) {w : World} (ht : TW n₀ B T D off w)
  (hbt : w.cell? ⟨bt, 0, none⟩ = some (.pointer (some ⟨B.tb, 0, none⟩))) (hbf : w.cell? ⟨bf, 0, none⟩ = some (.string key)) (h1 : bt < w.heap.size) (h2 : bf < w.heap.size) :
  SeqStopsK Fence.wide n Tryz.prog 73 #[.pointer (some ⟨bt, 0, none⟩), .pointer (some ⟨bf, 0, none⟩)] (fun x : KV => #[Value.agg #[.string x.1, .string x.2]]) (Kp n₀) (fun ys => ys = L) (fun pre => pre <+: L) L.length w := fun _ _ _ _ hW hJa _ hY h0 =>
 callsIn_wide.2 (qWq (qXv hJa) (fun _m pre x W1 hj hl => qXz (hY pre x W1 hj hl)) hL (ht.below (hW.mono ht.2.2)) h0 ((hW.cell (p := ⟨bt, 0, none⟩) h1).trans hbt) ((hW.cell (p := ⟨bf, 0, none⟩) h2).trans hbf))
theorem qZv (w : World) (tb : Nat) (key : ByteArray) : Calls Tryz.prog 36 #[.pointer (some ⟨tb, 0, none⟩), .string key] w fun e w' => e = .returned (.func (.func 73) #[] #[.pointer (some ⟨w.heap.size, 0, none⟩), .pointer (some ⟨w.heap.size + 1, 0, none⟩)]) /\ w' = (w.alloc (.cells #[.pointer (some ⟨tb, 0, none⟩)] 27)).alloc (.cells #[.string key] 9) := by
 go_enter Tryz.func36, Tryz.ntmps36
 go_wp2
 go_ret; exact ⟨rfl, rfl⟩
theorem jKg : (Tryz.prog.info? 41).map (fun i => (i.zero, i.size, i.bytes)) = some (some (.agg #[.string ⟨#[]⟩, .string ⟨#[]⟩]), 2, 32) := by kernel_rfl
structure qPs (w W : World) (most : Int) (pre : List KV) : Prop where
 out : ∃ la cap, W.heap[w.heap.size + 1]? = some (.cells #[.slice la pre.length cap] 38 (0, 0)) /\ Own W 41 2 la pre.length cap (pre.flatMap kcs) /\ ∀ b, blk la b -> w.heap.size <= b
 most : W.heap[w.heap.size]? = some (.cells #[.int .i64 most] 3 (0, 0))
 mod : Mod (fun _ => False) w W
theorem Own.cells {w : World} {e : TypeId} {size : Nat} {sa : Option Addr} {n cap : Nat} {xs : List Value} (h : Own w e size sa n cap xs) {k : Nat} (hk : blk sa k) : ∃ cur, w.heap[k]? = some (.cells cur e (0, 0)) := by
 obtain ⟨a, rfl, rfl⟩ := hk; rcases h.2.2.2 with ⟨h0, _⟩ | ⟨g, off, cur, h1, h2, _⟩
 ·cases h0
 ·cases h1; exact ⟨cur, h2⟩
theorem qPs.turn {w X Y : World} {most : Int} {pre : List KV} {row : Option Nat} {B : Nat} (h : qPs w X most pre) (hg : X.grownBy Y row) (hr : ∀ r, row = some r -> B <= r /\ ∃ o : Obj, X.heap[r]? = some o /\ o.isCells = false) (hB : w.heap.size <= B) : qPs w Y most pre := by
 have hm : Mod (fun k => row = some k) X Y := ⟨hg.os, hg.tape, hg.output, hg.size, fun k hk hn => hg.block k hk (fun e => hn e.symm)⟩
 have hnc : ∀ k cs t, X.heap[k]? = some (.cells cs t (0, 0)) -> row ≠ some k := fun k cs t hk e => by
  obtain ⟨_, o, ho, hc⟩ := hr k e; rw [hk] at ho; cases ho; cases hc
 obtain ⟨la, cap, h1, h2, h3⟩ := h.out; refine ⟨⟨la, cap, (hm.block _ (lth h1) (hnc _ _ _ h1)).trans h1, h2.mod hm (fun k hk e => ?_), h3⟩, (hm.block _ (lth h.most) (hnc _ _ _ h.most)).trans h.most, h.mod.then hm (fun k hk e => ?_)⟩
 ·obtain ⟨cur, hc⟩ := h2.cells hk; exact hnc _ _ _ hc e
 ·have h4 := (hr k e).1; omega
def qMj (w : World) (L : List KV) (e : Ending) (w' : World) : Prop := ∃ la cap, e = .returned (.slice la L.length cap) /\ Own w' 41 2 la L.length cap (L.flatMap kcs) /\ (∀ b, blk la b -> w.heap.size <= b) /\ Mod (fun _ => False) w w'
theorem qTy {w W : World} {most : Int} {pre L : List KV} {la : Option Addr} {cap D : Nat} {ds : List Deferred} {o' : Obj} (h : qPs w W most pre) (ho : Own W 41 2 la pre.length cap (pre.flatMap kcs)) (hb : ∀ b, blk la b -> w.heap.size <= b) (hK : W.heap[D]? = some (.deferred (some ds))) (hD : w.heap.size <= D) (hL : L = pre) :
  qMj w L (.returned (.slice la pre.length cap)) (W.putObj D o') := by
 subst hL; have hm : Mod (fun k => k = D) W (W.putObj D o') := ⟨rfl, rfl, rfl, by simp, fun k _ hk => World.putObj_heap_other hk⟩
 refine ⟨la, cap, rfl, ho.mod hm (fun k hk e => ?_), hb, h.mod.then hm (fun k hk e => by omega)⟩
 obtain ⟨cur, hc⟩ := ho.cells hk; rw [e, hK] at hc; cases hc
theorem jEw {n₀ : Nat} {W : World} {l : Nat} {o : Obj} (o' : Obj) (hn : n₀ <= l) (h : W.heap[l]? = some o) (hc : o.isCells = false) : Kp n₀ W (W.putObj l o') :=
 ⟨⟨rfl, rfl, rfl, by simp, fun k hk => World.putObj_heap_other (by omega)⟩, fun k vs hk => (World.putObj_heap_other (fun e => by rw [e, h] at hk; cases hk; cases hc)).trans hk⟩
theorem qTx {S : Nat -> Prop} {w : World} {B : TB} {T : TM} {D : Dsk} {off : Bool} (h : qBa S w B T D off) {most : Int} (hm : T.root = 0 \/ most < 1) (v : Value) : Calls Tryz.prog 12 #[.pointer (some ⟨B.tb, 0, none⟩), v, .int .i64 most] w fun e w' => e = .returned (.slice none 0 0) /\ Mod (fun _ => False) w w' := by
 have hma : Mod (fun _ => False) w (w.alloc (.cells #[.int .i64 most] 3)) := (Mod.refl _ w).alloc _
 obtain ⟨c0, _⟩ := (h.mod hma (fun _ e => e.elim) (fun _ e => e.elim)).cells
 have hM := hid hma; clear h hma; by_cases h0 : T.root = 0
 ·rw [h0] at c0; clear hm h0; go_enter Tryz.func12, Tryz.ntmps12
  go_wp2
  go_ret; exact ⟨rfl, hM.out⟩
 ·have d0 : (T.root == 0) = false := by rw [beq_eq_false_iff_ne]; exact h0
  have d1 : decide (most < 1) = true := by simpa using hm.resolve_left h0
  clear hm h0; go_enter Tryz.func12, Tryz.ntmps12
  go_wp2
  go_ret; exact ⟨rfl, hM.out⟩
set_option maxHeartbeats 4000000 in
theorem jDt {w : World} {B : TB} {T : TM} {D : Dsk} {off : Bool} (h : qBa (TS B) w B T D off) (h0 : T.root ≠ 0) {most : Int} (hm : 1 <= most) {F : Nat} {key : ByteArray} {L : List KV} (hL : qJf T.nodes F T.root key = some L) (hb : L.length <= 1099511627776) :
  Calls Tryz.prog 12 #[.pointer (some ⟨B.tb, 0, none⟩), .string key, .int .i64 most] w (qMj w (L.take most.toNat)) := by
 obtain ⟨i0, hi, hz0, hz1, hz2⟩ := info_parts jKg; obtain ⟨c0, _⟩ := h.cells; have d0 : (T.root == 0) = false := by rw [beq_eq_false_iff_ne]; exact h0
 have d1 : decide (most < 1) = false := by simpa using hm
 have HT := hid (TW.start h); have c0' : (w.alloc (.cells #[.int .i64 most] 3)).cell? ⟨B.tb, 0, none⟩ = some (.int .i64 T.root) := (((Mod.refl (fun _ => False) w).alloc _).cell (p := ⟨B.tb, 0, none⟩) (lth h.box) (fun e => e)).trans c0
 have HL := hid hL; have HB := hid hb; clear h h0 hm hL hb; refine (callsIn_wide (n := 3)).1 ?_; refine callsIn_of_wp_marks Tryz.func12 rfl trivial ?_ rfl; simp only [Tryz.ntmps12, List.size_toArray, List.length_cons, List.length_nil, Nat.reduceAdd, Nat.reduceSub, Array.replicate_succ, Array.replicate_zero, List.push_toArray, List.append_toArray, List.nil_append, List.cons_append]; refine wpIn_wide.2 ?_; go_wp2_with (go_at_call 36; refine (qZv _ _ _).mono ?_; rintro e w' ⟨rfl, rfl⟩)
 have hsz : ((((w.alloc (.cells #[.int .i64 most] 3)).alloc (.cells #[.slice none 0 0] 38)).alloc (.cells #[.pointer (some ⟨B.tb, 0, none⟩)] 27)).alloc (.cells #[.string key] 9)).heap.size = w.heap.size + 4 := by simp
 have hM0 : Mod (fun _ => False) w ((((w.alloc (.cells #[.int .i64 most] 3)).alloc (.cells #[.slice none 0 0] 38)).alloc (.cells #[.pointer (some ⟨B.tb, 0, none⟩)] 27)).alloc (.cells #[.string key] 9)) := ((((Mod.refl _ _).alloc _).alloc _).alloc _).alloc _
 have hB0 := qAx (((((Mod.refl (fun _ => False) (w.alloc (.cells #[.int .i64 most] 3))).alloc (.cells #[.slice none 0 0] 38)).alloc (.cells #[.pointer (some ⟨B.tb, 0, none⟩)] 27)).alloc (.cells #[.string key] 9))) (heap_alloc_new w (.cells #[.int .i64 most] 3))
 have hB1 := qAx (((Mod.refl (fun _ => False) ((w.alloc (.cells #[.int .i64 most] 3)).alloc (.cells #[.slice none 0 0] 38))).alloc (.cells #[.pointer (some ⟨B.tb, 0, none⟩)] 27)).alloc (.cells #[.string key] 9)) (heap_alloc_new (w.alloc (.cells #[.int .i64 most] 3)) (.cells #[.slice none 0 0] 38))
 have hB2 := qAx ((Mod.refl (fun _ => False) (((w.alloc (.cells #[.int .i64 most] 3)).alloc (.cells #[.slice none 0 0] 38)).alloc (.cells #[.pointer (some ⟨B.tb, 0, none⟩)] 27))).alloc (.cells #[.string key] 9)) (heap_alloc_new ((w.alloc (.cells #[.int .i64 most] 3)).alloc (.cells #[.slice none 0 0] 38)) (.cells #[.pointer (some ⟨B.tb, 0, none⟩)] 27))
 have hB3 := heap_alloc_new (((w.alloc (.cells #[.int .i64 most] 3)).alloc (.cells #[.slice none 0 0] 38)).alloc (.cells #[.pointer (some ⟨B.tb, 0, none⟩)] 27)) (.cells #[.string key] 9); simp only [World.size_alloc] at hB1 hB2 hB3; generalize ((((w.alloc (.cells #[.int .i64 most] 3)).alloc (.cells #[.slice none 0 0] 38)).alloc (.cells #[.pointer (some ⟨B.tb, 0, none⟩)] 27)).alloc (.cells #[.string key] 9)) = W0 at *; have hT0 : TW w.heap.size B T D off W0 := HT.out.below (hM0.below (Nat.le_refl _) (fun _ e => e.elim))
 have hI0 : qPs w W0 most [] := ⟨⟨none, 0, hB1, Own.nil _ _ _, fun k hk => (qAk k hk).elim⟩, hB0, hM0⟩
 refine wpIn_wide.1 (wpIn_rangeFunc_ownH (n := 3) rfl (by omega) (gf := 73) (lb := #[.pointer (some ⟨w.heap.size + 1 + 1, 0, none⟩), .pointer (some ⟨w.heap.size + 1 + 1 + 1, 0, none⟩)]) rfl trivial (enters_of Tryz.func73 (by kernel_rfl) rfl)
  (qSi HL.out hT0 (by rw [cell_of_row _ _ _ _ _ _ hB2]; rfl) (by rw [cell_of_row _ _ _ _ _ _ hB3]; rfl) (by omega) (by omega)) (fun h k => h.trans k) (fun W l o o' hl hk hc _ => jEw o' (by omega) hk hc) (RowKit.Below.refl _ _) (fun _ => rfl)
  (fun pre W => qPs w W most pre /\ (pre.length : Int) < most)
  (fun c pre W => c = .exit 0 /\ qPs w W most pre /\ (pre.length : Int) = most)
  (fun s X Y row hs hg hr => ⟨hs.1.turn hg hr (by omega), hs.2⟩)
  (fun c s X Y row hs hg hr => ⟨hs.1, hs.2.1.turn hg hr (by omega), hs.2.2⟩)
  ⟨hI0, by have h1 : ¬ most < 1 := (by simpa using d1); simp; omega⟩
  (fun x a' W => ∃ Bx, W.heap[Bx]? = some (.cells #[.string x.1, .string x.2] 41 (0, 0)) /\ a' = { tmps := #[.pointer (some ⟨B.tb, 0, none⟩), .string key, .int .i64 most, undef, undef, .pointer (some ⟨w.heap.size, 0, none⟩), .slice none 0 0, .pointer (some ⟨w.heap.size + 1, 0, none⟩), .pointer (some ⟨Bx, 0, none⟩), .pointer (some ⟨B.tb, 0, none⟩), .bool false, .bool false, .pointer (some ⟨B.tb, 0, none⟩), .pointer (some ⟨B.tb, 0, none⟩), .pointer (some ⟨B.tb, 0, none⟩), .pointer (some ⟨B.tb, 0, none⟩), .int .i64 T.root, .bool false, .bool false, .bool false, .int .i64 most, .bool false, .bool false, .pointer (some ⟨B.tb, 0, none⟩), .string key, .func (.func 73) #[] #[.pointer (some ⟨w.heap.size + 1 + 1, 0, none⟩), .pointer (some ⟨w.heap.size + 1 + 1 + 1, 0, none⟩)], .agg #[.string x.1, .string x.2], undef, undef, undef, undef, undef, undef, undef, undef, undef], defers := [] })
  (fun x a' _ X Y row hs hg hr => by
   obtain ⟨Bx, h1, h3⟩ := hs; refine ⟨Bx, (hg.block Bx (lth h1) (fun e => ?_)).trans h1, h3⟩
   obtain ⟨_, o, ho, hc⟩ := hr Bx e.symm; rw [h1] at ho; cases ho; cases hc)
  ?assign ?body ?done ?stop)
 case assign =>
  rintro l pre x W K ⟨hI, hlt⟩ hK; have hma : Mod (fun _ => False) W (W.alloc (.cells #[.string x.1, .string x.2] 41)) := (Mod.refl _ _).alloc _
  gi_wp2
  have hIa : qPs w (W.alloc (.cells #[.string x.1, .string x.2] 41)) most pre := hI.turn (row := none) ⟨hma.os, hma.tape, hma.output, hma.size, fun k hk _ => hma.block k hk (fun e => e)⟩ (fun r e => by cases e) (Nat.le_refl _)
  exact hK _ _ ((KeepsOthers.alloc _ _).from _) (Kp.of_mod hma hI.mod.size) ⟨hIa, hlt⟩ ⟨W.heap.size, heap_alloc_new _ _, rfl⟩
 case body =>
  rintro l pre x a' W hl ⟨r, hr⟩ ⟨hI, hlt⟩ ⟨Bx, hBx, rfl⟩ hlen; obtain ⟨la, cap, hbo, hown, hbl⟩ := hI.out; obtain ⟨x1, x2⟩ := x; have q0 : W.cell? ⟨Bx, 0, none⟩ = some (.string x1) := by rw [cell_of_row _ _ _ _ _ _ hBx]; rfl
  have q1 : W.cell? ⟨Bx, 1, none⟩ = some (.string x2) := by rw [cell_of_row _ _ _ _ _ _ hBx]; rfl
  have qo : W.cell? ⟨w.heap.size + 1, 0, none⟩ = some (.slice la pre.length cap) := by rw [cell_of_row _ _ _ _ _ _ hbo]; rfl
  have HI := hid hI; have HO := hid hown; have HBl := hid hbl; have HBo := hid hbo; have hpl : pre.length < L.length := hlen; have hpb : pre.length + 1 <= 1099511627776 := by have := HB.out; omega
  have HLt := hid hlt; clear hI hr hBx hbo hown hbl hlen hlt; have HNb : Hid (¬ blk la (w.heap.size + 1)) := hid (fun e => by
   obtain ⟨cur, hc⟩ := HO.out.cells e; rw [HBo.out] at hc; cases hc)
  have HNm : Hid (¬ blk la w.heap.size) := hid (fun e => by
   obtain ⟨cur, hc⟩ := HO.out.cells e; rw [HI.out.most] at hc; cases hc)
  have HFin : Hid (∀ (w5 : World) (la5 : Option Addr) (cap5 : Nat), Mod (blk la) W w5 -> w5.heap[w.heap.size + 1]? = some (.cells #[.slice la pre.length cap] 38 (0, 0)) -> w5.heap[w.heap.size]? = some (.cells #[.int .i64 most] 3 (0, 0)) -> Own w5 41 2 la5 (pre.length + 1) cap5 (pre.flatMap kcs ++ [.string x1, .string x2]) -> (∀ k, blk la5 k -> w.heap.size <= k) →
    KeepsFrom W0.heap.size W (w5.setCell ⟨w.heap.size + 1, 0, none⟩ (.slice la5 (pre.length + 1) cap5)) /\ Kp w.heap.size W (w5.setCell ⟨w.heap.size + 1, 0, none⟩ (.slice la5 (pre.length + 1) cap5)) /\ qPs w (w5.setCell ⟨w.heap.size + 1, 0, none⟩ (.slice la5 (pre.length + 1) cap5)) most (pre ++ [(x1, x2)])) := hid (fun w5 la5 cap5 hm5 hb5 hbm5 ho5 hbl5 => by
   have hm6 : Mod (fun k => blk la k \/ k = w.heap.size + 1) W (w5.setCell ⟨w.heap.size + 1, 0, none⟩ (.slice la5 (pre.length + 1) cap5)) := (hm5.mono (fun k _ e => .inl e)).setCell (p := ⟨w.heap.size + 1, 0, none⟩) (fun _ => .inr rfl) _
   have hmS : Mod (fun k => k = w.heap.size + 1) w5 (w5.setCell ⟨w.heap.size + 1, 0, none⟩ (.slice la5 (pre.length + 1) cap5)) := Mod.setCell (S := fun k => k = w.heap.size + 1) (p := ⟨w.heap.size + 1, 0, none⟩) (Mod.refl _ _) (fun _ => rfl) _
   have hcl : ∀ k, (blk la k \/ k = w.heap.size + 1) -> ∃ cur t, W.heap[k]? = some (.cells cur t (0, 0)) /\ t ≠ 123 := fun k hk => by
    rcases hk with hk | hk
    ·obtain ⟨cur, hc⟩ := HO.out.cells hk; exact ⟨cur, _, hc, by decide⟩
    ·rw [hk]; exact ⟨_, _, HBo.out, by decide⟩
   refine ⟨qOx _ hm6 (fun k o hk ho => ?_), ⟨hm6.below HI.out.mod.size (fun k hk => ?_), fun k vs hk => (hm6.block k (lth hk) (fun e => ?_)).trans hk⟩, ⟨la5, cap5, ?_, ?_, hbl5⟩, (hmS.block _ (lth hbm5) (by omega)).trans hbm5, HI.out.mod.then hm6 (fun k hk e => ?_)⟩
   ·obtain ⟨cur, t, hc, _⟩ := hcl k hk; rw [ho] at hc; cases hc; rfl
   ·rcases hk with hk | hk
    ·exact HBl.out k hk
    ·omega
   ·obtain ⟨cur, t, hc, hne⟩ := hcl k e; rw [hk] at hc; cases hc
    exact hne rfl
   ·rw [qAe hb5, List.length_append]; rfl
   ·rw [jFa, List.length_append]; refine ho5.mod hmS (fun k hk e => ?_)
    obtain ⟨cur, hc⟩ := ho5.cells hk; rw [e, hb5] at hc; cases hc
   ·rcases e with e | e
    ·have := HBl.out k e; omega
    ·omega)
  by_cases he : (pre.length : Int) + 1 = most
  ·have dE : (((pre.length : Int) + 1) == most) = true := by rw [beq_iff_eq]; exact he
   gi_wp2_with (gi_at_builtin; refine qEi rfl (.tmp 27) (.tmp 29) 38 rfl 41 i0 _ 2 32 Tryz.underlying38 hi hz0 hz1 hz2 rfl la pre.length cap _ rfl (qQq HO.out _) (some ⟨W.heap.size, 0, none⟩) 1 1 _ rfl (qUk _ _ _) qUl (by unfold maxLen; omega) (by omega) ?_; intro la5 cap5 w5 hown5 hmo5 hbo5 hn5 hr5; have HM5 : Hid (Mod (blk la) W w5) := hid (((Mod.refl _ W).alloc _).trans hmo5); have hb5 : w5.heap[w.heap.size + 1]? = some (.cells #[.slice la pre.length cap] 38 (0, 0)) := (HM5.out.block _ (lth HBo.out) HNb.out).trans HBo.out; have hm5 : w5.heap[w.heap.size]? = some (.cells #[.int .i64 most] 3 (0, 0)) := (HM5.out.block _ (lth HI.out.most) HNm.out).trans HI.out.most; have HB5 := hid hb5; have HMo5 := hid hm5; have HO5 := hid hown5; have HBl5 : Hid (∀ k, blk la5 k -> w.heap.size <= k) := hid (fun k hk => (hbo5 k hk).elim (fun e => HBl.out k e) (fun e => by have h1 := HI.out.mod.size; simp at e; omega)); have z1 := cell_of_row w5 (w.heap.size + 1) 0 _ _ _ hb5; have z2 := frozen_of_row w5 (w.heap.size + 1) 0 _ _ hb5; have z3 := cell_of_row w5 w.heap.size 0 _ _ _ hm5; simp only [List.getElem?_toArray, List.getElem?_cons_zero] at z1 z3; clear hown5 hmo5 hbo5 hn5 hr5 hb5 hm5)
   obtain ⟨f1, f2, f3⟩ := HFin.out w5 la5 cap5 HM5.out HB5.out HMo5.out HO5.out HBl5.out; exact ⟨f1, rfl, f3, by rw [List.length_append]; simpa using he⟩
  ·have dE : (((pre.length : Int) + 1) == most) = false := by rw [beq_eq_false_iff_ne]; exact he
   gi_wp2_with (gi_at_builtin; refine qEi rfl (.tmp 27) (.tmp 29) 38 rfl 41 i0 _ 2 32 Tryz.underlying38 hi hz0 hz1 hz2 rfl la pre.length cap _ rfl (qQq HO.out _) (some ⟨W.heap.size, 0, none⟩) 1 1 _ rfl (qUk _ _ _) qUl (by unfold maxLen; omega) (by omega) ?_; intro la5 cap5 w5 hown5 hmo5 hbo5 hn5 hr5; have HM5 : Hid (Mod (blk la) W w5) := hid (((Mod.refl _ W).alloc _).trans hmo5); have hb5 : w5.heap[w.heap.size + 1]? = some (.cells #[.slice la pre.length cap] 38 (0, 0)) := (HM5.out.block _ (lth HBo.out) HNb.out).trans HBo.out; have hm5 : w5.heap[w.heap.size]? = some (.cells #[.int .i64 most] 3 (0, 0)) := (HM5.out.block _ (lth HI.out.most) HNm.out).trans HI.out.most; have HB5 := hid hb5; have HMo5 := hid hm5; have HO5 := hid hown5; have HBl5 : Hid (∀ k, blk la5 k -> w.heap.size <= k) := hid (fun k hk => (hbo5 k hk).elim (fun e => HBl.out k e) (fun e => by have h1 := HI.out.mod.size; simp at e; omega)); have z1 := cell_of_row w5 (w.heap.size + 1) 0 _ _ _ hb5; have z2 := frozen_of_row w5 (w.heap.size + 1) 0 _ _ hb5; have z3 := cell_of_row w5 w.heap.size 0 _ _ _ hm5; simp only [List.getElem?_toArray, List.getElem?_cons_zero] at z1 z3; clear hown5 hmo5 hbo5 hn5 hr5 hb5 hm5)
   obtain ⟨f1, f2, f3⟩ := HFin.out w5 la5 cap5 HM5.out HB5.out HMo5.out HO5.out HBl5.out; exact ⟨f1, f2, f3, by rw [List.length_append]; have h1 := HLt.out; simp; omega⟩
 case done =>
  rintro D ys W hD rfl ⟨hI, hlt⟩ hK; obtain ⟨la, cap, hbo, hown, hbl⟩ := hI.out; have qo := cell_of_row _ (w.heap.size + 1) 0 _ _ _ hbo; simp only [List.getElem?_toArray, List.getElem?_cons_zero] at qo; have HF := hid (fun o' => qTy (o' := o') hI hown hbl hK (by omega) (List.take_of_length_le (by omega : ys.length <= most.toNat)))
  clear hI hbo hown hbl hlt; go_wp2_with fail
  refine ⟨by simp, .inl ⟨_, _, rfl, run_takeDeferred hK, ?_⟩⟩
  refine ⟨_, results_tmp rfl _ _ _, ?_⟩; go_simp; exact HF.out _
 case stop =>
  rintro D c pre W hD hpre ⟨rfl, hI, hlt⟩ hK; obtain ⟨la, cap, hbo, hown, hbl⟩ := hI.out; have qo := cell_of_row _ (w.heap.size + 1) 0 _ _ _ hbo; simp only [List.getElem?_toArray, List.getElem?_cons_zero] at qo; have hLp : L.take most.toNat = pre := by
   have h9 : pre <+: L := hpre; rw [show most.toNat = pre.length by omega]
   exact (List.prefix_iff_eq_take.1 h9).symm
  have HF := hid (fun o' => qTy (o' := o') hI hown hbl hK (by omega) hLp)
  clear hI hbo hown hbl hlt hpre hLp; refine wpIn_wide.2 ?_; go_wp2_with fail
  refine ⟨by simp, .inl ⟨_, _, rfl, run_takeDeferred hK, ?_⟩⟩
  refine ⟨_, results_tmp rfl _ _ _, ?_⟩; go_simp; exact HF.out _
end
section
open Go Go.RowKit
set_option maxRecDepth 100000
theorem jDj {S : Nat -> Prop} {w : World} {B : TB} {T : TM} {D : Dsk} {off : Bool} (h : qBa S w B T D off) : Calls Tryz.prog 77 #[.pointer (some ⟨B.tb, 0, none⟩)] w fun e w' => e = .returned (.int .i64 T.count) /\ w = w' := by
 obtain ⟨_, _, _, c3, _⟩ := h.cells; clear h; go_enter Tryz.func77, Tryz.ntmps77
 go_wp2
 go_ret; exact ⟨rfl, rfl⟩
end
section
open Go Go.RowKit
structure Here (w : World) (B : TB) (T : TM) (D : Dsk) (k : Nat) (l : List KV) (N : Nat) : Prop where
 tree : qBa (TS B) w B T D false
 lit : Lit D k
 std : Std B.room D T l N
 ne : B.nb ≠ B.ab
theorem Here.ext {w w' : World} {B : TB} {T : TM} {D : Dsk} {k : Nat} {l : List KV} {N : Nat} (h : Here w B T D k l N) (hm : Mod (fun _ => False) w w') : Here w' B T D k l N := ⟨h.tree.mod hm (fun _ e => e.elim) (fun _ e => e.elim), h.lit, h.std, h.ne⟩
def HApp (w : World) (B : TB) (T : TM) (D : Dsk) (k : Nat) (l : List KV) (N : Nat) (cs : List Cg) (e : Ending) (w' : World) : Prop :=
 (chkF [] cs ≠ 0 /\ e = .returned (.int .i64 (chkF [] cs)) /\ Here w' B T D k l N /\ Mod (fun _ => False) w w') ∨
 (chkF [] cs = 0 /\ ((e = .returned (.int .i64 52) /\ (jlen B.room D : Int) <= (N : Int) + 8 * cs.length /\ Here w' B T D k l N /\ Mod (fun _ => False) w w') ∨
  (e = .returned (.int .i64 31) /\ (B.room < 21 * cs.length + 1 /\ ∃ (W' : WM) (ls : List Chg) (ln : List (Int × NP)) (la : List (Int × Int)), allM T (jlen B.room D : Int) 70 cs T.begin = some W' /\ Laid W' ls ln la /\ B.room < ls.length) /\ Here w' B T D k l N /\ Mod (fun _ => False) w w') ∨
  (e = .returned (.int .i64 0) /\ ∃ (T' : TM) (D' : Dsk) (N' : Nat), Here w' B T' D' (k + 1002) (chgs cs l) N' /\ D'.secs.length = D.secs.length /\ Mod (TS B) w w')))
theorem qXa {w : World} {B : TB} {T : TM} {D : Dsk} {k : Nat} {l : List KV} {N : Nat} (h : Here w B T D k l N) (hk0 : k <= 1152921504606846976) {a : Option Addr} (cap : Nat) {cs : List Cg} (hc : Lies w 3 ccs a cs) (hcl : cs.length <= 1048576) (hs : ∀ c ∈ cs, c.key.size <= maxLen /\ c.value.size <= maxLen) :
  Calls Tryz.prog 11 #[.pointer (some ⟨B.tb, 0, none⟩), .slice a cs.length cap] w (HApp w B T D k l N cs) := by
 by_cases hchk : chkF [] cs = 0
 ·obtain ⟨W', N', h1, h2, h3, h4, h5, h6⟩ := qYw h.lit h.std cs (fun c hc => qIw hchk c hc) hcl
  obtain ⟨r1, r2, r3, r4, r5, r6, r7⟩ := h2.rng; have ht := h.std.ti.rng; have hj : jlen B.room D <= 16384 := by have := h.lit.b.n; unfold jlen; omega
  have hnx := h.std.next; obtain ⟨t1, t2, t3, t4, _⟩ := ht; have e1 : T.begin.count = T.count := rfl; have e2 : T.begin.next = T.next := rfl; rw [e1, e2] at t4; rw [e2] at t2; refine (jGe h.tree cap hc (by omega) hs hchk h1 (by omega) (by omega) (by omega) (fun x hx => by have := r5 x hx; omega) (fun x y hy => by have := r6 x y hy; omega) (fun ls hnd hls => ?_) h.lit.b hk0 h.ne).mono (fun e w' ha => ?_)
  ·have q1 := qLj (m := (List.range W'.next.toNat).map (fun i : Nat => (i : Int))) hnd (fun x hx => by
    have := r5 x (hls x hx); exact List.mem_map.2 ⟨x.toNat, List.mem_range.2 (by omega), by omega⟩)
   rw [List.length_map, List.length_range] at q1; omega
  ·obtain ⟨ls, ln, la, hlaid, hh⟩ := ha; refine .inr ⟨hchk, ?_⟩; rcases hh with ⟨a1, rfl, a3, a4⟩ | ⟨a1, a2, rfl, a3, a4⟩ | ⟨a1, a2, a3, rfl, a4, a5⟩ | ⟨a1, a2, a3, a4, _⟩ | ⟨a1, a2, a3, a4, rfl, a6, a7⟩
   ·exact .inl ⟨rfl, h3 a1, ⟨a3, h.lit, h.std, h.ne⟩, a4⟩
   ·refine .inr (.inl ⟨rfl, ⟨?_, W', ls, ln, la, h1, hlaid, a2⟩, ⟨a3, h.lit, h.std, h.ne⟩, a4⟩); have := h6 ls ln la hlaid a1; omega
   ·refine .inr (.inr ⟨rfl, T, D, N, ?_, rfl, a5.mono (fun _ _ e => e.elim)⟩)
    rw [a3]; exact ⟨a4, h.lit.le (by omega), h.std, h.ne⟩
   ·exact absurd (qMy h.lit h.std h2 (h4 a1) hlaid a2).1 a4
   ·obtain ⟨c1, c2, c3⟩ := qMy h.lit h.std h2 (h4 a1) hlaid a2; have hr := h.std.r2; exact .inr (.inr ⟨rfl, _, _, N', ⟨a6, c2.le (by omega), c3, h.ne⟩, qHr _ _ _, a7⟩)
 ·exact (jCq h.tree cap hc (by omega) hs hchk).mono (fun e w' ⟨he, hm⟩ => .inl ⟨hchk, he, h.ext hm, hm⟩)
theorem Here.empty {w : World} {B : TB} {T : TM} {D : Dsk} {k : Nat} {l : List KV} {N : Nat} (h : Here w B T D k l N) : (T.root = 0 /\ l = []) \/ (T.root ≠ 0 /\ l ≠ [] /\ ∃ (g : Nat) (t : Tr g), g <= 26 /\ Sd T.nodes 250 g T.root t /\ flat g t = l) := by
 obtain ⟨_, _, h3⟩ := h.std.ti; rcases h3 with ⟨h4, h5, _⟩ | ⟨ht, t, F, hR, _⟩
 ·exact .inl ⟨h4, h5⟩
 ·refine .inr ⟨hR.nz, ?_, ht, t, hR.le, hR.sd, hR.fl⟩; rw [<- hR.fl]; obtain ⟨q, v, r, _, h6⟩ := qJr ht t (qOb hR.sd); rw [h6]; simp
theorem Here.len {w : World} {B : TB} {T : TM} {D : Dsk} {k : Nat} {l : List KV} {N : Nat} (h : Here w B T D k l N) : l.length <= 8388608 /\ T.count = l.length := by
 have h1 := h.std.ti.rng; have h2 : T.begin.count = l.length := h.std.ti.2.1; have e1 : T.begin.count = T.count := rfl; have e2 : T.begin.next = T.next := rfl; have hj : jlen B.room D <= 16384 := by have := h.lit.b.n; unfold jlen; omega
 have hnx := h.std.next; rw [e1] at h1 h2; rw [e2] at h1; omega
theorem qUx {w : World} {B : TB} {T : TM} {D : Dsk} {k : Nat} {l : List KV} {N : Nat} (h : Here w B T D k l N) : Calls Tryz.prog 77 #[.pointer (some ⟨B.tb, 0, none⟩)] w fun e w' => e = .returned (.int .i64 (l.length : Int)) /\ w = w' :=
 (jDj h.tree).mono (fun e w' ⟨he, hw⟩ => ⟨by rw [he, h.len.2], hw⟩)
theorem jAz {w : World} {B : TB} {T : TM} {D : Dsk} {k : Nat} {l : List KV} {N : Nat} (h : Here w B T D k l N) (key : ByteArray) (most : Int) : Calls Tryz.prog 12 #[.pointer (some ⟨B.tb, 0, none⟩), .string key, .int .i64 most] w (qMj w (qRz l key most)) := by
 have hnil : ∀ e w', (e = .returned (.slice none 0 0) /\ Mod (fun _ => False) w w') -> qMj w [] e w' := fun e w' ⟨he, hm⟩ => ⟨none, 0, he, Own.nil _ _ _, (fun b hb => (qAk b hb).elim), hm⟩
 by_cases hm : most < 1
 ·have e : qRz l key most = [] := by unfold qRz; rw [show most.toNat = 0 by omega]; rfl
  rw [e]; exact (qTx h.tree (.inr hm) _).mono hnil
 ·rcases h.empty with ⟨h0, rfl⟩ | ⟨h0, _, g, t, hg, hS, hfl⟩
  ·have e : qRz [] key most = [] := by unfold qRz; simp
   rw [e]; exact (qTx h.tree (.inl h0) _).mono hnil
  ·have hasc : Asc (flat g t) := by rw [hfl]; exact h.std.ti.1.asc
   have hw := qTn key g T.root t hS hasc; rw [hfl] at hw; have hl := List.length_filter_le (geK key) l; exact jDt h.tree h0 (by omega) hw (by have := h.len.1; omega)
end
section
open Go Go.RowKit
theorem jAg {c : Cg} {l : List KV} {p : KV} : p ∈ chg c l ↔ (p ∈ l /\ p.1 ≠ c.key) \/ (c.gone = false /\ p = (c.key, c.value)) := by
 unfold chg Cg.put; rw [List.mem_append, List.mem_append, List.mem_filter, List.mem_filter]; constructor
 ·rintro (⟨h1, h2⟩ | h | ⟨h1, h2⟩)
  ·exact .inl ⟨h1, qSm h2⟩
  ·cases hg : c.gone with
   | true => rw [hg] at h; cases h
   | false => rw [hg] at h; exact .inr ⟨rfl, List.mem_singleton.1 h⟩
  ·exact .inl ⟨h1, (qSm h2).symm⟩
 ·rintro (⟨h1, h2⟩ | ⟨h1, rfl⟩)
  ·cases ha : kl p.1 c.key with
   | true => exact .inl ⟨h1, by simp⟩
   | false =>
    cases hb : kl c.key p.1 with
    | true => exact .inr (.inr ⟨h1, by simp⟩)
    | false => exact absurd (qIm ha hb) h2
  ·rw [h1]; exact .inr (.inl List.mem_cons_self)
theorem jCa (c : Cg) (cs : List Cg) (l : List KV) : chgs (c :: cs) l = chgs cs (chg c l) := rfl
theorem qPo : ∀ (cs : List Cg) {l : List KV}, Asc l -> Asc (chgs cs l)
 | [], _, h => h
 | c :: cs, _, h => qPo cs (jCm (c := c) h)
structure PK where
 k : ByteArray
 v : ByteArray
 x : ByteArray
def qFg : Option PK -> Option PK -> List Cg
 | none, none => []
 | none, some q => ⟨q.k, q.v, false⟩ :: (if q.x.toList.isEmpty = true then [] else [⟨q.x, ⟨#[]⟩, false⟩])
 | some p, none => ⟨p.k, ⟨#[]⟩, true⟩ :: (if p.x.toList.isEmpty = true then [] else [⟨p.x, ⟨#[]⟩, true⟩])
 | some p, some q => ⟨q.k, q.v, false⟩ :: (if q.x.toList.isEmpty = true \/ p.x.toList = q.x.toList then [] else [⟨q.x, ⟨#[]⟩, false⟩, ⟨p.x, ⟨#[]⟩, true⟩])
structure PKok (q : PK) (idx : Bool) : Prop where
 ne : q.x.toList.isEmpty = false -> q.k ≠ q.x
 idx : q.x.toList.isEmpty = !idx
end
end Go.Proofs.YtkinkgbmlhiakaaGreatDoor
