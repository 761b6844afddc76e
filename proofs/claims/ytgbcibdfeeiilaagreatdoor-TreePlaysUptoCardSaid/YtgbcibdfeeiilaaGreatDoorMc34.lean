/- merged: TwW TwX TwG -/
import Derived.Test.YtgbcibdfeeiilaaGreatDoorMc33
import Derived.Test.YtgbcibdfeeiilaaGreatDoorMc28
namespace Go.Proofs.YtgbcibdfeeiilaaGreatDoor
section
open Go Go.RowKit
def Kp (n₀ : Nat) (W W' : World) : Prop := RowKit.Below n₀ W W' /\ ∀ (k : Nat) vs, W.heap[k]? = some (.cells vs 116 (0, 0)) -> W'.heap[k]? = some (.cells vs 116 (0, 0))
theorem Kp.trans {n₀ : Nat} {A B C : World} (h : Kp n₀ A B) (k : Kp n₀ B C) : Kp n₀ A C := ⟨h.1.trans k.1, fun i vs hi => k.2 i vs (h.2 i vs hi)⟩
theorem Kp.of_mod {n₀ : Nat} {A B : World} (h : Mod (fun _ => False) A B) (hn : n₀ <= A.heap.size) : Kp n₀ A B := ⟨h.below hn (fun _ e => e.elim), fun k _ hk => (h.block k (lth hk) (fun e => e)).trans hk⟩
def TW (n₀ : Nat) (B : TB) (T : TM) (D : Dsk) (off : Bool) (W : World) : Prop := qAp (fun k => TS B k \/ n₀ <= k) W B T D off /\ (∀ k, TS B k -> k < n₀) /\ n₀ <= W.heap.size
theorem TW.below {n₀ : Nat} {B : TB} {T : TM} {D : Dsk} {off : Bool} {W W' : World} (h : TW n₀ B T D off W) (hb : RowKit.Below n₀ W W') : TW n₀ B T D off W' :=
 ⟨h.1.mod (Mod.of_below hb) (fun _ e => .inr e) (fun k e ht => by have := h.2.1 k ht; omega), h.2.1, Nat.le_trans h.2.2 hb.size⟩
theorem TW.start {w : World} {B : TB} {T : TM} {D : Dsk} {off : Bool} (h : qAp (TS B) w B T D off) : TW w.heap.size B T D off w :=
 ⟨h.narrow (fun k hk e => e.elim id (fun e => by omega)), fun _ hk => h.lt hk, Nat.le_refl _⟩
def qZs (look : Int -> Option NP) (f : Nat) (key : ByteArray) (leaf : Bool) (l : List Ent) : Option (List KV) := if leaf then some ((l.map pvE).filter (geK key)) else qXq (fun s => qJq look f s key) l
def jIt (n₀ : Nat) (J Jx : List KV -> World -> Prop) (pre L : List KV) (W : World) (e : Ending) (W' : World) : Prop :=
 (e = .returned (.bool true) /\ J (pre ++ L) W' /\ Kp n₀ W W') \/ (e = .returned (.bool false) /\ ∃ q, q <+: L /\ Jx (pre ++ q) W')
structure WRel (n₀ : Nat) (J : List KV -> World -> Prop) (B : TB) (T : TM) (D : Dsk) (off : Bool) (W wr : World) (q : Nat) (m : Nd) (leaf : Bool) (es : List Ent) (key : ByteArray) (f : Nat) (pre L : List KV) (i : Nat) (dn : List KV) : Prop where
 j : J (pre ++ dn) wr
 kp : Kp n₀ W wr
 tw : TW n₀ B T D off wr
 box : wr.heap[q]? = some (.cells #[.bool m.leaf, .slice m.ka m.keys.length m.kc, .slice m.va m.values.length m.vc, .slice m.ia m.kids.length m.ic] 116 (0, 0))
 rest : ∃ R, qZs T.nodes f key leaf (es.drop i) = some R /\ L = dn ++ R
 le : i <= es.length
theorem jIg {α : Type} {l : List α} {i : Nat} {x : α} (h : l[i]? = some x) : l.drop i = x :: l.drop (i + 1) := by
 obtain ⟨hlt, rfl⟩ := List.getElem?_eq_some_iff.1 h; exact List.drop_eq_getElem_cons hlt
set_option maxRecDepth 100000
set_option maxHeartbeats 4000000 in
theorem jDe {n₀ N l : Nat} {B : TB} {T : TM} {D : Dsk} {off : Bool} {J Jx : List KV -> World -> Prop} (hJ : ∀ pre W W', J pre W -> Mod (fun _ => False) W W' -> J pre W') (key : ByteArray)
  (hY : ∀ m pre x W, J pre W -> pre.length < N -> YieldAt Fence.wide m Tryz.prog l #[.agg #[.string x.1, .string x.2]] W fun e W' => (e = .returned (.bool true) /\ J (pre ++ [x]) W' /\ Kp n₀ W W') \/ (e = .returned (.bool false) /\ Jx (pre ++ [x]) W')) :
  ∀ (f : Nat) (s : Int) (L pre : List KV) (W : World), qJq T.nodes f s key = some L -> TW n₀ B T D off W -> J pre W -> pre.length + L.length <= N →
   Calls Tryz.prog 56 #[.pointer (some ⟨B.tb, 0, none⟩), .int .i64 s, .string key, .func (.yield l) #[] #[]] W (jIt n₀ J Jx pre L W) := by
 intro f; induction f with
 | zero => intro s L pre W h; cases h
 | succ f ih =>
  intro s L pre W hw ht hj hN; obtain ⟨⟨leaf, es⟩, hn, hw2⟩ := Option.bind_eq_some_iff.1 (show (T.nodes s).bind _ = some L from hw)
  have HR0 : Hid (qZs T.nodes f key leaf (es.drop (qBv key es)) = some L) := hid hw2; obtain ⟨m, hlk, hh, hat, hbs⟩ := ht.1.nodes.get hn; have HG : Hid (qAw leaf es) := hid (by obtain ⟨l, _, _, h3⟩ := ht.1.nodes; exact (h3 _ _ hn).1)
  have HT := hid ht; have HJ := hid hj; have HH := hid hh; have HN := hid hat; have HB := hid hbs; have HIh := hid ih; have HNl := hid hN; have HJa := hid hJ; have HYa := hid hY; have HRi : Hid (qMy m.keys) := hid (by rw [HH.out.k]; exact qFn HG.out)
  obtain ⟨_, _, _, _, _, _, c6, _, _⟩ := ht.1.cells; have hl0 := hlk W (Mod.refl _ _) false; clear hw hw2 ht hj hN hn hlk hh hat hbs ih hJ hY; simp only [Nd.val, Bool.false_eq_true, if_false] at hl0; go_enter Tryz.func56, Tryz.ntmps56
  go_upto_region 2 with fail
  have HBx : Hid ((W.alloc (.cells #[.bool m.leaf, .slice m.ka m.keys.length m.kc, .slice m.va m.values.length m.vc, .slice m.ia m.kids.length m.ic] 116)).heap[W.heap.size]? = some (.cells #[.bool m.leaf, .slice m.ka m.keys.length m.kc, .slice m.va m.values.length m.vc, .slice m.ia m.kids.length m.ic] 116 (0, 0))) := hid (heap_alloc_new _ _); have HM2 : Hid (Mod (fun _ => False) W (W.alloc (.cells #[.bool m.leaf, .slice m.ka m.keys.length m.kc, .slice m.va m.values.length m.vc, .slice m.ia m.kids.length m.ic] 116))) := hid ((Mod.refl _ _).alloc _)
  have HPl := hid (qGo key (HN.out.nd.ext HM2.out) HRi.out); generalize W.alloc (.cells #[.bool m.leaf, .slice m.ka m.keys.length m.kc, .slice m.va m.values.length m.vc, .slice m.ia m.kids.length m.ic] 116) = Z at *; obtain ⟨x0, x1, x2, x3⟩ := cl4 HBx.out; go_upto_region 3 with (go_at_call 50; refine HPl.out.mono ?_; rintro e w3 ⟨⟨i, ok, hat, hok, rfl⟩, hm3⟩; have HAt := hid hat; have HOk := hid hok; have HM3 := hid hm3; obtain ⟨ii, hii⟩ : ∃ z : Int, (if ok = true then (i : Int) else ((i - 1 : Nat) : Int)) = z := ⟨_, rfl⟩; rw [hii]; have HIi := hid hii; clear hat hok hm3 hii)
  have HCut := hid (qOj (c := ⟨key, emp, false⟩) (es := es) (i := i) (ok := ok) (by have h1 := HRi.out; rw [HH.out.k] at h1; exact h1) (by have h1 := HAt.out; rw [HH.out.k] at h1; exact h1) (by have h1 := HOk.out; rw [HH.out.k] at h1; exact h1))
  have hil0 : i <= es.length := by have h1 := HAt.out.le; rw [HH.out.k, List.length_map] at h1; exact h1
  have hpe := qOx HCut.out hil0; change qBv key es = _ at hpe; obtain ⟨j0, hj0⟩ : ∃ j, qBv key es = j := ⟨_, rfl⟩; rw [hj0] at HR0 hpe; have hij : ii = (j0 : Int) := by rw [<- HIi.out, hpe]; cases ok <;> rfl
  have HJl : Hid (j0 <= es.length) := hid (by rw [hpe]; cases ok <;> simp only [Bool.false_eq_true, if_false, if_true] <;> omega)
  subst hij; have HKs : Hid (m.keys.length = es.length) := hid (by rw [HH.out.k, List.length_map])
  have HMz := hid (HM2.out.trans HM3.out); have HW0 : Hid (WRel n₀ J B T D off W w3 W.heap.size m leaf es key f pre L j0 []) := hid ⟨by rw [List.append_nil]; exact HJa.out _ _ _ HJ.out HMz.out, Kp.of_mod HMz.out HT.out.2.2, HT.out.below (HMz.out.below HT.out.2.2 (fun _ e => e.elim)), qAo HM3.out HBx.out, ⟨L, HR0.out, rfl⟩, HJl.out⟩
  have HLn : Hid (es.length <= 511) := hid HG.out.len; generalize W.heap.size = q at *; clear x0 x1 x2 x3 hil0 hpe hj0 c6 hl0 HCut HIi HAt HOk HPl HBx HR0 HJl HMz; have hkl : m.keys.length = es.length := HKs.out; have hlL : es.length <= 511 := HLn.out; go_loopw [10] (fun si wr => ∃ (i : Nat) (dn : List KV), si = .int .i64 (i : Int) /\ WRel n₀ J B T D off W wr q m leaf es key f pre L i dn) (fun si _ => es.length - (intOf si).toNat)
  case atStart => exact ⟨j0, [], rfl, HW0.out⟩
  case round =>
   obtain ⟨i, dn, rfl, hrel⟩ := hrel; obtain ⟨R, hR, hL⟩ := hrel.rest; have HRel := hid hrel; have HL := hid hL; obtain ⟨y0, y1, y2, y3⟩ := cl4 hrel.box; have hile := hrel.le; clear hrel hL; by_cases hlt : i < es.length
   ·obtain ⟨x, hx⟩ : ∃ x, es[i]? = some x := ⟨_, List.getElem?_eq_getElem hlt⟩; have hdr := jIg hx; rw [hdr] at hR; have d0 : decide ((i : Int) < (m.keys.length : Int)) = true := by simp; omega
    have d1 : decide (i < m.keys.length) = true := by simp; omega
    have hgk : m.keys[i]? = some x.key := by rw [HH.out.k, List.getElem?_map, hx]; rfl
    have hdk : ¬ m.keys.length <= i := by omega
    have hnr : NdAt wr m := (qBl HN.out (fun k hk => (HB.out k hk).1) (Mod.of_below HRel.out.kp.1) (fun k e => .inr e)).nd
    cases leaf with
    | true =>
     have hlf : m.leaf = true := HH.out.l; rw [hlf] at y0; have hR1 : some (((x :: es.drop (i + 1)).map pvE).filter (geK key)) = some R := hR; cases hg : kl x.key key with
     | true =>
      have d2 : Op.bytesLess x.key.toList key.toList = true := hg; have hR3 : some (((es.drop (i + 1)).map pvE).filter (geK key)) = some R := by
       rw [<- hR1, List.map_cons, List.filter_cons_of_neg (by rw [jBh (p := pvE x) hg]; exact Bool.false_ne_true)]
      have HR4 : Hid (WRel n₀ J B T D off W wr q m true es key f pre L (i + 1) dn) := hid ⟨HRel.out.j, HRel.out.kp, HRel.out.tw, HRel.out.box, ⟨R, hR3, HL.out⟩, by omega⟩
      obtain ⟨gk, ok2, hka, hkc⟩ := hnr.k.one hgk; rw [hka] at y1; clear hlf hx hR hR1 hR3 hdr hgk hnr hka y2 y3 hkl hile hg; go_wp2_with fail
      go_roundw
      case rel => exact ⟨i + 1, dn, by go_num, HR4.out⟩
      case measure => simp [intOf]; omega
     | false =>
      have d2 : Op.bytesLess x.key.toList key.toList = false := hg; have hgx : geK key (pvE x) = true := by unfold geK pvE; rw [hg]; rfl
      obtain ⟨R', hR', hRe⟩ : ∃ R', some (((es.drop (i + 1)).map pvE).filter (geK key)) = some R' /\ R = pvE x :: R' := ⟨_, rfl, by
       rw [List.map_cons, List.filter_cons_of_pos hgx] at hR1; exact (Option.some.inj hR1).symm⟩
      have HRn : Hid (L = dn ++ (pvE x :: R')) := hid (by rw [HL.out, hRe])
      have HRb : Hid (qZs T.nodes f key true (es.drop (i + 1)) = some R') := hid hR'; have hvs : m.values[i]? = some x.value := by rw [HH.out.v]; show (es.map (·.value))[i]? = _; rw [List.getElem?_map, hx]; rfl
      have hvl : i < m.values.length := (List.getElem?_eq_some_iff.1 hvs).1; have hdv : ¬ m.values.length <= i := by omega
      obtain ⟨gk, ok2, hka, hkc⟩ := hnr.k.one hgk; obtain ⟨gv, ov, hva, hvc⟩ := hnr.v.one hvs; rw [hka] at y1; rw [hva] at y2; have HHl := hid hlf; have hNx : (pre ++ dn).length < N := by
       have h1 := HNl.out; rw [HRn.out] at h1; simp only [List.length_append, List.length_cons] at h1 ⊢; omega
      have HNx := hid hNx; clear hlf hx hR hR1 hR' hRe hdr hgk hnr hka hva hvs y3 hkl hile hg hgx hNx; go_upto_region 5 with fail
      have g1 := fun y : Ext wr => y.cell y1
      have g2 := fun y : Ext wr => y.cell y2
      have gkc := fun y : Ext wr => y.cell hkc
      have gvc := fun y : Ext wr => y.cell hvc
      clear y0 y1 y2 hkc hvc; refine (wpIn_wide (n := 0)).1 (qHo 12 (by kernel_rfl) (by kernel_rfl) ?_)
      simp only [List.take_succ_cons, List.take_zero, List.drop_succ_cons, List.drop_zero]; repeat (go_big_quiet_step (fail))
      refine wpQuiet_nil ?_; rintro _ ⟨z, rfl⟩; obtain ⟨fn, tmps, assign, body, hy, hR⟩ := HYa.out 0 (pre ++ dn) (pvE x) z.val (HJa.out _ _ _ HRel.out.j z.mod) HNx.out; dsimp only [pvE] at hy; have HKz := hid (Kp.of_mod z.mod (Nat.le_trans HT.out.2.2 (HRel.out.kp.1.size))); clear g1 g2 gkc gvc; gi_wp2
      refine ⟨rfl, hR.mono ?_⟩; rintro e w4 (⟨rfl, hj4, hk4⟩ | ⟨rfl, hx4⟩)
      ·have HR4 : Hid (WRel n₀ J B T D off W w4 q m true es key f pre L (i + 1) (dn ++ [pvE x])) := hid ⟨by rw [<- List.append_assoc]; exact hj4, (HRel.out.kp.trans HKz.out).trans hk4, HRel.out.tw.below (HKz.out.trans hk4).1, (HKz.out.trans hk4).2 _ _ HRel.out.box, ⟨R', HRb.out, by rw [HRn.out, List.append_assoc]; rfl⟩, by omega⟩
       clear hj4 hk4; gi_wp2
       go_wp2_with fail
       go_roundw
       case rel => exact ⟨i + 1, dn ++ [pvE x], by go_num, HR4.out⟩
       case measure => simp [intOf]; omega
      ·gi_wp2
       go_wp2_with fail
       go_ret; refine .inr ⟨rfl, dn ++ [pvE x], ?_, by rw [<- List.append_assoc]; exact hx4⟩
       rw [HRn.out]; exact ⟨R', by simp⟩
    | false =>
     obtain ⟨a, ha, hR2⟩ := Option.bind_eq_some_iff.1 (show (qJq T.nodes f x.kid key).bind _ = some R from hR)
     obtain ⟨b, hb, hab⟩ := Option.map_eq_some_iff.1 hR2; have hlf : m.leaf = false := HH.out.l; rw [hlf] at y0; have hgi : m.kids[i]? = some x.kid := by rw [HH.out.i]; show (es.map (·.kid))[i]? = _; rw [List.getElem?_map, hx]; rfl
     have hil : i < m.kids.length := (List.getElem?_eq_some_iff.1 hgi).1; have hdi : ¬ m.kids.length <= i := by omega
     obtain ⟨gi, oi, hia, hkc⟩ := hnr.i.one hgi; rw [hia] at y3; have HRn : Hid (L = dn ++ (a ++ b)) := hid (by rw [HL.out, <- hab])
     have HRb : Hid (qZs T.nodes f key false (es.drop (i + 1)) = some b) := hid hb; have HC := hid (HIh.out x.kid a (pre ++ dn) wr ha HRel.out.tw HRel.out.j (by have h1 := HNl.out; rw [HRn.out] at h1; simp only [List.length_append] at h1 ⊢; omega))
     clear hlf hx hR hR2 hb hab ha hdr hgk hgi hnr hia y2 hkl hile; go_wp2_with (go_at_call 56; refine HC.out.mono ?_; rintro e w4 (⟨rfl, hj4, hk4⟩ | ⟨rfl, q4, hq4, hx4⟩))
     ·have HR4 : Hid (WRel n₀ J B T D off W w4 q m false es key f pre L (i + 1) (dn ++ a)) := hid ⟨by rw [<- List.append_assoc]; exact hj4, HRel.out.kp.trans hk4, HRel.out.tw.below hk4.1, hk4.2 _ _ HRel.out.box, ⟨b, HRb.out, by rw [HRn.out, List.append_assoc]⟩, by omega⟩
      clear hj4 hk4; go_roundw
      case rel =>
       exact ⟨i + 1, dn ++ a, by go_num, HR4.out⟩
      case measure => simp [intOf]; omega
     ·go_ret; refine .inr ⟨rfl, dn ++ q4, ?_, by rw [<- List.append_assoc]; exact hx4⟩
      rw [HRn.out]; obtain ⟨z, hz⟩ := hq4; exact ⟨z ++ b, by rw [<- hz]; simp⟩
   ·have hie : es.drop i = [] := List.drop_eq_nil_of_le (by omega)
    rw [hie] at hR; have hR0 : R = [] := by
     unfold qZs at hR; cases leaf with
     | true => simpa using hR.symm
     | false => have h1 : some [] = some R := hR; cases h1; rfl
    have HLd : Hid (L = dn) := hid (by rw [HL.out, hR0, List.append_nil])
    have d0 : decide ((i : Int) < (m.keys.length : Int)) = false := by simp; omega
    have d1 : decide (i < m.keys.length) = false := by simp; omega
    clear hR hie hR0 hkl hlt hile hlL; go_wp2_with fail
    go_ret; exact .inl ⟨rfl, by rw [HLd.out]; exact HRel.out.j, HRel.out.kp⟩
end
section
open Go Go.RowKit
attribute [local go_sem] Oper.semAt_some
theorem qYk {J : List KV -> World -> Prop} {B : Nat} (h : AbidesFrom B J) : ∀ pre W W', J pre W -> Mod (fun _ => False) W W' -> J pre W' := fun pre W W' hj hm => h pre W W' none hj ⟨hm.os, hm.tape, hm.output, hm.size, fun k hk _ => hm.block k hk (fun e => e)⟩ (fun r e => by cases e)
theorem qYm {P : Program} {l m m' : Nat} {args : Array Value} {W : World} {R : Ending -> World -> Prop} (h : YieldAt Fence.wide m P l args W R) : YieldAt Fence.wide m' P l args W R := by
 obtain ⟨fn, tmps, assign, body, hy, hR⟩ := h; exact ⟨fn, tmps, assign, body, hy, hR.1, fun c cs _ => hR.2 c cs (room_wide _)⟩
set_option maxRecDepth 100000
set_option maxHeartbeats 1000000 in
theorem qXi {n₀ l F bt bf : Nat} {B : TB} {T : TM} {D : Dsk} {off : Bool} {J Jx : List KV -> World -> Prop} (hJ : ∀ pre W W', J pre W -> Mod (fun _ => False) W W' -> J pre W') {key : ByteArray} {L : List KV}
  (hY : ∀ m pre x W, J pre W -> pre.length < L.length -> YieldAt Fence.wide m Tryz.prog l #[.agg #[.string x.1, .string x.2]] W fun e W' => (e = .returned (.bool true) /\ J (pre ++ [x]) W' /\ Kp n₀ W W') \/ (e = .returned (.bool false) /\ Jx (pre ++ [x]) W'))
  (hL : qJq T.nodes F T.root key = some L) {W : World} (ht : TW n₀ B T D off W) (hj : J [] W) (hbt : W.cell? ⟨bt, 0, none⟩ = some (.pointer (some ⟨B.tb, 0, none⟩))) (hbf : W.cell? ⟨bf, 0, none⟩ = some (.string key)) :
  Calls Tryz.prog 55 #[.func (.yield l) #[] #[], .pointer (some ⟨bt, 0, none⟩), .pointer (some ⟨bf, 0, none⟩)] W fun e W' => (∃ v, e = .returned v) /\ ((∃ xs, xs = L /\ J xs W') \/ ∃ pre, pre <+: L /\ Jx pre W') := by
 have HW := hid (fun (z : World) (hm : Mod (fun _ => False) W z) => jDe hJ key hY F T.root L [] z hL (ht.below (hm.below ht.2.2 (fun _ e => e.elim))) (hJ _ _ _ hj hm) (by simp))
 obtain ⟨c0, _⟩ := ht.1.cells; have g0 := fun y : Ext W => y.cell c0
 have g1 := fun y : Ext W => y.cell hbt
 have g2 := fun y : Ext W => y.cell hbf
 clear hJ hY hL ht hj hbt hbf c0; go_enter Tryz.func55, Tryz.ntmps55
 refine qAn 8 (by kernel_rfl) (by kernel_rfl) ?_
 simp only [List.take_succ_cons, List.take_zero, List.drop_succ_cons, List.drop_zero]; repeat (go_big_quiet_step (fail))
 refine wpQuiet_nil ?_; rintro _ ⟨z, rfl⟩; have HC := hid (HW.out z.val z.mod); clear g0 g1 g2; go_wp2_with (go_at_call 56; refine HC.out.mono ?_; rintro e w4 (⟨rfl, hj4, hk4⟩ | ⟨rfl, q4, hq4, hx4⟩))
 ·go_end0; exact ⟨⟨_, rfl⟩, .inl ⟨L, rfl, hj4⟩⟩
 ·go_end0; exact ⟨⟨_, rfl⟩, .inr ⟨q4, hq4, hx4⟩⟩
theorem qTf {n₀ n F bt bf : Nat} {B : TB} {T : TM} {D : Dsk} {off : Bool} {key : ByteArray} {L : List KV} (hL : qJq T.nodes F T.root key = some L) {w : World} (ht : TW n₀ B T D off w)
  (hbt : w.cell? ⟨bt, 0, none⟩ = some (.pointer (some ⟨B.tb, 0, none⟩))) (hbf : w.cell? ⟨bf, 0, none⟩ = some (.string key)) (h1 : bt < w.heap.size) (h2 : bf < w.heap.size) :
  SeqStopsK Fence.wide n Tryz.prog 55 #[.pointer (some ⟨bt, 0, none⟩), .pointer (some ⟨bf, 0, none⟩)] (fun x : KV => #[Value.agg #[.string x.1, .string x.2]]) (Kp n₀) (fun ys => ys = L) (fun pre => pre <+: L) L.length w := fun _ _ _ _ hW hJa _ hY h0 =>
 callsIn_wide.2 (qXi (qYk hJa) (fun _m pre x W1 hj hl => qYm (hY pre x W1 hj hl)) hL (ht.below (hW.mono ht.2.2)) h0 ((hW.cell (p := ⟨bt, 0, none⟩) h1).trans hbt) ((hW.cell (p := ⟨bf, 0, none⟩) h2).trans hbf))
theorem jAc (w : World) (tb : Nat) (key : ByteArray) : Calls Tryz.prog 31 #[.pointer (some ⟨tb, 0, none⟩), .string key] w fun e w' => e = .returned (.func (.func 55) #[] #[.pointer (some ⟨w.heap.size, 0, none⟩), .pointer (some ⟨w.heap.size + 1, 0, none⟩)]) /\ w' = (w.alloc (.cells #[.pointer (some ⟨tb, 0, none⟩)] 24)).alloc (.cells #[.string key] 9) := by
 go_enter Tryz.func31, Tryz.ntmps31
 go_wp2
 go_ret; exact ⟨rfl, rfl⟩
theorem jJs : (Tryz.prog.info? 32).map (fun i => (i.zero, i.size, i.bytes)) = some (some (.agg #[.string ⟨#[]⟩, .string ⟨#[]⟩]), 2, 32) := by kernel_rfl
structure qQg (w W : World) (most : Int) (pre : List KV) : Prop where
 out : ∃ la cap, W.heap[w.heap.size + 1]? = some (.cells #[.slice la pre.length cap] 22 (0, 0)) /\ Own W 32 2 la pre.length cap (pre.flatMap kcs) /\ ∀ b, blk la b -> w.heap.size <= b
 most : W.heap[w.heap.size]? = some (.cells #[.int .i64 most] 3 (0, 0))
 mod : Mod (fun _ => False) w W
theorem Own.cells {w : World} {e : TypeId} {size : Nat} {sa : Option Addr} {n cap : Nat} {xs : List Value} (h : Own w e size sa n cap xs) {k : Nat} (hk : blk sa k) : ∃ cur, w.heap[k]? = some (.cells cur e (0, 0)) := by
 obtain ⟨a, rfl, rfl⟩ := hk; rcases h.2.2.2 with ⟨h0, _⟩ | ⟨g, off, cur, h1, h2, _⟩
 ·cases h0
 ·cases h1; exact ⟨cur, h2⟩
theorem qQg.turn {w X Y : World} {most : Int} {pre : List KV} {row : Option Nat} {B : Nat} (h : qQg w X most pre) (hg : X.grownBy Y row) (hr : ∀ r, row = some r -> B <= r /\ ∃ o : Obj, X.heap[r]? = some o /\ o.isCells = false) (hB : w.heap.size <= B) : qQg w Y most pre := by
 have hm : Mod (fun k => row = some k) X Y := ⟨hg.os, hg.tape, hg.output, hg.size, fun k hk hn => hg.block k hk (fun e => hn e.symm)⟩
 have hnc : ∀ k cs t, X.heap[k]? = some (.cells cs t (0, 0)) -> row ≠ some k := fun k cs t hk e => by
  obtain ⟨_, o, ho, hc⟩ := hr k e; rw [hk] at ho; cases ho; cases hc
 obtain ⟨la, cap, h1, h2, h3⟩ := h.out; refine ⟨⟨la, cap, (hm.block _ (lth h1) (hnc _ _ _ h1)).trans h1, h2.mod hm (fun k hk e => ?_), h3⟩, (hm.block _ (lth h.most) (hnc _ _ _ h.most)).trans h.most, h.mod.then hm (fun k hk e => ?_)⟩
 ·obtain ⟨cur, hc⟩ := h2.cells hk; exact hnc _ _ _ hc e
 ·have h4 := (hr k e).1; omega
def qQf (w : World) (L : List KV) (e : Ending) (w' : World) : Prop := ∃ la cap, e = .returned (.slice la L.length cap) /\ Own w' 32 2 la L.length cap (L.flatMap kcs) /\ (∀ b, blk la b -> w.heap.size <= b) /\ Mod (fun _ => False) w w'
theorem qUw {w W : World} {most : Int} {pre L : List KV} {la : Option Addr} {cap D : Nat} {ds : List Deferred} {o' : Obj} (h : qQg w W most pre) (ho : Own W 32 2 la pre.length cap (pre.flatMap kcs)) (hb : ∀ b, blk la b -> w.heap.size <= b) (hK : W.heap[D]? = some (.deferred (some ds))) (hD : w.heap.size <= D) (hL : L = pre) :
  qQf w L (.returned (.slice la pre.length cap)) (W.putObj D o') := by
 subst hL; have hm : Mod (fun k => k = D) W (W.putObj D o') := ⟨rfl, rfl, rfl, by simp, fun k _ hk => World.putObj_heap_other hk⟩
 refine ⟨la, cap, rfl, ho.mod hm (fun k hk e => ?_), hb, h.mod.then hm (fun k hk e => by omega)⟩
 obtain ⟨cur, hc⟩ := ho.cells hk; rw [e, hK] at hc; cases hc
theorem jFe {n₀ : Nat} {W : World} {l : Nat} {o : Obj} (o' : Obj) (hn : n₀ <= l) (h : W.heap[l]? = some o) (hc : o.isCells = false) : Kp n₀ W (W.putObj l o') :=
 ⟨⟨rfl, rfl, rfl, by simp, fun k hk => World.putObj_heap_other (by omega)⟩, fun k vs hk => (World.putObj_heap_other (fun e => by rw [e, h] at hk; cases hk; cases hc)).trans hk⟩
theorem qUv {S : Nat -> Prop} {w : World} {B : TB} {T : TM} {D : Dsk} {off : Bool} (h : qAp S w B T D off) {most : Int} (hm : T.root = 0 \/ most < 1) (v : Value) : Calls Tryz.prog 10 #[.pointer (some ⟨B.tb, 0, none⟩), v, .int .i64 most] w fun e w' => e = .returned (.slice none 0 0) /\ Mod (fun _ => False) w w' := by
 have hma : Mod (fun _ => False) w (w.alloc (.cells #[.int .i64 most] 3)) := (Mod.refl _ w).alloc _
 obtain ⟨c0, _⟩ := (h.mod hma (fun _ e => e.elim) (fun _ e => e.elim)).cells
 have hM := hid hma; clear h hma; by_cases h0 : T.root = 0
 ·rw [h0] at c0; clear hm h0; go_enter Tryz.func10, Tryz.ntmps10
  go_wp2
  go_ret; exact ⟨rfl, hM.out⟩
 ·have d0 : (T.root == 0) = false := by rw [beq_eq_false_iff_ne]; exact h0
  have d1 : decide (most < 1) = true := by simpa using hm.resolve_left h0
  clear hm h0; go_enter Tryz.func10, Tryz.ntmps10
  go_wp2
  go_ret; exact ⟨rfl, hM.out⟩
set_option maxHeartbeats 4000000 in
theorem jEa {w : World} {B : TB} {T : TM} {D : Dsk} {off : Bool} (h : qAp (TS B) w B T D off) (h0 : T.root ≠ 0) {most : Int} (hm : 1 <= most) {F : Nat} {key : ByteArray} {L : List KV} (hL : qJq T.nodes F T.root key = some L) (hb : L.length <= 1099511627776) :
  Calls Tryz.prog 10 #[.pointer (some ⟨B.tb, 0, none⟩), .string key, .int .i64 most] w (qQf w (L.take most.toNat)) := by
 obtain ⟨i0, hi, hz0, hz1, hz2⟩ := info_parts jJs; obtain ⟨c0, _⟩ := h.cells; have d0 : (T.root == 0) = false := by rw [beq_eq_false_iff_ne]; exact h0
 have d1 : decide (most < 1) = false := by simpa using hm
 have HT := hid (TW.start h); have c0' : (w.alloc (.cells #[.int .i64 most] 3)).cell? ⟨B.tb, 0, none⟩ = some (.int .i64 T.root) := (((Mod.refl (fun _ => False) w).alloc _).cell (p := ⟨B.tb, 0, none⟩) (lth h.box) (fun e => e)).trans c0
 have HL := hid hL; have HB := hid hb; clear h h0 hm hL hb; refine (callsIn_wide (n := 3)).1 ?_; refine callsIn_of_wp_marks Tryz.func10 rfl trivial ?_ rfl; simp only [Tryz.ntmps10, List.size_toArray, List.length_cons, List.length_nil, Nat.reduceAdd, Nat.reduceSub, Array.replicate_succ, Array.replicate_zero, List.push_toArray, List.append_toArray, List.nil_append, List.cons_append]; refine wpIn_wide.2 ?_; go_wp2_with (go_at_call 31; refine (jAc _ _ _).mono ?_; rintro e w' ⟨rfl, rfl⟩)
 have hsz : ((((w.alloc (.cells #[.int .i64 most] 3)).alloc (.cells #[.slice none 0 0] 22)).alloc (.cells #[.pointer (some ⟨B.tb, 0, none⟩)] 24)).alloc (.cells #[.string key] 9)).heap.size = w.heap.size + 4 := by simp
 have hM0 : Mod (fun _ => False) w ((((w.alloc (.cells #[.int .i64 most] 3)).alloc (.cells #[.slice none 0 0] 22)).alloc (.cells #[.pointer (some ⟨B.tb, 0, none⟩)] 24)).alloc (.cells #[.string key] 9)) := ((((Mod.refl _ _).alloc _).alloc _).alloc _).alloc _
 have hB0 := qAo (((((Mod.refl (fun _ => False) (w.alloc (.cells #[.int .i64 most] 3))).alloc (.cells #[.slice none 0 0] 22)).alloc (.cells #[.pointer (some ⟨B.tb, 0, none⟩)] 24)).alloc (.cells #[.string key] 9))) (heap_alloc_new w (.cells #[.int .i64 most] 3))
 have hB1 := qAo (((Mod.refl (fun _ => False) ((w.alloc (.cells #[.int .i64 most] 3)).alloc (.cells #[.slice none 0 0] 22))).alloc (.cells #[.pointer (some ⟨B.tb, 0, none⟩)] 24)).alloc (.cells #[.string key] 9)) (heap_alloc_new (w.alloc (.cells #[.int .i64 most] 3)) (.cells #[.slice none 0 0] 22))
 have hB2 := qAo ((Mod.refl (fun _ => False) (((w.alloc (.cells #[.int .i64 most] 3)).alloc (.cells #[.slice none 0 0] 22)).alloc (.cells #[.pointer (some ⟨B.tb, 0, none⟩)] 24))).alloc (.cells #[.string key] 9)) (heap_alloc_new ((w.alloc (.cells #[.int .i64 most] 3)).alloc (.cells #[.slice none 0 0] 22)) (.cells #[.pointer (some ⟨B.tb, 0, none⟩)] 24))
 have hB3 := heap_alloc_new (((w.alloc (.cells #[.int .i64 most] 3)).alloc (.cells #[.slice none 0 0] 22)).alloc (.cells #[.pointer (some ⟨B.tb, 0, none⟩)] 24)) (.cells #[.string key] 9); simp only [World.size_alloc] at hB1 hB2 hB3; generalize ((((w.alloc (.cells #[.int .i64 most] 3)).alloc (.cells #[.slice none 0 0] 22)).alloc (.cells #[.pointer (some ⟨B.tb, 0, none⟩)] 24)).alloc (.cells #[.string key] 9)) = W0 at *; have hT0 : TW w.heap.size B T D off W0 := HT.out.below (hM0.below (Nat.le_refl _) (fun _ e => e.elim))
 have hI0 : qQg w W0 most [] := ⟨⟨none, 0, hB1, Own.nil _ _ _, fun k hk => (qAg k hk).elim⟩, hB0, hM0⟩
 refine wpIn_wide.1 (wpIn_rangeFunc_ownH (n := 3) rfl (by omega) (gf := 55) (lb := #[.pointer (some ⟨w.heap.size + 1 + 1, 0, none⟩), .pointer (some ⟨w.heap.size + 1 + 1 + 1, 0, none⟩)]) rfl trivial (enters_of Tryz.func55 (by kernel_rfl) rfl)
  (qTf HL.out hT0 (by rw [cell_of_row _ _ _ _ _ _ hB2]; rfl) (by rw [cell_of_row _ _ _ _ _ _ hB3]; rfl) (by omega) (by omega)) (fun h k => h.trans k) (fun W l o o' hl hk hc _ => jFe o' (by omega) hk hc) (RowKit.Below.refl _ _) (fun _ => rfl)
  (fun pre W => qQg w W most pre /\ (pre.length : Int) < most)
  (fun c pre W => c = .exit 0 /\ qQg w W most pre /\ (pre.length : Int) = most)
  (fun s X Y row hs hg hr => ⟨hs.1.turn hg hr (by omega), hs.2⟩)
  (fun c s X Y row hs hg hr => ⟨hs.1, hs.2.1.turn hg hr (by omega), hs.2.2⟩)
  ⟨hI0, by have h1 : ¬ most < 1 := (by simpa using d1); simp; omega⟩
  (fun x a' W => ∃ Bx, W.heap[Bx]? = some (.cells #[.string x.1, .string x.2] 32 (0, 0)) /\ a' = { tmps := #[.pointer (some ⟨B.tb, 0, none⟩), .string key, .int .i64 most, undef, undef, .pointer (some ⟨w.heap.size, 0, none⟩), .slice none 0 0, .pointer (some ⟨w.heap.size + 1, 0, none⟩), .pointer (some ⟨Bx, 0, none⟩), .pointer (some ⟨B.tb, 0, none⟩), .bool false, .bool false, .pointer (some ⟨B.tb, 0, none⟩), .pointer (some ⟨B.tb, 0, none⟩), .pointer (some ⟨B.tb, 0, none⟩), .pointer (some ⟨B.tb, 0, none⟩), .int .i64 T.root, .bool false, .bool false, .bool false, .int .i64 most, .bool false, .bool false, .pointer (some ⟨B.tb, 0, none⟩), .string key, .func (.func 55) #[] #[.pointer (some ⟨w.heap.size + 1 + 1, 0, none⟩), .pointer (some ⟨w.heap.size + 1 + 1 + 1, 0, none⟩)], .agg #[.string x.1, .string x.2], undef, undef, undef, undef, undef, undef, undef, undef, undef], defers := [] })
  (fun x a' _ X Y row hs hg hr => by
   obtain ⟨Bx, h1, h3⟩ := hs; refine ⟨Bx, (hg.block Bx (lth h1) (fun e => ?_)).trans h1, h3⟩
   obtain ⟨_, o, ho, hc⟩ := hr Bx e.symm; rw [h1] at ho; cases ho; cases hc)
  ?assign ?body ?done ?stop)
 case assign =>
  rintro l pre x W K ⟨hI, hlt⟩ hK; have hma : Mod (fun _ => False) W (W.alloc (.cells #[.string x.1, .string x.2] 32)) := (Mod.refl _ _).alloc _
  gi_wp2
  have hIa : qQg w (W.alloc (.cells #[.string x.1, .string x.2] 32)) most pre := hI.turn (row := none) ⟨hma.os, hma.tape, hma.output, hma.size, fun k hk _ => hma.block k hk (fun e => e)⟩ (fun r e => by cases e) (Nat.le_refl _)
  exact hK _ _ ((KeepsOthers.alloc _ _).from _) (Kp.of_mod hma hI.mod.size) ⟨hIa, hlt⟩ ⟨W.heap.size, heap_alloc_new _ _, rfl⟩
 case body =>
  rintro l pre x a' W hl ⟨r, hr⟩ ⟨hI, hlt⟩ ⟨Bx, hBx, rfl⟩ hlen; obtain ⟨la, cap, hbo, hown, hbl⟩ := hI.out; obtain ⟨x1, x2⟩ := x; have q0 : W.cell? ⟨Bx, 0, none⟩ = some (.string x1) := by rw [cell_of_row _ _ _ _ _ _ hBx]; rfl
  have q1 : W.cell? ⟨Bx, 1, none⟩ = some (.string x2) := by rw [cell_of_row _ _ _ _ _ _ hBx]; rfl
  have qo : W.cell? ⟨w.heap.size + 1, 0, none⟩ = some (.slice la pre.length cap) := by rw [cell_of_row _ _ _ _ _ _ hbo]; rfl
  have HI := hid hI; have HO := hid hown; have HBl := hid hbl; have HBo := hid hbo; have hpl : pre.length < L.length := hlen; have hpb : pre.length + 1 <= 1099511627776 := by have := HB.out; omega
  have HLt := hid hlt; clear hI hr hBx hbo hown hbl hlen hlt; have HNb : Hid (¬ blk la (w.heap.size + 1)) := hid (fun e => by
   obtain ⟨cur, hc⟩ := HO.out.cells e; rw [HBo.out] at hc; cases hc)
  have HNm : Hid (¬ blk la w.heap.size) := hid (fun e => by
   obtain ⟨cur, hc⟩ := HO.out.cells e; rw [HI.out.most] at hc; cases hc)
  have HFin : Hid (∀ (w5 : World) (la5 : Option Addr) (cap5 : Nat), Mod (blk la) W w5 -> w5.heap[w.heap.size + 1]? = some (.cells #[.slice la pre.length cap] 22 (0, 0)) -> w5.heap[w.heap.size]? = some (.cells #[.int .i64 most] 3 (0, 0)) -> Own w5 32 2 la5 (pre.length + 1) cap5 (pre.flatMap kcs ++ [.string x1, .string x2]) -> (∀ k, blk la5 k -> w.heap.size <= k) →
    KeepsFrom W0.heap.size W (w5.setCell ⟨w.heap.size + 1, 0, none⟩ (.slice la5 (pre.length + 1) cap5)) /\ Kp w.heap.size W (w5.setCell ⟨w.heap.size + 1, 0, none⟩ (.slice la5 (pre.length + 1) cap5)) /\ qQg w (w5.setCell ⟨w.heap.size + 1, 0, none⟩ (.slice la5 (pre.length + 1) cap5)) most (pre ++ [(x1, x2)])) := hid (fun w5 la5 cap5 hm5 hb5 hbm5 ho5 hbl5 => by
   have hm6 : Mod (fun k => blk la k \/ k = w.heap.size + 1) W (w5.setCell ⟨w.heap.size + 1, 0, none⟩ (.slice la5 (pre.length + 1) cap5)) := (hm5.mono (fun k _ e => .inl e)).setCell (p := ⟨w.heap.size + 1, 0, none⟩) (fun _ => .inr rfl) _
   have hmS : Mod (fun k => k = w.heap.size + 1) w5 (w5.setCell ⟨w.heap.size + 1, 0, none⟩ (.slice la5 (pre.length + 1) cap5)) := Mod.setCell (S := fun k => k = w.heap.size + 1) (p := ⟨w.heap.size + 1, 0, none⟩) (Mod.refl _ _) (fun _ => rfl) _
   have hcl : ∀ k, (blk la k \/ k = w.heap.size + 1) -> ∃ cur t, W.heap[k]? = some (.cells cur t (0, 0)) /\ t ≠ 116 := fun k hk => by
    rcases hk with hk | hk
    ·obtain ⟨cur, hc⟩ := HO.out.cells hk; exact ⟨cur, _, hc, by decide⟩
    ·rw [hk]; exact ⟨_, _, HBo.out, by decide⟩
   refine ⟨qPm _ hm6 (fun k o hk ho => ?_), ⟨hm6.below HI.out.mod.size (fun k hk => ?_), fun k vs hk => (hm6.block k (lth hk) (fun e => ?_)).trans hk⟩, ⟨la5, cap5, ?_, ?_, hbl5⟩, (hmS.block _ (lth hbm5) (by omega)).trans hbm5, HI.out.mod.then hm6 (fun k hk e => ?_)⟩
   ·obtain ⟨cur, t, hc, _⟩ := hcl k hk; rw [ho] at hc; cases hc; rfl
   ·rcases hk with hk | hk
    ·exact HBl.out k hk
    ·omega
   ·obtain ⟨cur, t, hc, hne⟩ := hcl k e; rw [hk] at hc; cases hc
    exact hne rfl
   ·rw [qAh hb5, List.length_append]; rfl
   ·rw [qFa, List.length_append]; refine ho5.mod hmS (fun k hk e => ?_)
    obtain ⟨cur, hc⟩ := ho5.cells hk; rw [e, hb5] at hc; cases hc
   ·rcases e with e | e
    ·have := HBl.out k e; omega
    ·omega)
  by_cases he : (pre.length : Int) + 1 = most
  ·have dE : (((pre.length : Int) + 1) == most) = true := by rw [beq_iff_eq]; exact he
   gi_wp2_with (gi_at_builtin; refine qEn rfl (.tmp 27) (.tmp 29) 22 rfl 32 i0 _ 2 32 Tryz.underlying22 hi hz0 hz1 hz2 rfl la pre.length cap _ rfl (qCz HO.out _) (some ⟨W.heap.size, 0, none⟩) 1 1 _ rfl (qEh _ _ _) qEi (by unfold maxLen; omega) (by omega) ?_; intro la5 cap5 w5 hown5 hmo5 hbo5 hn5 hr5; have HM5 : Hid (Mod (blk la) W w5) := hid (((Mod.refl _ W).alloc _).trans hmo5); have hb5 : w5.heap[w.heap.size + 1]? = some (.cells #[.slice la pre.length cap] 22 (0, 0)) := (HM5.out.block _ (lth HBo.out) HNb.out).trans HBo.out; have hm5 : w5.heap[w.heap.size]? = some (.cells #[.int .i64 most] 3 (0, 0)) := (HM5.out.block _ (lth HI.out.most) HNm.out).trans HI.out.most; have HB5 := hid hb5; have HMo5 := hid hm5; have HO5 := hid hown5; have HBl5 : Hid (∀ k, blk la5 k -> w.heap.size <= k) := hid (fun k hk => (hbo5 k hk).elim (fun e => HBl.out k e) (fun e => by have h1 := HI.out.mod.size; simp at e; omega)); have z1 := cell_of_row w5 (w.heap.size + 1) 0 _ _ _ hb5; have z2 := frozen_of_row w5 (w.heap.size + 1) 0 _ _ hb5; have z3 := cell_of_row w5 w.heap.size 0 _ _ _ hm5; simp only [List.getElem?_toArray, List.getElem?_cons_zero] at z1 z3; clear hown5 hmo5 hbo5 hn5 hr5 hb5 hm5)
   obtain ⟨f1, f2, f3⟩ := HFin.out w5 la5 cap5 HM5.out HB5.out HMo5.out HO5.out HBl5.out; exact ⟨f1, rfl, f3, by rw [List.length_append]; simpa using he⟩
  ·have dE : (((pre.length : Int) + 1) == most) = false := by rw [beq_eq_false_iff_ne]; exact he
   gi_wp2_with (gi_at_builtin; refine qEn rfl (.tmp 27) (.tmp 29) 22 rfl 32 i0 _ 2 32 Tryz.underlying22 hi hz0 hz1 hz2 rfl la pre.length cap _ rfl (qCz HO.out _) (some ⟨W.heap.size, 0, none⟩) 1 1 _ rfl (qEh _ _ _) qEi (by unfold maxLen; omega) (by omega) ?_; intro la5 cap5 w5 hown5 hmo5 hbo5 hn5 hr5; have HM5 : Hid (Mod (blk la) W w5) := hid (((Mod.refl _ W).alloc _).trans hmo5); have hb5 : w5.heap[w.heap.size + 1]? = some (.cells #[.slice la pre.length cap] 22 (0, 0)) := (HM5.out.block _ (lth HBo.out) HNb.out).trans HBo.out; have hm5 : w5.heap[w.heap.size]? = some (.cells #[.int .i64 most] 3 (0, 0)) := (HM5.out.block _ (lth HI.out.most) HNm.out).trans HI.out.most; have HB5 := hid hb5; have HMo5 := hid hm5; have HO5 := hid hown5; have HBl5 : Hid (∀ k, blk la5 k -> w.heap.size <= k) := hid (fun k hk => (hbo5 k hk).elim (fun e => HBl.out k e) (fun e => by have h1 := HI.out.mod.size; simp at e; omega)); have z1 := cell_of_row w5 (w.heap.size + 1) 0 _ _ _ hb5; have z2 := frozen_of_row w5 (w.heap.size + 1) 0 _ _ hb5; have z3 := cell_of_row w5 w.heap.size 0 _ _ _ hm5; simp only [List.getElem?_toArray, List.getElem?_cons_zero] at z1 z3; clear hown5 hmo5 hbo5 hn5 hr5 hb5 hm5)
   obtain ⟨f1, f2, f3⟩ := HFin.out w5 la5 cap5 HM5.out HB5.out HMo5.out HO5.out HBl5.out; exact ⟨f1, f2, f3, by rw [List.length_append]; have h1 := HLt.out; simp; omega⟩
 case done =>
  rintro D ys W hD rfl ⟨hI, hlt⟩ hK; obtain ⟨la, cap, hbo, hown, hbl⟩ := hI.out; have qo := cell_of_row _ (w.heap.size + 1) 0 _ _ _ hbo; simp only [List.getElem?_toArray, List.getElem?_cons_zero] at qo; have HF := hid (fun o' => qUw (o' := o') hI hown hbl hK (by omega) (List.take_of_length_le (by omega : ys.length <= most.toNat)))
  clear hI hbo hown hbl hlt; go_wp2_with fail
  refine ⟨by simp, .inl ⟨_, _, rfl, run_takeDeferred hK, ?_⟩⟩
  refine ⟨_, results_tmp rfl _ _ _, ?_⟩; go_simp; exact HF.out _
 case stop =>
  rintro D c pre W hD hpre ⟨rfl, hI, hlt⟩ hK; obtain ⟨la, cap, hbo, hown, hbl⟩ := hI.out; have qo := cell_of_row _ (w.heap.size + 1) 0 _ _ _ hbo; simp only [List.getElem?_toArray, List.getElem?_cons_zero] at qo; have hLp : L.take most.toNat = pre := by
   have h9 : pre <+: L := hpre; rw [show most.toNat = pre.length by omega]
   exact (List.prefix_iff_eq_take.1 h9).symm
  have HF := hid (fun o' => qUw (o' := o') hI hown hbl hK (by omega) hLp)
  clear hI hbo hown hbl hlt hpre hLp; refine wpIn_wide.2 ?_; go_wp2_with fail
  refine ⟨by simp, .inl ⟨_, _, rfl, run_takeDeferred hK, ?_⟩⟩
  refine ⟨_, results_tmp rfl _ _ _, ?_⟩; go_simp; exact HF.out _
end
section
open Go Go.RowKit
set_option maxRecDepth 100000
theorem jBf {S : Nat -> Prop} {w : World} {B : TB} {T : TM} {D : Dsk} {off : Bool} (h : qAp S w B T D off) (h0 : T.root = 0) (key : ByteArray) :
  Calls Tryz.prog 25 #[.pointer (some ⟨B.tb, 0, none⟩), .string key] w fun e w' => e = .returned (.tuple #[.string ⟨#[]⟩, .bool false]) /\ w = w' := by
 obtain ⟨c0, _⟩ := h.cells; rw [h0] at c0; clear h h0; go_enter Tryz.func25, Tryz.ntmps25
 go_wp2
 go_ret2; exact ⟨rfl, rfl⟩
def jKh (es : List Ent) (key : ByteArray) (e : Ending) : Prop :=
 (∃ x ∈ es, x.key = key /\ e = .returned (.tuple #[.string x.value, .bool true])) \/ ((∀ x ∈ es, x.key ≠ key) /\ e = .returned (.tuple #[.string ⟨#[]⟩, .bool false]))
set_option maxHeartbeats 1000000 in
theorem jIb {S : Nat -> Prop} {w : World} {B : TB} {T : TM} {D : Dsk} {off : Bool} (h : qAp S w B T D off) {key : ByteArray} {F : Nat} {n0 fin : NP} (h0 : T.root ≠ 0) (hr : T.nodes T.root = some n0) (hd : qTv T.nodes F n0 key = some fin) :
  Calls Tryz.prog 25 #[.pointer (some ⟨B.tb, 0, none⟩), .string key] w fun e w' => jKh fin.2 key e /\ Mod (fun _ => False) w w' := by
 obtain ⟨c0, _⟩ := h.cells; have d0 : (T.root == 0) = false := by rw [beq_eq_false_iff_ne]; exact h0
 have HL := hid (jFb h hr hd); obtain ⟨lf, es⟩ := fin; clear h hr hd h0; go_enter Tryz.func25, Tryz.ntmps25
 go_upto_region 4 with (go_at_call 49; refine HL.out.mono ?_; rintro e w1 ⟨m, rfl, hh, hn, hg, hb, hf, hm⟩; have HH := hid hh; have HN := hid hn; have HG := hid hg; have HF := hid hf; have HM := hid hm; clear hh hn hg hb hf hm; simp only [Nd.val])
 have HRi : Hid (qMy m.keys) := hid (by rw [HH.out.k]; exact qFn HG.out)
 have HBx : Hid ((w1.alloc (.cells #[.bool m.leaf, .slice m.ka m.keys.length m.kc, .slice m.va m.values.length m.vc, .slice m.ia m.kids.length m.ic] 116)).heap[w1.heap.size]? = some (.cells #[.bool m.leaf, .slice m.ka m.keys.length m.kc, .slice m.va m.values.length m.vc, .slice m.ia m.kids.length m.ic] 116 (0, 0))) := hid (heap_alloc_new _ _); have HM2 : Hid (Mod (fun _ => False) w1 (w1.alloc (.cells #[.bool m.leaf, .slice m.ka m.keys.length m.kc, .slice m.va m.values.length m.vc, .slice m.ia m.kids.length m.ic] 116))) := hid ((Mod.refl _ _).alloc _)
 have HPl := hid (qGo key (HN.out.nd.ext HM2.out) HRi.out); generalize w1.alloc (.cells #[.bool m.leaf, .slice m.ka m.keys.length m.kc, .slice m.va m.values.length m.vc, .slice m.ia m.kids.length m.ic] 116) = Z at *; obtain ⟨x0, x1, x2, x3⟩ := cl4 HBx.out; go_upto_region 5 with (go_at_call 50; refine HPl.out.mono ?_; rintro e w3 ⟨⟨i, ok, hat, hok, rfl⟩, hm3⟩; have HAt := hid hat; have HOk := hid hok; have HM3 := hid hm3; have hb3 := qAo hm3 HBx.out; have HB3 := hid hb3; obtain ⟨y0, y1, y2, y3⟩ := cl4 hb3; clear hat hok hm3 hb3 x0 x1 x2 x3)
 have HCut := hid (qOj (c := ⟨key, emp, false⟩) (es := es) (i := i) (ok := ok) (by have h1 := HRi.out; rw [HH.out.k] at h1; exact h1) (by have h1 := HAt.out; rw [HH.out.k] at h1; exact h1) (by have h1 := HOk.out; rw [HH.out.k] at h1; exact h1))
 have HMa := hid ((HM.out.trans HM2.out).trans HM3.out); cases ok with
 | false =>
  clear y0 y1 y2 y3; go_wp2_with fail
  go_ret2; refine ⟨.inr ⟨fun x hx e => ?_, rfl⟩, HMa.out⟩
  have h1 := HCut.out.2.1; unfold hasE at h1; rw [List.any_eq_false] at h1; exact h1 x hx (by simpa using e)
 | true =>
  obtain ⟨x, hx, hxk⟩ := HCut.out.2.2.1; have HX := hid hx; have HXk := hid hxk; have hlf : lf = true := HF.out; have HVs : Hid (m.values = es.map (·.value)) := hid (by have h1 := HH.out.v; rw [hlf] at h1; exact h1)
  have hgv : m.values[i]? = some x.value := by rw [HVs.out, List.getElem?_map, hx]; rfl
  have hil : i < m.values.length := (List.getElem?_eq_some_iff.1 hgv).1; have hdi : ¬ m.values.length <= i := by omega
  obtain ⟨gv, ov, hva, hvc⟩ := ((HN.out.nd.ext HM2.out).ext HM3.out).v.one hgv; rw [hva] at y2; clear hx hxk hgv hva hlf; go_wp2_with fail
  go_ret2; exact ⟨.inl ⟨x, List.mem_of_getElem? HX.out, HXk.out, rfl⟩, HMa.out⟩
theorem jDp {S : Nat -> Prop} {w : World} {B : TB} {T : TM} {D : Dsk} {off : Bool} (h : qAp S w B T D off) : Calls Tryz.prog 11 #[.pointer (some ⟨B.tb, 0, none⟩)] w fun e w' => e = .returned (.int .i64 T.count) /\ w = w' := by
 obtain ⟨_, _, _, c3, _⟩ := h.cells; clear h; go_enter Tryz.func11, Tryz.ntmps11
 go_wp2
 go_ret; exact ⟨rfl, rfl⟩
theorem qZj {S : Nat -> Prop} {w : World} {B : TB} {T : TM} {D : Dsk} {off : Bool} (h : qAp S w B T D off) : Calls Tryz.prog 29 #[.pointer (some ⟨B.tb, 0, none⟩)] w fun e w' => (∃ dom : List Int, dom.Nodup /\ (∀ x, x ∈ dom ↔ (T.nodes x).isSome = true) /\ e = .returned (.int .i64 (wrap64 ((dom.length : Int) + 1)))) /\ w = w' := by
 obtain ⟨_, _, _, _, _, _, c6, _⟩ := h.cells; obtain ⟨l, hl1, hl2, hl3⟩ := h.nodes; have hm1 : qBi KI.kv w B.nb l := hl1; have HD : Hid ((l.map (·.1)).Nodup /\ ∀ x, x ∈ l.map (·.1) ↔ (T.nodes x).isSome = true) := hid ⟨(by obtain ⟨_, _, _, _, hnd, _⟩ := hm1; exact hnd), fun x => by
  rw [<- qAs]; cases hx : T.nodes x with
  | none => rw [hl2 x hx]; simp
  | some n => obtain ⟨_, m, h2, _⟩ := hl3 x n hx; rw [h2]; simp⟩
 have HMp := hid hm1; clear h hl2 hl3 hl1 hm1; go_enter Tryz.func29, Tryz.ntmps29
 go_wp2_with (refine qOo rfl _ 76 rfl Tryz.underlying76 B.nb _ rfl HMp.out ?_)
 go_ret; exact ⟨⟨l.map (·.1), HD.out.1, HD.out.2, by rw [List.length_map]; rfl⟩, rfl⟩
end
end Go.Proofs.YtgbcibdfeeiilaaGreatDoor
