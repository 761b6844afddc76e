/- merged: Part Join -/
import Derived.Test.YtkinkgbmlhiakaaGreatDoorNd08
namespace Go.Proofs.YtkinkgbmlhiakaaGreatDoor
section
open Go Go.RowKit
structure Has (m : Nd) (leaf : Bool) (es : List Ent) : Prop where
 l : m.leaf = leaf
 k : m.keys = es.map (·.key)
 v : m.values = if leaf then es.map (·.value) else []
 i : m.kids = if leaf then [] else es.map (·.kid)
def jHz (w : World) (leaf : Bool) (es : List Ent) (e : Ending) (w' : World) : Prop :=
 ∃ m : Nd, Has m leaf es /\ e = .returned (.agg #[.bool m.leaf, .slice m.ka m.keys.length m.kc, .slice m.va m.values.length m.vc, .slice m.ia m.kids.length m.ic]) /\ Gd w' m /\ Mod (fun _ => False) w w' /\ ∀ b, m.bs b -> w.heap.size <= b
structure Var (Wa wr : World) (L B : Nat) (leaf : Bool) (es : List Ent) (m : Nd) : Prop where
 has : Has m leaf es
 box : wr.heap[B]? = some (.cells #[.bool m.leaf, .slice m.ka m.keys.length m.kc, .slice m.va m.values.length m.vc, .slice m.ia m.kids.length m.ic] 123 (0, 0))
 gd : Gd wr m
 bs : ∀ b, m.bs b -> L <= b /\ b ≠ B
 lb : L <= B
 mod : Mod (fun j => L <= j) Wa wr
def qUk (w : World) (n : Nd) (leaf : Bool) (es : List Ent) (e : Ending) (w' : World) : Prop :=
 ∃ m : Nd, Has m leaf es /\ e = .returned (.agg #[.bool m.leaf, .slice m.ka m.keys.length m.kc, .slice m.va m.values.length m.vc, .slice m.ia m.kids.length m.ic]) /\ Gd w' m /\ Mod n.bs w w' /\ ∀ b, m.bs b -> n.bs b \/ w.heap.size <= b
theorem Has.len_le {m : Nd} {leaf : Bool} {es : List Ent} (h : Has m leaf es) : m.keys.length = es.length /\ m.values.length <= es.length /\ m.kids.length <= es.length := by
 refine ⟨by rw [h.k]; simp, ?_, ?_⟩
 ·rw [h.v]; split <;> simp
 ·rw [h.i]; split <;> simp
theorem qUp {w : World} {n : Nd} {leaf : Bool} {es : List Ent} (x : Ent) (h : Has n leaf es) (g : Gd w n) (hb : es.length <= 8388608) :
  Calls Tryz.prog 132 #[.agg #[.bool n.leaf, .slice n.ka n.keys.length n.kc, .slice n.va n.values.length n.vc, .slice n.ia n.kids.length n.ic], .string x.key, .string x.value, .int .i64 x.kid] w fun e w' => qUk w n leaf (es ++ [x]) e w' := by
 obtain ⟨h1, h2, h3⟩ := h.len_le; refine (jEg x.key x.value x.kid g (by omega) (by omega) (by omega)).mono ?_
 rintro e w' ⟨m, hl, hk, hv, hi, rfl, hg, hm, hbs⟩; refine ⟨m, ⟨hl.trans h.l, by rw [hk, h.k]; simp, ?_, ?_⟩, rfl, hg, hm, hbs⟩
 ·rw [hv, h.v, h.l]; cases leaf <;> simp
 ·rw [hi, h.i, h.l]; cases leaf <;> simp
theorem Var.step {Wa wr y w1 : World} {L B : Nat} {leaf : Bool} {es : List Ent} {m m' : Nd} {x : Ent} (h : Var Wa wr L B leaf es m) (hy : Mod (fun _ => False) wr y) (ha : Has m' leaf (es ++ [x])) (hg : Gd w1 m') (hm : Mod m.bs y w1) (hb : ∀ b, m'.bs b -> m.bs b \/ y.heap.size <= b) :
  Var Wa ((((w1.setCell ⟨B, 0, none⟩ (.bool m'.leaf)).setCell ⟨B, 1, none⟩ (.slice m'.ka m'.keys.length m'.kc)).setCell ⟨B, 2, none⟩ (.slice m'.va m'.values.length m'.vc)).setCell ⟨B, 3, none⟩ (.slice m'.ia m'.kids.length m'.ic)) L B leaf (es ++ [x]) m' := by
 have hlt := lth h.box; have hys := hy.size; have h1 : w1.heap[B]? = _ := ((hm.block B (by omega) (fun k => (h.bs B k).2 rfl)).trans (hy.block B hlt (fun k => k))).trans h.box
 have h2 := (set4 (set4 (set4 (set4 h1 (.bool m'.leaf)).1 (.slice m'.ka m'.keys.length m'.kc)).2.1 (.slice m'.va m'.values.length m'.vc)).2.2.1 (.slice m'.ia m'.kids.length m'.ic)).2.2.2; have M : Mod (fun k => k = B) w1 ((((w1.setCell ⟨B, 0, none⟩ (.bool m'.leaf)).setCell ⟨B, 1, none⟩ (.slice m'.ka m'.keys.length m'.kc)).setCell ⟨B, 2, none⟩ (.slice m'.va m'.values.length m'.vc)).setCell ⟨B, 3, none⟩ (.slice m'.ia m'.kids.length m'.ic)) := Mod.setCell (S := fun k => k = B) (Mod.setCell (S := fun k => k = B) (Mod.setCell (S := fun k => k = B) (Mod.setCell (S := fun k => k = B) (Mod.refl _ _) (fun _ => rfl) _) (fun _ => rfl) _) (fun _ => rfl) _) (fun _ => rfl) _
 have hlb := h.lb; have hbb : ∀ b, m'.bs b -> L <= b /\ b ≠ B := fun b k => by
  rcases hb b k with k | k
  ·exact h.bs b k
  ·omega
 refine ⟨ha, h2, hg.ext M (fun b k e => (hbb b k).2 e), hbb, h.lb, ?_⟩
 refine ((h.mod.then hy (fun _ _ h => h.elim)).then hm (fun i hi k => ?_)).then M (fun i hi k => ?_)
 ·exact (h.bs i k).1
 ·omega
theorem qLv (n : Nd) (a k : Nat) (ha : a <= k) (hk : k < n.keys.length) : (n.ents.take (k + 1)).drop a = (n.ents.take k).drop a ++ [qCj n k] := by
 rw [List.take_add_one, List.drop_append_of_le_length (by rw [List.length_take, qDa]; omega)]
 congr 1
 unfold Nd.ents; rw [List.getElem?_map, List.getElem?_range hk]; rfl
theorem qVm (n : Nd) (a k : Nat) : ((n.ents.take k).drop a).length <= n.keys.length := by
 rw [List.length_drop, List.length_take, qDa]; omega
set_option maxRecDepth 100000
set_option maxHeartbeats 2000000 in
theorem qJa {w : World} {n : Nd} (h : NdAt w n) (a b : Nat) (hab : a <= b) (hbk : b <= n.keys.length) : Calls Tryz.prog 131 #[.agg #[.bool n.leaf, .slice n.ka n.keys.length n.kc, .slice n.va n.values.length n.vc, .slice n.ia n.kids.length n.ic], .int .i64 a, .int .i64 b] w fun e w' => jHz w n.leaf ((n.ents.take b).drop a) e w' := by
 have hkb := h.bk; have hm : Mod (fun _ => False) w ((w.alloc (.cells #[.bool n.leaf, .slice n.ka n.keys.length n.kc, .slice n.va n.values.length n.vc, .slice n.ia n.kids.length n.ic] 123)).alloc (.cells #[.bool false, .slice none 0 0, .slice none 0 0, .slice none 0 0] 123)) := ((Mod.refl _ _).alloc _).alloc _
 have hbox : ((w.alloc (.cells #[.bool n.leaf, .slice n.ka n.keys.length n.kc, .slice n.va n.values.length n.vc, .slice n.ia n.kids.length n.ic] 123)).alloc (.cells #[.bool false, .slice none 0 0, .slice none 0 0, .slice none 0 0] 123)).heap[w.heap.size]? = some (.cells #[.bool n.leaf, .slice n.ka n.keys.length n.kc, .slice n.va n.values.length n.vc, .slice n.ia n.kids.length n.ic] 123 (0, 0)) := (Below.heap_alloc _ _ _ (by simp)).trans (heap_alloc_new _ _)
 have hout : ((w.alloc (.cells #[.bool n.leaf, .slice n.ka n.keys.length n.kc, .slice n.va n.values.length n.vc, .slice n.ia n.kids.length n.ic] 123)).alloc (.cells #[.bool false, .slice none 0 0, .slice none 0 0, .slice none 0 0] 123)).heap[w.heap.size + 1]? = some (.cells #[.bool false, .slice none 0 0, .slice none 0 0, .slice none 0 0] 123 (0, 0)) := by have := heap_alloc_new (w.alloc (.cells #[.bool n.leaf, .slice n.ka n.keys.length n.kc, .slice n.va n.values.length n.vc, .slice n.ia n.kids.length n.ic] 123)) (.cells #[.bool false, .slice none 0 0, .slice none 0 0, .slice none 0 0] 123); simpa using this
 have hsz : ((w.alloc (.cells #[.bool n.leaf, .slice n.ka n.keys.length n.kc, .slice n.va n.values.length n.vc, .slice n.ia n.kids.length n.ic] 123)).alloc (.cells #[.bool false, .slice none 0 0, .slice none 0 0, .slice none 0 0] 123)).heap.size = w.heap.size + 2 := by simp
 have HN := hid (h.ext hm); have HM := hid hm; have HBox := hid hbox; have HOut := hid hout; have HSz := hid hsz; clear h hm hbox hout hsz; go_enter Tryz.func131, Tryz.ntmps131
 go_wp2_with fail
 have hv0 := heap_alloc_new ((w.alloc (.cells #[.bool n.leaf, .slice n.ka n.keys.length n.kc, .slice n.va n.values.length n.vc, .slice n.ia n.kids.length n.ic] 123)).alloc (.cells #[.bool false, .slice none 0 0, .slice none 0 0, .slice none 0 0] 123)) (.cells #[.bool n.leaf, .slice none 0 0, .slice none 0 0, .slice none 0 0] 123); rw [HSz.out] at hv0; generalize ((w.alloc (.cells #[.bool n.leaf, .slice n.ka n.keys.length n.kc, .slice n.va n.values.length n.vc, .slice n.ia n.kids.length n.ic] 123)).alloc (.cells #[.bool false, .slice none 0 0, .slice none 0 0, .slice none 0 0] 123)) = V at *
 have HV0 : Hid (Var V (V.alloc (.cells #[.bool n.leaf, .slice none 0 0, .slice none 0 0, .slice none 0 0] 123)) (w.heap.size + 1 + 1) (w.heap.size + 1 + 1) n.leaf ((n.ents.take a).drop a) ⟨n.leaf, [], [], [], none, 0, none, 0, none, 0⟩) := by
  refine ⟨⟨rfl, ?_, ?_, ?_⟩, hv0, ⟨Own.nil _ _ _, Own.nil _ _ _, Own.nil _ _ _, fun b h => (qAj b h).elim, fun b h => (qAj b h).elim, fun b h => (qAj b h).elim⟩, fun b h => by rcases h with h | h | h <;> exact (qAj b h).elim, Nat.le_refl _, (Mod.refl _ _).alloc _⟩
  all_goals (rw [List.drop_of_length_le (by rw [List.length_take]; omega)]; cases n.leaf <;> rfl)
 clear hv0; go_loopw [8] (fun c wr => ∃ (k : Nat) (m : Nd), a <= k /\ k <= b /\ c = .int .i64 k /\ Var V wr (w.heap.size + 1 + 1) (w.heap.size + 1 + 1) n.leaf ((n.ents.take k).drop a) m) (fun c _ => b - (intOf c).toNat)
 case atStart => exact ⟨a, _, Nat.le_refl _, hab, rfl, HV0.out⟩
 case round =>
  obtain ⟨k, m, hk1, hk2, rfl, hv⟩ := hrel; have HV := hid hv; have hup : ∀ j o, j < w.heap.size + 1 + 1 -> V.heap[j]? = some o -> wr.heap[j]? = some o := fun j o hj ho => (hv.mod.block j (by rw [HSz.out]; omega) (by omega)).trans ho
  have HBx := hid (hup _ _ (by omega) HBox.out)
  have HOt := hid (hup _ _ (by omega) HOut.out)
  have HNr := hid (HN.out.mod2 hv.mod (fun j hj h => by rw [HSz.out] at hj; omega))
  clear hv hup; by_cases hlt : k < b
  ·obtain ⟨x, hx⟩ : ∃ x, n.keys[k]? = some x := ⟨_, List.getElem?_eq_getElem (by omega)⟩
   have Hx := hid hx; have e1 : (qCj n k).key = x := by unfold qCj; rw [hx]; rfl
   have e2 : (qCj n k).value = qBp n k := rfl; have e3 : (qCj n k).kid = qEo n k := rfl; have HW : Hid (∀ y : Ext wr, Calls Tryz.prog 132 #[.agg #[.bool m.leaf, .slice m.ka m.keys.length m.kc, .slice m.va m.values.length m.vc, .slice m.ia m.kids.length m.ic], .string x, .string (qBp n k), .int .i64 (qEo n k)] y.val fun e w' => qUk y.val m n.leaf ((n.ents.take k).drop a ++ [qCj n k]) e w') := fun y => by
    have := qUp (qCj n k) HV.out.has (HV.out.gd.ext y.mod (fun _ _ h => h)) (by have := qVm n a k; omega)
    rw [e1, e2, e3] at this; exact this
   have HVc : Hid (∀ y : Ext wr, Calls Tryz.prog 133 #[.agg #[.bool n.leaf, .slice n.ka n.keys.length n.kc, .slice n.va n.values.length n.vc, .slice n.ia n.kids.length n.ic], .int .i64 k] y.val fun e w' => e = .returned (.string (qBp n k)) /\ Mod (fun _ => False) y.val w') := fun y => qLu (HNr.out.ext y.mod) k (by omega)
   have HKc : Hid (∀ y : Ext wr, Calls Tryz.prog 134 #[.agg #[.bool n.leaf, .slice n.ka n.keys.length n.kc, .slice n.va n.values.length n.vc, .slice n.ia n.kids.length n.ic], .int .i64 k] y.val fun e w' => e = .returned (.int .i64 (qEo n k)) /\ Mod (fun _ => False) y.val w') := fun y => qTm (HNr.out.ext y.mod) k (by omega)
   have HE : Hid ((n.ents.take (k + 1)).drop a = (n.ents.take k).drop a ++ [qCj n k]) := qLv n a k hk1 (by omega)
   clear hx e1 e2 e3; generalize qBp n k = vv at *; generalize qEo n k = kk at *; obtain ⟨g, off, ha, hc⟩ := HNr.out.k.one Hx.out; obtain ⟨b0, b1, b2, b3⟩ := cl4 HBx.out; obtain ⟨c0, c1, c2, c3⟩ := cl4 HV.out.box; rw [ha] at b1 HVc HKc; clear ha; have i1 : (k : Int) < (n.keys.length : Int) := by omega
   go_wp2_with fail
   have u0 : ∀ y : Ext wr, y.val.cell? ⟨w.heap.size, 0, none⟩ = some (.bool n.leaf) := fun y => y.cell b0
   have u1 : ∀ y : Ext wr, y.val.cell? ⟨w.heap.size, 1, none⟩ = some (.slice (some ⟨g, off, none⟩) n.keys.length n.kc) := fun y => y.cell b1
   have u2 : ∀ y : Ext wr, y.val.cell? ⟨w.heap.size, 2, none⟩ = some (.slice n.va n.values.length n.vc) := fun y => y.cell b2
   have u3 : ∀ y : Ext wr, y.val.cell? ⟨w.heap.size, 3, none⟩ = some (.slice n.ia n.kids.length n.ic) := fun y => y.cell b3
   have u4 : ∀ y : Ext wr, y.val.cell? ⟨g, off + k, none⟩ = some (.string x) := fun y => y.cell hc
   have t0 : ∀ y : Ext wr, y.val.cell? ⟨w.heap.size + 1 + 1, 0, none⟩ = some (.bool m.leaf) := fun y => y.cell c0
   have t1 : ∀ y : Ext wr, y.val.cell? ⟨w.heap.size + 1 + 1, 1, none⟩ = some (.slice m.ka m.keys.length m.kc) := fun y => y.cell c1
   have t2 : ∀ y : Ext wr, y.val.cell? ⟨w.heap.size + 1 + 1, 2, none⟩ = some (.slice m.va m.values.length m.vc) := fun y => y.cell c2
   have t3 : ∀ y : Ext wr, y.val.cell? ⟨w.heap.size + 1 + 1, 3, none⟩ = some (.slice m.ia m.kids.length m.ic) := fun y => y.cell c3
   clear b0 b1 b2 b3 c0 c1 c2 c3 hc; refine qAt 12 (by kernel_rfl) (by kernel_rfl) ?_
   simp only [List.take_succ_cons, List.take_zero, List.drop_succ_cons, List.drop_zero]; repeat (go_big_quiet_step ((first | (go_at_call 133; exact qBe (HVc.out _)) | (go_at_call 134; exact qBe (HKc.out _)))))
   refine wpQuiet_nil ?_; rintro _ ⟨y, rfl⟩; clear u0 u1 u2 u3 u4 t0 t1 t2 t3; go_wp2_with fail
   refine (HW.out y).mono ?_; rintro e w1 ⟨m', ha', rfl, hg', hm', hb'⟩; have HP := hid (HV.out.step y.mod ha' hg' hm' hb'); have hr1 : w1.heap[w.heap.size + 1 + 1]? = _ := (hm'.block _ (by have := y.mod.size; have := lth HV.out.box; omega) (fun h => (HV.out.bs _ h).2 rfl)).trans (y.heap HV.out.box)
   obtain ⟨c0, c1, c2, c3⟩ := cl4 hr1; have f0 := frozen_of_row _ _ 0 _ _ hr1; have f1 := frozen_of_row _ _ 1 _ _ hr1; have f2 := frozen_of_row _ _ 2 _ _ hr1; have f3 := frozen_of_row _ _ 3 _ _ hr1; clear ha' hg' hm' hb' hr1; go_wp2_with fail
   go_roundw
   case rel => exact ⟨k + 1, m', by omega, by omega, by go_num, by rw [HE.out]; exact HP.out⟩
   case measure => simp [intOf]; omega
  ·have hke : k = b := by omega
   subst hke; have hr1 := HOt.out; obtain ⟨c0, c1, c2, c3⟩ := cl4 HV.out.box; have f0 := frozen_of_row _ _ 0 _ _ hr1; have f1 := frozen_of_row _ _ 1 _ _ hr1; have f2 := frozen_of_row _ _ 2 _ _ hr1; have f3 := frozen_of_row _ _ 3 _ _ hr1; obtain ⟨o0, o1, o2, o3⟩ := cl4 hr1; have hb10 := (set4 (set4 (set4 (set4 hr1 (.bool m.leaf)).1 (.slice m.ka m.keys.length m.kc)).2.1 (.slice m.va m.values.length m.vc)).2.2.1 (.slice m.ia m.kids.length m.ic)).2.2.2; obtain ⟨g0, g1, g2, g3⟩ := cl4 hb10
   have M : Mod (fun k => k = w.heap.size + 1) wr ((((wr.setCell ⟨w.heap.size + 1, 0, none⟩ (.bool m.leaf)).setCell ⟨w.heap.size + 1, 1, none⟩ (.slice m.ka m.keys.length m.kc)).setCell ⟨w.heap.size + 1, 2, none⟩ (.slice m.va m.values.length m.vc)).setCell ⟨w.heap.size + 1, 3, none⟩ (.slice m.ia m.kids.length m.ic)) := Mod.setCell (S := fun k => k = w.heap.size + 1) (Mod.setCell (S := fun k => k = w.heap.size + 1) (Mod.setCell (S := fun k => k = w.heap.size + 1) (Mod.setCell (S := fun k => k = w.heap.size + 1) (Mod.refl _ _) (fun _ => rfl) _) (fun _ => rfl) _) (fun _ => rfl) _) (fun _ => rfl) _
   have HMm := hid M; clear hr1 hb10 M; go_wp2_with fail
   refine bodyPost_ret (v := .agg #[.bool m.leaf, .slice m.ka m.keys.length m.kc, .slice m.va m.values.length m.vc, .slice m.ia m.kids.length m.ic]) (by simp [results, Tryz.results131, go_sem, g0, g1, g2, g3]) rfl ?_
   refine ⟨m, HV.out.has, rfl, HV.out.gd.ext HMm.out (fun i h e => by have := (HV.out.bs i h).1; omega), ?_, fun i h => by have := (HV.out.bs i h).1; omega⟩
   exact (HM.out.then HV.out.mod (fun i hi h => by omega)).then HMm.out (fun i hi h => by omega)
end
section
open Go Go.RowKit
def Nd.as (n : Nd) (leaf : Bool) : Nd := { n with leaf := leaf }
theorem NdAt.as {w : World} {n : Nd} (h : NdAt w n) (leaf : Bool) : NdAt w (n.as leaf) := ⟨h.k, h.v, h.i, h.bk, h.bv, h.bi, h.sk, h.sv, h.rk⟩
theorem qEp (n : Nd) : (n.ents.take n.keys.length).drop 0 = n.ents := by rw [<- qDa, List.take_length, List.drop_zero]
set_option maxRecDepth 100000
set_option maxHeartbeats 2000000 in
theorem qLn {w : World} {n p : Nd} (h : NdAt w n) (hp : NdAt w p) : Calls Tryz.prog 102 #[.agg #[.bool n.leaf, .slice n.ka n.keys.length n.kc, .slice n.va n.values.length n.vc, .slice n.ia n.kids.length n.ic], .agg #[.bool p.leaf, .slice p.ka p.keys.length p.kc, .slice p.va p.values.length p.vc, .slice p.ia p.kids.length p.ic]] w fun e w' => jHz w n.leaf (n.ents ++ (p.as n.leaf).ents) e w' := by
 have hkb := h.bk; have hpb := hp.bk; have hz1 : (w.alloc (.cells #[.bool n.leaf, .slice n.ka n.keys.length n.kc, .slice n.va n.values.length n.vc, .slice n.ia n.kids.length n.ic] 123)).heap.size = w.heap.size + 1 := by simp
 have hz2 : ((w.alloc (.cells #[.bool n.leaf, .slice n.ka n.keys.length n.kc, .slice n.va n.values.length n.vc, .slice n.ia n.kids.length n.ic] 123)).alloc (.cells #[.bool p.leaf, .slice p.ka p.keys.length p.kc, .slice p.va p.values.length p.vc, .slice p.ia p.kids.length p.ic] 123)).heap.size = w.heap.size + 1 + 1 := by simp
 have hm : Mod (fun _ => False) w (((w.alloc (.cells #[.bool n.leaf, .slice n.ka n.keys.length n.kc, .slice n.va n.values.length n.vc, .slice n.ia n.kids.length n.ic] 123)).alloc (.cells #[.bool p.leaf, .slice p.ka p.keys.length p.kc, .slice p.va p.values.length p.vc, .slice p.ia p.kids.length p.ic] 123)).alloc (.cells #[.bool false, .slice none 0 0, .slice none 0 0, .slice none 0 0] 123)) := (((Mod.refl _ _).alloc _).alloc _).alloc _
 have hbox : (((w.alloc (.cells #[.bool n.leaf, .slice n.ka n.keys.length n.kc, .slice n.va n.values.length n.vc, .slice n.ia n.kids.length n.ic] 123)).alloc (.cells #[.bool p.leaf, .slice p.ka p.keys.length p.kc, .slice p.va p.values.length p.vc, .slice p.ia p.kids.length p.ic] 123)).alloc (.cells #[.bool false, .slice none 0 0, .slice none 0 0, .slice none 0 0] 123)).heap[w.heap.size]? = some (.cells #[.bool n.leaf, .slice n.ka n.keys.length n.kc, .slice n.va n.values.length n.vc, .slice n.ia n.kids.length n.ic] 123 (0, 0)) := (Below.heap_alloc _ _ _ (by rw [hz2]; omega)).trans ((Below.heap_alloc _ _ _ (by rw [hz1]; omega)).trans (heap_alloc_new _ _))
 have hbxp : (((w.alloc (.cells #[.bool n.leaf, .slice n.ka n.keys.length n.kc, .slice n.va n.values.length n.vc, .slice n.ia n.kids.length n.ic] 123)).alloc (.cells #[.bool p.leaf, .slice p.ka p.keys.length p.kc, .slice p.va p.values.length p.vc, .slice p.ia p.kids.length p.ic] 123)).alloc (.cells #[.bool false, .slice none 0 0, .slice none 0 0, .slice none 0 0] 123)).heap[w.heap.size + 1]? = some (.cells #[.bool p.leaf, .slice p.ka p.keys.length p.kc, .slice p.va p.values.length p.vc, .slice p.ia p.kids.length p.ic] 123 (0, 0)) := by
  refine (Below.heap_alloc _ _ _ (by rw [hz2]; omega)).trans ?_
  have := heap_alloc_new (w.alloc (.cells #[.bool n.leaf, .slice n.ka n.keys.length n.kc, .slice n.va n.values.length n.vc, .slice n.ia n.kids.length n.ic] 123)) (.cells #[.bool p.leaf, .slice p.ka p.keys.length p.kc, .slice p.va p.values.length p.vc, .slice p.ia p.kids.length p.ic] 123)
  rwa [hz1] at this
 have hout := heap_alloc_new ((w.alloc (.cells #[.bool n.leaf, .slice n.ka n.keys.length n.kc, .slice n.va n.values.length n.vc, .slice n.ia n.kids.length n.ic] 123)).alloc (.cells #[.bool p.leaf, .slice p.ka p.keys.length p.kc, .slice p.va p.values.length p.vc, .slice p.ia p.kids.length p.ic] 123)) (.cells #[.bool false, .slice none 0 0, .slice none 0 0, .slice none 0 0] 123); rw [hz2] at hout
 have hsz : (((w.alloc (.cells #[.bool n.leaf, .slice n.ka n.keys.length n.kc, .slice n.va n.values.length n.vc, .slice n.ia n.kids.length n.ic] 123)).alloc (.cells #[.bool p.leaf, .slice p.ka p.keys.length p.kc, .slice p.va p.values.length p.vc, .slice p.ia p.kids.length p.ic] 123)).alloc (.cells #[.bool false, .slice none 0 0, .slice none 0 0, .slice none 0 0] 123)).heap.size = w.heap.size + 3 := by simp
 have HN := hid (h.ext hm); have HPn := hid (hp.as n.leaf); have HM := hid hm; have HBox := hid hbox; have HBxp := hid hbxp; have HOut := hid hout; have HSz := hid hsz; clear h hp hm hbox hbxp hout hsz hz1 hz2; go_enter Tryz.func102, Tryz.ntmps102
 go_wp2_with fail
 generalize ((w.alloc (.cells #[.bool n.leaf, .slice n.ka n.keys.length n.kc, .slice n.va n.values.length n.vc, .slice n.ia n.kids.length n.ic] 123)).alloc (.cells #[.bool p.leaf, .slice p.ka p.keys.length p.kc, .slice p.va p.values.length p.vc, .slice p.ia p.kids.length p.ic] 123)).alloc (.cells #[.bool false, .slice none 0 0, .slice none 0 0, .slice none 0 0] 123) = V at *; refine (qJa HN.out 0 n.keys.length (Nat.zero_le _) (Nat.le_refl _)).mono ?_; rintro e w1 ⟨m, hh, rfl, hg, hm1, hbs⟩; have HH := hid hh; have HG := hid hg; have HM1 := hid hm1; have HBs := hid hbs; have hs1 : w.heap.size + 3 <= w1.heap.size := by rw [<- HSz.out]; exact hm1.size
 have hb1 := (hm1.block _ (lth HBox.out) (fun h => h)).trans HBox.out
 have hb2 := (hm1.block _ (lth HBxp.out) (fun h => h)).trans HBxp.out
 have hb3 := (hm1.block _ (lth HOut.out) (fun h => h)).trans HOut.out
 have l1 : w.heap.size < w1.heap.size := by omega
 have l2 : w.heap.size + 1 < w1.heap.size := by omega
 obtain ⟨a0, a1, a2, a3⟩ := cl4 hb1; obtain ⟨c0, c1, c2, c3⟩ := cl4 hb2; have f0 := frozen_of_row _ _ 0 _ _ hb2; have HB2 := hid hb2; have HB3 := hid hb3; clear hh hg hm1 hbs hb1 hb2 hb3; go_wp2_with fail
 have hX1 : (w1.setCell ⟨w.heap.size + 1, 0, none⟩ (.bool n.leaf)).heap[w.heap.size + 1]? = some (.cells #[.bool n.leaf, .slice p.ka p.keys.length p.kc, .slice p.va p.values.length p.vc, .slice p.ia p.kids.length p.ic] 123 (0, 0)) := (set4 HB2.out _).1; have MX : Mod (fun j => j = w.heap.size + 1) w1 ((w1.setCell ⟨w.heap.size + 1, 0, none⟩ (.bool n.leaf)).alloc (.cells #[.bool m.leaf, .slice m.ka m.keys.length m.kc, .slice m.va m.values.length m.vc, .slice m.ia m.kids.length m.ic] 123)) := (Mod.setCell (S := fun j => j = w.heap.size + 1) (Mod.refl _ _) (fun _ => rfl) _).alloc _
 have hsX : (w1.setCell ⟨w.heap.size + 1, 0, none⟩ (.bool n.leaf)).heap.size = w1.heap.size := by simp [World.setCell]
 have hX2 : ((w1.setCell ⟨w.heap.size + 1, 0, none⟩ (.bool n.leaf)).alloc (.cells #[.bool m.leaf, .slice m.ka m.keys.length m.kc, .slice m.va m.values.length m.vc, .slice m.ia m.kids.length m.ic] 123)).heap[w.heap.size + 1]? = _ := (Below.heap_alloc _ _ _ (by rw [hsX]; omega)).trans hX1
 have hX3 := heap_alloc_new (w1.setCell ⟨w.heap.size + 1, 0, none⟩ (.bool n.leaf)) (.cells #[.bool m.leaf, .slice m.ka m.keys.length m.kc, .slice m.va m.values.length m.vc, .slice m.ia m.kids.length m.ic] 123); rw [hsX] at hX3; have hX4 := (MX.block _ (lth HB3.out) (by omega)).trans HB3.out
 clear hsX hX1; generalize ((w1.setCell ⟨w.heap.size + 1, 0, none⟩ (.bool n.leaf)).alloc (.cells #[.bool m.leaf, .slice m.ka m.keys.length m.kc, .slice m.va m.values.length m.vc, .slice m.ia m.kids.length m.ic] 123)) = X at *; have HV0 : Hid (Var X X (w.heap.size + 3) w1.heap.size n.leaf (n.ents ++ ((p.as n.leaf).ents.take 0).drop 0) m) := by
  refine ⟨?_, hX3, HG.out.ext MX (fun b h e => by have := HBs.out b h; rw [HSz.out] at this; omega), fun b h => ?_, hs1, Mod.refl _ _⟩
  ·have := HH.out; rw [qEp] at this
   simpa using this
  ·have h1 := HBs.out b h; rw [HSz.out] at h1; have h2 := HG.out.lt h; exact ⟨h1, by omega⟩
 have HXp := hid hX2; have HXo := hid hX4; have HMX := hid MX; clear hX2 hX3 hX4 MX; go_loopw [19] (fun c wr => ∃ (k : Nat) (m : Nd), k <= p.keys.length /\ c = .int .i64 k /\ Var X wr (w.heap.size + 3) w1.heap.size n.leaf (n.ents ++ ((p.as n.leaf).ents.take k).drop 0) m) (fun c _ => p.keys.length - (intOf c).toNat)
 case atStart => exact ⟨0, m, Nat.zero_le _, rfl, HV0.out⟩
 case round =>
  obtain ⟨k, q, hk, rfl, hv⟩ := hrel; have HV := hid hv; have HBx := hid ((hv.mod.block _ (lth HXp.out) (by omega)).trans HXp.out)
  have HOt := hid ((hv.mod.block _ (lth HXo.out) (by omega)).trans HXo.out)
  have MV : Mod (fun j => w.heap.size <= j) w wr := (((HM.out.mono (fun _ _ h => h.elim)).then HM1.out (fun _ _ h => h.elim)).then HMX.out (fun i hi h => by omega)).then hv.mod (fun i hi h => by omega)
  have HNr := hid (HPn.out.mod2 MV (fun j hj h => by omega))
  clear hv MV; by_cases hlt : k < p.keys.length
  ·obtain ⟨x, hx⟩ : ∃ x, p.keys[k]? = some x := ⟨_, List.getElem?_eq_getElem (by omega)⟩
   have Hx := hid hx; have e1 : (qCj (p.as n.leaf) k).key = x := by unfold qCj Nd.as; rw [hx]; rfl
   have e2 : (qCj (p.as n.leaf) k).value = qBp (p.as n.leaf) k := rfl; have e3 : (qCj (p.as n.leaf) k).kid = qEo (p.as n.leaf) k := rfl; have HW : Hid (∀ y : Ext wr, Calls Tryz.prog 132 #[.agg #[.bool q.leaf, .slice q.ka q.keys.length q.kc, .slice q.va q.values.length q.vc, .slice q.ia q.kids.length q.ic], .string x, .string (qBp (p.as n.leaf) k), .int .i64 (qEo (p.as n.leaf) k)] y.val fun e w' => qUk y.val q n.leaf (n.ents ++ ((p.as n.leaf).ents.take k).drop 0 ++ [qCj (p.as n.leaf) k]) e w') := fun y => by
    have := qUp (qCj (p.as n.leaf) k) HV.out.has (HV.out.gd.ext y.mod (fun _ _ h => h)) (by have h1 := qVm (p.as n.leaf) 0 k; have h2 := qDa n; rw [List.length_append]; change _ <= p.keys.length at h1; omega)
    rw [e1, e2, e3] at this; exact this
   have HVc : Hid (∀ y : Ext wr, Calls Tryz.prog 133 #[.agg #[.bool n.leaf, .slice p.ka p.keys.length p.kc, .slice p.va p.values.length p.vc, .slice p.ia p.kids.length p.ic], .int .i64 k] y.val fun e w' => e = .returned (.string (qBp (p.as n.leaf) k)) /\ Mod (fun _ => False) y.val w') := fun y => qLu (HNr.out.ext y.mod) k (by omega)
   have HKc : Hid (∀ y : Ext wr, Calls Tryz.prog 134 #[.agg #[.bool n.leaf, .slice p.ka p.keys.length p.kc, .slice p.va p.values.length p.vc, .slice p.ia p.kids.length p.ic], .int .i64 k] y.val fun e w' => e = .returned (.int .i64 (qEo (p.as n.leaf) k)) /\ Mod (fun _ => False) y.val w') := fun y => qTm (HNr.out.ext y.mod) k (by omega)
   have HE : Hid (n.ents ++ ((p.as n.leaf).ents.take (k + 1)).drop 0 = n.ents ++ ((p.as n.leaf).ents.take k).drop 0 ++ [qCj (p.as n.leaf) k]) := by
    have := qLv (p.as n.leaf) 0 k (Nat.zero_le _) hlt; rw [List.append_assoc]; exact congrArg (n.ents ++ ·) this
   clear hx e1 e2 e3; generalize qBp (p.as n.leaf) k = vv at *; generalize qEo (p.as n.leaf) k = kk at *; obtain ⟨g, off, ha, hc⟩ := HNr.out.k.one Hx.out; change p.ka = _ at ha; obtain ⟨b0, b1, b2, b3⟩ := cl4 HBx.out; obtain ⟨c0, c1, c2, c3⟩ := cl4 HV.out.box; rw [ha] at b1 HVc HKc ⊢; clear ha; have i1 : (k : Int) < (p.keys.length : Int) := by omega
   go_wp2_with fail
   have u0 : ∀ y : Ext wr, y.val.cell? ⟨w.heap.size + 1, 0, none⟩ = some (.bool n.leaf) := fun y => y.cell b0
   have u1 : ∀ y : Ext wr, y.val.cell? ⟨w.heap.size + 1, 1, none⟩ = some (.slice (some ⟨g, off, none⟩) p.keys.length p.kc) := fun y => y.cell b1
   have u2 : ∀ y : Ext wr, y.val.cell? ⟨w.heap.size + 1, 2, none⟩ = some (.slice p.va p.values.length p.vc) := fun y => y.cell b2
   have u3 : ∀ y : Ext wr, y.val.cell? ⟨w.heap.size + 1, 3, none⟩ = some (.slice p.ia p.kids.length p.ic) := fun y => y.cell b3
   have t0 : ∀ y : Ext wr, y.val.cell? ⟨w1.heap.size, 0, none⟩ = some (.bool q.leaf) := fun y => y.cell c0
   have t1 : ∀ y : Ext wr, y.val.cell? ⟨w1.heap.size, 1, none⟩ = some (.slice q.ka q.keys.length q.kc) := fun y => y.cell c1
   have t2 : ∀ y : Ext wr, y.val.cell? ⟨w1.heap.size, 2, none⟩ = some (.slice q.va q.values.length q.vc) := fun y => y.cell c2
   have t3 : ∀ y : Ext wr, y.val.cell? ⟨w1.heap.size, 3, none⟩ = some (.slice q.ia q.kids.length q.ic) := fun y => y.cell c3
   clear b0 b1 b2 b3 c0 c1 c2 c3 hc; refine qAt 8 (by kernel_rfl) (by kernel_rfl) ?_
   simp only [List.take_succ_cons, List.take_zero, List.drop_succ_cons, List.drop_zero]; repeat (go_big_quiet_step ((first | (go_at_call 133; exact qBe (HVc.out _)) | (go_at_call 134; exact qBe (HKc.out _)))))
   refine wpQuiet_nil ?_; rintro _ ⟨y, rfl⟩; clear u0 u1 u2 u3 t0 t1 t2 t3; go_wp2_with fail
   refine (HW.out y).mono ?_; rintro e w2 ⟨m', ha', rfl, hg', hm', hb'⟩; have HP := hid (HV.out.step y.mod ha' hg' hm' hb'); have hr1 : w2.heap[w1.heap.size]? = _ := (hm'.block _ (by have := y.mod.size; have := lth HV.out.box; omega) (fun h => (HV.out.bs _ h).2 rfl)).trans (y.heap HV.out.box)
   obtain ⟨c0, c1, c2, c3⟩ := cl4 hr1; have f0 := frozen_of_row _ _ 0 _ _ hr1; have f1 := frozen_of_row _ _ 1 _ _ hr1; have f2 := frozen_of_row _ _ 2 _ _ hr1; have f3 := frozen_of_row _ _ 3 _ _ hr1; clear ha' hg' hm' hb' hr1; go_wp2_with fail
   go_roundw
   case rel => exact ⟨k + 1, m', by omega, by go_num, by rw [HE.out]; exact HP.out⟩
   case measure => simp [intOf]; omega
  ·have hke : k = p.keys.length := by omega
   subst hke; have hr1 := HOt.out; obtain ⟨c0, c1, c2, c3⟩ := cl4 HV.out.box; have f0 := frozen_of_row _ _ 0 _ _ hr1; have f1 := frozen_of_row _ _ 1 _ _ hr1; have f2 := frozen_of_row _ _ 2 _ _ hr1; have f3 := frozen_of_row _ _ 3 _ _ hr1; obtain ⟨o0, o1, o2, o3⟩ := cl4 hr1; have hb10 := (set4 (set4 (set4 (set4 hr1 (.bool q.leaf)).1 (.slice q.ka q.keys.length q.kc)).2.1 (.slice q.va q.values.length q.vc)).2.2.1 (.slice q.ia q.kids.length q.ic)).2.2.2; obtain ⟨g0, g1, g2, g3⟩ := cl4 hb10
   have M : Mod (fun k => k = w.heap.size + 1 + 1) wr ((((wr.setCell ⟨w.heap.size + 1 + 1, 0, none⟩ (.bool q.leaf)).setCell ⟨w.heap.size + 1 + 1, 1, none⟩ (.slice q.ka q.keys.length q.kc)).setCell ⟨w.heap.size + 1 + 1, 2, none⟩ (.slice q.va q.values.length q.vc)).setCell ⟨w.heap.size + 1 + 1, 3, none⟩ (.slice q.ia q.kids.length q.ic)) := Mod.setCell (S := fun k => k = w.heap.size + 1 + 1) (Mod.setCell (S := fun k => k = w.heap.size + 1 + 1) (Mod.setCell (S := fun k => k = w.heap.size + 1 + 1) (Mod.setCell (S := fun k => k = w.heap.size + 1 + 1) (Mod.refl _ _) (fun _ => rfl) _) (fun _ => rfl) _) (fun _ => rfl) _) (fun _ => rfl) _
   have HMm := hid M; clear hr1 hb10 M; go_wp2_with fail
   refine bodyPost_ret (v := .agg #[.bool q.leaf, .slice q.ka q.keys.length q.kc, .slice q.va q.values.length q.vc, .slice q.ia q.kids.length q.ic]) (by simp [results, Tryz.results102, go_sem, g0, g1, g2, g3]) rfl ?_
   have hall := qEp (p.as n.leaf); change ((p.as n.leaf).ents.take p.keys.length).drop 0 = _ at hall; refine ⟨q, by have := HV.out.has; rw [hall] at this; exact this, rfl, HV.out.gd.ext HMm.out (fun i h e => by have := (HV.out.bs i h).1; omega), ?_, fun i h => by have := (HV.out.bs i h).1; omega⟩
   exact (((HM.out.then HM1.out (fun _ _ h => h)).then HMX.out (fun i hi h => by omega)).then HV.out.mod (fun i hi h => by omega)).then HMm.out (fun i hi h => by omega)
end
end Go.Proofs.YtkinkgbmlhiakaaGreatDoor
