/- merged: Join Split Grown TrM -/
import Derived.Test.YtkinkgbmlhiakaaGreatDoorNb07
import Derived.Deep.RegionHeld3
import Derived.Test.YtkinkgbmlhiakaaGreatDoorNb06
import Derived.Test.YtkinkgbmlhiakaaGreatDoorNb05
namespace Go.Proofs.YtkinkgbmlhiakaaGreatDoor
section
open Go Go.RowKit
def Nd.as (n : Nd) (leaf : Bool) : Nd := { n with leaf := leaf }
theorem qDw (n : Nd) : (n.ents.take n.keys.length).drop 0 = n.ents := by rw [<- qCj, List.take_length, List.drop_zero]
set_option maxRecDepth 100000
set_option maxHeartbeats 2000000 in
theorem qJq {w : World} {n p : Nd} (h : NdAt w n) (hp : NdAt w p) : Calls Tryz.prog 102 #[.agg #[.bool n.leaf, .slice n.ka n.keys.length n.kc, .slice n.va n.values.length n.vc, .slice n.ia n.kids.length n.ic], .agg #[.bool p.leaf, .slice p.ka p.keys.length p.kc, .slice p.va p.values.length p.vc, .slice p.ia p.kids.length p.ic]] w fun e w' => jEl w n.leaf (n.ents ++ (p.as n.leaf).ents) e w' := by
 have hkb := h.bk; have hpb := hp.bk; have hz1 : (w.alloc (.cells #[.bool n.leaf, .slice n.ka n.keys.length n.kc, .slice n.va n.values.length n.vc, .slice n.ia n.kids.length n.ic] 123)).heap.size = w.heap.size + 1 := by simp
 have hz2 : ((w.alloc (.cells #[.bool n.leaf, .slice n.ka n.keys.length n.kc, .slice n.va n.values.length n.vc, .slice n.ia n.kids.length n.ic] 123)).alloc (.cells #[.bool p.leaf, .slice p.ka p.keys.length p.kc, .slice p.va p.values.length p.vc, .slice p.ia p.kids.length p.ic] 123)).heap.size = w.heap.size + 1 + 1 := by simp
 have hm : Mod (fun _ => False) w (((w.alloc (.cells #[.bool n.leaf, .slice n.ka n.keys.length n.kc, .slice n.va n.values.length n.vc, .slice n.ia n.kids.length n.ic] 123)).alloc (.cells #[.bool p.leaf, .slice p.ka p.keys.length p.kc, .slice p.va p.values.length p.vc, .slice p.ia p.kids.length p.ic] 123)).alloc (.cells #[.bool false, .slice none 0 0, .slice none 0 0, .slice none 0 0] 123)) := (((Mod.refl _ _).alloc _).alloc _).alloc _
 have hbox : (((w.alloc (.cells #[.bool n.leaf, .slice n.ka n.keys.length n.kc, .slice n.va n.values.length n.vc, .slice n.ia n.kids.length n.ic] 123)).alloc (.cells #[.bool p.leaf, .slice p.ka p.keys.length p.kc, .slice p.va p.values.length p.vc, .slice p.ia p.kids.length p.ic] 123)).alloc (.cells #[.bool false, .slice none 0 0, .slice none 0 0, .slice none 0 0] 123)).heap[w.heap.size]? = some (.cells #[.bool n.leaf, .slice n.ka n.keys.length n.kc, .slice n.va n.values.length n.vc, .slice n.ia n.kids.length n.ic] 123 (0, 0)) := (Below.heap_alloc _ _ _ (by rw [hz2]; omega)).trans ((Below.heap_alloc _ _ _ (by rw [hz1]; omega)).trans (heap_alloc_new _ _))
 have hbxp : (((w.alloc (.cells #[.bool n.leaf, .slice n.ka n.keys.length n.kc, .slice n.va n.values.length n.vc, .slice n.ia n.kids.length n.ic] 123)).alloc (.cells #[.bool p.leaf, .slice p.ka p.keys.length p.kc, .slice p.va p.values.length p.vc, .slice p.ia p.kids.length p.ic] 123)).alloc (.cells #[.bool false, .slice none 0 0, .slice none 0 0, .slice none 0 0] 123)).heap[w.heap.size + 1]? = some (.cells #[.bool p.leaf, .slice p.ka p.keys.length p.kc, .slice p.va p.values.length p.vc, .slice p.ia p.kids.length p.ic] 123 (0, 0)) := by
  refine (Below.heap_alloc _ _ _ (by rw [hz2]; omega)).trans ?_
  have := heap_alloc_new (w.alloc (.cells #[.bool n.leaf, .slice n.ka n.keys.length n.kc, .slice n.va n.values.length n.vc, .slice n.ia n.kids.length n.ic] 123)) (.cells #[.bool p.leaf, .slice p.ka p.keys.length p.kc, .slice p.va p.values.length p.vc, .slice p.ia p.kids.length p.ic] 123)
  rwa [hz1] at this
 have hout := heap_alloc_new ((w.alloc (.cells #[.bool n.leaf, .slice n.ka n.keys.length n.kc, .slice n.va n.values.length n.vc, .slice n.ia n.kids.length n.ic] 123)).alloc (.cells #[.bool p.leaf, .slice p.ka p.keys.length p.kc, .slice p.va p.values.length p.vc, .slice p.ia p.kids.length p.ic] 123)) (.cells #[.bool false, .slice none 0 0, .slice none 0 0, .slice none 0 0] 123); rw [hz2] at hout
 have hsz : (((w.alloc (.cells #[.bool n.leaf, .slice n.ka n.keys.length n.kc, .slice n.va n.values.length n.vc, .slice n.ia n.kids.length n.ic] 123)).alloc (.cells #[.bool p.leaf, .slice p.ka p.keys.length p.kc, .slice p.va p.values.length p.vc, .slice p.ia p.kids.length p.ic] 123)).alloc (.cells #[.bool false, .slice none 0 0, .slice none 0 0, .slice none 0 0] 123)).heap.size = w.heap.size + 3 := by simp
 have HN := hid (h.ext hm); have HPn := hid (hp.as n.leaf); have HM := hid hm; have HBox := hid hbox; have HBxp := hid hbxp; have HOut := hid hout; have HSz := hid hsz; clear h hp hm hbox hbxp hout hsz hz1 hz2; go_enter Tryz.func102, Tryz.ntmps102
 go_wp2_with fail
 generalize ((w.alloc (.cells #[.bool n.leaf, .slice n.ka n.keys.length n.kc, .slice n.va n.values.length n.vc, .slice n.ia n.kids.length n.ic] 123)).alloc (.cells #[.bool p.leaf, .slice p.ka p.keys.length p.kc, .slice p.va p.values.length p.vc, .slice p.ia p.kids.length p.ic] 123)).alloc (.cells #[.bool false, .slice none 0 0, .slice none 0 0, .slice none 0 0] 123) = V at *; refine (qHn HN.out 0 n.keys.length (Nat.zero_le _) (Nat.le_refl _)).mono ?_; rintro e w1 ⟨m, hh, rfl, hg, hm1, hbs⟩; have HH := hid hh; have HG := hid hg; have HM1 := hid hm1; have HBs := hid hbs; have hs1 : w.heap.size + 3 <= w1.heap.size := by rw [<- HSz.out]; exact hm1.size
 have hb1 := (hm1.block _ (lth HBox.out) (fun h => h)).trans HBox.out
 have hb2 := (hm1.block _ (lth HBxp.out) (fun h => h)).trans HBxp.out
 have hb3 := (hm1.block _ (lth HOut.out) (fun h => h)).trans HOut.out
 have l1 : w.heap.size < w1.heap.size := by omega
 have l2 : w.heap.size + 1 < w1.heap.size := by omega
 obtain ⟨a0, a1, a2, a3⟩ := cl4 hb1; obtain ⟨c0, c1, c2, c3⟩ := cl4 hb2; have f0 := frozen_of_row _ _ 0 _ _ hb2; have HB2 := hid hb2; have HB3 := hid hb3; clear hh hg hm1 hbs hb1 hb2 hb3; go_wp2_with fail
 have hX1 : (w1.setCell ⟨w.heap.size + 1, 0, none⟩ (.bool n.leaf)).heap[w.heap.size + 1]? = some (.cells #[.bool n.leaf, .slice p.ka p.keys.length p.kc, .slice p.va p.values.length p.vc, .slice p.ia p.kids.length p.ic] 123 (0, 0)) := (set4 HB2.out _).1; have MX : Mod (fun j => j = w.heap.size + 1) w1 ((w1.setCell ⟨w.heap.size + 1, 0, none⟩ (.bool n.leaf)).alloc (.cells #[.bool m.leaf, .slice m.ka m.keys.length m.kc, .slice m.va m.values.length m.vc, .slice m.ia m.kids.length m.ic] 123)) := (Mod.setCell (S := fun j => j = w.heap.size + 1) (Mod.refl _ _) (fun _ => rfl) _).alloc _
 have hsX : (w1.setCell ⟨w.heap.size + 1, 0, none⟩ (.bool n.leaf)).heap.size = w1.heap.size := by simp [World.setCell]
 have hX2 : ((w1.setCell ⟨w.heap.size + 1, 0, none⟩ (.bool n.leaf)).alloc (.cells #[.bool m.leaf, .slice m.ka m.keys.length m.kc, .slice m.va m.values.length m.vc, .slice m.ia m.kids.length m.ic] 123)).heap[w.heap.size + 1]? = _ := (Below.heap_alloc _ _ _ (by rw [hsX]; omega)).trans hX1
 have hX3 := heap_alloc_new (w1.setCell ⟨w.heap.size + 1, 0, none⟩ (.bool n.leaf)) (.cells #[.bool m.leaf, .slice m.ka m.keys.length m.kc, .slice m.va m.values.length m.vc, .slice m.ia m.kids.length m.ic] 123); rw [hsX] at hX3; have hX4 := (MX.block _ (lth HB3.out) (by omega)).trans HB3.out
 clear hsX hX1; generalize ((w1.setCell ⟨w.heap.size + 1, 0, none⟩ (.bool n.leaf)).alloc (.cells #[.bool m.leaf, .slice m.ka m.keys.length m.kc, .slice m.va m.values.length m.vc, .slice m.ia m.kids.length m.ic] 123)) = X at *; have HV0 : Hid (Var X X (w.heap.size + 3) w1.heap.size n.leaf (n.ents ++ ((p.as n.leaf).ents.take 0).drop 0) m) := by
  refine ⟨?_, hX3, HG.out.ext MX (fun b h e => by have := HBs.out b h; rw [HSz.out] at this; omega), fun b h => ?_, hs1, Mod.refl _ _⟩
  ·have := HH.out; rw [qDw] at this
   simpa using this
  ·have h1 := HBs.out b h; rw [HSz.out] at h1; have h2 := HG.out.lt h; exact ⟨h1, by omega⟩
 have HXp := hid hX2; have HXo := hid hX4; have HMX := hid MX; clear hX2 hX3 hX4 MX; go_loopw [19] (fun c wr => ∃ (k : Nat) (m : Nd), k <= p.keys.length /\ c = .int .i64 k /\ Var X wr (w.heap.size + 3) w1.heap.size n.leaf (n.ents ++ ((p.as n.leaf).ents.take k).drop 0) m) (fun c _ => p.keys.length - (intOf c).toNat)
 case atStart => exact ⟨0, m, Nat.zero_le _, rfl, HV0.out⟩
 case round =>
  obtain ⟨k, q, hk, rfl, hv⟩ := hrel; have HV := hid hv; have HBx := hid ((hv.mod.block _ (lth HXp.out) (by omega)).trans HXp.out)
  have HOt := hid ((hv.mod.block _ (lth HXo.out) (by omega)).trans HXo.out)
  have MV : Mod (fun j => w.heap.size <= j) w wr := (((HM.out.mono (fun _ _ h => h.elim)).then HM1.out (fun _ _ h => h.elim)).then HMX.out (fun i hi h => by omega)).then hv.mod (fun i hi h => by omega)
  have HNr := hid (HPn.out.mod2 MV (fun j hj h => by omega))
  clear hv MV; by_cases hlt : k < p.keys.length
  ·obtain ⟨x, hx⟩ : ∃ x, p.keys[k]? = some x := ⟨_, List.getElem?_eq_getElem (by omega)⟩
   have Hx := hid hx; have e1 : (qCm (p.as n.leaf) k).key = x := by unfold qCm Nd.as; rw [hx]; rfl
   have e2 : (qCm (p.as n.leaf) k).value = qBp (p.as n.leaf) k := rfl; have e3 : (qCm (p.as n.leaf) k).kid = qEj (p.as n.leaf) k := rfl; have HW : Hid (∀ y : Ext wr, Calls Tryz.prog 132 #[.agg #[.bool q.leaf, .slice q.ka q.keys.length q.kc, .slice q.va q.values.length q.vc, .slice q.ia q.kids.length q.ic], .string x, .string (qBp (p.as n.leaf) k), .int .i64 (qEj (p.as n.leaf) k)] y.val fun e w' => qRz y.val q n.leaf (n.ents ++ ((p.as n.leaf).ents.take k).drop 0 ++ [qCm (p.as n.leaf) k]) e w') := fun y => by
    have := qSf (qCm (p.as n.leaf) k) HV.out.has (HV.out.gd.ext y.mod (fun _ _ h => h)) (by have h1 := qTc (p.as n.leaf) 0 k; have h2 := qCj n; rw [List.length_append]; change _ <= p.keys.length at h1; omega)
    rw [e1, e2, e3] at this; exact this
   have HVc : Hid (∀ y : Ext wr, Calls Tryz.prog 133 #[.agg #[.bool n.leaf, .slice p.ka p.keys.length p.kc, .slice p.va p.values.length p.vc, .slice p.ia p.kids.length p.ic], .int .i64 k] y.val fun e w' => e = .returned (.string (qBp (p.as n.leaf) k)) /\ Mod (fun _ => False) y.val w') := fun y => qJy (HNr.out.ext y.mod) k (by omega)
   have HKc : Hid (∀ y : Ext wr, Calls Tryz.prog 134 #[.agg #[.bool n.leaf, .slice p.ka p.keys.length p.kc, .slice p.va p.values.length p.vc, .slice p.ia p.kids.length p.ic], .int .i64 k] y.val fun e w' => e = .returned (.int .i64 (qEj (p.as n.leaf) k)) /\ Mod (fun _ => False) y.val w') := fun y => qRf (HNr.out.ext y.mod) k (by omega)
   have HE : Hid (n.ents ++ ((p.as n.leaf).ents.take (k + 1)).drop 0 = n.ents ++ ((p.as n.leaf).ents.take k).drop 0 ++ [qCm (p.as n.leaf) k]) := by
    have := qJz (p.as n.leaf) 0 k (Nat.zero_le _) hlt; rw [List.append_assoc]; exact congrArg (n.ents ++ ·) this
   clear hx e1 e2 e3; generalize qBp (p.as n.leaf) k = vv at *; generalize qEj (p.as n.leaf) k = kk at *; obtain ⟨g, off, ha, hc⟩ := HNr.out.k.one Hx.out; change p.ka = _ at ha; obtain ⟨b0, b1, b2, b3⟩ := cl4 HBx.out; obtain ⟨c0, c1, c2, c3⟩ := cl4 HV.out.box; rw [ha] at b1 HVc HKc ⊢; clear ha; have i1 : (k : Int) < (p.keys.length : Int) := by omega
   go_wp2_with fail
   have u0 : ∀ y : Ext wr, y.val.cell? ⟨w.heap.size + 1, 0, none⟩ = some (.bool n.leaf) := fun y => y.cell b0
   have u1 : ∀ y : Ext wr, y.val.cell? ⟨w.heap.size + 1, 1, none⟩ = some (.slice (some ⟨g, off, none⟩) p.keys.length p.kc) := fun y => y.cell b1
   have u2 : ∀ y : Ext wr, y.val.cell? ⟨w.heap.size + 1, 2, none⟩ = some (.slice p.va p.values.length p.vc) := fun y => y.cell b2
   have u3 : ∀ y : Ext wr, y.val.cell? ⟨w.heap.size + 1, 3, none⟩ = some (.slice p.ia p.kids.length p.ic) := fun y => y.cell b3
   have t0 : ∀ y : Ext wr, y.val.cell? ⟨w1.heap.size, 0, none⟩ = some (.bool q.leaf) := fun y => y.cell c0
   have t1 : ∀ y : Ext wr, y.val.cell? ⟨w1.heap.size, 1, none⟩ = some (.slice q.ka q.keys.length q.kc) := fun y => y.cell c1
   have t2 : ∀ y : Ext wr, y.val.cell? ⟨w1.heap.size, 2, none⟩ = some (.slice q.va q.values.length q.vc) := fun y => y.cell c2
   have t3 : ∀ y : Ext wr, y.val.cell? ⟨w1.heap.size, 3, none⟩ = some (.slice q.ia q.kids.length q.ic) := fun y => y.cell c3
   clear b0 b1 b2 b3 c0 c1 c2 c3 hc; refine qAf 8 (by kernel_rfl) (by kernel_rfl) ?_
   simp only [List.take_succ_cons, List.take_zero, List.drop_succ_cons, List.drop_zero]; repeat (go_big_quiet_step ((first | (go_at_call 133; exact qBb (HVc.out _)) | (go_at_call 134; exact qBb (HKc.out _)))))
   refine wpQuiet_nil ?_; rintro _ ⟨y, rfl⟩; clear u0 u1 u2 u3 t0 t1 t2 t3; go_wp2_with fail
   refine (HW.out y).mono ?_; rintro e w2 ⟨m', ha', rfl, hg', hm', hb'⟩; have HP := hid (HV.out.step y.mod ha' hg' hm' hb'); have hr1 : w2.heap[w1.heap.size]? = _ := (hm'.block _ (by have := y.mod.size; have := lth HV.out.box; omega) (fun h => (HV.out.bs _ h).2 rfl)).trans (y.heap HV.out.box)
   obtain ⟨c0, c1, c2, c3⟩ := cl4 hr1; have f0 := frozen_of_row _ _ 0 _ _ hr1; have f1 := frozen_of_row _ _ 1 _ _ hr1; have f2 := frozen_of_row _ _ 2 _ _ hr1; have f3 := frozen_of_row _ _ 3 _ _ hr1; clear ha' hg' hm' hb' hr1; go_wp2_with fail
   go_roundw
   case rel => exact ⟨k + 1, m', by omega, by go_num, by rw [HE.out]; exact HP.out⟩
   case measure => simp [intOf]; omega
  ·have hke : k = p.keys.length := by omega
   subst hke; have hr1 := HOt.out; obtain ⟨c0, c1, c2, c3⟩ := cl4 HV.out.box; have f0 := frozen_of_row _ _ 0 _ _ hr1; have f1 := frozen_of_row _ _ 1 _ _ hr1; have f2 := frozen_of_row _ _ 2 _ _ hr1; have f3 := frozen_of_row _ _ 3 _ _ hr1; obtain ⟨o0, o1, o2, o3⟩ := cl4 hr1; have hb10 := (set4 (set4 (set4 (set4 hr1 (.bool q.leaf)).1 (.slice q.ka q.keys.length q.kc)).2.1 (.slice q.va q.values.length q.vc)).2.2.1 (.slice q.ia q.kids.length q.ic)).2.2.2; obtain ⟨g0, g1, g2, g3⟩ := cl4 hb10
   have M : Mod (fun k => k = w.heap.size + 1 + 1) wr ((((wr.setCell ⟨w.heap.size + 1 + 1, 0, none⟩ (.bool q.leaf)).setCell ⟨w.heap.size + 1 + 1, 1, none⟩ (.slice q.ka q.keys.length q.kc)).setCell ⟨w.heap.size + 1 + 1, 2, none⟩ (.slice q.va q.values.length q.vc)).setCell ⟨w.heap.size + 1 + 1, 3, none⟩ (.slice q.ia q.kids.length q.ic)) := Mod.setCell (S := fun k => k = w.heap.size + 1 + 1) (Mod.setCell (S := fun k => k = w.heap.size + 1 + 1) (Mod.setCell (S := fun k => k = w.heap.size + 1 + 1) (Mod.setCell (S := fun k => k = w.heap.size + 1 + 1) (Mod.refl _ _) (fun _ => rfl) _) (fun _ => rfl) _) (fun _ => rfl) _) (fun _ => rfl) _
   have HMm := hid M; clear hr1 hb10 M; go_wp2_with fail
   refine bodyPost_ret (v := .agg #[.bool q.leaf, .slice q.ka q.keys.length q.kc, .slice q.va q.values.length q.vc, .slice q.ia q.kids.length q.ic]) (by simp [results, Tryz.results102, go_sem, g0, g1, g2, g3]) rfl ?_
   have hall := qDw (p.as n.leaf); change ((p.as n.leaf).ents.take p.keys.length).drop 0 = _ at hall; refine ⟨q, by have := HV.out.has; rw [hall] at this; exact this, rfl, HV.out.gd.ext HMm.out (fun i h e => by have := (HV.out.bs i h).1; omega), ?_, fun i h => by have := (HV.out.bs i h).1; omega⟩
   exact (((HM.out.then HM1.out (fun _ _ h => h)).then HMX.out (fun i hi h => by omega)).then HV.out.mod (fun i hi h => by omega)).then HMm.out (fun i hi h => by omega)
end
section
open Go Go.RowKit
def Nd.cs (m : Nd) : List Value := [.bool m.leaf, .slice m.ka m.keys.length m.kc, .slice m.va m.values.length m.vc, .slice m.ia m.kids.length m.ic]
def wt (leaf : Bool) (es : List Ent) : Nat := (es.flatMap (entL leaf)).length
structure jHe (leaf : Bool) (es : List Ent) (i : Nat) : Prop where
 lo : 1 <= i
 hi : i < es.length
 great : i + 1 = es.length \/ wt leaf es <= 2 * wt leaf (es.take i)
 small : i = 1 \/ 2 * wt leaf (es.take (i - 1)) < wt leaf es
 big : 1024 < (qAm leaf es).length
def qIe (w : World) (leaf : Bool) (es : List Ent) (e : Ending) (w' : World) : Prop :=
 Mod (fun _ => False) w w' /\ ∃ g : Nat, w.heap.size <= g ∧
  ((∃ m : Nd, (es.length < 2 \/ (qAm leaf es).length <= 1024) /\ Has m leaf es /\ Gd w' m /\ (∀ b, m.bs b -> w.heap.size <= b /\ b ≠ g) /\ w'.heap[g]? = some (.cells m.cs.toArray 123 (0, 0)) /\ e = .returned (.slice (some ⟨g, 0, none⟩) 1 1)) ∨
   ∃ (i : Nat) (m q : Nd), jHe leaf es i /\ Has m leaf (es.take i) /\ Has q leaf (es.drop i) /\ Gd w' m /\ Gd w' q /\ (∀ b, m.bs b -> w.heap.size <= b /\ b ≠ g /\ ¬ q.bs b) /\ (∀ b, q.bs b -> w.heap.size <= b /\ b ≠ g) /\ w'.heap[g]? = some (.cells (m.cs ++ q.cs).toArray 123 (0, 0)) /\ e = .returned (.slice (some ⟨g, 0, none⟩) 2 2))
theorem qYh {w V w1 : World} {leaf : Bool} {es : List Ent} {m : Nd} (hm : Mod (fun _ => False) w V) (hm1 : Mod (fun _ => False) V w1) (h1 : es.length < 2 \/ (qAm leaf es).length <= 1024) (hh : Has m leaf es) (hg : Gd w1 m) (hbs : ∀ b, m.bs b -> V.heap.size <= b) :
  qIe w leaf es (.returned (.slice (some ⟨w1.heap.size, 0, none⟩) 1 1)) (w1.alloc (.cells #[.bool m.leaf, .slice m.ka m.keys.length m.kc, .slice m.va m.values.length m.vc, .slice m.ia m.kids.length m.ic] 123)) := by
 have s1 := hm.size; have s2 := hm1.size; refine ⟨(hm.trans hm1).alloc _, w1.heap.size, by omega, .inl ⟨m, h1, hh, hg.ext (S := fun _ => False) ((Mod.refl _ _).alloc _) (fun _ _ h => h), fun b h => ?_, heap_alloc_new _ _, rfl⟩⟩
 have := hbs b h; have := hg.lt h; exact ⟨by omega, by omega⟩
theorem qWy {w V w1 w2 : World} {n : Nd} {k : Nat} {m q : Nd} (hm : Mod (fun _ => False) w V) (hc : jHe n.leaf n.ents k) (h1 : Has m n.leaf ((n.ents.take k).drop 0)) (g1 : Gd w1 m) (hm1 : Mod (fun _ => False) V w1) (hb1 : ∀ b, m.bs b -> V.heap.size <= b)
  (h2 : Has q n.leaf ((n.ents.take n.keys.length).drop k)) (g2 : Gd w2 q) (hm2 : Mod (fun _ => False) w1 w2) (hb2 : ∀ b, q.bs b -> w1.heap.size <= b) :
  qIe w n.leaf n.ents (.returned (.slice (some ⟨w2.heap.size, 0, none⟩) 2 2)) (w2.alloc (.cells #[.bool m.leaf, .slice m.ka m.keys.length m.kc, .slice m.va m.values.length m.vc, .slice m.ia m.kids.length m.ic, .bool q.leaf, .slice q.ka q.keys.length q.kc, .slice q.va q.values.length q.vc, .slice q.ia q.kids.length q.ic] 123)) := by
 have s1 := hm.size; have s2 := hm1.size; have s3 := hm2.size; have g1' := g1.ext hm2 (fun _ _ h => h)
 rw [List.drop_zero] at h1; rw [<- qCj, List.take_length] at h2; refine ⟨((hm.trans hm1).trans hm2).alloc _, w2.heap.size, by omega, .inr ⟨k, m, q, hc, h1, h2, g1'.ext (S := fun _ => False) ((Mod.refl _ _).alloc _) (fun _ _ h => h), g2.ext (S := fun _ => False) ((Mod.refl _ _).alloc _) (fun _ _ h => h), fun b h => ?_, fun b h => ?_, heap_alloc_new _ _, rfl⟩⟩
 ·have := hb1 b h; have := g1.lt h; exact ⟨by omega, by omega, fun h => by have := hb2 b h; omega⟩
 ·have := hb2 b h; have := g2.lt h; exact ⟨by omega, by omega⟩
theorem qVx (leaf : Bool) (es : List Ent) : (qAm leaf es).length = 1 + (uvar es.length).length + wt leaf es := by unfold qAm wt; simp; omega
set_option maxRecDepth 100000
set_option maxHeartbeats 2000000 in
theorem qXg {w : World} {n : Nd} (h : NdAt w n) (h1 : n.keys.length < 2 \/ (qAm n.leaf n.ents).length <= 1024) : Calls Tryz.prog 103 #[.agg #[.bool n.leaf, .slice n.ka n.keys.length n.kc, .slice n.va n.values.length n.vc, .slice n.ia n.kids.length n.ic]] w fun e w' => qIe w n.leaf n.ents e w' := by
 have hkb := h.bk; have hm : Mod (fun _ => False) w (w.alloc (.cells #[.bool n.leaf, .slice n.ka n.keys.length n.kc, .slice n.va n.values.length n.vc, .slice n.ia n.kids.length n.ic] 123)) := (Mod.refl _ _).alloc _
 have hbox : (w.alloc (.cells #[.bool n.leaf, .slice n.ka n.keys.length n.kc, .slice n.va n.values.length n.vc, .slice n.ia n.kids.length n.ic] 123)).heap[w.heap.size]? = some (.cells #[.bool n.leaf, .slice n.ka n.keys.length n.kc, .slice n.va n.values.length n.vc, .slice n.ia n.kids.length n.ic] 123 (0, 0)) := heap_alloc_new _ _; have HN := hid (h.ext hm); have HM := hid hm; have HBox := hid hbox; have H1 := hid h1; clear h hm hbox h1; by_cases h2 : n.keys.length < 2
 ·have d : decide (n.keys.length < 2) = true := by simpa using h2
  go_enter Tryz.func103, Tryz.ntmps103
  go_wp2_with fail
  generalize w.alloc (.cells #[.bool n.leaf, .slice n.ka n.keys.length n.kc, .slice n.va n.values.length n.vc, .slice n.ia n.kids.length n.ic] 123) = V at *; refine (qHn HN.out 0 n.keys.length (Nat.zero_le _) (Nat.le_refl _)).mono ?_; rintro e w1 ⟨m, hh, rfl, hg, hm1, hbs⟩; rw [qDw] at hh; have hgo := qYh HM.out hm1 (by rw [qCj]; exact H1.out) hh hg hbs
  have HGo := hid hgo; clear hh hg hm1 hbs hgo; go_wp2_with fail
  go_ret; exact HGo.out
 ·have h3 : (qAm n.leaf n.ents).length <= 1024 := H1.out.resolve_left h2; have d : decide (n.keys.length < 2) = false := by simpa using h2
  have d2 : decide ((qAm n.leaf n.ents).length <= 1024) = true := by simpa using h3
  go_enter Tryz.func103, Tryz.ntmps103
  go_wp2_with fail
  generalize w.alloc (.cells #[.bool n.leaf, .slice n.ka n.keys.length n.kc, .slice n.va n.values.length n.vc, .slice n.ia n.kids.length n.ic] 123) = V at *; refine (qGd HN.out).mono ?_; rintro e w0 ⟨rfl, hm0⟩; have HN0 := hid (HN.out.ext hm0); have HM0 := hid (HM.out.trans hm0); obtain ⟨b0, b1, b2, b3⟩ := cl4 ((hm0.block _ (lth HBox.out) (fun h => h)).trans HBox.out)
  clear hm0; go_wp2_with fail
  refine (qHn HN0.out 0 n.keys.length (Nat.zero_le _) (Nat.le_refl _)).mono ?_; rintro e w1 ⟨m, hh, rfl, hg, hm1, hbs⟩; rw [qDw] at hh; have hgo := qYh HM0.out hm1 (by rw [qCj]; exact H1.out) hh hg hbs
  have HGo := hid hgo; clear hh hg hm1 hbs hgo; go_wp2_with fail
  go_ret; exact HGo.out
theorem qWo (n : Nd) (k : Nat) (hk : k < n.keys.length) : wt n.leaf (n.ents.take (k + 1)) = wt n.leaf (n.ents.take k) + (entL n.leaf (qCm n k)).length := by
 have := qJz n 0 k (Nat.zero_le _) hk; simp only [List.drop_zero] at this; rw [this]; unfold wt; simp
theorem qMy {w : World} {n : Nd} (h : NdAt w n) (k : Nat) : wt n.leaf (n.ents.take k) <= 35184455974912 := by
 have h1 := qRn (leaf := n.leaf) (es := n.ents.take k) (fun x hx => qZr h x (List.mem_of_mem_take hx))
 have h2 : (n.ents.take k).length <= 4194304 := by rw [List.length_take, qCj]; have := h.bk; omega
 unfold wt; have : (n.ents.take k).length * 8388628 <= 4194304 * 8388628 := Nat.mul_le_mul_right _ h2; omega
set_option maxHeartbeats 4000000 in
theorem qXf {w : World} {n : Nd} (h : NdAt w n) (h1 : 2 <= n.keys.length) (h2 : 1024 < (qAm n.leaf n.ents).length) : Calls Tryz.prog 103 #[.agg #[.bool n.leaf, .slice n.ka n.keys.length n.kc, .slice n.va n.values.length n.vc, .slice n.ia n.kids.length n.ic]] w fun e w' => qIe w n.leaf n.ents e w' := by
 have hkb := h.bk; have hm : Mod (fun _ => False) w (w.alloc (.cells #[.bool n.leaf, .slice n.ka n.keys.length n.kc, .slice n.va n.values.length n.vc, .slice n.ia n.kids.length n.ic] 123)) := (Mod.refl _ _).alloc _
 have hbox : (w.alloc (.cells #[.bool n.leaf, .slice n.ka n.keys.length n.kc, .slice n.va n.values.length n.vc, .slice n.ia n.kids.length n.ic] 123)).heap[w.heap.size]? = some (.cells #[.bool n.leaf, .slice n.ka n.keys.length n.kc, .slice n.va n.values.length n.vc, .slice n.ia n.kids.length n.ic] 123 (0, 0)) := heap_alloc_new _ _; have HN := hid (h.ext hm); have HM := hid hm; have HBox := hid hbox; have hall : wt n.leaf (n.ents.take n.keys.length) = wt n.leaf n.ents := by rw [<- qCj, List.take_length]
 have hbd : wt n.leaf n.ents <= 35184455974912 := by rw [<- hall]; exact qMy h _
 have HAll := hid hall; have d : decide (n.keys.length < 2) = false := by simpa using h1
 have d2 : decide ((qAm n.leaf n.ents).length <= 1024) = false := by simpa using h2
 clear h hm hbox hall; go_enter Tryz.func103, Tryz.ntmps103
 go_wp2_with fail
 generalize w.alloc (.cells #[.bool n.leaf, .slice n.ka n.keys.length n.kc, .slice n.va n.values.length n.vc, .slice n.ia n.kids.length n.ic] 123) = V at *; refine (qGd HN.out).mono ?_; rintro e w0 ⟨rfl, hm0⟩; have HN0 := hid (HN.out.ext hm0); have HM0 := hid (HM.out.trans hm0); have HB0 := hid ((hm0.block _ (lth HBox.out) (fun h => h)).trans HBox.out)
 obtain ⟨b0, b1, b2, b3⟩ := cl4 HB0.out; clear hm0; go_wp2_with fail
 go_loopw [3, 25] (fun t c wr => ∃ k : Nat, k <= n.keys.length /\ c = .int .i64 k /\ t = .int .i64 (wt n.leaf (n.ents.take k)) /\ Mod (fun _ => False) w0 wr) (fun _ c _ => n.keys.length - (intOf c).toNat)
 case atStart => exact ⟨0, Nat.zero_le _, rfl, rfl, Mod.refl _ _⟩
 case round =>
  obtain ⟨k, hk, rfl, rfl, hmr⟩ := hrel; have HMr := hid hmr; obtain ⟨c0, c1, c2, c3⟩ := cl4 ((hmr.block _ (lth HB0.out) (fun h => h)).trans HB0.out)
  have HNr := hid (HN0.out.ext hmr); have hb := qMy HNr.out k; clear hmr; by_cases hlt : k < n.keys.length
  ·have HE := hid (qHu HNr.out k hlt); have hen := qHv n.leaf (qGj HNr.out hlt); have HS := hid (qWo n k hlt); have hsz : (ba (entL n.leaf (qCm n k))).size = (entL n.leaf (qCm n k)).length := qAd _; go_wp2_with fail
   refine HE.out.mono ?_; rintro e w1 ⟨rfl, hm1⟩; have HM1 := hid (HMr.out.trans hm1); clear hm1; go_wp2_with fail
   go_roundw
   case rel => exact ⟨k + 1, by omega, by go_num, by rw [HS.out]; go_num, HM1.out⟩
   case measure => simp [intOf]; omega
  ·obtain rfl : k = n.keys.length := by omega
   rw [HAll.out]; clear hb; go_wp2_with fail
   go_loopw [5, 6] (fun c t wr => ∃ k : Nat, k + 1 <= n.keys.length /\ c = .int .i64 k /\ t = .int .i64 (wt n.leaf (n.ents.take k)) /\ (k <= 1 \/ 2 * wt n.leaf (n.ents.take (k - 1)) < wt n.leaf n.ents) /\ Mod (fun _ => False) w0 wr) (fun c _ _ => n.keys.length - (intOf c).toNat)
   case atStart => exact ⟨0, by omega, rfl, rfl, .inl (by omega), HMr.out⟩
   case round =>
    obtain ⟨k, hk, rfl, rfl, hsm, hmr⟩ := hrel; have HSm := hid hsm; have HMr := hid hmr; have HBr := hid ((hmr.block _ (lth HB0.out) (fun h => h)).trans HB0.out)
    obtain ⟨c0, c1, c2, c3⟩ := cl4 HBr.out; have HNr := hid (HN0.out.ext hmr); have hb := qMy HNr.out k; clear hmr hsm; by_cases hgo : k < 1 \/ (1 <= k /\ k + 1 < n.keys.length /\ 2 * wt n.leaf (n.ents.take k) < wt n.leaf n.ents)
    ·have HE := hid (qHu HNr.out k (by omega))
     have hen := qHv n.leaf (qGj HNr.out (show k < n.keys.length by omega))
     have HS := hid (qWo n k (by omega))
     have hsz : (ba (entL n.leaf (qCm n k))).size = (entL n.leaf (qCm n k)).length := qAd _; have HGo : Hid (k + 1 <= 1 \/ 2 * wt n.leaf (n.ents.take (k + 1 - 1)) < wt n.leaf n.ents) := by
      rcases hgo with h | h
      ·exact .inl (by omega)
      ·exact .inr (by simpa using h.2.2)
     have hk2 : k + 1 + 1 <= n.keys.length := by omega
     rcases hgo with h0 | ⟨hk0, h0, h3⟩
     ·obtain rfl : k = 0 := by omega
      have hz : wt n.leaf [] <= 0 := Nat.le_refl _; have HZ : Hid (wt n.leaf (n.ents.take 0) = wt n.leaf []) := rfl; go_wp2_with fail
      refine HE.out.mono ?_; rintro e w1 ⟨rfl, hm1⟩; have HM1 := hid (HMr.out.trans hm1); clear hm1; go_wp2_with fail
      go_roundw
      case rel => exact ⟨1, by omega, by go_num, by rw [HS.out, HZ.out]; go_num, HGo.out, HM1.out⟩
      case measure => simp [intOf]; omega
     ·have d3 : ¬ k = 0 := by omega
      have d4 : decide ((k : Int) < (n.keys.length : Int) - 1) = true := by simp; omega
      have d5 : decide (2 * (wt n.leaf (n.ents.take k) : Int) < (wt n.leaf n.ents : Int)) = true := by simp; omega
      go_wp2_with fail
      refine HE.out.mono ?_; rintro e w1 ⟨rfl, hm1⟩; have HM1 := hid (HMr.out.trans hm1); clear hm1; go_wp2_with fail
      go_roundw
      case rel => exact ⟨k + 1, by omega, by go_num, by rw [HS.out]; go_num, HGo.out, HM1.out⟩
      case measure => simp [intOf]; omega
    ·have d3 : ¬ k = 0 := by omega
     have HCut : Hid (jHe n.leaf n.ents k) := ⟨by omega, by rw [qCj]; omega, by rw [qCj]; omega, by rcases HSm.out with h | h <;> omega, h2⟩
     have hmd : Mod (fun _ => False) wr wr.drew := (Mod.refl _ _).drew
     have HM2 := hid ((HM0.out.trans HMr.out).trans hmd); have HP1 : Hid (Calls Tryz.prog 131 #[.agg #[.bool n.leaf, .slice n.ka n.keys.length n.kc, .slice n.va n.values.length n.vc, .slice n.ia n.kids.length n.ic], .int .i64 0, .int .i64 k] wr.drew fun e w' => jEl wr.drew n.leaf ((n.ents.take k).drop 0) e w') := qHn (HNr.out.ext hmd) 0 k (Nat.zero_le _) (by omega)
     have HP2 : Hid (∀ w1, Mod (fun _ => False) wr.drew w1 -> Calls Tryz.prog 131 #[.agg #[.bool n.leaf, .slice n.ka n.keys.length n.kc, .slice n.va n.values.length n.vc, .slice n.ia n.kids.length n.ic], .int .i64 k, .int .i64 n.keys.length] w1 fun e w' => jEl w1 n.leaf ((n.ents.take n.keys.length).drop k) e w') := fun w1 hm1 => qHn (HNr.out.ext (hmd.trans hm1)) k n.keys.length (by omega) (Nat.le_refl _)
     have HUp : Hid (∀ w1, Mod (fun _ => False) wr.drew w1 -> w1.cell? ⟨w.heap.size, 0, none⟩ = some (.bool n.leaf) /\ w1.cell? ⟨w.heap.size, 1, none⟩ = some (.slice n.ka n.keys.length n.kc) /\ w1.cell? ⟨w.heap.size, 2, none⟩ = some (.slice n.va n.values.length n.vc) /\ w1.cell? ⟨w.heap.size, 3, none⟩ = some (.slice n.ia n.kids.length n.ic)) := fun w1 hm1 => cl4 (((hmd.trans hm1).block _ (lth HBr.out) (fun h => h)).trans HBr.out)
     clear hmd; by_cases hk1 : k + 1 < n.keys.length
     ·have d4 : decide ((k : Int) < (n.keys.length : Int) - 1) = true := by simp; omega
      have d5 : decide (2 * (wt n.leaf (n.ents.take k) : Int) < (wt n.leaf n.ents : Int)) = false := by simp; omega
      go_wp2_with fail
      clear b0 b1 b2 b3; go_region_held3 (fun w' => w'.cell? ⟨w.heap.size, 0, none⟩ = some (.bool n.leaf) /\ w'.cell? ⟨w.heap.size, 1, none⟩ = some (.slice n.ka n.keys.length n.kc) /\ w'.cell? ⟨w.heap.size, 2, none⟩ = some (.slice n.va n.values.length n.vc) /\ w'.cell? ⟨w.heap.size, 3, none⟩ = some (.slice n.ia n.kids.length n.ic))
       (first | exact ⟨x0, x1, x2, x3⟩ | exact ⟨y0, y1, y2, y3⟩ | go_keep)
       (first
        | (go_at_call 131; (with_reducible refine HP1.out.mono ?_); rintro e w1 ⟨m, hh, rfl, hg, hm1, hbs⟩; obtain ⟨y0, y1, y2, y3⟩ := HUp.out w1 hm1; have HA1 := hid (And.intro hh (And.intro hg (And.intro hm1 hbs))); clear hh hg hm1 hbs)
        | (go_at_call 131; (with_reducible refine (HP2.out w1 HA1.out.2.2.1).mono ?_); rintro e w2 ⟨q, hh, rfl, hg, hm1, hbs⟩; obtain ⟨x0, x1, x2, x3⟩ := HUp.out w2 (HA1.out.2.2.1.trans hm1); have HA2 := hid (And.intro hh (And.intro hg (And.intro hm1 hbs))); clear hh hg hm1 hbs))
      go_wp2_with fail
      go_ret; exact qWy HM2.out HCut.out HA1.out.1 HA1.out.2.1 HA1.out.2.2.1 HA1.out.2.2.2 HA2.out.1 HA2.out.2.1 HA2.out.2.2.1 HA2.out.2.2.2
     ·have d4 : decide ((k : Int) < (n.keys.length : Int) - 1) = false := by simp; omega
      go_wp2_with fail
      clear b0 b1 b2 b3; go_region_held3 (fun w' => w'.cell? ⟨w.heap.size, 0, none⟩ = some (.bool n.leaf) /\ w'.cell? ⟨w.heap.size, 1, none⟩ = some (.slice n.ka n.keys.length n.kc) /\ w'.cell? ⟨w.heap.size, 2, none⟩ = some (.slice n.va n.values.length n.vc) /\ w'.cell? ⟨w.heap.size, 3, none⟩ = some (.slice n.ia n.kids.length n.ic))
       (first | exact ⟨x0, x1, x2, x3⟩ | exact ⟨y0, y1, y2, y3⟩ | go_keep)
       (first
        | (go_at_call 131; (with_reducible refine HP1.out.mono ?_); rintro e w1 ⟨m, hh, rfl, hg, hm1, hbs⟩; obtain ⟨y0, y1, y2, y3⟩ := HUp.out w1 hm1; have HA1 := hid (And.intro hh (And.intro hg (And.intro hm1 hbs))); clear hh hg hm1 hbs)
        | (go_at_call 131; (with_reducible refine (HP2.out w1 HA1.out.2.2.1).mono ?_); rintro e w2 ⟨q, hh, rfl, hg, hm1, hbs⟩; obtain ⟨x0, x1, x2, x3⟩ := HUp.out w2 (HA1.out.2.2.1.trans hm1); have HA2 := hid (And.intro hh (And.intro hg (And.intro hm1 hbs))); clear hh hg hm1 hbs))
      go_wp2_with fail
      go_ret; exact qWy HM2.out HCut.out HA1.out.1 HA1.out.2.1 HA1.out.2.2.1 HA1.out.2.2.2 HA2.out.1 HA2.out.2.1 HA2.out.2.2.1 HA2.out.2.2.2
theorem qXi {w : World} {n : Nd} (h : NdAt w n) : Calls Tryz.prog 103 #[.agg #[.bool n.leaf, .slice n.ka n.keys.length n.kc, .slice n.va n.values.length n.vc, .slice n.ia n.kids.length n.ic]] w fun e w' => qIe w n.leaf n.ents e w' := by
 by_cases h1 : n.keys.length < 2 \/ (qAm n.leaf n.ents).length <= 1024
 ·exact qXg h h1
 ·exact qXf h (by omega) (by omega)
end
section
open Go Go.RowKit
def qGp (leaf : Bool) (es : List Ent) : Prop := ∀ x ∈ es, (leaf = true -> x.kid = 0) /\ (leaf = false -> x.value = emp)
theorem qGp.append {leaf : Bool} {a b : List Ent} (ha : qGp leaf a) (hb : qGp leaf b) : qGp leaf (a ++ b) := fun x hx => by
 rcases List.mem_append.1 hx with h | h
 ·exact ha x h
 ·exact hb x h
theorem qSh {k : Nat} (h : k < 16384) : (uvar k).length = if 127 < k then 2 else 1 := by
 by_cases h1 : k <= 127
 ·rw [qCb h1, if_neg (by omega)]; rfl
 ·rw [qJm h1, if_pos (by omega), List.length_cons, qCb (by omega)]; rfl
theorem qBo (leaf : Bool) (a b : List Ent) : wt leaf (a ++ b) = wt leaf a + wt leaf b := by unfold wt; simp
theorem qOj {p : Nd} {leaf : Bool} (h : p.leaf = leaf) : p.as leaf = p := by subst h; rfl
theorem Lies.empty {α : Type} {w : World} {size : Nat} {f : α -> List Value} {a : Option Addr} : Lies w size f a ([] : List α) :=
 ⟨⟨by simp, fun _ => rfl, fun a _ j u hu => by simp at hu⟩, fun h => by simp at h, fun _ h => by simp at h⟩
end
section
open Go Go.RowKit
abbrev NP := Bool × List Ent
structure TM where
 root : Int
 next : Int
 free : Int
 count : Int
 nodes : Int -> Option NP
 after : Int -> Option Int
structure WM where
 root : Int
 next : Int
 free : Int
 count : Int
 nodes : Int -> Option NP
 after : Int -> Option Int
 taken : Int -> Bool
 full : Bool
def fset {α : Type} (f : Int -> Option α) (k : Int) (v : Option α) : Int -> Option α := fun x => if x = k then v else f x
theorem qDq {α : Type} (f : Int -> Option α) (k : Int) (v : Option α) : fset f k v k = v := if_pos rfl
theorem qAz {α : Type} (f : Int -> Option α) {k x : Int} (v : Option α) (h : x ≠ k) : fset f k v x = f x := if_neg h
def WM.look (W : WM) (T : TM) (s : Int) : Option NP := match W.nodes s with | some n => some n | none => T.nodes s
def WM.link (W : WM) (T : TM) (s : Int) : Option Int := match W.after s with | some n => some n | none => T.after s
def WM.take (W : WM) (T : TM) (L : Int) : Int × WM :=
 if W.free = 0 then (W.next, { W with next := W.next + 1, full := W.full || decide (L <= W.next) })
 else (W.free, { W with after := fset W.after W.free none, taken := fun x => decide (x = W.free) || W.taken x, free := (W.link T W.free).getD 0 })
def WM.release (W : WM) (s : Int) : WM := { W with nodes := fset W.nodes s none, after := fset W.after s (some W.free), free := s }
def WM.put (W : WM) (s : Int) (n : NP) : WM := { W with nodes := fset W.nodes s (some n) }
structure qBx (leaf : Bool) (es : List Ent) : Prop where
 ne : es ≠ []
 keys : qQj (es.map (·.key))
 clean : qGp leaf es
 values : ∀ x ∈ es, x.value.size <= 200
 kids : leaf = false -> ∀ x ∈ es, 1 <= x.kid /\ x.kid <= 1152921504606846976
 bytes : (qAm leaf es).length <= 1024
structure Cut2 (leaf : Bool) (es : List Ent) (i : Nat) : Prop where
 lo : 1 <= i
 hi : i < es.length
 great : i + 1 = es.length \/ wt leaf es <= 2 * wt leaf (es.take i)
 small : i = 1 \/ 2 * wt leaf (es.take (i - 1)) < wt leaf es
theorem qUh (leaf : Bool) (es : List Ent) {i j : Nat} (h : i <= j) : wt leaf (es.take i) <= wt leaf (es.take j) := by
 have e : es.take j = (es.take j).take i ++ (es.take j).drop i := (List.take_append_drop i _).symm; rw [List.take_take, Nat.min_eq_left h] at e; rw [e, qBo]; omega
theorem jDz {leaf : Bool} {es : List Ent} {i j : Nat} (h : Cut2 leaf es i) (k : Cut2 leaf es j) : i = j := by
 have aux : ∀ {i j : Nat}, Cut2 leaf es i -> Cut2 leaf es j -> ¬ i < j := fun {i j} h k hij => by
  have h1 := h.great; have h2 := k.small; have h3 := k.hi; have h4 := h.lo; have h5 := qUh leaf es (i := i) (j := j - 1) (by omega)
  omega
 have h1 := aux h k; have h2 := aux k h; omega
noncomputable def cutI (leaf : Bool) (es : List Ent) : Nat := @dite _ (∃ i, Cut2 leaf es i) (Classical.propDecidable _) (fun h => h.choose) (fun _ => 0)
theorem qZy {leaf : Bool} {es : List Ent} {i : Nat} (h : Cut2 leaf es i) : cutI leaf es = i := by
 have he : ∃ i, Cut2 leaf es i := ⟨i, h⟩; unfold cutI; rw [dif_pos he]; exact jDz he.choose_spec h
noncomputable def qDn (leaf : Bool) (es : List Ent) : List (List Ent) :=
 if es.length < 2 \/ (qAm leaf es).length <= 1024 then [es] else [es.take (cutI leaf es), es.drop (cutI leaf es)]
def fk (es : List Ent) : ByteArray := match es with | [] => emp | x :: _ => x.key
noncomputable def ifP {α : Type} (p : Prop) (a b : α) : α := @ite _ p (Classical.propDecidable _) a b
theorem qCd {α : Type} {p : Prop} (h : p) (a b : α) : ifP p a b = a := by unfold ifP; rw [if_pos h]
theorem qDb {α : Type} {p : Prop} (h : ¬ p) (a b : α) : ifP p a b = b := by unfold ifP; rw [if_neg h]
abbrev qBk := List (ByteArray × Int)
noncomputable def qBm (T : TM) (L : Int) (leaf : Bool) : List (List Ent) -> List Int -> WM -> Option (WM × qBk)
 | [], ss, W => some (ss.foldl WM.release W, [])
 | x :: xs, [], W => ifP (qBx leaf x /\ W.next <= 1152921504606846975) ((qBm T L leaf xs [] ((W.take T L).2.put (W.take T L).1 (leaf, x))).map fun r => (r.1, (fk x, (W.take T L).1) :: r.2)) none
 | x :: xs, s :: ss, W => ifP (qBx leaf x) ((qBm T L leaf xs ss (W.put s (leaf, x))).map fun r => (r.1, (fk x, s) :: r.2)) none
noncomputable def qBt (T : TM) (L : Int) (W : WM) (leaf : Bool) (es : List Ent) (ss : List Int) : Option (WM × qBk) :=
 qBm T L leaf (if es = [] then [] else qDn leaf es) ss W
def qLn (p : ByteArray × Int) : Ent := ⟨p.1, emp, p.2⟩
def qAv (es : List Ent) (a b : Nat) (ps : qBk) : List Ent := es.take a ++ (ps.map qLn ++ es.drop b)
def Cg.putE (c : Cg) : List Ent := if c.gone then [] else [⟨c.key, c.value, 0⟩]
def chgE (c : Cg) (es : List Ent) : List Ent := es.filter (fun x => kl x.key c.key) ++ (c.putE ++ es.filter (fun x => kl c.key x.key))
def hasE (c : Cg) (es : List Ent) : Bool := es.any (fun x => decide (x.key = c.key))
def chgN (c : Cg) (es : List Ent) : Int := if hasE c es then (if c.gone then -1 else 0) else 1
def qCl (key : ByteArray) (es : List Ent) : Nat := (es.filter (fun x => !kl key x.key)).length - 1
def WM.add (W : WM) (d : Int) : WM := { W with count := W.count + d }
noncomputable def qKr (T : TM) (L : Int) (W : WM) (s : Int) (es : List Ent) (i : Nat) : Option (WM × qBk) :=
 match es[i - 1]?, es[i - 1 + 1]? with
 | some l, some r =>
  match W.look T l.kid, W.look T r.kid with
  | some x, some y => ifP (x.1 = y.1) ((qBt T L W x.1 (x.2 ++ y.2) [l.kid, r.kid]).bind fun q => qBt T L q.1 false (qAv es (i - 1) (i - 1 + 2) q.2) [s]) none
  | _, _ => none
 | _, _ => none
noncomputable def qIw (T : TM) (L : Int) (W : WM) (s : Int) (es : List Ent) (i : Nat) (ps : qBk) : Option (WM × qBk) :=
 match ps with
 | [p] => if 1 < (qAv es i (i + 1) ps).length then
   match W.look T p.2 with
   | none => none
   | some n => if (qAm n.1 n.2).length < 300 then qKr T L W s (qAv es i (i + 1) ps) i else qBt T L W false (qAv es i (i + 1) ps) [s]
  else qBt T L W false (qAv es i (i + 1) ps) [s]
 | _ => qBt T L W false (qAv es i (i + 1) ps) [s]
noncomputable def qBl (T : TM) (L : Int) (c : Cg) : Nat -> WM -> Int -> Option (WM × qBk)
 | 0, _, _ => none
 | f + 1, W, s =>
  match W.look T s with
  | none => none
  | some (true, es) => if c.gone && !hasE c es then some (W, [(fk es, s)]) else qBt T L (W.add (chgN c es)) true (chgE c es) [s]
  | some (false, es) =>
   match es[qCl c.key es]? with
   | none => none
   | some x => (qBl T L c f W x.kid).bind fun r => ifP (∀ p ∈ r.2, 1 <= p.2 /\ p.2 <= 1152921504606846976) (qIw T L r.1 s es (qCl c.key es) r.2) none
def WM.at (W : WM) (s : Int) : WM := { W with root := s }
noncomputable def qEr (T : TM) : Nat -> WM -> Option WM
 | 0, _ => none
 | f + 1, W =>
  match W.look T W.root with
  | none => none
  | some (false, [x]) => qEr T f ((W.release W.root).at x.kid)
  | some _ => some W
noncomputable def topM (T : TM) (L : Int) (f : Nat) (W : WM) (ps : qBk) : Option WM :=
 match ps with
 | [] => some (W.at 0)
 | [p] => qEr T f (W.at p.2)
 | _ => (qBt T L W false (ps.map qLn) []).bind fun q => match q.2 with | [] => none | p :: _ => qEr T f (q.1.at p.2)
noncomputable def oneM (T : TM) (L : Int) (f : Nat) (W : WM) (c : Cg) : Option WM :=
 if W.root ≠ 0 then (qBl T L c f W W.root).bind fun r => topM T L (f + 1) r.1 r.2
 else if c.gone then some W
 else (qBt T L (W.add 1) true [⟨c.key, c.value, 0⟩] []).bind fun r => topM T L (f + 1) r.1 r.2
noncomputable def allM (T : TM) (L : Int) (f : Nat) : List Cg -> WM -> Option WM
 | [], W => some W
 | c :: cs, W => (oneM T L f W c).bind (allM T L f cs)
def WM.done (W : WM) (T : TM) : TM := ⟨W.root, W.next, W.free, W.count,
 fun x => match W.nodes x with | some n => some n | none => if (W.after x).isSome then none else T.nodes x,
 fun x => if (W.nodes x).isSome then none else match W.after x with | some n => some n | none => if W.taken x then none else T.after x⟩
end
end Go.Proofs.YtkinkgbmlhiakaaGreatDoor
