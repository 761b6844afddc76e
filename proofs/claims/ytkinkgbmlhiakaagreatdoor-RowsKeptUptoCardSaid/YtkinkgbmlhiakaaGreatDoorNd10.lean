/- merged: Split Grown TrM -/
import Derived.Test.YtkinkgbmlhiakaaGreatDoorNd09
import Derived.Deep.RegionHeld3
import Derived.Test.YtkinkgbmlhiakaaGreatDoorNd07
import Derived.Test.YtkinkgbmlhiakaaGreatDoorNd06
import Derived.Test.YtkinkgbmlhiakaaGreatDoorNd08
namespace Go.Proofs.YtkinkgbmlhiakaaGreatDoor
section
open Go Go.RowKit
def Nd.cs (m : Nd) : List Value := [.bool m.leaf, .slice m.ka m.keys.length m.kc, .slice m.va m.values.length m.vc, .slice m.ia m.kids.length m.ic]
def wt (leaf : Bool) (es : List Ent) : Nat := (es.flatMap (entL leaf)).length
structure jKx (leaf : Bool) (es : List Ent) (i : Nat) : Prop where
 lo : 1 <= i
 hi : i < es.length
 great : i + 1 = es.length \/ wt leaf es <= 2 * wt leaf (es.take i)
 small : i = 1 \/ 2 * wt leaf (es.take (i - 1)) < wt leaf es
 big : 1024 < (qAo leaf es).length
def qJx (w : World) (leaf : Bool) (es : List Ent) (e : Ending) (w' : World) : Prop :=
 Mod (fun _ => False) w w' /\ ∃ g : Nat, w.heap.size <= g ∧
  ((∃ m : Nd, (es.length < 2 \/ (qAo leaf es).length <= 1024) /\ Has m leaf es /\ Gd w' m /\ (∀ b, m.bs b -> w.heap.size <= b /\ b ≠ g) /\ w'.heap[g]? = some (.cells m.cs.toArray 123 (0, 0)) /\ e = .returned (.slice (some ⟨g, 0, none⟩) 1 1)) ∨
   ∃ (i : Nat) (m q : Nd), jKx leaf es i /\ Has m leaf (es.take i) /\ Has q leaf (es.drop i) /\ Gd w' m /\ Gd w' q /\ (∀ b, m.bs b -> w.heap.size <= b /\ b ≠ g /\ ¬ q.bs b) /\ (∀ b, q.bs b -> w.heap.size <= b /\ b ≠ g) /\ w'.heap[g]? = some (.cells (m.cs ++ q.cs).toArray 123 (0, 0)) /\ e = .returned (.slice (some ⟨g, 0, none⟩) 2 2))
theorem jBi {w V w1 : World} {leaf : Bool} {es : List Ent} {m : Nd} (hm : Mod (fun _ => False) w V) (hm1 : Mod (fun _ => False) V w1) (h1 : es.length < 2 \/ (qAo leaf es).length <= 1024) (hh : Has m leaf es) (hg : Gd w1 m) (hbs : ∀ b, m.bs b -> V.heap.size <= b) :
  qJx w leaf es (.returned (.slice (some ⟨w1.heap.size, 0, none⟩) 1 1)) (w1.alloc (.cells #[.bool m.leaf, .slice m.ka m.keys.length m.kc, .slice m.va m.values.length m.vc, .slice m.ia m.kids.length m.ic] 123)) := by
 have s1 := hm.size; have s2 := hm1.size; refine ⟨(hm.trans hm1).alloc _, w1.heap.size, by omega, .inl ⟨m, h1, hh, hg.ext (S := fun _ => False) ((Mod.refl _ _).alloc _) (fun _ _ h => h), fun b h => ?_, heap_alloc_new _ _, rfl⟩⟩
 have := hbs b h; have := hg.lt h; exact ⟨by omega, by omega⟩
theorem qZs {w V w1 w2 : World} {n : Nd} {k : Nat} {m q : Nd} (hm : Mod (fun _ => False) w V) (hc : jKx n.leaf n.ents k) (h1 : Has m n.leaf ((n.ents.take k).drop 0)) (g1 : Gd w1 m) (hm1 : Mod (fun _ => False) V w1) (hb1 : ∀ b, m.bs b -> V.heap.size <= b)
  (h2 : Has q n.leaf ((n.ents.take n.keys.length).drop k)) (g2 : Gd w2 q) (hm2 : Mod (fun _ => False) w1 w2) (hb2 : ∀ b, q.bs b -> w1.heap.size <= b) :
  qJx w n.leaf n.ents (.returned (.slice (some ⟨w2.heap.size, 0, none⟩) 2 2)) (w2.alloc (.cells #[.bool m.leaf, .slice m.ka m.keys.length m.kc, .slice m.va m.values.length m.vc, .slice m.ia m.kids.length m.ic, .bool q.leaf, .slice q.ka q.keys.length q.kc, .slice q.va q.values.length q.vc, .slice q.ia q.kids.length q.ic] 123)) := by
 have s1 := hm.size; have s2 := hm1.size; have s3 := hm2.size; have g1' := g1.ext hm2 (fun _ _ h => h)
 rw [List.drop_zero] at h1; rw [<- qDa, List.take_length] at h2; refine ⟨((hm.trans hm1).trans hm2).alloc _, w2.heap.size, by omega, .inr ⟨k, m, q, hc, h1, h2, g1'.ext (S := fun _ => False) ((Mod.refl _ _).alloc _) (fun _ _ h => h), g2.ext (S := fun _ => False) ((Mod.refl _ _).alloc _) (fun _ _ h => h), fun b h => ?_, fun b h => ?_, heap_alloc_new _ _, rfl⟩⟩
 ·have := hb1 b h; have := g1.lt h; exact ⟨by omega, by omega, fun h => by have := hb2 b h; omega⟩
 ·have := hb2 b h; have := g2.lt h; exact ⟨by omega, by omega⟩
theorem qHq (leaf : Bool) (es : List Ent) : (qAo leaf es).length = 1 + (uvar es.length).length + wt leaf es := by unfold qAo wt; simp; omega
set_option maxRecDepth 100000
set_option maxHeartbeats 2000000 in
theorem jAf {w : World} {n : Nd} (h : NdAt w n) (h1 : n.keys.length < 2 \/ (qAo n.leaf n.ents).length <= 1024) : Calls Tryz.prog 103 #[.agg #[.bool n.leaf, .slice n.ka n.keys.length n.kc, .slice n.va n.values.length n.vc, .slice n.ia n.kids.length n.ic]] w fun e w' => qJx w n.leaf n.ents e w' := by
 have hkb := h.bk; have hm : Mod (fun _ => False) w (w.alloc (.cells #[.bool n.leaf, .slice n.ka n.keys.length n.kc, .slice n.va n.values.length n.vc, .slice n.ia n.kids.length n.ic] 123)) := (Mod.refl _ _).alloc _
 have hbox : (w.alloc (.cells #[.bool n.leaf, .slice n.ka n.keys.length n.kc, .slice n.va n.values.length n.vc, .slice n.ia n.kids.length n.ic] 123)).heap[w.heap.size]? = some (.cells #[.bool n.leaf, .slice n.ka n.keys.length n.kc, .slice n.va n.values.length n.vc, .slice n.ia n.kids.length n.ic] 123 (0, 0)) := heap_alloc_new _ _; have HN := hid (h.ext hm); have HM := hid hm; have HBox := hid hbox; have H1 := hid h1; clear h hm hbox h1; by_cases h2 : n.keys.length < 2
 ·have d : decide (n.keys.length < 2) = true := by simpa using h2
  go_enter Tryz.func103, Tryz.ntmps103
  go_wp2_with fail
  generalize w.alloc (.cells #[.bool n.leaf, .slice n.ka n.keys.length n.kc, .slice n.va n.values.length n.vc, .slice n.ia n.kids.length n.ic] 123) = V at *; refine (qJa HN.out 0 n.keys.length (Nat.zero_le _) (Nat.le_refl _)).mono ?_; rintro e w1 ⟨m, hh, rfl, hg, hm1, hbs⟩; rw [qEp] at hh; have hgo := jBi HM.out hm1 (by rw [qDa]; exact H1.out) hh hg hbs
  have HGo := hid hgo; clear hh hg hm1 hbs hgo; go_wp2_with fail
  go_ret; exact HGo.out
 ·have h3 : (qAo n.leaf n.ents).length <= 1024 := H1.out.resolve_left h2; have d : decide (n.keys.length < 2) = false := by simpa using h2
  have d2 : decide ((qAo n.leaf n.ents).length <= 1024) = true := by simpa using h3
  go_enter Tryz.func103, Tryz.ntmps103
  go_wp2_with fail
  generalize w.alloc (.cells #[.bool n.leaf, .slice n.ka n.keys.length n.kc, .slice n.va n.values.length n.vc, .slice n.ia n.kids.length n.ic] 123) = V at *; refine (qHe HN.out).mono ?_; rintro e w0 ⟨rfl, hm0⟩; have HN0 := hid (HN.out.ext hm0); have HM0 := hid (HM.out.trans hm0); obtain ⟨b0, b1, b2, b3⟩ := cl4 ((hm0.block _ (lth HBox.out) (fun h => h)).trans HBox.out)
  clear hm0; go_wp2_with fail
  refine (qJa HN0.out 0 n.keys.length (Nat.zero_le _) (Nat.le_refl _)).mono ?_; rintro e w1 ⟨m, hh, rfl, hg, hm1, hbs⟩; rw [qEp] at hh; have hgo := jBi HM0.out hm1 (by rw [qDa]; exact H1.out) hh hg hbs
  have HGo := hid hgo; clear hh hg hm1 hbs hgo; go_wp2_with fail
  go_ret; exact HGo.out
theorem qZh (n : Nd) (k : Nat) (hk : k < n.keys.length) : wt n.leaf (n.ents.take (k + 1)) = wt n.leaf (n.ents.take k) + (entL n.leaf (qCj n k)).length := by
 have := qLv n 0 k (Nat.zero_le _) hk; simp only [List.drop_zero] at this; rw [this]; unfold wt; simp
theorem qOt {w : World} {n : Nd} (h : NdAt w n) (k : Nat) : wt n.leaf (n.ents.take k) <= 35184455974912 := by
 have h1 := qTt (leaf := n.leaf) (es := n.ents.take k) (fun x hx => jCy h x (List.mem_of_mem_take hx))
 have h2 : (n.ents.take k).length <= 4194304 := by rw [List.length_take, qDa]; have := h.bk; omega
 unfold wt; have : (n.ents.take k).length * 8388628 <= 4194304 * 8388628 := Nat.mul_le_mul_right _ h2; omega
set_option maxHeartbeats 4000000 in
theorem jAe {w : World} {n : Nd} (h : NdAt w n) (h1 : 2 <= n.keys.length) (h2 : 1024 < (qAo n.leaf n.ents).length) : Calls Tryz.prog 103 #[.agg #[.bool n.leaf, .slice n.ka n.keys.length n.kc, .slice n.va n.values.length n.vc, .slice n.ia n.kids.length n.ic]] w fun e w' => qJx w n.leaf n.ents e w' := by
 have hkb := h.bk; have hm : Mod (fun _ => False) w (w.alloc (.cells #[.bool n.leaf, .slice n.ka n.keys.length n.kc, .slice n.va n.values.length n.vc, .slice n.ia n.kids.length n.ic] 123)) := (Mod.refl _ _).alloc _
 have hbox : (w.alloc (.cells #[.bool n.leaf, .slice n.ka n.keys.length n.kc, .slice n.va n.values.length n.vc, .slice n.ia n.kids.length n.ic] 123)).heap[w.heap.size]? = some (.cells #[.bool n.leaf, .slice n.ka n.keys.length n.kc, .slice n.va n.values.length n.vc, .slice n.ia n.kids.length n.ic] 123 (0, 0)) := heap_alloc_new _ _; have HN := hid (h.ext hm); have HM := hid hm; have HBox := hid hbox; have hall : wt n.leaf (n.ents.take n.keys.length) = wt n.leaf n.ents := by rw [<- qDa, List.take_length]
 have hbd : wt n.leaf n.ents <= 35184455974912 := by rw [<- hall]; exact qOt h _
 have HAll := hid hall; have d : decide (n.keys.length < 2) = false := by simpa using h1
 have d2 : decide ((qAo n.leaf n.ents).length <= 1024) = false := by simpa using h2
 clear h hm hbox hall; go_enter Tryz.func103, Tryz.ntmps103
 go_wp2_with fail
 generalize w.alloc (.cells #[.bool n.leaf, .slice n.ka n.keys.length n.kc, .slice n.va n.values.length n.vc, .slice n.ia n.kids.length n.ic] 123) = V at *; refine (qHe HN.out).mono ?_; rintro e w0 ⟨rfl, hm0⟩; have HN0 := hid (HN.out.ext hm0); have HM0 := hid (HM.out.trans hm0); have HB0 := hid ((hm0.block _ (lth HBox.out) (fun h => h)).trans HBox.out)
 obtain ⟨b0, b1, b2, b3⟩ := cl4 HB0.out; clear hm0; go_wp2_with fail
 go_loopw [3, 25] (fun t c wr => ∃ k : Nat, k <= n.keys.length /\ c = .int .i64 k /\ t = .int .i64 (wt n.leaf (n.ents.take k)) /\ Mod (fun _ => False) w0 wr) (fun _ c _ => n.keys.length - (intOf c).toNat)
 case atStart => exact ⟨0, Nat.zero_le _, rfl, rfl, Mod.refl _ _⟩
 case round =>
  obtain ⟨k, hk, rfl, rfl, hmr⟩ := hrel; have HMr := hid hmr; obtain ⟨c0, c1, c2, c3⟩ := cl4 ((hmr.block _ (lth HB0.out) (fun h => h)).trans HB0.out)
  have HNr := hid (HN0.out.ext hmr); have hb := qOt HNr.out k; clear hmr; by_cases hlt : k < n.keys.length
  ·have HE := hid (qJn HNr.out k hlt); have hen := qJo n.leaf (qHn HNr.out hlt); have HS := hid (qZh n k hlt); have hsz : (ba (entL n.leaf (qCj n k))).size = (entL n.leaf (qCj n k)).length := qAf _; go_wp2_with fail
   refine HE.out.mono ?_; rintro e w1 ⟨rfl, hm1⟩; have HM1 := hid (HMr.out.trans hm1); clear hm1; go_wp2_with fail
   go_roundw
   case rel => exact ⟨k + 1, by omega, by go_num, by rw [HS.out]; go_num, HM1.out⟩
   case measure => simp [intOf]; omega
  ·obtain rfl : k = n.keys.length := by omega
   rw [HAll.out]; clear hb; go_wp2_with fail
   go_loopw [5, 6] (fun c t wr => ∃ k : Nat, k + 1 <= n.keys.length /\ c = .int .i64 k /\ t = .int .i64 (wt n.leaf (n.ents.take k)) /\ (k <= 1 \/ 2 * wt n.leaf (n.ents.take (k - 1)) < wt n.leaf n.ents) /\ Mod (fun _ => False) w0 wr) (fun c _ _ => n.keys.length - (intOf c).toNat)
   case atStart => exact ⟨0, by omega, rfl, rfl, .inl (by omega), HMr.out⟩
   case round =>
    obtain ⟨k, hk, rfl, rfl, hsm, hmr⟩ := hrel; have HSm := hid hsm; have HMr := hid hmr; have HBr := hid ((hmr.block _ (lth HB0.out) (fun h => h)).trans HB0.out)
    obtain ⟨c0, c1, c2, c3⟩ := cl4 HBr.out; have HNr := hid (HN0.out.ext hmr); have hb := qOt HNr.out k; clear hmr hsm; by_cases hgo : k < 1 \/ (1 <= k /\ k + 1 < n.keys.length /\ 2 * wt n.leaf (n.ents.take k) < wt n.leaf n.ents)
    ·have HE := hid (qJn HNr.out k (by omega))
     have hen := qJo n.leaf (qHn HNr.out (show k < n.keys.length by omega))
     have HS := hid (qZh n k (by omega))
     have hsz : (ba (entL n.leaf (qCj n k))).size = (entL n.leaf (qCj n k)).length := qAf _; have HGo : Hid (k + 1 <= 1 \/ 2 * wt n.leaf (n.ents.take (k + 1 - 1)) < wt n.leaf n.ents) := by
      rcases hgo with h | h
      ·exact .inl (by omega)
      ·exact .inr (by simpa using h.2.2)
     have hk2 : k + 1 + 1 <= n.keys.length := by omega
     rcases hgo with h0 | ⟨hk0, h0, h3⟩
     ·obtain rfl : k = 0 := by omega
      have hz : wt n.leaf [] <= 0 := Nat.le_refl _; have HZ : Hid (wt n.leaf (n.ents.take 0) = wt n.leaf []) := rfl; go_wp2_with fail
      refine HE.out.mono ?_; rintro e w1 ⟨rfl, hm1⟩; have HM1 := hid (HMr.out.trans hm1); clear hm1; go_wp2_with fail
      go_roundw
      case rel => exact ⟨1, by omega, by go_num, by rw [HS.out, HZ.out]; go_num, HGo.out, HM1.out⟩
      case measure => simp [intOf]; omega
     ·have d3 : ¬ k = 0 := by omega
      have d4 : decide ((k : Int) < (n.keys.length : Int) - 1) = true := by simp; omega
      have d5 : decide (2 * (wt n.leaf (n.ents.take k) : Int) < (wt n.leaf n.ents : Int)) = true := by simp; omega
      go_wp2_with fail
      refine HE.out.mono ?_; rintro e w1 ⟨rfl, hm1⟩; have HM1 := hid (HMr.out.trans hm1); clear hm1; go_wp2_with fail
      go_roundw
      case rel => exact ⟨k + 1, by omega, by go_num, by rw [HS.out]; go_num, HGo.out, HM1.out⟩
      case measure => simp [intOf]; omega
    ·have d3 : ¬ k = 0 := by omega
     have HCut : Hid (jKx n.leaf n.ents k) := ⟨by omega, by rw [qDa]; omega, by rw [qDa]; omega, by rcases HSm.out with h | h <;> omega, h2⟩
     have hmd : Mod (fun _ => False) wr wr.drew := (Mod.refl _ _).drew
     have HM2 := hid ((HM0.out.trans HMr.out).trans hmd); have HP1 : Hid (Calls Tryz.prog 131 #[.agg #[.bool n.leaf, .slice n.ka n.keys.length n.kc, .slice n.va n.values.length n.vc, .slice n.ia n.kids.length n.ic], .int .i64 0, .int .i64 k] wr.drew fun e w' => jHz wr.drew n.leaf ((n.ents.take k).drop 0) e w') := qJa (HNr.out.ext hmd) 0 k (Nat.zero_le _) (by omega)
     have HP2 : Hid (∀ w1, Mod (fun _ => False) wr.drew w1 -> Calls Tryz.prog 131 #[.agg #[.bool n.leaf, .slice n.ka n.keys.length n.kc, .slice n.va n.values.length n.vc, .slice n.ia n.kids.length n.ic], .int .i64 k, .int .i64 n.keys.length] w1 fun e w' => jHz w1 n.leaf ((n.ents.take n.keys.length).drop k) e w') := fun w1 hm1 => qJa (HNr.out.ext (hmd.trans hm1)) k n.keys.length (by omega) (Nat.le_refl _)
     have HUp : Hid (∀ w1, Mod (fun _ => False) wr.drew w1 -> w1.cell? ⟨w.heap.size, 0, none⟩ = some (.bool n.leaf) /\ w1.cell? ⟨w.heap.size, 1, none⟩ = some (.slice n.ka n.keys.length n.kc) /\ w1.cell? ⟨w.heap.size, 2, none⟩ = some (.slice n.va n.values.length n.vc) /\ w1.cell? ⟨w.heap.size, 3, none⟩ = some (.slice n.ia n.kids.length n.ic)) := fun w1 hm1 => cl4 (((hmd.trans hm1).block _ (lth HBr.out) (fun h => h)).trans HBr.out)
     clear hmd; by_cases hk1 : k + 1 < n.keys.length
     ·have d4 : decide ((k : Int) < (n.keys.length : Int) - 1) = true := by simp; omega
      have d5 : decide (2 * (wt n.leaf (n.ents.take k) : Int) < (wt n.leaf n.ents : Int)) = false := by simp; omega
      go_wp2_with fail
      clear b0 b1 b2 b3; go_region_held3 (fun w' => w'.cell? ⟨w.heap.size, 0, none⟩ = some (.bool n.leaf) /\ w'.cell? ⟨w.heap.size, 1, none⟩ = some (.slice n.ka n.keys.length n.kc) /\ w'.cell? ⟨w.heap.size, 2, none⟩ = some (.slice n.va n.values.length n.vc) /\ w'.cell? ⟨w.heap.size, 3, none⟩ = some (.slice n.ia n.kids.length n.ic))
       (first | exact ⟨x0, x1, x2, x3⟩ | exact ⟨y0, y1, y2, y3⟩ | go_keep)
       (first
        | (go_at_call 131; (with_reducible refine HP1.out.mono ?_); rintro e w1 ⟨m, hh, rfl, hg, hm1, hbs⟩; obtain ⟨y0, y1, y2, y3⟩ := HUp.out w1 hm1; have HA1 := hid (And.intro hh (And.intro hg (And.intro hm1 hbs))); clear hh hg hm1 hbs)
        | (go_at_call 131; (with_reducible refine (HP2.out w1 HA1.out.2.2.1).mono ?_); rintro e w2 ⟨q, hh, rfl, hg, hm1, hbs⟩; obtain ⟨x0, x1, x2, x3⟩ := HUp.out w2 (HA1.out.2.2.1.trans hm1); have HA2 := hid (And.intro hh (And.intro hg (And.intro hm1 hbs))); clear hh hg hm1 hbs))
      go_wp2_with fail
      go_ret; exact qZs HM2.out HCut.out HA1.out.1 HA1.out.2.1 HA1.out.2.2.1 HA1.out.2.2.2 HA2.out.1 HA2.out.2.1 HA2.out.2.2.1 HA2.out.2.2.2
     ·have d4 : decide ((k : Int) < (n.keys.length : Int) - 1) = false := by simp; omega
      go_wp2_with fail
      clear b0 b1 b2 b3; go_region_held3 (fun w' => w'.cell? ⟨w.heap.size, 0, none⟩ = some (.bool n.leaf) /\ w'.cell? ⟨w.heap.size, 1, none⟩ = some (.slice n.ka n.keys.length n.kc) /\ w'.cell? ⟨w.heap.size, 2, none⟩ = some (.slice n.va n.values.length n.vc) /\ w'.cell? ⟨w.heap.size, 3, none⟩ = some (.slice n.ia n.kids.length n.ic))
       (first | exact ⟨x0, x1, x2, x3⟩ | exact ⟨y0, y1, y2, y3⟩ | go_keep)
       (first
        | (go_at_call 131; (with_reducible refine HP1.out.mono ?_); rintro e w1 ⟨m, hh, rfl, hg, hm1, hbs⟩; obtain ⟨y0, y1, y2, y3⟩ := HUp.out w1 hm1; have HA1 := hid (And.intro hh (And.intro hg (And.intro hm1 hbs))); clear hh hg hm1 hbs)
        | (go_at_call 131; (with_reducible refine (HP2.out w1 HA1.out.2.2.1).mono ?_); rintro e w2 ⟨q, hh, rfl, hg, hm1, hbs⟩; obtain ⟨x0, x1, x2, x3⟩ := HUp.out w2 (HA1.out.2.2.1.trans hm1); have HA2 := hid (And.intro hh (And.intro hg (And.intro hm1 hbs))); clear hh hg hm1 hbs))
      go_wp2_with fail
      go_ret; exact qZs HM2.out HCut.out HA1.out.1 HA1.out.2.1 HA1.out.2.2.1 HA1.out.2.2.2 HA2.out.1 HA2.out.2.1 HA2.out.2.2.1 HA2.out.2.2.2
theorem jAh {w : World} {n : Nd} (h : NdAt w n) : Calls Tryz.prog 103 #[.agg #[.bool n.leaf, .slice n.ka n.keys.length n.kc, .slice n.va n.values.length n.vc, .slice n.ia n.kids.length n.ic]] w fun e w' => qJx w n.leaf n.ents e w' := by
 by_cases h1 : n.keys.length < 2 \/ (qAo n.leaf n.ents).length <= 1024
 ·exact jAf h h1
 ·exact jAe h (by omega) (by omega)
end
section
open Go Go.RowKit
theorem Has.ok {m : Nd} {leaf : Bool} {es : List Ent} (h : Has m leaf es) {w : World} (g : Gd w m) (hb : es.length <= 4194304) (he : ∀ x ∈ es, x.Ok) : NdAt w m := by
 obtain ⟨h1, h2, h3⟩ := h.len_le; refine ⟨g.k.lies, g.v.lies, g.i.lies, by omega, by omega, by omega, fun x hx => ?_, fun x hx => ?_, fun x hx => ?_⟩
 ·rw [h.k] at hx; obtain ⟨y, hy, rfl⟩ := List.mem_map.1 hx; exact (he y hy).1
 ·rw [h.v] at hx; split at hx
  ·obtain ⟨y, hy, rfl⟩ := List.mem_map.1 hx; exact (he y hy).2.1
  ·cases hx
 ·rw [h.i] at hx; split at hx
  ·cases hx
  ·obtain ⟨y, hy, rfl⟩ := List.mem_map.1 hx; exact (he y hy).2.2
def qFb (leaf : Bool) (es : List Ent) : Prop := ∀ x ∈ es, (leaf = true -> x.kid = 0) /\ (leaf = false -> x.value = emp)
theorem qFb.append {leaf : Bool} {a b : List Ent} (ha : qFb leaf a) (hb : qFb leaf b) : qFb leaf (a ++ b) := fun x hx => by
 rcases List.mem_append.1 hx with h | h
 ·exact ha x h
 ·exact hb x h
theorem qFb.take {leaf : Bool} {a : List Ent} (ha : qFb leaf a) (k : Nat) : qFb leaf (a.take k) := fun x hx => ha x (List.mem_of_mem_take hx)
theorem qFb.drop {leaf : Bool} {a : List Ent} (ha : qFb leaf a) (k : Nat) : qFb leaf (a.drop k) := fun x hx => ha x (List.mem_of_mem_drop hx)
theorem Has.ents {m : Nd} {leaf : Bool} {es : List Ent} (h : Has m leaf es) (hc : qFb leaf es) : m.ents = es := by
 apply List.ext_getElem?; intro i; unfold Nd.ents; rw [List.getElem?_map]; by_cases hi : i < es.length
 ·rw [List.getElem?_range (by rw [h.len_le.1]; exact hi)]
  obtain ⟨x, hx⟩ : ∃ x, es[i]? = some x := ⟨_, List.getElem?_eq_getElem hi⟩; have hcx := hc x (List.mem_of_getElem? hx); rw [hx]; show some (qCj m i) = some x; unfold qCj qBp qEo; rw [h.k, h.v, h.i, h.l, List.getElem?_map, hx]; cases leaf with
  | true => simp [hx]; cases x; simp at hcx ⊢; exact hcx.symm
  | false => simp [hx]; cases x; simp at hcx ⊢; exact hcx.symm
 ·rw [List.getElem?_eq_none (l := es) (by omega), List.getElem?_eq_none (l := List.range _) (by rw [List.length_range, h.len_le.1]; omega)]
  rfl
theorem qUr {k : Nat} (h : k < 16384) : (uvar k).length = if 127 < k then 2 else 1 := by
 by_cases h1 : k <= 127
 ·rw [qCn h1, if_neg (by omega)]; rfl
 ·rw [qLj h1, if_pos (by omega), List.length_cons, qCn (by omega)]; rfl
theorem qRa (s : ByteArray) : 0 < (qCq s).length := by
 have := qFe s.size; unfold qCq; rw [List.length_append]; omega
theorem qBu (leaf : Bool) (a b : List Ent) : wt leaf (a ++ b) = wt leaf a + wt leaf b := by unfold wt; simp
theorem jIn (leaf : Bool) : ∀ es : List Ent, 2 * es.length <= wt leaf es
 | [] => by simp [wt]
 | x :: r => by
  have h1 := jIn leaf r; have h2 : wt leaf (x :: r) = (entL leaf x).length + wt leaf r := by unfold wt; simp
  have h3 := qRa x.key; have h4 : 2 <= (entL leaf x).length := by
   unfold entL; rw [List.length_append]; split
   ·have := qRa x.value; omega
   ·have := qFe (max 0 x.kid).toNat; omega
  rw [h2, List.length_cons]; omega
theorem qQl {p : Nd} {leaf : Bool} (h : p.leaf = leaf) : p.as leaf = p := by subst h; rfl
theorem Lies.empty {α : Type} {w : World} {size : Nat} {f : α -> List Value} {a : Option Addr} : Lies w size f a ([] : List α) :=
 ⟨⟨by simp, fun _ => rfl, fun a _ j u hu => by simp at hu⟩, fun h => by simp at h, fun _ h => by simp at h⟩
end
section
open Go Go.RowKit
abbrev NP := Bool × List Ent
structure TM where
 root : Int
 next : Int
 free : Int
 count : Int
 nodes : Int -> Option NP
 after : Int -> Option Int
structure WM where
 root : Int
 next : Int
 free : Int
 count : Int
 nodes : Int -> Option NP
 after : Int -> Option Int
 taken : Int -> Bool
 full : Bool
def fset {α : Type} (f : Int -> Option α) (k : Int) (v : Option α) : Int -> Option α := fun x => if x = k then v else f x
theorem qCi {α : Type} (f : Int -> Option α) (k : Int) (v : Option α) : fset f k v k = v := if_pos rfl
theorem qAn {α : Type} (f : Int -> Option α) {k x : Int} (v : Option α) (h : x ≠ k) : fset f k v x = f x := if_neg h
def WM.look (W : WM) (T : TM) (s : Int) : Option NP := match W.nodes s with | some n => some n | none => T.nodes s
def WM.link (W : WM) (T : TM) (s : Int) : Option Int := match W.after s with | some n => some n | none => T.after s
def WM.take (W : WM) (T : TM) (L : Int) : Int × WM :=
 if W.free = 0 then (W.next, { W with next := W.next + 1, full := W.full || decide (L <= W.next) })
 else (W.free, { W with after := fset W.after W.free none, taken := fun x => decide (x = W.free) || W.taken x, free := (W.link T W.free).getD 0 })
def WM.release (W : WM) (s : Int) : WM := { W with nodes := fset W.nodes s none, after := fset W.after s (some W.free), free := s }
def WM.put (W : WM) (s : Int) (n : NP) : WM := { W with nodes := fset W.nodes s (some n) }
structure qBg (leaf : Bool) (es : List Ent) : Prop where
 ne : es ≠ []
 keys : qSl (es.map (·.key))
 clean : qFb leaf es
 values : ∀ x ∈ es, x.value.size <= 200
 kids : leaf = false -> ∀ x ∈ es, 1 <= x.kid /\ x.kid <= 1152921504606846976
 bytes : (qAo leaf es).length <= 1024
structure Cut2 (leaf : Bool) (es : List Ent) (i : Nat) : Prop where
 lo : 1 <= i
 hi : i < es.length
 great : i + 1 = es.length \/ wt leaf es <= 2 * wt leaf (es.take i)
 small : i = 1 \/ 2 * wt leaf (es.take (i - 1)) < wt leaf es
theorem qXc (leaf : Bool) (es : List Ent) {i j : Nat} (h : i <= j) : wt leaf (es.take i) <= wt leaf (es.take j) := by
 have e : es.take j = (es.take j).take i ++ (es.take j).drop i := (List.take_append_drop i _).symm; rw [List.take_take, Nat.min_eq_left h] at e; rw [e, qBu]; omega
theorem jHp {leaf : Bool} {es : List Ent} {i j : Nat} (h : Cut2 leaf es i) (k : Cut2 leaf es j) : i = j := by
 have aux : ∀ {i j : Nat}, Cut2 leaf es i -> Cut2 leaf es j -> ¬ i < j := fun {i j} h k hij => by
  have h1 := h.great; have h2 := k.small; have h3 := k.hi; have h4 := h.lo; have h5 := qXc leaf es (i := i) (j := j - 1) (by omega)
  omega
 have h1 := aux h k; have h2 := aux k h; omega
noncomputable def cutI (leaf : Bool) (es : List Ent) : Nat := @dite _ (∃ i, Cut2 leaf es i) (Classical.propDecidable _) (fun h => h.choose) (fun _ => 0)
theorem jDe {leaf : Bool} {es : List Ent} {i : Nat} (h : Cut2 leaf es i) : cutI leaf es = i := by
 have he : ∃ i, Cut2 leaf es i := ⟨i, h⟩; unfold cutI; rw [dif_pos he]; exact jHp he.choose_spec h
noncomputable def qEj (leaf : Bool) (es : List Ent) : List (List Ent) :=
 if es.length < 2 \/ (qAo leaf es).length <= 1024 then [es] else [es.take (cutI leaf es), es.drop (cutI leaf es)]
def fk (es : List Ent) : ByteArray := match es with | [] => emp | x :: _ => x.key
noncomputable def ifP {α : Type} (p : Prop) (a b : α) : α := @ite _ p (Classical.propDecidable _) a b
theorem qCr {α : Type} {p : Prop} (h : p) (a b : α) : ifP p a b = a := by unfold ifP; rw [if_pos h]
theorem qDx {α : Type} {p : Prop} (h : ¬ p) (a b : α) : ifP p a b = b := by unfold ifP; rw [if_neg h]
abbrev qBo := List (ByteArray × Int)
noncomputable def qBs (T : TM) (L : Int) (leaf : Bool) : List (List Ent) -> List Int -> WM -> Option (WM × qBo)
 | [], ss, W => some (ss.foldl WM.release W, [])
 | x :: xs, [], W => ifP (qBg leaf x /\ W.next <= 1152921504606846975) ((qBs T L leaf xs [] ((W.take T L).2.put (W.take T L).1 (leaf, x))).map fun r => (r.1, (fk x, (W.take T L).1) :: r.2)) none
 | x :: xs, s :: ss, W => ifP (qBg leaf x) ((qBs T L leaf xs ss (W.put s (leaf, x))).map fun r => (r.1, (fk x, s) :: r.2)) none
noncomputable def qCb (T : TM) (L : Int) (W : WM) (leaf : Bool) (es : List Ent) (ss : List Int) : Option (WM × qBo) :=
 qBs T L leaf (if es = [] then [] else qEj leaf es) ss W
def qNk (p : ByteArray × Int) : Ent := ⟨p.1, emp, p.2⟩
def qAy (es : List Ent) (a b : Nat) (ps : qBo) : List Ent := es.take a ++ (ps.map qNk ++ es.drop b)
def Cg.putE (c : Cg) : List Ent := if c.gone then [] else [⟨c.key, c.value, 0⟩]
def chgE (c : Cg) (es : List Ent) : List Ent := es.filter (fun x => kl x.key c.key) ++ (c.putE ++ es.filter (fun x => kl c.key x.key))
def hasE (c : Cg) (es : List Ent) : Bool := es.any (fun x => decide (x.key = c.key))
def chgN (c : Cg) (es : List Ent) : Int := if hasE c es then (if c.gone then -1 else 0) else 1
def qBv (key : ByteArray) (es : List Ent) : Nat := (es.filter (fun x => !kl key x.key)).length - 1
def WM.add (W : WM) (d : Int) : WM := { W with count := W.count + d }
noncomputable def qMj (T : TM) (L : Int) (W : WM) (s : Int) (es : List Ent) (i : Nat) : Option (WM × qBo) :=
 match es[i - 1]?, es[i - 1 + 1]? with
 | some l, some r =>
  match W.look T l.kid, W.look T r.kid with
  | some x, some y => ifP (x.1 = y.1) ((qCb T L W x.1 (x.2 ++ y.2) [l.kid, r.kid]).bind fun q => qCb T L q.1 false (qAy es (i - 1) (i - 1 + 2) q.2) [s]) none
  | _, _ => none
 | _, _ => none
noncomputable def qKw (T : TM) (L : Int) (W : WM) (s : Int) (es : List Ent) (i : Nat) (ps : qBo) : Option (WM × qBo) :=
 match ps with
 | [p] => if 1 < (qAy es i (i + 1) ps).length then
   match W.look T p.2 with
   | none => none
   | some n => if (qAo n.1 n.2).length < 300 then qMj T L W s (qAy es i (i + 1) ps) i else qCb T L W false (qAy es i (i + 1) ps) [s]
  else qCb T L W false (qAy es i (i + 1) ps) [s]
 | _ => qCb T L W false (qAy es i (i + 1) ps) [s]
noncomputable def qBr (T : TM) (L : Int) (c : Cg) : Nat -> WM -> Int -> Option (WM × qBo)
 | 0, _, _ => none
 | f + 1, W, s =>
  match W.look T s with
  | none => none
  | some (true, es) => if c.gone && !hasE c es then some (W, [(fk es, s)]) else qCb T L (W.add (chgN c es)) true (chgE c es) [s]
  | some (false, es) =>
   match es[qBv c.key es]? with
   | none => none
   | some x => (qBr T L c f W x.kid).bind fun r => ifP (∀ p ∈ r.2, 1 <= p.2 /\ p.2 <= 1152921504606846976) (qKw T L r.1 s es (qBv c.key es) r.2) none
def WM.at (W : WM) (s : Int) : WM := { W with root := s }
noncomputable def qFm (T : TM) : Nat -> WM -> Option WM
 | 0, _ => none
 | f + 1, W =>
  match W.look T W.root with
  | none => none
  | some (false, [x]) => qFm T f ((W.release W.root).at x.kid)
  | some _ => some W
noncomputable def topM (T : TM) (L : Int) (f : Nat) (W : WM) (ps : qBo) : Option WM :=
 match ps with
 | [] => some (W.at 0)
 | [p] => qFm T f (W.at p.2)
 | _ => (qCb T L W false (ps.map qNk) []).bind fun q => match q.2 with | [] => none | p :: _ => qFm T f (q.1.at p.2)
noncomputable def oneM (T : TM) (L : Int) (f : Nat) (W : WM) (c : Cg) : Option WM :=
 if W.root ≠ 0 then (qBr T L c f W W.root).bind fun r => topM T L (f + 1) r.1 r.2
 else if c.gone then some W
 else (qCb T L (W.add 1) true [⟨c.key, c.value, 0⟩] []).bind fun r => topM T L (f + 1) r.1 r.2
noncomputable def allM (T : TM) (L : Int) (f : Nat) : List Cg -> WM -> Option WM
 | [], W => some W
 | c :: cs, W => (oneM T L f W c).bind (allM T L f cs)
def TM.begin (T : TM) : WM := ⟨T.root, T.next, T.free, T.count, fun _ => none, fun _ => none, fun _ => false, false⟩
def WM.done (W : WM) (T : TM) : TM := ⟨W.root, W.next, W.free, W.count,
 fun x => match W.nodes x with | some n => some n | none => if (W.after x).isSome then none else T.nodes x,
 fun x => if (W.nodes x).isSome then none else match W.after x with | some n => some n | none => if W.taken x then none else T.after x⟩
end
end Go.Proofs.YtkinkgbmlhiakaaGreatDoor
