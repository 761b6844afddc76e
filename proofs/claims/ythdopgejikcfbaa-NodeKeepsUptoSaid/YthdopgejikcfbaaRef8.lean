/- The law's fit nodes -/
import Derived.Test.YthdopgejikcfbaaRef7
namespace Go.Proofs.Ythdopgejikcfbaa
open Go Go.RowKit

set_option maxRecDepth 100000 in
set_option maxHeartbeats 1000000 in
theorem lfit_true {w : World} {keys values : List ByteArray} {kids : List Int} {ka va ia : Option Addr} {kc vc ic : Nat} (h : NdAt w ⟨true, keys, values, kids, ka, kc, va, vc, ia, ic⟩) : Calls Try.prog 13 #[.agg #[.bool true, .slice ka keys.length kc, .slice va values.length vc, .slice ia kids.length ic]] w fun e w' => e = .returned (.bool (encOk ⟨true, keys, values, kids, ka, kc, va, vc, ia, ic⟩)) ∧ Mod (fun _ => False) w w' := by
  have hbk : keys.length ≤ 4194304 := h.bk
  have hbv : values.length ≤ 4194304 := h.bv
  have hbi : kids.length ≤ 4194304 := h.bi
  have hm : Mod (fun _ => False) w (w.alloc (.cells #[.bool true, .slice ka keys.length kc, .slice va values.length vc, .slice ia kids.length ic] 26)) := (Mod.refl _ _).alloc _
  have hbox : (w.alloc (.cells #[.bool true, .slice ka keys.length kc, .slice va values.length vc, .slice ia kids.length ic] 26)).heap[w.heap.size]? = some (.cells #[.bool true, .slice ka keys.length kc, .slice va values.length vc, .slice ia kids.length ic] 26 (0, 0)) := heap_alloc_new _ _
  obtain ⟨b0, b1, b2, b3⟩ := cells4 hbox
  have hR : Calls Try.prog 12 #[.agg #[.bool true, .slice ka keys.length kc, .slice va values.length vc, .slice ia kids.length ic]] (w.alloc (.cells #[.bool true, .slice ka keys.length kc, .slice va values.length vc, .slice ia kids.length ic] 26)) fun e w' => OfAns4 (w.alloc (.cells #[.bool true, .slice ka keys.length kc, .slice va values.length vc, .slice ia kids.length ic] 26)) true (Nd.ents ⟨true, keys, values, kids, ka, kc, va, vc, ia, ic⟩) e w' := ref_any (h.ext hm)
  have HR := hid hR
  clear hR
  have hel := ents_len ⟨true, keys, values, kids, ka, kc, va, vc, ia, ic⟩
  have HEo := hid (ents_ok h)
  have HM := hid hm
  have HBadF := hid (fit_bad (n := ⟨true, keys, values, kids, ka, kc, va, vc, ia, ic⟩))
  have HGood := hid (fit_good (n := ⟨true, keys, values, kids, ka, kc, va, vc, ia, ic⟩))
  unfold ShapeP at HBadF HGood
  simp only [if_true] at HBadF HGood hel
  generalize encOk ⟨true, keys, values, kids, ka, kc, va, vc, ia, ic⟩ = E at *
  generalize Nd.ents ⟨true, keys, values, kids, ka, kc, va, vc, ia, ic⟩ = es at *
  have Hel := hid hel
  clear h hm hbox hel
  by_cases h1 : values.length = keys.length
  · have d1 : ((values.length : Int) == (keys.length : Int)) = true := by rw [beq_iff_eq]; omega
    have d1' : ((values.length : Int) != (keys.length : Int)) = false := by rw [bne, d1]; rfl
    by_cases h2 : kids.length = 0
    · have d2 : ((kids.length : Int) == 0) = true := by rw [beq_iff_eq]; omega
      have d2' : ((kids.length : Int) != 0) = false := by rw [bne, d2]; rfl
      have HG := hid (HGood.out ⟨h1, h2⟩)
      have H1 := hid h1
      have H2 := hid h2
      clear h1 h2
      go_enter Try.func13, Try.ntmps13
      go_wp2_with fail
      generalize w.alloc (.cells #[.bool true, .slice ka keys.length kc, .slice va values.length vc, .slice ia kids.length ic] 26) = W at *
      refine HR.out.mono ?_
      intro e w1 hA
      obtain ⟨sa, cap, he, hl, hz, hm1⟩ := hA
      subst he
      clear hz
      have HF := hid (rfit_any true cap hl (by rw [Hel.out]; exact hbk) HEo.out)
      have HM1 := hid (HM.out.trans hm1)
      clear hl hm1
      go_wp2_with fail
      refine HF.out.mono ?_
      rintro e w2 ⟨rfl, hm2⟩
      have HM2 := hid (HM1.out.trans hm2)
      clear hm2
      go_wp2_with fail
      go_ret
      refine ⟨?_, HM2.out⟩
      rw [← HG.out]
      rfl
    · have d2 : ((kids.length : Int) == 0) = false := by rw [beq_eq_false_iff_ne]; omega
      have d2' : ((kids.length : Int) != 0) = true := by rw [bne, d2]; rfl
      have HB := hid (HBadF.out (fun h => h2 h.2))
      have H1 := hid h1
      have H2 := hid h2
      clear h1 h2
      go_enter Try.func13, Try.ntmps13
      go_wp2_with fail
      go_ret
      refine ⟨?_, HM.out⟩
      rw [HB.out]
      rfl
  · have d1 : ((values.length : Int) == (keys.length : Int)) = false := by rw [beq_eq_false_iff_ne]; omega
    have d1' : ((values.length : Int) != (keys.length : Int)) = true := by rw [bne, d1]; rfl
    have HB := hid (HBadF.out (fun h => h1 h.1))
    have H1 := hid h1
    clear h1
    go_enter Try.func13, Try.ntmps13
    go_wp2_with fail
    go_ret
    refine ⟨?_, HM.out⟩
    rw [HB.out]
    rfl

set_option maxRecDepth 100000 in
set_option maxHeartbeats 1000000 in
theorem lfit_false {w : World} {keys values : List ByteArray} {kids : List Int} {ka va ia : Option Addr} {kc vc ic : Nat} (h : NdAt w ⟨false, keys, values, kids, ka, kc, va, vc, ia, ic⟩) : Calls Try.prog 13 #[.agg #[.bool false, .slice ka keys.length kc, .slice va values.length vc, .slice ia kids.length ic]] w fun e w' => e = .returned (.bool (encOk ⟨false, keys, values, kids, ka, kc, va, vc, ia, ic⟩)) ∧ Mod (fun _ => False) w w' := by
  have hbk : keys.length ≤ 4194304 := h.bk
  have hbv : values.length ≤ 4194304 := h.bv
  have hbi : kids.length ≤ 4194304 := h.bi
  have hm : Mod (fun _ => False) w (w.alloc (.cells #[.bool false, .slice ka keys.length kc, .slice va values.length vc, .slice ia kids.length ic] 26)) := (Mod.refl _ _).alloc _
  have hbox : (w.alloc (.cells #[.bool false, .slice ka keys.length kc, .slice va values.length vc, .slice ia kids.length ic] 26)).heap[w.heap.size]? = some (.cells #[.bool false, .slice ka keys.length kc, .slice va values.length vc, .slice ia kids.length ic] 26 (0, 0)) := heap_alloc_new _ _
  obtain ⟨b0, b1, b2, b3⟩ := cells4 hbox
  have hR : Calls Try.prog 12 #[.agg #[.bool false, .slice ka keys.length kc, .slice va values.length vc, .slice ia kids.length ic]] (w.alloc (.cells #[.bool false, .slice ka keys.length kc, .slice va values.length vc, .slice ia kids.length ic] 26)) fun e w' => OfAns4 (w.alloc (.cells #[.bool false, .slice ka keys.length kc, .slice va values.length vc, .slice ia kids.length ic] 26)) false (Nd.ents ⟨false, keys, values, kids, ka, kc, va, vc, ia, ic⟩) e w' := ref_any (h.ext hm)
  have HR := hid hR
  clear hR
  have hel := ents_len ⟨false, keys, values, kids, ka, kc, va, vc, ia, ic⟩
  have HEo := hid (ents_ok h)
  have HM := hid hm
  have HBadF := hid (fit_bad (n := ⟨false, keys, values, kids, ka, kc, va, vc, ia, ic⟩))
  have HGood := hid (fit_good (n := ⟨false, keys, values, kids, ka, kc, va, vc, ia, ic⟩))
  unfold ShapeP at HBadF HGood
  simp only [if_false, Bool.false_eq_true] at HBadF HGood hel
  generalize encOk ⟨false, keys, values, kids, ka, kc, va, vc, ia, ic⟩ = E at *
  generalize Nd.ents ⟨false, keys, values, kids, ka, kc, va, vc, ia, ic⟩ = es at *
  have Hel := hid hel
  clear h hm hbox hel
  by_cases h1 : kids.length = keys.length
  · have d1 : ((kids.length : Int) == (keys.length : Int)) = true := by rw [beq_iff_eq]; omega
    have d1' : ((kids.length : Int) != (keys.length : Int)) = false := by rw [bne, d1]; rfl
    by_cases h2 : values.length = 0
    · have d2 : ((values.length : Int) == 0) = true := by rw [beq_iff_eq]; omega
      have d2' : ((values.length : Int) != 0) = false := by rw [bne, d2]; rfl
      have HG := hid (HGood.out ⟨h1, h2⟩)
      have H1 := hid h1
      have H2 := hid h2
      clear h1 h2
      go_enter Try.func13, Try.ntmps13
      go_wp2_with fail
      generalize w.alloc (.cells #[.bool false, .slice ka keys.length kc, .slice va values.length vc, .slice ia kids.length ic] 26) = W at *
      refine HR.out.mono ?_
      intro e w1 hA
      obtain ⟨sa, cap, he, hl, hz, hm1⟩ := hA
      subst he
      clear hz
      have HF := hid (rfit_any false cap hl (by rw [Hel.out]; exact hbk) HEo.out)
      have HM1 := hid (HM.out.trans hm1)
      clear hl hm1
      go_wp2_with fail
      refine HF.out.mono ?_
      rintro e w2 ⟨rfl, hm2⟩
      have HM2 := hid (HM1.out.trans hm2)
      clear hm2
      go_wp2_with fail
      go_ret
      refine ⟨?_, HM2.out⟩
      rw [← HG.out]
      rfl
    · have d2 : ((values.length : Int) == 0) = false := by rw [beq_eq_false_iff_ne]; omega
      have d2' : ((values.length : Int) != 0) = true := by rw [bne, d2]; rfl
      have HB := hid (HBadF.out (fun h => h2 h.2))
      have H1 := hid h1
      have H2 := hid h2
      clear h1 h2
      go_enter Try.func13, Try.ntmps13
      go_wp2_with fail
      go_ret
      refine ⟨?_, HM.out⟩
      rw [HB.out]
      rfl
  · have d1 : ((kids.length : Int) == (keys.length : Int)) = false := by rw [beq_eq_false_iff_ne]; omega
    have d1' : ((kids.length : Int) != (keys.length : Int)) = true := by rw [bne, d1]; rfl
    have HB := hid (HBadF.out (fun h => h1 h.1))
    have H1 := hid h1
    clear h1
    go_enter Try.func13, Try.ntmps13
    go_wp2_with fail
    go_ret
    refine ⟨?_, HM.out⟩
    rw [HB.out]
    rfl

theorem lfit_any {w : World} {n : Nd} (h : NdAt w n) : Calls Try.prog 13 #[.agg #[.bool n.leaf, .slice n.ka n.keys.length n.kc, .slice n.va n.values.length n.vc, .slice n.ia n.kids.length n.ic]] w fun e w' => e = .returned (.bool (encOk n)) ∧ Mod (fun _ => False) w w' := by
  obtain ⟨leaf, keys, values, kids, ka, kc, va, vc, ia, ic⟩ := n
  cases leaf with
  | true => exact lfit_true h
  | false => exact lfit_false h

end Go.Proofs.Ythdopgejikcfbaa
