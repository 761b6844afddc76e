/- Of a definition that was read all numbers are in their ranges, and what must be there is: for every text. The card ties the listed variables to the program's text. (Printed by genranges.py.) -/
import Derived.Test.YtmkbbclbkpofoaaDoorRows
import Derived.Test.YtmkbbclbkpofoaaDoorCards
import Derived.Test.YtmkbbclbkpofoaaDoorTie
import Derived.Test.YtmkbbclbkpofoaaDoorFlV
import Derived.Test.YtmkbbclbkpofoaaDoorFlRg
import Derived.Test.YtmkbbclbkpofoaaDoorFlB
import Derived.Test.YtmkbbclbkpofoaaDoorOpen1
import Derived.WalkKit
import Derived.ProofKit
import Derived.OpenShut
import Derived.ShutString
import Derived.Lay
import Derived.Deep.DeepHandedRow
namespace Go.Proofs.YtmkbbclbkpofoaaDoor
open Go Go.RowKit

namespace FlowRanges
open Go.ChangeShapes Go.WideShapes Go.ChangeAt Go.ChangeMaps

set_option maxRecDepth 100000 in
set_option maxHeartbeats 8000000 in
theorem walk' (W : World) (hg : Glob W) (t : ByteArray) (_ : t.size ≤ maxLen) (_ : t.size ≤ 140737488351232) : Calls Tryd.prog 8 #[.string t] W fun e w' => e = .returned (.bool true) ∧ Below W.heap.size W w' := by
  have HG := hid hg
  have HR := hid (parse_ranged t)
  have HP := hid (parse_any t hg)
  clear hg
  generalize parseL t = D at *
  obtain ⟨d, at', n⟩ := D
  go_enter Tryd.func8, Tryd.ntmps8
  go_upto_region 2 with (go_at_call 9; refine HP.out.mono ?_; rintro e w1 ⟨hm, la, cap, ss, rfl, hl⟩; have HM1 := hid hm; have HL1 := hid hl; clear hm hl)
  have HM2 := hid (HM1.out.alloc (.cells #[.string d.name, .slice la d.steps.length cap] 24))
  have HB := hid (heap_alloc_new w1 (.cells #[.string d.name, .slice la d.steps.length cap] 24))
  have HL2 := hid (HL1.out.ext ((Mod.refl _ _).alloc (.cells #[.string d.name, .slice la d.steps.length cap] 24)))
  generalize hV : w1.alloc (.cells #[.string d.name, .slice la d.steps.length cap] 24) = V at *
  generalize w1.heap.size = db at *
  clear hV HM1 HL1 HP
  have HW := hid (fun (X : World) (hm : Mod (fun _ => False) W X) => wakes_any (HG.out.ext hm))
  by_cases hn : n = 0
  case neg =>
    have e1 : (n == 0) = false := beq_eq_false_iff_ne.2 hn
    go_wp2_with (first
      | (go_at_call 11; refine (HW.out V HM2.out).mono ?_; rintro e w2 ⟨rfl, hm⟩; have HM3 := hid (HM2.out.trans hm); clear hm)
      | (go_at_call 11; refine (HW.out w2 HM3.out).mono ?_; rintro e w3 ⟨rfl, hm⟩; have HM4 := hid (HM3.out.trans hm); clear hm))
    go_ret
    exact ⟨rfl, HM4.out.below (Nat.le_refl _) (fun _ h => h.elim)⟩
  case pos =>
    subst hn
    go_upto_region 4 with (go_at_call 11; refine (HW.out V HM2.out).mono ?_; rintro e w2 ⟨rfl, hm⟩; have HM3 := hid (HM2.out.trans hm); have HVm := hid hm; clear hm)
    have HB2 := hid ((HVm.out.block _ (lt_of_heap HB.out) (fun h => h)).trans HB.out)
    have HL3 := hid (HL2.out.ext HVm.out)
    clear HB HL2 HVm HW HM2
    obtain ⟨_, b1, _, _⟩ := row2 HB2.out
    have hl8 := HL3.out.len
    have HSl : Hid (d.steps.length = ss.length) := hid (by rw [← HL3.out.map, List.length_map])
    go_upto_region 5 with fail
    clear b1
    go_loopw [9, 26] (fun _ sk wr => ∃ k : Nat, sk = .int .i64 (k : Int) ∧ k ≤ d.steps.length ∧ Mod (fun _ => False) w2 wr) (fun _ sk _ => d.steps.length - (intOf sk).toNat)
    case atStart => exact ⟨0, rfl, Nat.zero_le _, Mod.refl _ _⟩
    case round =>
      obtain ⟨k, rfl, hk, hm⟩ := hrel
      obtain ⟨wo, rfl⟩ : ∃ y, y = wr := ⟨wr, rfl⟩
      have HM := hid hm
      clear hm
      by_cases hlt : k < d.steps.length
      case neg =>
        have e8 : (d.steps.length : Int) ≤ 8 := by omega
        obtain ⟨_, b1, _, _⟩ := row2 ((HM.out.block _ (lt_of_heap HB2.out) (fun h => h)).trans HB2.out)
        go_wp2_with fail
        go_ret
        exact ⟨rfl, (HM3.out.trans HM.out).below (Nat.le_refl _) (fun _ h => h.elim)⟩
      case pos =>
        have HLo := hid (HL3.out.ext HM.out)
        obtain ⟨x, hx⟩ : ∃ x, ss[k]? = some x := ⟨_, List.getElem?_eq_getElem (by have := HSl.out; omega)⟩
        obtain ⟨g, off, hla⟩ := HLo.out.lies.some (by have := HSl.out; omega)
        subst hla
        have q0 := HLo.out.lies.cell SA.len hx (j := 0) rfl
        have q1 := HLo.out.lies.cell SA.len hx (j := 1) rfl
        have q2 := HLo.out.lies.cell SA.len hx (j := 2) rfl
        have q3 := HLo.out.lies.cell SA.len hx (j := 3) rfl
        have q4 := HLo.out.lies.cell SA.len hx (j := 4) rfl
        have q5 := HLo.out.lies.cell SA.len hx (j := 5) rfl
        have q6 := HLo.out.lies.cell SA.len hx (j := 6) rfl
        have q7 := HLo.out.lies.cell SA.len hx (j := 7) rfl
        have q8 := HLo.out.lies.cell SA.len hx (j := 8) rfl
        simp only [Nat.add_zero] at q0
        have hxs : x.s ∈ d.steps := by rw [← HLo.out.map]; exact List.mem_map_of_mem (List.mem_of_getElem? hx)
        have HXr := hid (HR.out x.s hxs)
        have HXa := hid (HLo.out.all x (List.mem_of_getElem? hx))
        clear hx hxs
        go_upto_region 7 with fail
        clear q0 q1 q2 q3 q4 q5 q6 q7 q8
        have HC : Hid ((wo.alloc (.cells #[.string x.s.name, .string x.s.verb, .string x.s.undo, .string x.s.event, .bool x.s.final, .int .i64 x.s.retry, .int .i64 x.s.every, .int .i64 x.s.within, .slice x.aa x.s.after.length x.ac] 40)).heap[wo.heap.size]? = some (.cells #[.string x.s.name, .string x.s.verb, .string x.s.undo, .string x.s.event, .bool x.s.final, .int .i64 x.s.retry, .int .i64 x.s.every, .int .i64 x.s.within, .slice x.aa x.s.after.length x.ac] 40 (0, 0))) := hid (heap_alloc_new _ _)
        have HMc : Hid (Mod (fun _ => False) w2 (wo.alloc (.cells #[.string x.s.name, .string x.s.verb, .string x.s.undo, .string x.s.event, .bool x.s.final, .int .i64 x.s.retry, .int .i64 x.s.every, .int .i64 x.s.within, .slice x.aa x.s.after.length x.ac] 40))) := hid (HM.out.alloc _)
        have HAl := hid (HXa.out.1.ext ((Mod.refl _ wo).alloc (.cells #[.string x.s.name, .string x.s.verb, .string x.s.undo, .string x.s.event, .bool x.s.final, .int .i64 x.s.retry, .int .i64 x.s.every, .int .i64 x.s.within, .slice x.aa x.s.after.length x.ac] 40)))
        have hal4 := HXa.out.2
        generalize wo.alloc (.cells #[.string x.s.name, .string x.s.verb, .string x.s.undo, .string x.s.event, .bool x.s.final, .int .i64 x.s.retry, .int .i64 x.s.every, .int .i64 x.s.within, .slice x.aa x.s.after.length x.ac] 40) = X at *
        obtain ⟨⟨c0, c1, c2, c3, c4, c5, c6, c7, c8⟩, _⟩ := row9 HC.out
        have hr0 : ¬ x.s.retry < 0 := by have := HXr.out.r0; omega
        have hr1 : ¬ 5 < x.s.retry := by have := HXr.out.r1; omega
        have he0 : ¬ x.s.every < 0 := by have := HXr.out.e0; omega
        have he1 : ¬ 100 < x.s.every := by have := HXr.out.e1; omega
        cases hev : x.s.event.toList.isEmpty with
        | true =>
          have hw0 := HXr.out.w0 hev
          have hw1 : (x.s.within == 0) = true := by rw [hw0]; rfl
          cases hun : x.s.undo.toList.isEmpty with
          | true =>
            by_cases hz : x.s.every = 0
            · have hrz := HXr.out.er hz
              have ez : (x.s.every == 0) = true := by rw [hz]; rfl
              have er : (x.s.retry == 0) = true := by rw [hrz]; rfl
              go_upto_region 11 with fail
              clear hw0 hw1 hz hrz ez er
              clear hr0 hr1 he0 he1 c0 c1 c2 c3 c4 c5 c6 c7
              go_upto_region 12 with fail
              clear c8
              go_loopw [9, 107] (fun _ sj wr => ∃ j : Nat, sj = .int .i64 (j : Int) ∧ j ≤ x.s.after.length ∧ wr = X) (fun _ sj _ => x.s.after.length - (intOf sj).toNat)
              case atStart => exact ⟨0, rfl, Nat.zero_le _, rfl⟩
              case round =>
                obtain ⟨j, rfl, hj, rfl⟩ := hrel
                by_cases hjl : j < x.s.after.length
                case neg =>
                  have hje : j = x.s.after.length := by omega
                  subst hje
                  go_wp2_with fail
                  go_roundw
                  case rel => exact ⟨k + 1, by go_num, by omega, HMc.out⟩
                  case measure => simp [intOf]; omega
                case pos =>
                  obtain ⟨y, hy⟩ : ∃ y, x.s.after[j]? = some y := ⟨_, List.getElem?_eq_getElem hjl⟩
                  obtain ⟨g2, o2, ha2⟩ := HAl.out.some (by omega)
                  have p0 := (ha2 ▸ HAl.out : Lies wr 1 strI (some ⟨g2, o2, none⟩) x.s.after).cell strI_len hy (j := 0) rfl
                  simp only [Nat.add_zero, Nat.mul_one] at p0
                  have hwy := HXr.out.aw y (List.mem_of_getElem? hy)
                  have hys : y.size ≤ 140737488351232 := by
                    have h1 := hwy
                    unfold wordS wordL at h1
                    simp only [Bool.and_eq_true, decide_eq_true_eq] at h1
                    have h2 := h1.2
                    have h3 : y.data.toList.length = y.size := by simp
                    omega
                  have HIw := hid (isword_any y wr hys)
                  rw [hwy] at HIw
                  rw [ha2]
                  clear hy hwy
                  go_wp2_with (go_at_call 14; refine HIw.out.mono ?_; rintro e w5 ⟨rfl, rfl⟩)
                  go_roundw
                  case rel => exact ⟨j + 1, by go_num, by omega, trivial⟩
                  case measure => simp [intOf]; omega
            · have ez : (x.s.every == 0) = false := beq_eq_false_iff_ne.2 hz
              go_upto_region 11 with fail
              clear hw0 hw1 hz ez
              clear hr0 hr1 he0 he1 c0 c1 c2 c3 c4 c5 c6 c7
              go_upto_region 12 with fail
              clear c8
              go_loopw [9, 107] (fun _ sj wr => ∃ j : Nat, sj = .int .i64 (j : Int) ∧ j ≤ x.s.after.length ∧ wr = X) (fun _ sj _ => x.s.after.length - (intOf sj).toNat)
              case atStart => exact ⟨0, rfl, Nat.zero_le _, rfl⟩
              case round =>
                obtain ⟨j, rfl, hj, rfl⟩ := hrel
                by_cases hjl : j < x.s.after.length
                case neg =>
                  have hje : j = x.s.after.length := by omega
                  subst hje
                  go_wp2_with fail
                  go_roundw
                  case rel => exact ⟨k + 1, by go_num, by omega, HMc.out⟩
                  case measure => simp [intOf]; omega
                case pos =>
                  obtain ⟨y, hy⟩ : ∃ y, x.s.after[j]? = some y := ⟨_, List.getElem?_eq_getElem hjl⟩
                  obtain ⟨g2, o2, ha2⟩ := HAl.out.some (by omega)
                  have p0 := (ha2 ▸ HAl.out : Lies wr 1 strI (some ⟨g2, o2, none⟩) x.s.after).cell strI_len hy (j := 0) rfl
                  simp only [Nat.add_zero, Nat.mul_one] at p0
                  have hwy := HXr.out.aw y (List.mem_of_getElem? hy)
                  have hys : y.size ≤ 140737488351232 := by
                    have h1 := hwy
                    unfold wordS wordL at h1
                    simp only [Bool.and_eq_true, decide_eq_true_eq] at h1
                    have h2 := h1.2
                    have h3 : y.data.toList.length = y.size := by simp
                    omega
                  have HIw := hid (isword_any y wr hys)
                  rw [hwy] at HIw
                  rw [ha2]
                  clear hy hwy
                  go_wp2_with (go_at_call 14; refine HIw.out.mono ?_; rintro e w5 ⟨rfl, rfl⟩)
                  go_roundw
                  case rel => exact ⟨j + 1, by go_num, by omega, trivial⟩
                  case measure => simp [intOf]; omega
          | false =>
            have hfin := HXr.out.uf hun
            rw [hfin] at c4
            by_cases hz : x.s.every = 0
            · have hrz := HXr.out.er hz
              have ez : (x.s.every == 0) = true := by rw [hz]; rfl
              have er : (x.s.retry == 0) = true := by rw [hrz]; rfl
              go_upto_region 11 with fail
              clear hw0 hw1 hz hrz ez er hfin
              clear hr0 hr1 he0 he1 c0 c1 c2 c3 c4 c5 c6 c7
              go_upto_region 12 with fail
              clear c8
              go_loopw [9, 107] (fun _ sj wr => ∃ j : Nat, sj = .int .i64 (j : Int) ∧ j ≤ x.s.after.length ∧ wr = X) (fun _ sj _ => x.s.after.length - (intOf sj).toNat)
              case atStart => exact ⟨0, rfl, Nat.zero_le _, rfl⟩
              case round =>
                obtain ⟨j, rfl, hj, rfl⟩ := hrel
                by_cases hjl : j < x.s.after.length
                case neg =>
                  have hje : j = x.s.after.length := by omega
                  subst hje
                  go_wp2_with fail
                  go_roundw
                  case rel => exact ⟨k + 1, by go_num, by omega, HMc.out⟩
                  case measure => simp [intOf]; omega
                case pos =>
                  obtain ⟨y, hy⟩ : ∃ y, x.s.after[j]? = some y := ⟨_, List.getElem?_eq_getElem hjl⟩
                  obtain ⟨g2, o2, ha2⟩ := HAl.out.some (by omega)
                  have p0 := (ha2 ▸ HAl.out : Lies wr 1 strI (some ⟨g2, o2, none⟩) x.s.after).cell strI_len hy (j := 0) rfl
                  simp only [Nat.add_zero, Nat.mul_one] at p0
                  have hwy := HXr.out.aw y (List.mem_of_getElem? hy)
                  have hys : y.size ≤ 140737488351232 := by
                    have h1 := hwy
                    unfold wordS wordL at h1
                    simp only [Bool.and_eq_true, decide_eq_true_eq] at h1
                    have h2 := h1.2
                    have h3 : y.data.toList.length = y.size := by simp
                    omega
                  have HIw := hid (isword_any y wr hys)
                  rw [hwy] at HIw
                  rw [ha2]
                  clear hy hwy
                  go_wp2_with (go_at_call 14; refine HIw.out.mono ?_; rintro e w5 ⟨rfl, rfl⟩)
                  go_roundw
                  case rel => exact ⟨j + 1, by go_num, by omega, trivial⟩
                  case measure => simp [intOf]; omega
            · have ez : (x.s.every == 0) = false := beq_eq_false_iff_ne.2 hz
              go_upto_region 11 with fail
              clear hw0 hw1 hz ez hfin
              clear hr0 hr1 he0 he1 c0 c1 c2 c3 c4 c5 c6 c7
              go_upto_region 12 with fail
              clear c8
              go_loopw [9, 107] (fun _ sj wr => ∃ j : Nat, sj = .int .i64 (j : Int) ∧ j ≤ x.s.after.length ∧ wr = X) (fun _ sj _ => x.s.after.length - (intOf sj).toNat)
              case atStart => exact ⟨0, rfl, Nat.zero_le _, rfl⟩
              case round =>
                obtain ⟨j, rfl, hj, rfl⟩ := hrel
                by_cases hjl : j < x.s.after.length
                case neg =>
                  have hje : j = x.s.after.length := by omega
                  subst hje
                  go_wp2_with fail
                  go_roundw
                  case rel => exact ⟨k + 1, by go_num, by omega, HMc.out⟩
                  case measure => simp [intOf]; omega
                case pos =>
                  obtain ⟨y, hy⟩ : ∃ y, x.s.after[j]? = some y := ⟨_, List.getElem?_eq_getElem hjl⟩
                  obtain ⟨g2, o2, ha2⟩ := HAl.out.some (by omega)
                  have p0 := (ha2 ▸ HAl.out : Lies wr 1 strI (some ⟨g2, o2, none⟩) x.s.after).cell strI_len hy (j := 0) rfl
                  simp only [Nat.add_zero, Nat.mul_one] at p0
                  have hwy := HXr.out.aw y (List.mem_of_getElem? hy)
                  have hys : y.size ≤ 140737488351232 := by
                    have h1 := hwy
                    unfold wordS wordL at h1
                    simp only [Bool.and_eq_true, decide_eq_true_eq] at h1
                    have h2 := h1.2
                    have h3 : y.data.toList.length = y.size := by simp
                    omega
                  have HIw := hid (isword_any y wr hys)
                  rw [hwy] at HIw
                  rw [ha2]
                  clear hy hwy
                  go_wp2_with (go_at_call 14; refine HIw.out.mono ?_; rintro e w5 ⟨rfl, rfl⟩)
                  go_roundw
                  case rel => exact ⟨j + 1, by go_num, by omega, trivial⟩
                  case measure => simp [intOf]; omega
        | false =>
          obtain ⟨hw0, hw1, hun, hfin, hz⟩ := HXr.out.w1 hev
          rw [hfin] at c4
          have hrz := HXr.out.er hz
          have ez : (x.s.every == 0) = true := by rw [hz]; rfl
          have er : (x.s.retry == 0) = true := by rw [hrz]; rfl
          have hw2 : ¬ x.s.within < 1 := by omega
          have hw3 : ¬ 100 < x.s.within := by omega
          go_upto_region 11 with fail
          clear hw0 hw1 hw2 hw3 hz hrz ez er hfin
          clear hr0 hr1 he0 he1 c0 c1 c2 c3 c4 c5 c6 c7
          go_upto_region 12 with fail
          clear c8
          go_loopw [9, 107] (fun _ sj wr => ∃ j : Nat, sj = .int .i64 (j : Int) ∧ j ≤ x.s.after.length ∧ wr = X) (fun _ sj _ => x.s.after.length - (intOf sj).toNat)
          case atStart => exact ⟨0, rfl, Nat.zero_le _, rfl⟩
          case round =>
            obtain ⟨j, rfl, hj, rfl⟩ := hrel
            by_cases hjl : j < x.s.after.length
            case neg =>
              have hje : j = x.s.after.length := by omega
              subst hje
              go_wp2_with fail
              go_roundw
              case rel => exact ⟨k + 1, by go_num, by omega, HMc.out⟩
              case measure => simp [intOf]; omega
            case pos =>
              obtain ⟨y, hy⟩ : ∃ y, x.s.after[j]? = some y := ⟨_, List.getElem?_eq_getElem hjl⟩
              obtain ⟨g2, o2, ha2⟩ := HAl.out.some (by omega)
              have p0 := (ha2 ▸ HAl.out : Lies wr 1 strI (some ⟨g2, o2, none⟩) x.s.after).cell strI_len hy (j := 0) rfl
              simp only [Nat.add_zero, Nat.mul_one] at p0
              have hwy := HXr.out.aw y (List.mem_of_getElem? hy)
              have hys : y.size ≤ 140737488351232 := by
                have h1 := hwy
                unfold wordS wordL at h1
                simp only [Bool.and_eq_true, decide_eq_true_eq] at h1
                have h2 := h1.2
                have h3 : y.data.toList.length = y.size := by simp
                omega
              have HIw := hid (isword_any y wr hys)
              rw [hwy] at HIw
              rw [ha2]
              clear hy hwy
              go_wp2_with (go_at_call 14; refine HIw.out.mono ?_; rintro e w5 ⟨rfl, rfl⟩)
              go_roundw
              case rel => exact ⟨j + 1, by go_num, by omega, trivial⟩
              case measure => simp [intOf]; omega
theorem own : ownKnob Tryd.prog.godebug = none := by kernel_rfl
theorem laidOut : laidOutB Tryd.prog = true := by kernel_rfl

/-- A world for the witness: the listed tables are laid. -/
noncomputable def laidWorld (os : Os) : World := World.laidAll Tryd.prog os Rows.flowRangesRow.laid
theorem laid_met (os : Os) : laidMetH Tryd.prog Rows.flowRangesRow.laid ((laidWorld os).forCall (fun _ _ => 0) ⟨#[], #[.string ⟨#[]⟩], []⟩).memory := by
  rw [MakeChecks.laidMetH_plain _ _ _ (by kernel_rfl)]
  exact laidMet_laidAll _ (by kernel_rfl) (by kernel_rfl)

set_option maxRecDepth 100000 in
theorem lifted (os : Os) (started : os.Started) (H : Type) (enc : TypeId × Value → H) (F : Stop.Interp) :
    ReturnsInHanded {} Tryd.checked os 8 .any ((OpenSpec.ofChange Rows.flowRangesSpec).preRow enc Tryd.prog Tryd.f8 Rows.flowRangesRow.domain false Rows.flowRangesRow.laid) (((OpenSpec.ofChange Rows.flowRangesSpec).at F).post enc Tryd.prog Tryd.f8 false true false false) := by
  refine returnsInHanded_of_row (C := Tryd.checked) (s := OpenSpec.ofChange Rows.flowRangesSpec) own started (by kernel_rfl) Tryd.func8
    (witness_row_at (enc := enc) (C := Tryd.checked) false (laidWorld os) #[.string ⟨#[]⟩] (World.laidAll_os _ _ _) (by kernel_rfl) (by kernel_rfl) (by kernel_rfl)
      (OpenSpec.preRow_of_B rfl 8 (by kernel_rfl) (by kernel_rfl) (laid_met os))) ?_
  intro W base args ds gs before hval0 hW _ _ hsz0 hlaid hshape _
  have hsz : (DataW.weightsEach Tryd.prog (Tryd.f8.params.toList ++ Rows.flowRangesSpec.plain.varTypes Tryd.prog) (ds ++ gs)).all (· ≤ reachBytes) = true := hsz0
  clear hsz0
  have hval : ∀ (j : Nat) t v, Tryd.f8.params[j]? = some t → args[j]? = some v → Value.okWide Tryd.prog W .any base t v := hval0
  have hW' := hW
  obtain ⟨p, q, hA0, hV, rfl, hfz, hnd⟩ := hW
  have hA : DataW.TrodAll enc Tryd.prog W 0 (fun _ => true) true Tryd.f8.params.toList args.toList ds p := hA0
  rw [Tryd.params8] at hA hval hsz
  obtain ⟨v0, vs0, d0, ds0, p0, q0, hargs, rfl, rfl, h0, r0⟩ := trodAll_cons hA
  obtain ⟨rfl, rfl, rfl⟩ := trodAll_nil r0
  obtain rfl : args = #[v0] := by cases args; simp_all
  obtain ⟨rfl, rfl⟩ := trodVars_none hV
  have lt0 : ∀ x ∈ p0, x.block < W.heap.size := by obtain ⟨m, hm⟩ := h0; exact DataW.trod_lt m _ _ _ hm
  have hsz' : (DataW.weightsEach Tryd.prog [9] [d0]).all (· ≤ reachBytes) = true := hsz
  obtain ⟨s0, rfl, rfl, rfl, ws0⟩ := open_string Tryd.underlying9 (hval 0 9 v0 rfl rfl) h0
  have wt0 : s0.size ≤ 140737488351232 := by have := (fits_of_each hsz' (j := 0) rfl rfl) s0.data.toList.length (by simp [DataW.weights]); simpa using this
  clear hA0 hval0
  refine (walk' W (glob_of hlaid hshape) s0 ws0 wt0).mono fun e W' ⟨he, bel⟩ => ?_
  subst he
  exact ⟨_, rfl, _, _, _, [], _, [], hW', trodAll_mk1 (shut_bool Tryd.underlying4 _), (trodAll_cons_mk (Below.trod laidOut (by kernel_rfl) (of_decide_eq_true (by kernel_rfl)) h0 bel lt0) trodAll_mk0), rfl, bel.frame _, fun h => by cases h⟩

theorem said : Rows.FlowRangesSaid :=
  OpenClaim.holds_of_cond 8 Tryd.f8 rfl rfl rfl rfl rfl rfl rfl ⟨rfl, rfl, rfl, rfl, rfl⟩ rfl rfl rfl rfl rfl (by kernel_rfl) Tryd.func8 (by kernel_rfl)
    (of_decide_eq_true (by kernel_rfl)) (by unfold Func.isWrapper; first | (rw [if_pos (by decide +kernel)]; kernel_rfl) | (rw [if_neg (by decide +kernel)]; exact ⟨rfl, rfl⟩))
    (fun os started H enc _ F => by rw [OpenClaim.pre_eq_preRow]; exact lifted os started H enc F)

theorem plain (f : FuncId) (fn : Func) (hf : Tryd.pinned.checked.prog.funcNamed "chandler/chandlerlaw10.FlowRanges" = some f) (hfn : Tryd.pinned.checked.prog.funcs[f]? = some fn) :
    true = Tryd.pinned.checked.prog.looks [] ∧ ∀ (j : Nat) t, fn.params[j]? = some t → Tryd.pinned.checked.prog.wantsStandIn t = false := by
  obtain rfl : f = 8 := Option.some.inj ((show Tryd.prog.funcNamed "chandler/chandlerlaw10.FlowRanges" = some 8 by kernel_rfl).symm.trans hf) |>.symm
  obtain rfl : fn = Tryd.f8 := (Option.some.inj (Tryd.func8.symm.trans hfn)).symm
  refine ⟨by kernel_rfl, fun j t ht => ?_⟩
  rw [Tryd.params8] at ht
  obtain rfl : t = 9 := by simpa using Array.mem_of_getElem? ht
  exact (show Tryd.prog.wantsStandIn 9 = false by kernel_rfl)

theorem card : Rows.FlowRangesCardSaid :=
  Claim7.holds_tied_plain_at .later [] _ _ _ _ said (fun _ h => by cases h) (by kernel_rfl) (fun _ h => by cases h) flowRanges_row_tie rfl ⟨rfl, rfl⟩ (by kernel_rfl) rfl plain (by kernel_rfl)

end FlowRanges

theorem flowRanges_holds : Rows.FlowRangesCardSaid := FlowRanges.card
#print axioms flowRanges_holds

end Go.Proofs.YtmkbbclbkpofoaaDoor
