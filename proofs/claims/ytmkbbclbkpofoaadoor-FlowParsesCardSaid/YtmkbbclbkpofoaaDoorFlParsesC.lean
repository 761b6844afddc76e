/- Every text gives the document's definition, or its fault with the line: for every text. The card ties the listed variables to the program's text. -/
import Derived.Test.YtmkbbclbkpofoaaDoorRows
import Derived.Test.YtmkbbclbkpofoaaDoorCards
import Derived.Test.YtmkbbclbkpofoaaDoorTie
import Derived.Test.YtmkbbclbkpofoaaDoorFlRp
import Derived.Test.YtmkbbclbkpofoaaDoorFlD
import Derived.Test.YtmkbbclbkpofoaaDoorFlSa
import Derived.Test.YtmkbbclbkpofoaaDoorFlB
import Derived.Test.YtmkbbclbkpofoaaDoorOpen1
import Derived.WalkKit
import Derived.ProofKit
import Derived.OpenShut
import Derived.ShutString
import Derived.Lay
import Derived.Deep.DeepHandedRow
namespace Go.Proofs.YtmkbbclbkpofoaaDoor
open Go Go.RowKit

namespace FlowParses
open Go.ChangeShapes Go.WideShapes Go.ChangeAt Go.ChangeMaps

set_option maxRecDepth 100000 in
set_option maxHeartbeats 8000000 in
theorem walk' (W : World) (hg : Glob W) (t : ByteArray) (_ : t.size ≤ maxLen) (_ : t.size ≤ 140737488351232) : Calls Tryd.prog 3 #[.string t] W fun e w' => e = .returned (.bool true) ∧ Below W.heap.size W w' := by
  have HG := hid hg
  have HP := hid (parse_any t hg)
  have HR := hid (fun (X : World) => rparse_any t (w := X))
  have HW := hid (fun (X : World) (hm : Mod (fun _ => False) W X) => wakes_any (HG.out.ext hm))
  clear hg
  generalize hD : parseL t = D at *
  obtain ⟨d, at', n⟩ := D
  clear hD
  go_enter Tryd.func3, Tryd.ntmps3
  go_upto_region 2 with (go_at_call 9; refine HP.out.mono ?_; rintro e w1 ⟨hm, la, cap, ss, rfl, hl⟩; have HM1 := hid hm; have HL1 := hid hl; clear hm hl)
  have HB1 : Hid ((w1.alloc (.cells #[.string d.name, .slice la d.steps.length cap] 24)).heap[w1.heap.size]? = some (.cells #[.string d.name, .slice la d.steps.length cap] 24 (0, 0))) := hid (heap_alloc_new _ _)
  have HM2 := hid (HM1.out.alloc (.cells #[.string d.name, .slice la d.steps.length cap] 24))
  have HL2 := hid (HL1.out.ext ((Mod.refl _ _).alloc (.cells #[.string d.name, .slice la d.steps.length cap] 24)))
  generalize w1.alloc (.cells #[.string d.name, .slice la d.steps.length cap] 24) = V at *
  generalize w1.heap.size = db at *
  clear HM1 HP HL1
  go_upto_region 3 with (go_at_call 10; refine (HR.out V).mono ?_; rintro e w2 ⟨hm, lb, cap2, ss2, rfl, hl⟩; have HM3 := hid hm; have HL3 := hid hl; clear hm hl)
  have HB2 : Hid ((w2.alloc (.cells #[.string d.name, .slice lb d.steps.length cap2] 30)).heap[w2.heap.size]? = some (.cells #[.string d.name, .slice lb d.steps.length cap2] 30 (0, 0))) := hid (heap_alloc_new _ _)
  have HB1' : Hid ((w2.alloc (.cells #[.string d.name, .slice lb d.steps.length cap2] 30)).heap[db]? = some (.cells #[.string d.name, .slice la d.steps.length cap] 24 (0, 0))) := hid (((HM3.out.alloc _).block _ (lt_of_heap HB1.out) (fun h => h)).trans HB1.out)
  have HM4 := hid ((HM2.out.trans HM3.out).alloc (.cells #[.string d.name, .slice lb d.steps.length cap2] 30))
  have HLa := hid (HL2.out.ext (HM3.out.alloc (.cells #[.string d.name, .slice lb d.steps.length cap2] 30)))
  have HLb := hid (HL3.out.ext ((Mod.refl _ _).alloc (.cells #[.string d.name, .slice lb d.steps.length cap2] 30)))
  generalize w2.alloc (.cells #[.string d.name, .slice lb d.steps.length cap2] 30) = V2 at *
  generalize w2.heap.size = rb at *
  clear HB1 HM2 HM3 HL2 HL3 HR
  have HUp : Hid (∀ w', Mod (fun _ => False) V2 w' → w'.cell? ⟨db, 0, none⟩ = some (.string d.name) ∧ w'.cell? ⟨db, 1, none⟩ = some (.slice la d.steps.length cap) ∧ w'.cell? ⟨rb, 0, none⟩ = some (.string d.name) ∧ w'.cell? ⟨rb, 1, none⟩ = some (.slice lb d.steps.length cap2)) := hid (fun w' hm => by
    have h1 := row2 ((hm.block _ (lt_of_heap HB1'.out) (fun h => h)).trans HB1'.out)
    have h2 := row2 ((hm.block _ (lt_of_heap HB2.out) (fun h => h)).trans HB2.out)
    exact ⟨h1.1, h1.2.1, h2.1, h2.2.1⟩)
  clear HB1' HB2
  obtain ⟨a0, a1, b0, b1⟩ := HUp.out V2 (Mod.refl _ _)
  go_region_held3 (fun w' => w'.cell? ⟨db, 0, none⟩ = some (.string d.name) ∧ w'.cell? ⟨db, 1, none⟩ = some (.slice la d.steps.length cap) ∧ w'.cell? ⟨rb, 0, none⟩ = some (.string d.name) ∧ w'.cell? ⟨rb, 1, none⟩ = some (.slice lb d.steps.length cap2))
    (first | exact ⟨a0, a1, b0, b1⟩ | exact ⟨c0, c1, e0, e1⟩ | exact ⟨g0, g1, k0, k1⟩ | exact ⟨n0, n1, q0, q1⟩ | go_keep)
    (first
      | (go_at_call 11; (with_reducible refine (HW.out _ (HM4.out.drew)).mono ?_); rintro _ w3 ⟨rfl, hm⟩; have HM5 := hid ((Mod.refl _ _).drew.trans hm); obtain ⟨c0, c1, e0, e1⟩ := HUp.out w3 HM5.out; clear hm)
      | (go_at_call 13; (with_reducible refine (lawref_any cap (HLa.out.ext HM5.out)).mono ?_); rintro _ w4 ⟨hm, lc, cap3, ss3, rfl, hl⟩; have HM6 := hid (HM5.out.trans hm); have HL6 := hid hl; obtain ⟨g0, g1, k0, k1⟩ := HUp.out w4 HM6.out; clear hm hl)
      | (go_at_call 12; (with_reducible refine (same_any cap3 cap2 HL6.out (HLb.out.ext HM6.out)).mono ?_); rintro _ w5 ⟨rfl, hm⟩; have HM7 := hid (HM6.out.trans hm); obtain ⟨n0, n1, q0, q1⟩ := HUp.out w5 HM7.out; clear hm))
  all_goals
    go_wp2_with fail
    go_ret
    exact ⟨rfl, (HM4.out.trans HM7.out).below (Nat.le_refl _) (fun _ h => h.elim)⟩
theorem own : ownKnob Tryd.prog.godebug = none := by kernel_rfl
theorem laidOut : laidOutB Tryd.prog = true := by kernel_rfl

/-- A world for the witness: the listed tables are laid. -/
noncomputable def laidWorld (os : Os) : World := World.laidAll Tryd.prog os Rows.flowParsesRow.laid
theorem laid_met (os : Os) : laidMetH Tryd.prog Rows.flowParsesRow.laid ((laidWorld os).forCall (fun _ _ => 0) ⟨#[], #[.string ⟨#[]⟩], []⟩).memory := by
  rw [MakeChecks.laidMetH_plain _ _ _ (by kernel_rfl)]
  exact laidMet_laidAll _ (by kernel_rfl) (by kernel_rfl)

set_option maxRecDepth 100000 in
theorem lifted (os : Os) (started : os.Started) (H : Type) (enc : TypeId × Value → H) (F : Stop.Interp) :
    ReturnsInHanded {} Tryd.checked os 3 .any ((OpenSpec.ofChange Rows.flowParsesSpec).preRow enc Tryd.prog Tryd.f3 Rows.flowParsesRow.domain false Rows.flowParsesRow.laid) (((OpenSpec.ofChange Rows.flowParsesSpec).at F).post enc Tryd.prog Tryd.f3 false true false false) := by
  refine returnsInHanded_of_row (C := Tryd.checked) (s := OpenSpec.ofChange Rows.flowParsesSpec) own started (by kernel_rfl) Tryd.func3
    (witness_row_at (enc := enc) (C := Tryd.checked) false (laidWorld os) #[.string ⟨#[]⟩] (World.laidAll_os _ _ _) (by kernel_rfl) (by kernel_rfl) (by kernel_rfl)
      (OpenSpec.preRow_of_B rfl 8 (by kernel_rfl) (by kernel_rfl) (laid_met os))) ?_
  intro W base args ds gs before hval0 hW _ _ hsz0 hlaid hshape _
  have hsz : (DataW.weightsEach Tryd.prog (Tryd.f3.params.toList ++ Rows.flowParsesSpec.plain.varTypes Tryd.prog) (ds ++ gs)).all (· ≤ reachBytes) = true := hsz0
  clear hsz0
  have hval : ∀ (j : Nat) t v, Tryd.f3.params[j]? = some t → args[j]? = some v → Value.okWide Tryd.prog W .any base t v := hval0
  have hW' := hW
  obtain ⟨p, q, hA0, hV, rfl, hfz, hnd⟩ := hW
  have hA : DataW.TrodAll enc Tryd.prog W 0 (fun _ => true) true Tryd.f3.params.toList args.toList ds p := hA0
  rw [Tryd.params3] at hA hval hsz
  obtain ⟨v0, vs0, d0, ds0, p0, q0, hargs, rfl, rfl, h0, r0⟩ := trodAll_cons hA
  obtain ⟨rfl, rfl, rfl⟩ := trodAll_nil r0
  obtain rfl : args = #[v0] := by cases args; simp_all
  obtain ⟨rfl, rfl⟩ := trodVars_none hV
  have lt0 : ∀ x ∈ p0, x.block < W.heap.size := by obtain ⟨m, hm⟩ := h0; exact DataW.trod_lt m _ _ _ hm
  have hsz' : (DataW.weightsEach Tryd.prog [9] [d0]).all (· ≤ reachBytes) = true := hsz
  obtain ⟨s0, rfl, rfl, rfl, ws0⟩ := open_string Tryd.underlying9 (hval 0 9 v0 rfl rfl) h0
  have wt0 : s0.size ≤ 140737488351232 := by have := (fits_of_each hsz' (j := 0) rfl rfl) s0.data.toList.length (by simp [DataW.weights]); simpa using this
  clear hA0 hval0
  refine (walk' W (glob_of hlaid hshape) s0 ws0 wt0).mono fun e W' ⟨he, bel⟩ => ?_
  subst he
  exact ⟨_, rfl, _, _, _, [], _, [], hW', trodAll_mk1 (shut_bool Tryd.underlying4 _), (trodAll_cons_mk (Below.trod laidOut (by kernel_rfl) (of_decide_eq_true (by kernel_rfl)) h0 bel lt0) trodAll_mk0), rfl, bel.frame _, fun h => by cases h⟩

theorem said : Rows.FlowParsesSaid :=
  OpenClaim.holds_of_cond 3 Tryd.f3 rfl rfl rfl rfl rfl rfl rfl ⟨rfl, rfl, rfl, rfl, rfl⟩ rfl rfl rfl rfl rfl (by kernel_rfl) Tryd.func3 (by kernel_rfl)
    (of_decide_eq_true (by kernel_rfl)) (by unfold Func.isWrapper; first | (rw [if_pos (by decide +kernel)]; kernel_rfl) | (rw [if_neg (by decide +kernel)]; exact ⟨rfl, rfl⟩))
    (fun os started H enc _ F => by rw [OpenClaim.pre_eq_preRow]; exact lifted os started H enc F)

theorem plain (f : FuncId) (fn : Func) (hf : Tryd.pinned.checked.prog.funcNamed "chandler/chandlerlaw10.FlowParses" = some f) (hfn : Tryd.pinned.checked.prog.funcs[f]? = some fn) :
    true = Tryd.pinned.checked.prog.looks [] ∧ ∀ (j : Nat) t, fn.params[j]? = some t → Tryd.pinned.checked.prog.wantsStandIn t = false := by
  obtain rfl : f = 3 := Option.some.inj ((show Tryd.prog.funcNamed "chandler/chandlerlaw10.FlowParses" = some 3 by kernel_rfl).symm.trans hf) |>.symm
  obtain rfl : fn = Tryd.f3 := (Option.some.inj (Tryd.func3.symm.trans hfn)).symm
  refine ⟨by kernel_rfl, fun j t ht => ?_⟩
  rw [Tryd.params3] at ht
  obtain rfl : t = 9 := by simpa using Array.mem_of_getElem? ht
  exact (show Tryd.prog.wantsStandIn 9 = false by kernel_rfl)

theorem card : Rows.FlowParsesCardSaid :=
  Claim7.holds_tied_plain_at .later [] _ _ _ _ said (fun _ h => by cases h) (by kernel_rfl) (fun _ h => by cases h) flowParses_row_tie rfl ⟨rfl, rfl⟩ (by kernel_rfl) rfl plain (by kernel_rfl)

end FlowParses

theorem flowParses_holds : Rows.FlowParsesCardSaid := FlowParses.card
#print axioms flowParses_holds

end Go.Proofs.YtmkbbclbkpofoaaDoor
