/- The fault that is told is the first one: the lines ahead of it alone are read without a fault, or have no line of a flow yet: for every text. The card ties the listed variables to the program's text. -/
import Derived.Test.YtmkbbclbkpofoaaDoorRows
import Derived.Test.YtmkbbclbkpofoaaDoorCards
import Derived.Test.YtmkbbclbkpofoaaDoorTie
import Derived.Test.YtmkbbclbkpofoaaDoorFlV
import Derived.Test.YtmkbbclbkpofoaaDoorFlFi
import Derived.Test.YtmkbbclbkpofoaaDoorFlB
import Derived.Test.YtmkbbclbkpofoaaDoorOpen1
import Derived.WalkKit
import Derived.ProofKit
import Derived.OpenShut
import Derived.ShutString
import Derived.Lay
import Derived.Deep.DeepHandedRow
namespace Go.Proofs.YtmkbbclbkpofoaaDoor
open Go Go.RowKit

namespace FlowFirst
open Go.ChangeShapes Go.WideShapes Go.ChangeAt Go.ChangeMaps

set_option maxRecDepth 100000 in
set_option maxHeartbeats 8000000 in
theorem walk' (W : World) (hg : Glob W) (t : ByteArray) (_ : t.size ≤ maxLen) (_ : t.size ≤ 140737488351232) : Calls Tryd.prog 6 #[.string t] W fun e w' => e = .returned (.bool true) ∧ Below W.heap.size W w' := by
  have HG := hid hg
  have HF := hid (fun (x : Df) (n e : Int) (h : parseL t = (x, n, e)) (hn : n ≠ 0) => parse_first h hn)
  have HP := hid (parse_any t hg)
  have HW := hid (fun (X : World) (hm : Mod (fun _ => False) W X) => wakes_any (HG.out.ext hm))
  clear hg
  generalize hD : parseL t = D at *
  obtain ⟨d, at', n⟩ := D
  have HFi := hid (HF.out d at' n rfl)
  clear HF hD
  go_enter Tryd.func6, Tryd.ntmps6
  go_upto_region 2 with (go_at_call 9; refine HP.out.mono ?_; rintro e w1 ⟨hm, la, cap, ss, rfl, hl⟩; have HM1 := hid hm; clear hm hl)
  have HM2 := hid (HM1.out.alloc (.cells #[.string d.name, .slice la d.steps.length cap] 24))
  generalize w1.alloc (.cells #[.string d.name, .slice la d.steps.length cap] 24) = V at *
  generalize w1.heap.size = db at *
  clear HM1 HP
  by_cases hn : n = 0
  case pos =>
    have e1 : (n == 0) = true := by rw [hn]; rfl
    clear hn
    go_wp2_with (first
      | (go_at_call 11; refine (HW.out V HM2.out).mono ?_; rintro e w2 ⟨rfl, hm⟩; have HM3 := hid (HM2.out.trans hm); clear hm)
      | (go_at_call 11; refine (HW.out w2 HM3.out).mono ?_; rintro e w3 ⟨rfl, hm⟩; have HM4 := hid (HM3.out.trans hm); clear hm))
    go_ret
    exact ⟨rfl, HM4.out.below (Nat.le_refl _) (fun _ h => h.elim)⟩
  case neg =>
    have e1 : (n == 0) = false := beq_eq_false_iff_ne.2 hn
    by_cases ha : at' = 0
    case pos =>
      have e2 : (at' == 0) = true := by rw [ha]; rfl
      clear ha hn
      go_wp2_with (first
        | (go_at_call 11; refine (HW.out V HM2.out).mono ?_; rintro e w2 ⟨rfl, hm⟩; have HM3 := hid (HM2.out.trans hm); clear hm)
        | (go_at_call 11; refine (HW.out w2 HM3.out).mono ?_; rintro e w3 ⟨rfl, hm⟩; have HM4 := hid (HM3.out.trans hm); clear hm))
      go_ret
      exact ⟨rfl, HM4.out.below (Nat.le_refl _) (fun _ h => h.elim)⟩
    case neg =>
      have e2 : (at' == 0) = false := beq_eq_false_iff_ne.2 ha
      obtain ⟨ht, i, rfl, hi, hpar⟩ := HFi.out ha
      have HPar := hid hpar
      have hdl : t.data.toList.length = t.size := by simp
      have hpl := (pieces_len 10 t.data.toList).1
      clear ha hn hpar HFi
      go_upto_region 4 with (go_at_call 11; refine (HW.out V HM2.out).mono ?_; rintro e w2 ⟨rfl, hm⟩; have HM3 := hid (HM2.out.trans hm); clear hm)
      clear HM2 HW e1 e2
      go_upto_region 5 with fail
      go_loopw [6, 7] (fun sa sl wr => ∃ (j q : Nat), sa = .int .i64 (q : Int) ∧ sl = .int .i64 ((j : Int) + 1) ∧ j ≤ i ∧ Cut t.data.toList q j ∧ wr = w2) (fun _ sl _ => i + 1 - (intOf sl).toNat)
      case atStart => exact ⟨0, 0, rfl, rfl, Nat.zero_le _, cut_zero _, rfl⟩
      case round =>
        obtain ⟨j, q, rfl, rfl, hj, hc, rfl⟩ := hrel
        have hq := hc.le
        have HC := hid hc
        clear hc
        by_cases hji : j < i
        case pos =>
          obtain ⟨z, hz, hzq, hnx⟩ := cut_next HC.out (by omega)
          have HZ := hid hzq
          have HNx := hid hnx
          have hzl : q + z < t.size := by
            have h1 := (List.getElem?_eq_some_iff.1 hz).1
            rw [List.length_drop] at h1
            omega
          have HZz : Hid (t[q + z] = 10) := hid (by
            rw [List.getElem?_drop] at hz
            have h2 := get_list t (q + z) hzl
            rw [h2] at hz
            exact Option.some.inj hz)
          clear hz hzq hnx
          go_upto_region 6 with fail
          go_loopw [6] (fun sa wr' => ∃ y : Nat, sa = .int .i64 ((q + y : Nat) : Int) ∧ y ≤ z ∧ wr' = wr) (fun sa _ => q + z - (intOf sa).toNat)
          case atStart => exact ⟨0, rfl, Nat.zero_le _, rfl⟩
          case round =>
            obtain ⟨y, rfl, hy, rfl⟩ := hrel
            by_cases hyz : y < z
            case pos =>
              have hyl : q + y < t.size := by omega
              have e3 : ((t[q + y].toNat : Int) == 10) = false := by
                have h1 := HZ.out y hyz t[q + y] (by rw [List.getElem?_drop]; exact get_list t (q + y) hyl)
                have : t[q + y].toNat ≠ 10 := fun h => h1 (UInt8.toNat_inj.1 h)
                simp; omega
              go_wp2_with fail
              go_roundw
              case rel => exact ⟨y + 1, by go_num, by omega, trivial⟩
              case measure => simp [intOf]; omega
            case neg =>
              have hye : y = z := by omega
              subst hye
              have e3 : ((t[q + y].toNat : Int) == 10) = true := by rw [HZz.out]; rfl
              go_wp2_with fail
              go_roundw
              case rel => exact ⟨j + 1, q + y + 1, by go_num, by go_num, by omega, HNx.out, trivial⟩
              case measure => simp [intOf]; omega
        case neg =>
          have hje : j = i := by omega
          subst hje
          have hsl : (t.extract 0 q).data.toList = t.data.toList.take q := by simp
          obtain ⟨y, f, hyf, hf⟩ := HPar.out q HC.out (t.extract 0 q) hsl
          have HP2 := hid (parse_any (t.extract 0 q) (HG.out.ext HM3.out))
          rw [hyf] at HP2
          have hqs : q ≤ t.size := by omega
          clear hyf hsl
          rcases hf with rfl | rfl
          · go_wp2_with (go_at_call 9; refine HP2.out.mono ?_; rintro e w5 ⟨hm, lb, cap2, ss2, rfl, _⟩; have HM5 := hid (HM3.out.trans hm); clear hm)
            go_ret
            exact ⟨rfl, (HM5.out.alloc _).below (Nat.le_refl _) (fun _ h => h.elim)⟩
          · go_wp2_with (go_at_call 9; refine HP2.out.mono ?_; rintro e w5 ⟨hm, lb, cap2, ss2, rfl, _⟩; have HM5 := hid (HM3.out.trans hm); clear hm)
            go_ret
            exact ⟨rfl, (HM5.out.alloc _).below (Nat.le_refl _) (fun _ h => h.elim)⟩
theorem own : ownKnob Tryd.prog.godebug = none := by kernel_rfl
theorem laidOut : laidOutB Tryd.prog = true := by kernel_rfl

/-- A world for the witness: the listed tables are laid. -/
noncomputable def laidWorld (os : Os) : World := World.laidAll Tryd.prog os Rows.flowFirstRow.laid
theorem laid_met (os : Os) : laidMetH Tryd.prog Rows.flowFirstRow.laid ((laidWorld os).forCall (fun _ _ => 0) ⟨#[], #[.string ⟨#[]⟩], []⟩).memory := by
  rw [MakeChecks.laidMetH_plain _ _ _ (by kernel_rfl)]
  exact laidMet_laidAll _ (by kernel_rfl) (by kernel_rfl)

set_option maxRecDepth 100000 in
theorem lifted (os : Os) (started : os.Started) (H : Type) (enc : TypeId × Value → H) (F : Stop.Interp) :
    ReturnsInHanded {} Tryd.checked os 6 .any ((OpenSpec.ofChange Rows.flowFirstSpec).preRow enc Tryd.prog Tryd.f6 Rows.flowFirstRow.domain false Rows.flowFirstRow.laid) (((OpenSpec.ofChange Rows.flowFirstSpec).at F).post enc Tryd.prog Tryd.f6 false true false false) := by
  refine returnsInHanded_of_row (C := Tryd.checked) (s := OpenSpec.ofChange Rows.flowFirstSpec) own started (by kernel_rfl) Tryd.func6
    (witness_row_at (enc := enc) (C := Tryd.checked) false (laidWorld os) #[.string ⟨#[]⟩] (World.laidAll_os _ _ _) (by kernel_rfl) (by kernel_rfl) (by kernel_rfl)
      (OpenSpec.preRow_of_B rfl 8 (by kernel_rfl) (by kernel_rfl) (laid_met os))) ?_
  intro W base args ds gs before hval0 hW _ _ hsz0 hlaid hshape _
  have hsz : (DataW.weightsEach Tryd.prog (Tryd.f6.params.toList ++ Rows.flowFirstSpec.plain.varTypes Tryd.prog) (ds ++ gs)).all (· ≤ reachBytes) = true := hsz0
  clear hsz0
  have hval : ∀ (j : Nat) t v, Tryd.f6.params[j]? = some t → args[j]? = some v → Value.okWide Tryd.prog W .any base t v := hval0
  have hW' := hW
  obtain ⟨p, q, hA0, hV, rfl, hfz, hnd⟩ := hW
  have hA : DataW.TrodAll enc Tryd.prog W 0 (fun _ => true) true Tryd.f6.params.toList args.toList ds p := hA0
  rw [Tryd.params6] at hA hval hsz
  obtain ⟨v0, vs0, d0, ds0, p0, q0, hargs, rfl, rfl, h0, r0⟩ := trodAll_cons hA
  obtain ⟨rfl, rfl, rfl⟩ := trodAll_nil r0
  obtain rfl : args = #[v0] := by cases args; simp_all
  obtain ⟨rfl, rfl⟩ := trodVars_none hV
  have lt0 : ∀ x ∈ p0, x.block < W.heap.size := by obtain ⟨m, hm⟩ := h0; exact DataW.trod_lt m _ _ _ hm
  have hsz' : (DataW.weightsEach Tryd.prog [9] [d0]).all (· ≤ reachBytes) = true := hsz
  obtain ⟨s0, rfl, rfl, rfl, ws0⟩ := open_string Tryd.underlying9 (hval 0 9 v0 rfl rfl) h0
  have wt0 : s0.size ≤ 140737488351232 := by have := (fits_of_each hsz' (j := 0) rfl rfl) s0.data.toList.length (by simp [DataW.weights]); simpa using this
  clear hA0 hval0
  refine (walk' W (glob_of hlaid hshape) s0 ws0 wt0).mono fun e W' ⟨he, bel⟩ => ?_
  subst he
  exact ⟨_, rfl, _, _, _, [], _, [], hW', trodAll_mk1 (shut_bool Tryd.underlying4 _), (trodAll_cons_mk (Below.trod laidOut (by kernel_rfl) (of_decide_eq_true (by kernel_rfl)) h0 bel lt0) trodAll_mk0), rfl, bel.frame _, fun h => by cases h⟩

theorem said : Rows.FlowFirstSaid :=
  OpenClaim.holds_of_cond 6 Tryd.f6 rfl rfl rfl rfl rfl rfl rfl ⟨rfl, rfl, rfl, rfl, rfl⟩ rfl rfl rfl rfl rfl (by kernel_rfl) Tryd.func6 (by kernel_rfl)
    (of_decide_eq_true (by kernel_rfl)) (by unfold Func.isWrapper; first | (rw [if_pos (by decide +kernel)]; kernel_rfl) | (rw [if_neg (by decide +kernel)]; exact ⟨rfl, rfl⟩))
    (fun os started H enc _ F => by rw [OpenClaim.pre_eq_preRow]; exact lifted os started H enc F)

theorem plain (f : FuncId) (fn : Func) (hf : Tryd.pinned.checked.prog.funcNamed "chandler/chandlerlaw10.FlowFirst" = some f) (hfn : Tryd.pinned.checked.prog.funcs[f]? = some fn) :
    true = Tryd.pinned.checked.prog.looks [] ∧ ∀ (j : Nat) t, fn.params[j]? = some t → Tryd.pinned.checked.prog.wantsStandIn t = false := by
  obtain rfl : f = 6 := Option.some.inj ((show Tryd.prog.funcNamed "chandler/chandlerlaw10.FlowFirst" = some 6 by kernel_rfl).symm.trans hf) |>.symm
  obtain rfl : fn = Tryd.f6 := (Option.some.inj (Tryd.func6.symm.trans hfn)).symm
  refine ⟨by kernel_rfl, fun j t ht => ?_⟩
  rw [Tryd.params6] at ht
  obtain rfl : t = 9 := by simpa using Array.mem_of_getElem? ht
  exact (show Tryd.prog.wantsStandIn 9 = false by kernel_rfl)

theorem card : Rows.FlowFirstCardSaid :=
  Claim7.holds_tied_plain_at .later [] _ _ _ _ said (fun _ h => by cases h) (by kernel_rfl) (fun _ h => by cases h) flowFirst_row_tie rfl ⟨rfl, rfl⟩ (by kernel_rfl) rfl plain (by kernel_rfl)

end FlowFirst

theorem flowFirst_holds : Rows.FlowFirstCardSaid := FlowFirst.card
#print axioms flowFirst_holds

end Go.Proofs.YtmkbbclbkpofoaaDoor
