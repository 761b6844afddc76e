/- merged: TeGetsC -/
import Derived.Test.YtgbcibdfeeiilaaGreatDoorRows
import Derived.Test.YtgbcibdfeeiilaaGreatDoorCards
import Derived.Test.YtgbcibdfeeiilaaGreatDoorTie
import Derived.Test.YtgbcibdfeeiilaaGreatDoorMa35
namespace Go.Proofs.YtgbcibdfeeiilaaGreatDoor
open Go Go.RowKit
namespace TreeGets
open Go.ChangeShapes Go.WideShapes Go.ChangeAt
theorem walk' (W : World) (a : Option Addr) (cap : Nat) (ps : List KV) (hp : Lies W 2 kcs a ps) (hcap : ps.length ≤ cap ∧ cap ≤ maxLen) (hs : ∀ p ∈ ps, p.1.size ≤ maxLen ∧ p.2.size ≤ maxLen) (a2 : Option Addr) (cap2 : Nat) (os : List ByteArray) (ho : Lies W 1 (fun s : ByteArray => [Value.string s]) a2 os) (hol : os.length ≤ maxLen) :
    Calls Tryz.prog 7 #[.slice a ps.length cap, .slice a2 os.length cap2] W fun e w' => e = .returned (.bool true) ∧ RowKit.Below W.heap.size W w' := (gets_walk W a cap ps hp hcap hs a2 cap2 os ho hol).mono fun _ _ ⟨he, hm⟩ => ⟨he, hm.below (Nat.le_refl _) (fun _ e => e.elim)⟩
theorem own : ownKnob Tryz.prog.godebug = none := by kernel_rfl
theorem laidOut : laidOutB Tryz.prog = true := by kernel_rfl
noncomputable def laidWorld (os : Os) : World := World.laidAll Tryz.prog os Rows.treeGetsRow.laid
theorem laid_met (os : Os) : laidMetH Tryz.prog Rows.treeGetsRow.laid ((laidWorld os).forCall (fun _ _ => 0) ⟨#[], #[.slice none 0 0, .slice none 0 0], []⟩).memory := by
  rw [MakeChecks.laidMetH_plain _ _ _ (by kernel_rfl)]
  exact laidMet_laidAll _ (by kernel_rfl) (by kernel_rfl)
set_option maxRecDepth 100000 in
theorem lifted (os : Os) (started : os.Started) (H : Type) (enc : TypeId × Value → H) (F : Stop.Interp) :
    ReturnsInHanded {} Tryz.checked os 7 .any ((OpenSpec.ofChange Rows.treeGetsSpec).preRow enc Tryz.prog Tryz.f7 Rows.treeGetsRow.domain false Rows.treeGetsRow.laid) (((OpenSpec.ofChange Rows.treeGetsSpec).at F).post enc Tryz.prog Tryz.f7 false true false false) := by
  refine returnsInHanded_of_row (C := Tryz.checked) (s := OpenSpec.ofChange Rows.treeGetsSpec) own started (by kernel_rfl) Tryz.func7
    (witness_row_at (enc := enc) (C := Tryz.checked) false (laidWorld os) #[.slice none 0 0, .slice none 0 0] (World.laidAll_os _ _ _) (by kernel_rfl) (by kernel_rfl) (by kernel_rfl)
      (OpenSpec.preRow_of_B rfl 8 (by kernel_rfl) (by kernel_rfl) (laid_met os))) ?_
  intro W base args ds gs before hval0 hW _ _ hsz0 _ _ _
  have hsz : (DataW.weightsEach Tryz.prog (Tryz.f7.params.toList ++ Rows.treeGetsSpec.plain.varTypes Tryz.prog) (ds ++ gs)).all (· ≤ reachBytes) = true := hsz0
  clear hsz0
  have hval : ∀ (j : Nat) t v, Tryz.f7.params[j]? = some t → args[j]? = some v → Value.okWide Tryz.prog W .any base t v := hval0
  have hW' := hW
  obtain ⟨p, q, hA0, hV, rfl, hfz, hnd⟩ := hW
  have hA : DataW.TrodAll enc Tryz.prog W 0 (fun _ => true) true Tryz.f7.params.toList args.toList ds p := hA0
  rw [Tryz.params7] at hA hval hsz
  obtain ⟨v0, vs0, d0, ds0, p0, q0, hargs, rfl, rfl, h0, r0⟩ := trodAll_cons hA
  obtain ⟨v1, vs1, d1, ds1, p1, q1, rfl, rfl, rfl, h1, r1⟩ := trodAll_cons r0
  obtain ⟨rfl, rfl, rfl⟩ := trodAll_nil r1
  obtain rfl : args = #[v0, v1] := by cases args; simp_all
  obtain ⟨rfl, rfl⟩ := trodVars_none hV
  have lt0 : ∀ x ∈ p0, x.block < W.heap.size := by obtain ⟨m, hm⟩ := h0; exact DataW.trod_lt m _ _ _ hm
  have lt1 : ∀ x ∈ p1, x.block < W.heap.size := by obtain ⟨m, hm⟩ := h1; exact DataW.trod_lt m _ _ _ hm
  have hsz' : (DataW.weightsEach Tryz.prog [22, 69] [d0, d1]).all (· ≤ reachBytes) = true := hsz
  obtain ⟨x0a, x0b, x0c, rfl, f0a, f0b, f0c⟩ := open_pairs (hval 0 22 v0 rfl rfl) h0 (fits_of_each hsz' (j := 0) rfl rfl)
  obtain ⟨x1a, x1b, x1c, rfl, f1a, f1b⟩ := open_texts (hval 1 69 v1 rfl rfl) h1 (fits_of_each hsz' (j := 1) rfl rfl)
  clear hA0 hval0
  refine (walk' W x0a x0b x0c f0a f0b f0c x1a x1b x1c f1a f1b).mono fun e W' ⟨he, bel⟩ => ?_
  subst he
  exact ⟨_, rfl, _, _, _, [], _, [], hW', trodAll_mk1 (shut_bool Tryz.underlying4 _), (trodAll_cons_mk (RowKit.Below.trod laidOut (by kernel_rfl) (of_decide_eq_true (by kernel_rfl)) h0 bel lt0) (trodAll_cons_mk (RowKit.Below.trod laidOut (by kernel_rfl) (of_decide_eq_true (by kernel_rfl)) h1 bel lt1) trodAll_mk0)), rfl, bel.frame _, fun h => by cases h⟩
theorem said : Rows.TreeGetsSaid :=
  OpenClaim.holds_of_cond 7 Tryz.f7 rfl rfl rfl rfl rfl rfl rfl ⟨rfl, rfl, rfl, rfl, rfl⟩ rfl rfl rfl rfl rfl (by kernel_rfl) Tryz.func7 (by kernel_rfl)
    (of_decide_eq_true (by kernel_rfl)) (by unfold Func.isWrapper; first | (rw [if_pos (by decide +kernel)]; kernel_rfl) | (rw [if_neg (by decide +kernel)]; exact ⟨rfl, rfl⟩))
    (fun os started H enc _ F => by rw [OpenClaim.pre_eq_preRow]; exact lifted os started H enc F)
theorem plain (f : FuncId) (fn : Func) (hf : Tryz.pinned.checked.prog.funcNamed "chandler/chandlerlaw05.TreeGets" = some f) (hfn : Tryz.pinned.checked.prog.funcs[f]? = some fn) :
    false = Tryz.pinned.checked.prog.looks [] ∧ ∀ (j : Nat) t, fn.params[j]? = some t → Tryz.pinned.checked.prog.wantsStandIn t = false := by
  obtain rfl : f = 7 := Option.some.inj ((show Tryz.prog.funcNamed "chandler/chandlerlaw05.TreeGets" = some 7 by kernel_rfl).symm.trans hf) |>.symm
  obtain rfl : fn = Tryz.f7 := (Option.some.inj (Tryz.func7.symm.trans hfn)).symm
  refine ⟨by kernel_rfl, fun j t ht => ?_⟩
  rw [Tryz.params7] at ht
  have ht2 : t = 22 ∨ t = 69 := by simpa using Array.mem_of_getElem? ht
  rcases ht2 with rfl | rfl
  · exact (show Tryz.prog.wantsStandIn 22 = false by kernel_rfl)
  · exact (show Tryz.prog.wantsStandIn 69 = false by kernel_rfl)
theorem card : Rows.TreeGetsCardSaid :=
  Claim7.holds_tied_plain_at .later [] _ _ _ _ said (fun _ h => by cases h) (by kernel_rfl) (fun _ h => by cases h) treeGets_row_tie rfl ⟨rfl, rfl⟩ (by kernel_rfl) rfl plain (by kernel_rfl)
end TreeGets
theorem treeGets_holds : Rows.TreeGetsCardSaid := TreeGets.card
end Go.Proofs.YtgbcibdfeeiilaaGreatDoor
