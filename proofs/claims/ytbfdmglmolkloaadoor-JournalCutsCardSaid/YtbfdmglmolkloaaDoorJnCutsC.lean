/- Whichever write the power goes off at, and however often it does so in the opens behind it: the sectors are those ahead of the commit or those behind it, all alike: for all commits and cuts. The card ties the two listed tables to the program's text. -/
import Derived.Test.YtbfdmglmolkloaaDoorRows
import Derived.Test.YtbfdmglmolkloaaDoorCards
import Derived.Test.YtbfdmglmolkloaaDoorTie
import Derived.Test.YtbfdmglmolkloaaDoorJnCuts
import Derived.Test.YtbfdmglmolkloaaDoorJnLastC
import Derived.WalkKit
import Derived.ProofKit
import Derived.OpenShut
import Derived.Lay
import Derived.Deep.DeepHandedRow
namespace Go.Proofs.YtbfdmglmolkloaaDoor
open Go Go.RowKit

section
variable {H : Type} {enc : TypeId × Value → H} {w : World} {base : Nat} {spare : Nat → Bool} {held : Bool}

theorem cellsChss : Tryd.prog.cellsOf 37 = 1 := by kernel_rfl
theorem cellsSint : Tryd.prog.cellsOf 44 = 1 := by kernel_rfl
theorem cellsCut : Tryd.prog.cellsOf 46 = 3 := by kernel_rfl
theorem bytesInt : Tryd.prog.bytesOf 3 = 8 := by kernel_rfl
theorem cut_fields : ∃ f0 f1 f2 : Field, Tryd.prog.underlying 46 = some (.struct #[f0, f1, f2]) ∧ f0.offset = 0 ∧ f0.type = 37 ∧ f1.offset = 1 ∧ f1.type = 3 ∧ f2.offset = 2 ∧ f2.type = 44 := ⟨_, _, _, Tryd.underlying46, rfl, rfl, rfl, rfl, rfl, rfl⟩

set_option maxRecDepth 100000 in
theorem deep_ints {fuel : Nat} {cs : List Value} {y : DataW H × List MemPlace} (h : DataW.trod enc Tryd.prog w base spare held fuel 44 cs = some y) (hfit : Fits Tryd.prog 44 y.1) :
    ∃ (a : Option Addr) (cap : Nat) (ls : List Int), cs = [.slice a ls.length cap] ∧ Lies w 1 (fun x : Int => [.int .i64 x]) a ls ∧ ls.length * 8 ≤ 140737488351232 := by
  obtain ⟨a, cap, ls, e, l, _, _, _, z⟩ := open_deep (f := fun x : Int => [.int .i64 x]) (Q := fun _ => True) Tryd.underlying44 cellsInt (by decide) (fun _ => rfl) (fun n cs y hy _ => by
    obtain ⟨m, rfl, _, _⟩ := DataW.trod_int Tryd.underlying3 hy
    exact ⟨m, rfl, trivial⟩) h hfit
  rw [bytesInt] at z
  exact ⟨a, cap, ls, e, l, z⟩

set_option maxRecDepth 100000 in
/-- A cut that was read. -/
theorem open_cuts {r : Reach} {b0 : Nat} {v : Value} {d : DataW H} {ps : List MemPlace} (hval : Value.okWide Tryd.prog w r b0 46 v) (hd : DataW.Trod enc Tryd.prog w base spare held 46 v d ps) (hfit : Fits Tryd.prog 46 d) :
    ∃ (a1 : Option Addr) (c1 : Nat) (ls : List Cm) (cut : Int) (a2 : Option Addr) (c2 : Nat) (ag : List Int), v = .agg #[.slice a1 ls.length c1, .int .i64 cut, .slice a2 ag.length c2] ∧
      Lies w 1 Cm.vs a1 ls ∧ (∀ x ∈ ls, CmOk w x) ∧ ls.length * 24 ≤ 140737488351232 ∧ Lies w 1 (fun x : Int => [.int .i64 x]) a2 ag ∧ ag.length * 8 ≤ 140737488351232 := by
  obtain ⟨f0, f1, f2, hu, o0, t0, o1, t1, o2, t2⟩ := cut_fields
  obtain ⟨cs, n, rfl, h⟩ := open_agg hu hval hd
  have hl := len_of_struct hu h
  rw [cellsCut] at hl
  obtain ⟨n0, y0, h0, s0⟩ := field_fit hu h hfit 0 f0 rfl
  obtain ⟨m, hc1, _⟩ := field_int (k := .i64) hu h 1 f1 rfl (by rw [t1]; exact Tryd.underlying3) (by rw [t1]; exact cellsInt)
  obtain ⟨n2, y2, h2, s2⟩ := field_fit hu h hfit 2 f2 rfl
  rw [t0] at h0 s0
  rw [t2] at h2 s2
  obtain ⟨a1, c1, ls, e1, l1, k1, z1⟩ := deep_chss h0 s0
  obtain ⟨a2, c2, ag, e2, l2, z2⟩ := deep_ints h2 s2
  rw [cellsChss] at e1
  rw [cellsSint] at e2
  have g0 := get_of_take1 e1
  have g2 := get_of_take1 e2
  rw [o0] at g0
  rw [o1] at hc1
  rw [o2] at g2
  refine ⟨a1, c1, ls, m, a2, c2, ag, ?_, l1, k1, z1, l2, z2⟩
  have : cs = [.slice a1 ls.length c1, .int .i64 m, .slice a2 ag.length c2] := by
    apply List.ext_getElem?
    intro j
    match j with
    | 0 => exact g0
    | 1 => exact hc1
    | 2 => exact g2
    | j + 3 => rw [List.getElem?_eq_none (by omega), List.getElem?_eq_none (by simp)]
  rw [this]
end

namespace JournalCuts
open Go.ChangeShapes Go.WideShapes Go.ChangeAt
theorem walk' (W : World) (a1 : Option Addr) (c1 : Nat) (ls : List Cm) (cut : Int) (a2 : Option Addr) (c2 : Nat) (ag : List Int) (hls : Lies W 1 Cm.vs a1 ls) (hok : ∀ x ∈ ls, CmOk W x) (hl : ls.length * 24 ≤ 140737488351232) (hag : Lies W 1 (fun x : Int => [.int .i64 x]) a2 ag) (hagl : ag.length * 8 ≤ 140737488351232) :
    Calls Tryd.prog 8 #[.agg #[.slice a1 ls.length c1, .int .i64 cut, .slice a2 ag.length c2]] W fun e w' => e = .returned (.bool true) ∧ Below W.heap.size W w' := walk W a1 c1 ls hls hok hl cut a2 c2 ag hag hagl
theorem own : ownKnob Tryd.prog.godebug = none := by kernel_rfl
theorem laidOut : laidOutB Tryd.prog = true := by kernel_rfl

/-- A world for the witness: the listed tables are laid. -/
noncomputable def laidWorld (os : Os) : World := World.laidAll Tryd.prog os Rows.journalCutsRow.laid
theorem laid_met (os : Os) : laidMetH Tryd.prog Rows.journalCutsRow.laid ((laidWorld os).forCall (fun _ _ => 0) ⟨#[], #[.agg #[.slice none 0 0, .int .i64 0, .slice none 0 0]], []⟩).memory := by
  rw [MakeChecks.laidMetH_plain _ _ _ (by kernel_rfl)]
  exact laidMet_laidAll _ (by kernel_rfl) (by kernel_rfl)

set_option maxRecDepth 100000 in
theorem lifted (os : Os) (started : os.Started) (H : Type) (enc : TypeId × Value → H) (F : Stop.Interp) :
    ReturnsInHanded {} Tryd.checked os 8 .any ((OpenSpec.ofChange Rows.journalCutsSpec).preRow enc Tryd.prog Tryd.f8 Rows.journalCutsRow.domain false Rows.journalCutsRow.laid) (((OpenSpec.ofChange Rows.journalCutsSpec).at F).post enc Tryd.prog Tryd.f8 false true false false) := by
  refine returnsInHanded_of_row (C := Tryd.checked) (s := OpenSpec.ofChange Rows.journalCutsSpec) own started (by kernel_rfl) Tryd.func8
    (witness_row_at (enc := enc) (C := Tryd.checked) false (laidWorld os) #[.agg #[.slice none 0 0, .int .i64 0, .slice none 0 0]] (World.laidAll_os _ _ _) (by kernel_rfl) (by kernel_rfl) (by kernel_rfl)
      (OpenSpec.preRow_of_B rfl 8 (by kernel_rfl) (by kernel_rfl) (laid_met os))) ?_
  intro W base args ds gs before hval0 hW _ _ hsz0 _ _ _
  have hsz : (DataW.weightsEach Tryd.prog (Tryd.f8.params.toList ++ Rows.journalCutsSpec.plain.varTypes Tryd.prog) (ds ++ gs)).all (· ≤ reachBytes) = true := hsz0
  clear hsz0
  have hval : ∀ (j : Nat) t v, Tryd.f8.params[j]? = some t → args[j]? = some v → Value.okWide Tryd.prog W .any base t v := hval0
  have hW' := hW
  obtain ⟨p, q, hA0, hV, rfl, hfz, hnd⟩ := hW
  have hA : DataW.TrodAll enc Tryd.prog W 0 (fun _ => true) true Tryd.f8.params.toList args.toList ds p := hA0
  rw [Tryd.params8] at hA hval hsz
  obtain ⟨v0, vs0, d0, ds0, p0, q0, hargs, rfl, rfl, h0, r0⟩ := trodAll_cons hA
  obtain ⟨rfl, rfl, rfl⟩ := trodAll_nil r0
  obtain rfl : args = #[v0] := by cases args; simp_all
  obtain ⟨rfl, rfl⟩ := trodVars_none hV
  have lt0 : ∀ x ∈ p0, x.block < W.heap.size := by obtain ⟨m, hm⟩ := h0; exact DataW.trod_lt m _ _ _ hm
  have hsz' : (DataW.weightsEach Tryd.prog [46] [d0]).all (· ≤ reachBytes) = true := hsz
  obtain ⟨x0a, x0b, x0c, x0d, x0e, x0f, x0g, rfl, f0a, f0b, f0c, f0d, f0e⟩ := open_cuts (hval 0 46 v0 rfl rfl) h0 (fits_of_each hsz' (j := 0) rfl rfl)
  clear hA0 hval0
  refine (walk' W x0a x0b x0c x0d x0e x0f x0g f0a f0b f0c f0d f0e).mono fun e W' ⟨he, bel⟩ => ?_
  subst he
  exact ⟨_, rfl, _, _, _, [], _, [], hW', trodAll_mk1 (shut_bool Tryd.underlying4 _), (trodAll_cons_mk (Below.trod laidOut (by kernel_rfl) (of_decide_eq_true (by kernel_rfl)) h0 bel lt0) trodAll_mk0), rfl, bel.frame _, fun h => by cases h⟩

theorem said : Rows.JournalCutsSaid :=
  OpenClaim.holds_of_cond 8 Tryd.f8 rfl rfl rfl rfl rfl rfl rfl ⟨rfl, rfl, rfl, rfl, rfl⟩ rfl rfl rfl rfl rfl (by kernel_rfl) Tryd.func8 (by kernel_rfl)
    (of_decide_eq_true (by kernel_rfl)) (by unfold Func.isWrapper; first | (rw [if_pos (by decide +kernel)]; kernel_rfl) | (rw [if_neg (by decide +kernel)]; exact ⟨rfl, rfl⟩))
    (fun os started H enc _ F => by rw [OpenClaim.pre_eq_preRow]; exact lifted os started H enc F)

theorem plain (f : FuncId) (fn : Func) (hf : Tryd.pinned.checked.prog.funcNamed "chandler/chandlerlaw03.JournalCuts" = some f) (hfn : Tryd.pinned.checked.prog.funcs[f]? = some fn) :
    false = Tryd.pinned.checked.prog.looks [] ∧ ∀ (j : Nat) t, fn.params[j]? = some t → Tryd.pinned.checked.prog.wantsStandIn t = false := by
  obtain rfl : f = 8 := Option.some.inj ((show Tryd.prog.funcNamed "chandler/chandlerlaw03.JournalCuts" = some 8 by kernel_rfl).symm.trans hf) |>.symm
  obtain rfl : fn = Tryd.f8 := (Option.some.inj (Tryd.func8.symm.trans hfn)).symm
  refine ⟨by kernel_rfl, fun j t ht => ?_⟩
  rw [Tryd.params8] at ht
  obtain rfl : t = 46 := by simpa using Array.mem_of_getElem? ht
  exact (show Tryd.prog.wantsStandIn 46 = false by kernel_rfl)

theorem card : Rows.JournalCutsCardSaid :=
  Claim7.holds_tied_plain_at .later [] _ _ _ _ said (fun _ h => by cases h) (by kernel_rfl) (fun _ h => by cases h) journalCuts_row_tie rfl ⟨rfl, rfl⟩ (by kernel_rfl) rfl plain (by kernel_rfl)

end JournalCuts

theorem journalCuts_holds : Rows.JournalCutsCardSaid := JournalCuts.card
#print axioms journalCuts_holds

end Go.Proofs.YtbfdmglmolkloaaDoor
