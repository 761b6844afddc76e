/- Behind commits that were answered OK each sector holds what the last one that named it put there; others hold zero bytes: for every list of commits. The card ties the two listed tables to the program's text. -/
import Derived.Test.YtbfdmglmolkloaaDoorRows
import Derived.Test.YtbfdmglmolkloaaDoorCards
import Derived.Test.YtbfdmglmolkloaaDoorTie
import Derived.Test.YtbfdmglmolkloaaDoorJnLast
import Derived.WalkKit
import Derived.ProofKit
import Derived.OpenShut
import Derived.Lay
import Derived.Deep.DeepHandedRow
namespace Go.Proofs.YtbfdmglmolkloaaDoor
open Go Go.RowKit

section
variable {H : Type} {enc : TypeId × Value → H} {w : World} {base : Nat} {spare : Nat → Bool} {held : Bool}

theorem cellsChs : Tryd.prog.cellsOf 22 = 1 := by kernel_rfl
theorem bytesChs : Tryd.prog.bytesOf 22 = 24 := by kernel_rfl

/-- A list of commits that was read. -/
theorem deep_chss {fuel : Nat} {cs : List Value} {y : DataW H × List MemPlace} (h : DataW.trod enc Tryd.prog w base spare held fuel 37 cs = some y) (hfit : Fits Tryd.prog 37 y.1) :
    ∃ (a : Option Addr) (cap : Nat) (ls : List Cm), cs = [.slice a ls.length cap] ∧ Lies w 1 Cm.vs a ls ∧ (∀ x ∈ ls, CmOk w x) ∧ ls.length * 24 ≤ 140737488351232 := by
  obtain ⟨a, cap, ls, e, l, q, _, _, z⟩ := open_deep (f := Cm.vs) (Q := fun x => CmOk w x) Tryd.underlying37 cellsChs (by decide) cm_len (fun n cs y hy hf => by
    obtain ⟨a, cap, ls, e, h1, h2, h3⟩ := deep_chs hy hf
    exact ⟨⟨a, cap, ls⟩, e, h1, h2, h3⟩) h hfit
  rw [bytesChs] at z
  exact ⟨a, cap, ls, e, l, q, z⟩

set_option maxRecDepth 100000 in
theorem open_chss {r : Reach} {b0 : Nat} {v : Value} {d : DataW H} {ps : List MemPlace} (hval : Value.okWide Tryd.prog w r b0 37 v) (hd : DataW.Trod enc Tryd.prog w base spare held 37 v d ps) (hfit : Fits Tryd.prog 37 d) :
    ∃ (a : Option Addr) (cap : Nat) (ls : List Cm), v = .slice a ls.length cap ∧ Lies w 1 Cm.vs a ls ∧ (∀ x ∈ ls, CmOk w x) ∧ ls.length * 24 ≤ 140737488351232 := by
  obtain ⟨a, len, cap, rfl⟩ := WideShapes.okWide_slice Tryd.underlying37 hval
  obtain ⟨fuel, hf⟩ := hd
  obtain ⟨a', cap', ls, e, h1, h2, h3⟩ := deep_chss hf hfit
  simp only [Value.cells] at e
  cases e
  exact ⟨a, cap, ls, rfl, h1, h2, h3⟩
end

namespace JournalLast
open Go.ChangeShapes Go.WideShapes Go.ChangeAt
theorem walk' (W : World) (a : Option Addr) (cap : Nat) (ls : List Cm) (hls : Lies W 1 Cm.vs a ls) (hok : ∀ x ∈ ls, CmOk W x) (hl : ls.length * 24 ≤ 140737488351232) : Calls Tryd.prog 4 #[.slice a ls.length cap] W fun e w' => e = .returned (.bool true) ∧ Below W.heap.size W w' := walk W a cap ls hls hok hl
theorem own : ownKnob Tryd.prog.godebug = none := by kernel_rfl
theorem laidOut : laidOutB Tryd.prog = true := by kernel_rfl

/-- A world for the witness: the listed tables are laid. -/
noncomputable def laidWorld (os : Os) : World := World.laidAll Tryd.prog os Rows.journalLastRow.laid
theorem laid_met (os : Os) : laidMetH Tryd.prog Rows.journalLastRow.laid ((laidWorld os).forCall (fun _ _ => 0) ⟨#[], #[.slice none 0 0], []⟩).memory := by
  rw [MakeChecks.laidMetH_plain _ _ _ (by kernel_rfl)]
  exact laidMet_laidAll _ (by kernel_rfl) (by kernel_rfl)

set_option maxRecDepth 100000 in
theorem lifted (os : Os) (started : os.Started) (H : Type) (enc : TypeId × Value → H) (F : Stop.Interp) :
    ReturnsInHanded {} Tryd.checked os 4 .any ((OpenSpec.ofChange Rows.journalLastSpec).preRow enc Tryd.prog Tryd.f4 Rows.journalLastRow.domain false Rows.journalLastRow.laid) (((OpenSpec.ofChange Rows.journalLastSpec).at F).post enc Tryd.prog Tryd.f4 false true false false) := by
  refine returnsInHanded_of_row (C := Tryd.checked) (s := OpenSpec.ofChange Rows.journalLastSpec) own started (by kernel_rfl) Tryd.func4
    (witness_row_at (enc := enc) (C := Tryd.checked) false (laidWorld os) #[.slice none 0 0] (World.laidAll_os _ _ _) (by kernel_rfl) (by kernel_rfl) (by kernel_rfl)
      (OpenSpec.preRow_of_B rfl 8 (by kernel_rfl) (by kernel_rfl) (laid_met os))) ?_
  intro W base args ds gs before hval0 hW _ _ hsz0 _ _ _
  have hsz : (DataW.weightsEach Tryd.prog (Tryd.f4.params.toList ++ Rows.journalLastSpec.plain.varTypes Tryd.prog) (ds ++ gs)).all (· ≤ reachBytes) = true := hsz0
  clear hsz0
  have hval : ∀ (j : Nat) t v, Tryd.f4.params[j]? = some t → args[j]? = some v → Value.okWide Tryd.prog W .any base t v := hval0
  have hW' := hW
  obtain ⟨p, q, hA0, hV, rfl, hfz, hnd⟩ := hW
  have hA : DataW.TrodAll enc Tryd.prog W 0 (fun _ => true) true Tryd.f4.params.toList args.toList ds p := hA0
  rw [Tryd.params4] at hA hval hsz
  obtain ⟨v0, vs0, d0, ds0, p0, q0, hargs, rfl, rfl, h0, r0⟩ := trodAll_cons hA
  obtain ⟨rfl, rfl, rfl⟩ := trodAll_nil r0
  obtain rfl : args = #[v0] := by cases args; simp_all
  obtain ⟨rfl, rfl⟩ := trodVars_none hV
  have lt0 : ∀ x ∈ p0, x.block < W.heap.size := by obtain ⟨m, hm⟩ := h0; exact DataW.trod_lt m _ _ _ hm
  have hsz' : (DataW.weightsEach Tryd.prog [37] [d0]).all (· ≤ reachBytes) = true := hsz
  obtain ⟨x0a, x0b, x0c, rfl, f0a, f0b, f0c⟩ := open_chss (hval 0 37 v0 rfl rfl) h0 (fits_of_each hsz' (j := 0) rfl rfl)
  clear hA0 hval0
  refine (walk' W x0a x0b x0c f0a f0b f0c).mono fun e W' ⟨he, bel⟩ => ?_
  subst he
  exact ⟨_, rfl, _, _, _, [], _, [], hW', trodAll_mk1 (shut_bool Tryd.underlying4 _), (trodAll_cons_mk (Below.trod laidOut (by kernel_rfl) (of_decide_eq_true (by kernel_rfl)) h0 bel lt0) trodAll_mk0), rfl, bel.frame _, fun h => by cases h⟩

theorem said : Rows.JournalLastSaid :=
  OpenClaim.holds_of_cond 4 Tryd.f4 rfl rfl rfl rfl rfl rfl rfl ⟨rfl, rfl, rfl, rfl, rfl⟩ rfl rfl rfl rfl rfl (by kernel_rfl) Tryd.func4 (by kernel_rfl)
    (of_decide_eq_true (by kernel_rfl)) (by unfold Func.isWrapper; first | (rw [if_pos (by decide +kernel)]; kernel_rfl) | (rw [if_neg (by decide +kernel)]; exact ⟨rfl, rfl⟩))
    (fun os started H enc _ F => by rw [OpenClaim.pre_eq_preRow]; exact lifted os started H enc F)

theorem plain (f : FuncId) (fn : Func) (hf : Tryd.pinned.checked.prog.funcNamed "chandler/chandlerlaw03.JournalLast" = some f) (hfn : Tryd.pinned.checked.prog.funcs[f]? = some fn) :
    false = Tryd.pinned.checked.prog.looks [] ∧ ∀ (j : Nat) t, fn.params[j]? = some t → Tryd.pinned.checked.prog.wantsStandIn t = false := by
  obtain rfl : f = 4 := Option.some.inj ((show Tryd.prog.funcNamed "chandler/chandlerlaw03.JournalLast" = some 4 by kernel_rfl).symm.trans hf) |>.symm
  obtain rfl : fn = Tryd.f4 := (Option.some.inj (Tryd.func4.symm.trans hfn)).symm
  refine ⟨by kernel_rfl, fun j t ht => ?_⟩
  rw [Tryd.params4] at ht
  obtain rfl : t = 37 := by simpa using Array.mem_of_getElem? ht
  exact (show Tryd.prog.wantsStandIn 37 = false by kernel_rfl)

theorem card : Rows.JournalLastCardSaid :=
  Claim7.holds_tied_plain_at .later [] _ _ _ _ said (fun _ h => by cases h) (by kernel_rfl) (fun _ h => by cases h) journalLast_row_tie rfl ⟨rfl, rfl⟩ (by kernel_rfl) rfl plain (by kernel_rfl)

end JournalLast

theorem journalLast_holds : Rows.JournalLastCardSaid := JournalLast.card
#print axioms journalLast_holds

end Go.Proofs.YtbfdmglmolkloaaDoor
