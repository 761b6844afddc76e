/- Whatever stands in the head, Open refuses it or brings just the copies that it names to their sectors; once more it changes nothing: for every head and copies. The card ties the two listed tables to the program's text. -/
import Derived.Test.YtbfdmglmolkloaaDoorRows
import Derived.Test.YtbfdmglmolkloaaDoorCards
import Derived.Test.YtbfdmglmolkloaaDoorTie
import Derived.Test.YtbfdmglmolkloaaDoorJnHeads
import Derived.WalkKit
import Derived.ProofKit
import Derived.OpenShut
import Derived.ShutString
import Derived.ChangeMaps5
import Derived.Lay
import Derived.Deep.DeepHandedRow
namespace Go.Proofs.YtbfdmglmolkloaaDoor
open Go Go.RowKit

section
variable {H : Type} {enc : TypeId × Value → H} {w : World} {base : Nat} {spare : Nat → Bool} {held : Bool}

theorem bytesStr : Tryd.prog.bytesOf 9 = 16 := by kernel_rfl

set_option maxRecDepth 100000 in
theorem open_strs {r : Reach} {b0 : Nat} {v : Value} {d : DataW H} {ps : List MemPlace} (hval : Value.okWide Tryd.prog w r b0 38 v) (hd : DataW.Trod enc Tryd.prog w base spare held 38 v d ps) (hfit : Fits Tryd.prog 38 d) :
    ∃ (a : Option Addr) (cap : Nat) (ls : List ByteArray), v = .slice a ls.length cap ∧ Lies w 1 (fun s : ByteArray => [.string s]) a ls ∧ (∀ s ∈ ls, s.size ≤ maxLen) ∧ ls.length * 16 ≤ 140737488351232 := by
  obtain ⟨a, len, cap, rfl⟩ := WideShapes.okWide_slice Tryd.underlying38 hval
  obtain ⟨fuel, hf⟩ := hd
  obtain ⟨a', cap', ls, e, h1, h2, _, _, h3⟩ := open_deep (f := fun s : ByteArray => [.string s]) (Q := fun s => s.size ≤ 140737488351232) Tryd.underlying38 cellsStr (by decide) (fun _ => rfl) (fun n cs y hy hf => text_fit Tryd.underlying9 hy hf) hf hfit
  rw [bytesStr] at h3
  simp only [Value.cells] at e
  cases e
  exact ⟨a, cap, ls, rfl, h1, fun s hs => Nat.le_trans (h2 s hs) reach_le, h3⟩
end

namespace JournalHeads
open Go.ChangeShapes Go.WideShapes Go.ChangeAt Go.ChangeMaps
theorem walk' (W : World) (hd : ByteArray) (hds : hd.size ≤ maxLen) (_ : hd.size ≤ 140737488351232) (a : Option Addr) (cap : Nat) (ss : List ByteArray) (hss : Lies W 1 (fun s : ByteArray => [.string s]) a ss) (hsz : ∀ s ∈ ss, s.size ≤ maxLen) (hl : ss.length * 16 ≤ 140737488351232) : Calls Tryd.prog 5 #[.string hd, .slice a ss.length cap] W fun e w' => e = .returned (.bool true) ∧ Below W.heap.size W w' := walk W hd hds a cap ss hss hsz hl
theorem own : ownKnob Tryd.prog.godebug = none := by kernel_rfl
theorem laidOut : laidOutB Tryd.prog = true := by kernel_rfl

/-- A world for the witness: the listed tables are laid. -/
noncomputable def laidWorld (os : Os) : World := World.laidAll Tryd.prog os Rows.journalHeadsRow.laid
theorem laid_met (os : Os) : laidMetH Tryd.prog Rows.journalHeadsRow.laid ((laidWorld os).forCall (fun _ _ => 0) ⟨#[], #[.string ⟨#[]⟩, .slice none 0 0], []⟩).memory := by
  rw [MakeChecks.laidMetH_plain _ _ _ (by kernel_rfl)]
  exact laidMet_laidAll _ (by kernel_rfl) (by kernel_rfl)

set_option maxRecDepth 100000 in
theorem lifted (os : Os) (started : os.Started) (H : Type) (enc : TypeId × Value → H) (F : Stop.Interp) :
    ReturnsInHanded {} Tryd.checked os 5 .any ((OpenSpec.ofChange Rows.journalHeadsSpec).preRow enc Tryd.prog Tryd.f5 Rows.journalHeadsRow.domain false Rows.journalHeadsRow.laid) (((OpenSpec.ofChange Rows.journalHeadsSpec).at F).post enc Tryd.prog Tryd.f5 false true false false) := by
  refine returnsInHanded_of_row (C := Tryd.checked) (s := OpenSpec.ofChange Rows.journalHeadsSpec) own started (by kernel_rfl) Tryd.func5
    (witness_row_at (enc := enc) (C := Tryd.checked) false (laidWorld os) #[.string ⟨#[]⟩, .slice none 0 0] (World.laidAll_os _ _ _) (by kernel_rfl) (by kernel_rfl) (by kernel_rfl)
      (OpenSpec.preRow_of_B rfl 8 (by kernel_rfl) (by kernel_rfl) (laid_met os))) ?_
  intro W base args ds gs before hval0 hW _ _ hsz0 _ _ _
  have hsz : (DataW.weightsEach Tryd.prog (Tryd.f5.params.toList ++ Rows.journalHeadsSpec.plain.varTypes Tryd.prog) (ds ++ gs)).all (· ≤ reachBytes) = true := hsz0
  clear hsz0
  have hval : ∀ (j : Nat) t v, Tryd.f5.params[j]? = some t → args[j]? = some v → Value.okWide Tryd.prog W .any base t v := hval0
  have hW' := hW
  obtain ⟨p, q, hA0, hV, rfl, hfz, hnd⟩ := hW
  have hA : DataW.TrodAll enc Tryd.prog W 0 (fun _ => true) true Tryd.f5.params.toList args.toList ds p := hA0
  rw [Tryd.params5] at hA hval hsz
  obtain ⟨v0, vs0, d0, ds0, p0, q0, hargs, rfl, rfl, h0, r0⟩ := trodAll_cons hA
  obtain ⟨v1, vs1, d1, ds1, p1, q1, rfl, rfl, rfl, h1, r1⟩ := trodAll_cons r0
  obtain ⟨rfl, rfl, rfl⟩ := trodAll_nil r1
  obtain rfl : args = #[v0, v1] := by cases args; simp_all
  obtain ⟨rfl, rfl⟩ := trodVars_none hV
  have lt0 : ∀ x ∈ p0, x.block < W.heap.size := by obtain ⟨m, hm⟩ := h0; exact DataW.trod_lt m _ _ _ hm
  have lt1 : ∀ x ∈ p1, x.block < W.heap.size := by obtain ⟨m, hm⟩ := h1; exact DataW.trod_lt m _ _ _ hm
  have hsz' : (DataW.weightsEach Tryd.prog [9, 38] [d0, d1]).all (· ≤ reachBytes) = true := hsz
  obtain ⟨s0, rfl, rfl, rfl, ws0⟩ := open_string Tryd.underlying9 (hval 0 9 v0 rfl rfl) h0
  have wt0 : s0.size ≤ 140737488351232 := by have := (fits_of_each hsz' (j := 0) rfl rfl) s0.data.toList.length (by simp [DataW.weights]); simpa using this
  obtain ⟨x1a, x1b, x1c, rfl, f1a, f1b, f1c⟩ := open_strs (hval 1 38 v1 rfl rfl) h1 (fits_of_each hsz' (j := 1) rfl rfl)
  clear hA0 hval0
  refine (walk' W s0 ws0 wt0 x1a x1b x1c f1a f1b f1c).mono fun e W' ⟨he, bel⟩ => ?_
  subst he
  exact ⟨_, rfl, _, _, _, [], _, [], hW', trodAll_mk1 (shut_bool Tryd.underlying4 _), (trodAll_cons_mk (Below.trod laidOut (by kernel_rfl) (of_decide_eq_true (by kernel_rfl)) h0 bel lt0) (trodAll_cons_mk (Below.trod laidOut (by kernel_rfl) (of_decide_eq_true (by kernel_rfl)) h1 bel lt1) trodAll_mk0)), rfl, bel.frame _, fun h => by cases h⟩

theorem said : Rows.JournalHeadsSaid :=
  OpenClaim.holds_of_cond 5 Tryd.f5 rfl rfl rfl rfl rfl rfl rfl ⟨rfl, rfl, rfl, rfl, rfl⟩ rfl rfl rfl rfl rfl (by kernel_rfl) Tryd.func5 (by kernel_rfl)
    (of_decide_eq_true (by kernel_rfl)) (by unfold Func.isWrapper; first | (rw [if_pos (by decide +kernel)]; kernel_rfl) | (rw [if_neg (by decide +kernel)]; exact ⟨rfl, rfl⟩))
    (fun os started H enc _ F => by rw [OpenClaim.pre_eq_preRow]; exact lifted os started H enc F)

theorem plain (f : FuncId) (fn : Func) (hf : Tryd.pinned.checked.prog.funcNamed "chandler/chandlerlaw03.JournalHeads" = some f) (hfn : Tryd.pinned.checked.prog.funcs[f]? = some fn) :
    false = Tryd.pinned.checked.prog.looks [] ∧ ∀ (j : Nat) t, fn.params[j]? = some t → Tryd.pinned.checked.prog.wantsStandIn t = false := by
  obtain rfl : f = 5 := Option.some.inj ((show Tryd.prog.funcNamed "chandler/chandlerlaw03.JournalHeads" = some 5 by kernel_rfl).symm.trans hf) |>.symm
  obtain rfl : fn = Tryd.f5 := (Option.some.inj (Tryd.func5.symm.trans hfn)).symm
  refine ⟨by kernel_rfl, fun j t ht => ?_⟩
  rw [Tryd.params5] at ht
  have ht2 : t = 9 ∨ t = 38 := by simpa using Array.mem_of_getElem? ht
  rcases ht2 with rfl | rfl
  · exact (show Tryd.prog.wantsStandIn 9 = false by kernel_rfl)
  · exact (show Tryd.prog.wantsStandIn 38 = false by kernel_rfl)

theorem card : Rows.JournalHeadsCardSaid :=
  Claim7.holds_tied_plain_at .later [] _ _ _ _ said (fun _ h => by cases h) (by kernel_rfl) (fun _ h => by cases h) journalHeads_row_tie rfl ⟨rfl, rfl⟩ (by kernel_rfl) rfl plain (by kernel_rfl)

end JournalHeads

theorem journalHeads_holds : Rows.JournalHeadsCardSaid := JournalHeads.card
#print axioms journalHeads_holds

end Go.Proofs.YtbfdmglmolkloaaDoor
