/- Every answer of every script of commits, reads, cuts and opens is the document's, and each byte of the disk behind each call: for every number of sectors, every room and every script. The card ties the two listed tables to the program's text. -/
import Derived.Test.YtbfdmglmolkloaaGreatDoorRows
import Derived.Test.YtbfdmglmolkloaaGreatDoorCards
import Derived.Test.YtbfdmglmolkloaaGreatDoorTie
import Derived.Test.YtbfdmglmolkloaaGreatDoorJnPlays
import Derived.Test.YtbfdmglmolkloaaGreatDoorOpen1
import Derived.Test.YtbfdmglmolkloaaGreatDoorOpen2
import Derived.WalkKit
import Derived.ProofKit
import Derived.OpenShut
import Derived.Lay
import Derived.Deep.DeepHandedRow
namespace Go.Proofs.YtbfdmglmolkloaaGreatDoor
open Go Go.RowKit

section
variable {H : Type} {enc : TypeId × Value → H} {w : World} {base : Nat} {spare : Nat → Bool} {held : Bool}

theorem reach_le : 140737488351232 ≤ maxLen := by unfold maxLen; decide
theorem cellsCh : Tryz.prog.cellsOf 65 = 2 := by kernel_rfl
theorem bytesCh : Tryz.prog.bytesOf 65 = 24 := by kernel_rfl
theorem cellsChs : Tryz.prog.cellsOf 34 = 1 := by kernel_rfl
theorem cellsOp : Tryz.prog.cellsOf 36 = 4 := by kernel_rfl
theorem bytesOp : Tryz.prog.bytesOf 36 = 56 := by kernel_rfl
theorem ch_fields : ∃ f0 f1 : Field, Tryz.prog.underlying 65 = some (.struct #[f0, f1]) ∧ f0.offset = 0 ∧ f0.type = 3 ∧ f1.offset = 1 ∧ f1.type = 9 := ⟨_, _, Tryz.underlying65, rfl, rfl, rfl, rfl⟩
theorem op_fields : ∃ f0 f1 f2 f3 : Field, Tryz.prog.underlying 36 = some (.struct #[f0, f1, f2, f3]) ∧ f0.offset = 0 ∧ f0.type = 3 ∧ f1.offset = 1 ∧ f1.type = 3 ∧ f2.offset = 2 ∧ f2.type = 34 ∧ f3.offset = 3 ∧ f3.type = 9 := ⟨_, _, _, _, Tryz.underlying36, rfl, rfl, rfl, rfl, rfl, rfl, rfl, rfl⟩

/-- A change that was read. -/
theorem one_ch {n : Nat} {cs : List Value} {y : DataW H × List MemPlace} (h : DataW.trod enc Tryz.prog w base spare held n 65 cs = some y) (hfit : Fits Tryz.prog 65 y.1) : ∃ c : Chg, cs = c.cs ∧ (c.data.size ≤ 140737488351232 ∧ -9223372036854775808 ≤ c.pos ∧ c.pos ≤ 9223372036854775807) := by
  obtain ⟨f0, f1, hu, o0, t0, o1, t1⟩ := ch_fields
  have hl := len_of_struct hu h
  rw [cellsCh] at hl
  obtain ⟨m, hc0, hwf⟩ := field_int (k := .i64) hu h 0 f0 rfl (by rw [t0]; exact Tryz.underlying3) (by rw [t0]; exact cellsInt)
  obtain ⟨s, hc1, hs⟩ := field_text hu h hfit 1 f1 rfl (by rw [t1]; exact Tryz.underlying9) (by rw [t1]; exact cellsStr)
  rw [o0] at hc0
  rw [o1] at hc1
  refine ⟨⟨m, s⟩, ?_, hs, (wf_i64 hwf).1, (wf_i64 hwf).2⟩
  apply List.ext_getElem?
  intro j
  match j with
  | 0 => exact hc0
  | 1 => exact hc1
  | j + 2 => rw [List.getElem?_eq_none (by omega), List.getElem?_eq_none (by simp [Chg.cs])]

/-- Changes that were read. -/
theorem deep_chs {fuel : Nat} {cs : List Value} {y : DataW H × List MemPlace} (h : DataW.trod enc Tryz.prog w base spare held fuel 34 cs = some y) (hfit : Fits Tryz.prog 34 y.1) :
    ∃ (a : Option Addr) (cap : Nat) (ls : List Chg), cs = [.slice a ls.length cap] ∧ ChAt w a ls ∧ ls.length * 24 ≤ 140737488351232 := by
  obtain ⟨a, cap, ls, e, l, q, _, _, z⟩ := open_deep (f := Chg.cs) (Q := fun c => c.data.size ≤ 140737488351232 ∧ -9223372036854775808 ≤ c.pos ∧ c.pos ≤ 9223372036854775807) Tryz.underlying34 cellsCh (by decide) chg_len (fun n cs y hy hf => one_ch hy hf) h hfit
  rw [bytesCh] at z
  exact ⟨a, cap, ls, e, ⟨l, fun c hc => Nat.le_trans (q c hc).1 reach_le, fun c hc => (q c hc).2⟩, z⟩

/-- A call of a script that was read. -/
theorem one_jop {n : Nat} {cs : List Value} {y : DataW H × List MemPlace} (h : DataW.trod enc Tryz.prog w base spare held n 36 cs = some y) (hfit : Fits Tryz.prog 36 y.1) : ∃ o : JOp, cs = o.vs ∧ JOk w o := by
  obtain ⟨f0, f1, f2, f3, hu, o0, t0, o1, t1, o2, t2, o3, t3⟩ := op_fields
  have hl := len_of_struct hu h
  rw [cellsOp] at hl
  obtain ⟨kd, hc0, _⟩ := field_int (k := .i64) hu h 0 f0 rfl (by rw [t0]; exact Tryz.underlying3) (by rw [t0]; exact cellsInt)
  obtain ⟨m, hc1, hwf⟩ := field_int (k := .i64) hu h 1 f1 rfl (by rw [t1]; exact Tryz.underlying3) (by rw [t1]; exact cellsInt)
  obtain ⟨n2, y2, h2, s2⟩ := field_fit hu h hfit 2 f2 rfl
  obtain ⟨s, hc3, hs⟩ := field_text hu h hfit 3 f3 rfl (by rw [t3]; exact Tryz.underlying9) (by rw [t3]; exact cellsStr)
  rw [t2] at h2 s2
  obtain ⟨a, cap, ls, e2, hch, z2⟩ := deep_chs h2 s2
  rw [cellsChs] at e2
  have g2 := get_of_take1 e2
  rw [o0] at hc0
  rw [o1] at hc1
  rw [o2] at g2
  rw [o3] at hc3
  refine ⟨⟨kd, m, a, cap, ls, s⟩, ?_, hch, (wf_i64 hwf).2, z2, hs⟩
  apply List.ext_getElem?
  intro j
  match j with
  | 0 => exact hc0
  | 1 => exact hc1
  | 2 => exact g2
  | 3 => exact hc3
  | j + 4 => rw [List.getElem?_eq_none (by omega), List.getElem?_eq_none (by simp [JOp.vs])]

set_option maxRecDepth 100000 in
/-- A script that was read. -/
theorem open_jops {r : Reach} {b0 : Nat} {v : Value} {d : DataW H} {ps : List MemPlace} (hval : Value.okWide Tryz.prog w r b0 22 v) (hd : DataW.Trod enc Tryz.prog w base spare held 22 v d ps) (hfit : Fits Tryz.prog 22 d) :
    ∃ (a : Option Addr) (cap : Nat) (ls : List JOp), v = .slice a ls.length cap ∧ Lies w 4 JOp.vs a ls ∧ (∀ o ∈ ls, JOk w o) ∧ ls.length * 56 ≤ 140737488351232 := by
  obtain ⟨a, len, cap, rfl⟩ := WideShapes.okWide_slice Tryz.underlying22 hval
  obtain ⟨fuel, hf⟩ := hd
  obtain ⟨a', cap', ls, e, l, q, _, _, z⟩ := open_deep (f := JOp.vs) (Q := fun o => JOk w o) Tryz.underlying22 cellsOp (by decide) jop_len (fun n cs y hy hf => one_jop hy hf) hf hfit
  rw [bytesOp] at z
  simp only [Value.cells] at e
  cases e
  exact ⟨a, cap, ls, rfl, l, q, z⟩
end

namespace JournalPlays
open Go.ChangeShapes Go.WideShapes Go.ChangeAt
theorem walk' (W : World) (n : Int) (_n1 : -9223372036854775808 ≤ n) (_n2 : n ≤ 9223372036854775807) (room : Int) (_r1 : -9223372036854775808 ≤ room) (_r2 : room ≤ 9223372036854775807) (a : Option Addr) (cap : Nat) (os : List JOp) (hos : Lies W 4 JOp.vs a os) (hok : ∀ o ∈ os, JOk W o) (hr : os.length * 56 ≤ 140737488351232) :
    Calls Tryz.prog 3 #[.int .i64 n, .int .i64 room, .slice a os.length cap] W fun e w' => e = .returned (.bool true) ∧ Below W.heap.size W w' := walk W n room a cap os hos hok hr
theorem own : ownKnob Tryz.prog.godebug = none := by kernel_rfl
theorem laidOut : laidOutB Tryz.prog = true := by kernel_rfl

/-- A world for the witness: the listed tables are laid. -/
noncomputable def laidWorld (os : Os) : World := World.laidAll Tryz.prog os Rows.journalPlaysRow.laid
theorem laid_met (os : Os) : laidMetH Tryz.prog Rows.journalPlaysRow.laid ((laidWorld os).forCall (fun _ _ => 0) ⟨#[], #[.int .i64 0, .int .i64 0, .slice none 0 0], []⟩).memory := by
  rw [MakeChecks.laidMetH_plain _ _ _ (by kernel_rfl)]
  exact laidMet_laidAll _ (by kernel_rfl) (by kernel_rfl)

set_option maxRecDepth 100000 in
theorem lifted (os : Os) (started : os.Started) (H : Type) (enc : TypeId × Value → H) (F : Stop.Interp) :
    ReturnsInHanded {} Tryz.checked os 3 .any ((OpenSpec.ofChange Rows.journalPlaysSpec).preRow enc Tryz.prog Tryz.f3 Rows.journalPlaysRow.domain false Rows.journalPlaysRow.laid) (((OpenSpec.ofChange Rows.journalPlaysSpec).at F).post enc Tryz.prog Tryz.f3 false true false false) := by
  refine returnsInHanded_of_row (C := Tryz.checked) (s := OpenSpec.ofChange Rows.journalPlaysSpec) own started (by kernel_rfl) Tryz.func3
    (witness_row_at (enc := enc) (C := Tryz.checked) false (laidWorld os) #[.int .i64 0, .int .i64 0, .slice none 0 0] (World.laidAll_os _ _ _) (by kernel_rfl) (by kernel_rfl) (by kernel_rfl)
      (OpenSpec.preRow_of_B rfl 8 (by kernel_rfl) (by kernel_rfl) (laid_met os))) ?_
  intro W base args ds gs before hval0 hW _ _ hsz0 _ _ _
  have hsz : (DataW.weightsEach Tryz.prog (Tryz.f3.params.toList ++ Rows.journalPlaysSpec.plain.varTypes Tryz.prog) (ds ++ gs)).all (· ≤ reachBytes) = true := hsz0
  clear hsz0
  have hval : ∀ (j : Nat) t v, Tryz.f3.params[j]? = some t → args[j]? = some v → Value.okWide Tryz.prog W .any base t v := hval0
  have hW' := hW
  obtain ⟨p, q, hA0, hV, rfl, hfz, hnd⟩ := hW
  have hA : DataW.TrodAll enc Tryz.prog W 0 (fun _ => true) true Tryz.f3.params.toList args.toList ds p := hA0
  rw [Tryz.params3] at hA hval hsz
  obtain ⟨v0, vs0, d0, ds0, p0, q0, hargs, rfl, rfl, h0, r0⟩ := trodAll_cons hA
  obtain ⟨v1, vs1, d1, ds1, p1, q1, rfl, rfl, rfl, h1, r1⟩ := trodAll_cons r0
  obtain ⟨v2, vs2, d2, ds2, p2, q2, rfl, rfl, rfl, h2, r2⟩ := trodAll_cons r1
  obtain ⟨rfl, rfl, rfl⟩ := trodAll_nil r2
  obtain rfl : args = #[v0, v1, v2] := by cases args; simp_all
  obtain ⟨rfl, rfl⟩ := trodVars_none hV
  have lt0 : ∀ x ∈ p0, x.block < W.heap.size := by obtain ⟨m, hm⟩ := h0; exact DataW.trod_lt m _ _ _ hm
  have lt1 : ∀ x ∈ p1, x.block < W.heap.size := by obtain ⟨m, hm⟩ := h1; exact DataW.trod_lt m _ _ _ hm
  have lt2 : ∀ x ∈ p2, x.block < W.heap.size := by obtain ⟨m, hm⟩ := h2; exact DataW.trod_lt m _ _ _ hm
  have hsz' : (DataW.weightsEach Tryz.prog [3, 3, 22] [d0, d1, d2]).all (· ≤ reachBytes) = true := hsz
  obtain ⟨n0, rfl, rfl, rfl, wf0⟩ := open_int Tryz.underlying3 (hval 0 3 v0 rfl rfl) h0
  have lh0 := wf_i64 wf0
  obtain ⟨n1, rfl, rfl, rfl, wf1⟩ := open_int Tryz.underlying3 (hval 1 3 v1 rfl rfl) h1
  have lh1 := wf_i64 wf1
  obtain ⟨x2a, x2b, x2c, rfl, f2a, f2b, f2c⟩ := open_jops (hval 2 22 v2 rfl rfl) h2 (fits_of_each hsz' (j := 2) rfl rfl)
  clear hA0 hval0
  refine (walk' W n0 lh0.1 lh0.2 n1 lh1.1 lh1.2 x2a x2b x2c f2a f2b f2c).mono fun e W' ⟨he, bel⟩ => ?_
  subst he
  exact ⟨_, rfl, _, _, _, [], _, [], hW', trodAll_mk1 (shut_bool Tryz.underlying4 _), (trodAll_cons_mk (Below.trod laidOut (by kernel_rfl) (of_decide_eq_true (by kernel_rfl)) h0 bel lt0) (trodAll_cons_mk (Below.trod laidOut (by kernel_rfl) (of_decide_eq_true (by kernel_rfl)) h1 bel lt1) (trodAll_cons_mk (Below.trod laidOut (by kernel_rfl) (of_decide_eq_true (by kernel_rfl)) h2 bel lt2) trodAll_mk0))), rfl, bel.frame _, fun h => by cases h⟩

theorem said : Rows.JournalPlaysSaid :=
  OpenClaim.holds_of_cond 3 Tryz.f3 rfl rfl rfl rfl rfl rfl rfl ⟨rfl, rfl, rfl, rfl, rfl⟩ rfl rfl rfl rfl rfl (by kernel_rfl) Tryz.func3 (by kernel_rfl)
    (of_decide_eq_true (by kernel_rfl)) (by unfold Func.isWrapper; first | (rw [if_pos (by decide +kernel)]; kernel_rfl) | (rw [if_neg (by decide +kernel)]; exact ⟨rfl, rfl⟩))
    (fun os started H enc _ F => by rw [OpenClaim.pre_eq_preRow]; exact lifted os started H enc F)

theorem plain (f : FuncId) (fn : Func) (hf : Tryz.pinned.checked.prog.funcNamed "chandler/chandlerlaw03.JournalPlays" = some f) (hfn : Tryz.pinned.checked.prog.funcs[f]? = some fn) :
    false = Tryz.pinned.checked.prog.looks [] ∧ ∀ (j : Nat) t, fn.params[j]? = some t → Tryz.pinned.checked.prog.wantsStandIn t = false := by
  obtain rfl : f = 3 := Option.some.inj ((show Tryz.prog.funcNamed "chandler/chandlerlaw03.JournalPlays" = some 3 by kernel_rfl).symm.trans hf) |>.symm
  obtain rfl : fn = Tryz.f3 := (Option.some.inj (Tryz.func3.symm.trans hfn)).symm
  refine ⟨by kernel_rfl, fun j t ht => ?_⟩
  rw [Tryz.params3] at ht
  have ht2 : t = 3 ∨ t = 22 := by simpa using Array.mem_of_getElem? ht
  rcases ht2 with rfl | rfl
  · exact (show Tryz.prog.wantsStandIn 3 = false by kernel_rfl)
  · exact (show Tryz.prog.wantsStandIn 22 = false by kernel_rfl)

theorem card : Rows.JournalPlaysCardSaid :=
  Claim7.holds_tied_plain_at .later [] _ _ _ _ said (fun _ h => by cases h) (by kernel_rfl) (fun _ h => by cases h) journalPlays_row_tie rfl ⟨rfl, rfl⟩ (by kernel_rfl) rfl plain (by kernel_rfl)

end JournalPlays

theorem journalPlays_holds : Rows.JournalPlaysCardSaid := JournalPlays.card
#print axioms journalPlays_holds

end Go.Proofs.YtbfdmglmolkloaaGreatDoor
