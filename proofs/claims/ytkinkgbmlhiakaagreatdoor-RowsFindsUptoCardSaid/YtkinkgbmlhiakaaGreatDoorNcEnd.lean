/- merged: RwOpn RoFinC -/
import Derived.Test.YtkinkgbmlhiakaaGreatDoorNc34
import Derived.Test.YtkinkgbmlhiakaaGreatDoorNc32
import Derived.Test.YtkinkgbmlhiakaaGreatDoorRows
import Derived.Test.YtkinkgbmlhiakaaGreatDoorCards
import Derived.Test.YtkinkgbmlhiakaaGreatDoorTie
import Derived.Test.YtkinkgbmlhiakaaGreatDoorNc01
import Derived.OpenShut
import Derived.Lay
import Derived.Deep.DeepHandedRow
namespace Go.Proofs.YtkinkgbmlhiakaaGreatDoor
section
open Go Go.RowKit
section
variable {H : Type} {enc : TypeId × Value -> H} {w : World} {base : Nat} {spare : Nat -> Bool} {held : Bool}
theorem jIh : Tryz.prog.cellsOf 5 = 1 := by kernel_rfl
theorem jFo : Tryz.prog.cellsOf 2 = 1 := by kernel_rfl
theorem jBi : Tryz.prog.cellsOf 44 = 1 := by kernel_rfl
theorem qWl : Tryz.prog.cellsOf 22 = 1 := by kernel_rfl
theorem jFn : Tryz.prog.cellsOf 24 = 4 := by kernel_rfl
theorem jFm : Tryz.prog.cellsOf 46 = 2 := by kernel_rfl
theorem qVj : ∃ f0 f1 f2 f3 : Field, Tryz.prog.underlying 24 = some (.struct #[f0, f1, f2, f3]) /\ f0.offset = 0 /\ f0.type = 5 /\ f1.offset = 1 /\ f1.type = 22 /\ f2.offset = 2 /\ f2.type = 3 /\ f3.offset = 3 /\ f3.type = 3 :=
 ⟨_, _, _, _, Tryz.underlying24, rfl, rfl, rfl, rfl, rfl, rfl, rfl, rfl⟩
theorem val_fields : ∃ f0 f1 : Field, Tryz.prog.underlying 46 = some (.struct #[f0, f1]) /\ f0.offset = 0 /\ f0.type = 2 /\ f1.offset = 1 /\ f1.type = 9 :=
 ⟨_, _, Tryz.underlying46, rfl, rfl, rfl, rfl⟩
set_option maxRecDepth 100000
theorem qRc {fuel : Nat} {cs : List Value} {y : DataW H × List MemPlace} (h : DataW.trod enc Tryz.prog w base spare held fuel 22 cs = some y) (hfit : Rows.uptoBulk y.1 <= 1048576) :
  ∃ (a : Option Addr) (cap : Nat) (ls : List Int), cs = [.slice a ls.length cap] /\ Lies w 1 oneI a ls /\ (∀ x ∈ ls, True) /\ ls.length <= 1048576 :=
 open_small (f := oneI) (Q := fun _ => True) Tryz.underlying22 jBi (by decide) qDb (fun n cs y hy _ => by
  obtain ⟨m, rfl, _, _⟩ := DataW.trod_int Tryz.underlying44 hy; exact ⟨m, rfl, trivial⟩) h hfit
theorem small_val {fuel : Nat} {cs : List Value} {y : DataW H × List MemPlace} (h : DataW.trod enc Tryz.prog w base spare held fuel 46 cs = some y) (hfit : Rows.uptoBulk y.1 <= 1048576) :
  ∃ v : Vl, cs = v.cs /\ v.Ok /\ v.s.size <= 1048576 := by
 obtain ⟨f0, f1, hu, o0, t0, o1, t1⟩ := val_fields; have hl := len_of_struct hu h; rw [jFm] at hl; obtain ⟨n, g0, hwf⟩ := qIo hu h 0 f0 rfl (by rw [t0]; exact Tryz.underlying2) (by rw [t0]; exact jFo)
 obtain ⟨n1, y1, h1, s1⟩ := field_small hu h hfit 1 f1 rfl; rw [t1] at h1; obtain ⟨s, e1, z1⟩ := small_text h1 s1; rw [cellsStr] at e1; have g1 := get_of_take1 e1; rw [o0] at g0; rw [o1] at g1; have hw := jIv hwf; refine ⟨⟨n, s⟩, ?_, ⟨hw.1, hw.2, by simp only; omega⟩, z1⟩
 apply List.ext_getElem?; intro j
 match j with
 | 0 => exact g0
 | 1 => exact g1
 | j + 2 => rw [List.getElem?_eq_none (by omega), List.getElem?_eq_none (by simp [Vl.cs])]
theorem open_table {r : Reach} {b0 : Nat} {v : Value} {d : DataW H} {ps : List MemPlace} (hval : Value.okWide Tryz.prog w r b0 24 v) (hd : DataW.Trod enc Tryz.prog w base spare held 24 v d ps) (hb : Rows.uptoBulk d <= 1048576) :
  ∃ (name keys idx : Int) (ca : Option Addr) (cc : Nat) (cols : List Int), v = .agg #[.int .u8 name, .slice ca cols.length cc, .int .i64 keys, .int .i64 idx] /\ Lies w 1 oneI ca cols /\ cols.length <= 1048576 := by
 obtain ⟨f0, f1, f2, f3, hu, o0, t0, o1, t1, o2, t2, o3, t3⟩ := qVj; obtain ⟨cs, n, rfl, h⟩ := open_agg hu hval hd; have hl := len_of_struct hu h; rw [jFn] at hl; obtain ⟨name, g0, _⟩ := qIo hu h 0 f0 rfl (by rw [t0]; exact Tryz.underlying5) (by rw [t0]; exact jIh)
 obtain ⟨keys, g2, _⟩ := qIo hu h 2 f2 rfl (by rw [t2]; exact Tryz.underlying3) (by rw [t2]; exact qUn)
 obtain ⟨idx, g3, _⟩ := qIo hu h 3 f3 rfl (by rw [t3]; exact Tryz.underlying3) (by rw [t3]; exact qUn)
 obtain ⟨n1, y1, h1, s1⟩ := field_small hu h hb 1 f1 rfl; rw [t1] at h1; obtain ⟨ca, cc, cols, e1, l1, _, z1⟩ := qRc h1 s1; rw [qWl] at e1; have g1 := get_of_take1 e1; rw [o0] at g0; rw [o1] at g1; rw [o2] at g2; rw [o3] at g3; refine ⟨name, keys, idx, ca, cc, cols, ?_, l1, z1⟩; have : cs = [.int .u8 name, .slice ca cols.length cc, .int .i64 keys, .int .i64 idx] := by
  apply List.ext_getElem?; intro j
  match j with
  | 0 => exact g0
  | 1 => exact g1
  | 2 => exact g2
  | 3 => exact g3
  | j + 4 => rw [List.getElem?_eq_none (by omega), List.getElem?_eq_none (by simp)]
 rw [this]
end
end
end Go.Proofs.YtkinkgbmlhiakaaGreatDoor
namespace Go.Proofs.YtkinkgbmlhiakaaGreatDoor
open Go Go.RowKit
section
variable {H : Type} {enc : TypeId × Value → H} {w : World} {base : Nat} {spare : Nat → Bool} {held : Bool}
theorem cellsCh : Tryz.prog.cellsOf 113 = 3 := by kernel_rfl
theorem cellsBool : Tryz.prog.cellsOf 4 = 1 := by kernel_rfl
theorem ch_fields : ∃ f0 f1 f2 : Field, Tryz.prog.underlying 113 = some (.struct #[f0, f1, f2]) ∧ f0.offset = 0 ∧ f0.type = 9 ∧ f1.offset = 1 ∧ f1.type = 9 ∧ f2.offset = 2 ∧ f2.type = 4 := ⟨_, _, _, Tryz.underlying113, rfl, rfl, rfl, rfl, rfl, rfl⟩
theorem small_le : 1048576 ≤ maxLen := by unfold maxLen; decide
theorem one_ch {n : Nat} {cs : List Value} {y : DataW H × List MemPlace} (h : DataW.trod enc Tryz.prog w base spare held n 113 cs = some y) (hfit : Rows.uptoBulk y.1 ≤ 1048576) : ∃ c : Cg, cs = ccs c ∧ (c.key.size ≤ maxLen ∧ c.value.size ≤ maxLen) := by
  obtain ⟨f0, f1, f2, hu, o0, t0, o1, t1, o2, t2⟩ := ch_fields
  have hl := len_of_struct hu h
  rw [cellsCh] at hl
  obtain ⟨n0, y0, h0, s0⟩ := field_small hu h hfit 0 f0 rfl
  obtain ⟨n1, y1, h1, s1⟩ := field_small hu h hfit 1 f1 rfl
  obtain ⟨b, hc2⟩ := field_bool hu h 2 f2 rfl (by rw [t2]; exact Tryz.underlying4) (by rw [t2]; exact cellsBool)
  rw [t0] at h0
  rw [t1] at h1
  obtain ⟨k, e0, z0⟩ := small_text h0 s0
  obtain ⟨v, e1, z1⟩ := small_text h1 s1
  rw [cellsStr] at e0 e1
  have g0 := get_of_take1 e0
  have g1 := get_of_take1 e1
  rw [o0] at g0
  rw [o1] at g1
  rw [o2] at hc2
  refine ⟨⟨k, v, b⟩, ?_, Nat.le_trans z0 small_le, Nat.le_trans z1 small_le⟩
  apply List.ext_getElem?
  intro j
  match j with
  | 0 => exact g0
  | 1 => exact g1
  | 2 => exact hc2
  | j + 3 => rw [List.getElem?_eq_none (by omega), List.getElem?_eq_none (by simp)]
theorem small_chs {fuel : Nat} {cs : List Value} {y : DataW H × List MemPlace} (h : DataW.trod enc Tryz.prog w base spare held fuel 34 cs = some y) (hfit : Rows.uptoBulk y.1 ≤ 1048576) :
    ∃ (a : Option Addr) (cap : Nat) (ls : List Cg), cs = [.slice a ls.length cap] ∧ Lies w 3 ccs a ls ∧ (∀ c ∈ ls, c.key.size ≤ maxLen ∧ c.value.size ≤ maxLen) ∧ ls.length ≤ 1048576 :=
  open_small (f := ccs) (Q := fun c => c.key.size ≤ maxLen ∧ c.value.size ≤ maxLen) Tryz.underlying34 cellsCh (by decide) ccs_len (fun n cs y hy hb => one_ch hy hb) h hfit
set_option maxRecDepth 100000 in
theorem open_batch {r : Reach} {b0 : Nat} {v : Value} {d : DataW H} {ps : List MemPlace} (hval : Value.okWide Tryz.prog w r b0 34 v) (hd : DataW.Trod enc Tryz.prog w base spare held 34 v d ps) (hb : Rows.uptoBulk d ≤ 1048576) :
    ∃ (a : Option Addr) (cap : Nat) (ls : List Cg), v = .slice a ls.length cap ∧ Lies w 3 ccs a ls ∧ (∀ c ∈ ls, c.key.size ≤ maxLen ∧ c.value.size ≤ maxLen) ∧ ls.length ≤ 1048576 := by
  obtain ⟨a, len, cap, rfl⟩ := WideShapes.okWide_slice Tryz.underlying34 hval
  obtain ⟨fuel, hf⟩ := hd
  obtain ⟨a', cap', ls, e, l, q, z⟩ := small_chs hf hb
  simp only [Value.cells] at e
  cases e
  exact ⟨a, cap, ls, rfl, l, q, z⟩
set_option maxRecDepth 100000 in
theorem open_val {r : Reach} {b0 : Nat} {v : Value} {d : DataW H} {ps : List MemPlace} (hval : Value.okWide Tryz.prog w r b0 46 v) (hd : DataW.Trod enc Tryz.prog w base spare held 46 v d ps) (hb : Rows.uptoBulk d ≤ 1048576) :
    ∃ u : Vl, v = .agg #[.int .i64 u.n, .string u.s] ∧ u.Ok := by
  obtain ⟨f0, f1, hu, _⟩ := val_fields
  obtain ⟨cs, n, rfl, h⟩ := open_agg hu hval hd
  obtain ⟨u, rfl, h1, _⟩ := small_val h hb
  exact ⟨u, rfl, h1⟩
end
namespace RowsFinds
open Go.ChangeShapes Go.WideShapes Go.ChangeAt
theorem own : ownKnob Tryz.prog.godebug = none := by kernel_rfl
theorem laidOut : laidOutB Tryz.prog = true := by kernel_rfl
set_option maxRecDepth 100000 in
theorem contract (H : Type) (enc : TypeId × Value → H) (W : World) (base : Nat) (args : Array Value) (ds gs : List (DataW H)) (before : List MemPlace)
    (hval0 : ∀ (j : Nat) t v, Tryz.f5.params[j]? = some t → args[j]? = some v → Value.okWide Tryz.prog W .any base t v)
    (hW : DataW.Whole enc Tryz.prog Tryz.f5.params.toList Rows.rowsFindsSpec.vars false W args.toList ds gs before) (hk : Rows.uptoSmall H (ds ++ gs) = true) :
    Calls Tryz.prog 5 args W fun e W' => ∃ v, e = .returned v ∧ Rows.rowsFindsSpec.post enc Tryz.prog Tryz.f5 false true false false W args v W' := by
  have hbk := bulk_all hk
  have hval : ∀ (j : Nat) t v, Tryz.f5.params[j]? = some t → args[j]? = some v → Value.okWide Tryz.prog W .any base t v := hval0
  have hW' := hW
  obtain ⟨p, q, hA0, hV, rfl, hfz, hnd⟩ := hW
  have hA : DataW.TrodAll enc Tryz.prog W 0 (fun _ => true) true Tryz.f5.params.toList args.toList ds p := hA0
  rw [Tryz.params5] at hA hval
  obtain ⟨v0, vs0, d0, ds0, p0, q0, hargs, rfl, rfl, h0, r0⟩ := trodAll_cons hA
  obtain ⟨v1, vs1, d1, ds1, p1, q1, rfl, rfl, rfl, h1, r1⟩ := trodAll_cons r0
  obtain ⟨v2, vs2, d2, ds2, p2, q2, rfl, rfl, rfl, h2, r2⟩ := trodAll_cons r1
  obtain ⟨rfl, rfl, rfl⟩ := trodAll_nil r2
  obtain rfl : args = #[v0, v1, v2] := by cases args; simp_all
  obtain ⟨rfl, rfl⟩ := trodVars_none hV
  have lt0 : ∀ x ∈ p0, x.block < W.heap.size := by obtain ⟨m, hm⟩ := h0; exact DataW.trod_lt m _ _ _ hm
  have lt1 : ∀ x ∈ p1, x.block < W.heap.size := by obtain ⟨m, hm⟩ := h1; exact DataW.trod_lt m _ _ _ hm
  have lt2 : ∀ x ∈ p2, x.block < W.heap.size := by obtain ⟨m, hm⟩ := h2; exact DataW.trod_lt m _ _ _ hm
  obtain ⟨x0a, x0b, x0c, x0d, x0e, x0f, rfl, f0a, f0b⟩ := open_table (hval 0 24 v0 rfl rfl) h0 (hbk d0 (by simp))
  obtain ⟨x1a, x1b, x1c, rfl, f1a, f1b, f1c⟩ := open_batch (hval 1 34 v1 rfl rfl) h1 (hbk d1 (by simp))
  obtain ⟨x2a, rfl, f2a⟩ := open_val (hval 2 46 v2 rfl rfl) h2 (hbk d2 (by simp))
  clear hA0 hval0
  refine (walk' W x0a x0b x0c x0d x0e x0f f0a f0b x1a x1b x1c f1a f1b f1c x2a f2a).mono fun e W' ⟨he, bel⟩ => ?_
  subst he
  exact ⟨_, rfl, _, _, _, [], _, [], hW', trodAll_mk1 (shut_bool Tryz.underlying4 _), (trodAll_cons_mk (RowKit.Below.trod laidOut (by kernel_rfl) (of_decide_eq_true (by kernel_rfl)) h0 bel lt0) (trodAll_cons_mk (RowKit.Below.trod laidOut (by kernel_rfl) (of_decide_eq_true (by kernel_rfl)) h1 bel lt1) (trodAll_cons_mk (RowKit.Below.trod laidOut (by kernel_rfl) (of_decide_eq_true (by kernel_rfl)) h2 bel lt2) trodAll_mk0))), rfl, bel.frame _, fun h => by cases h⟩
noncomputable def laidWorld (os : Os) : World := World.laidAll Tryz.prog os Rows.rowsFindsUptoRow.laid
theorem laid_met (os : Os) : laidMetH Tryz.prog Rows.rowsFindsUptoRow.laid ((laidWorld os).forCall (fun _ _ => 0) ⟨#[], #[.agg #[.int .u8 0, .slice none 0 0, .int .i64 0, .int .i64 0], .slice none 0 0, .agg #[.int .i64 0, .string ⟨#[]⟩]], []⟩).memory := by
  rw [MakeChecks.laidMetH_plain _ _ _ (by kernel_rfl)]
  exact laidMet_laidAll _ (by kernel_rfl) (by kernel_rfl)
theorem reads (os : Os) {H : Type} (enc : TypeId × Value → H) : ∃ places, DataW.whole enc Tryz.prog ((laidWorld os).forCall (fun _ _ => 0) ⟨#[], #[.agg #[.int .u8 0, .slice none 0 0, .int .i64 0, .int .i64 0], .slice none 0 0, .agg #[.int .i64 0, .string ⟨#[]⟩]], []⟩).memory Tryz.f5.params.toList Rows.rowsFindsSpec.vars false #[Value.agg #[.int .u8 0, .slice none 0 0, .int .i64 0, .int .i64 0], Value.slice none 0 0, Value.agg #[.int .i64 0, .string ⟨#[]⟩]].toList 8 = some ([.agg [.lit (.int .u8 0), .nil, .lit (.int .i64 0), .lit (.int .i64 0)], .nil, .agg [.lit (.int .i64 0), .lit (.string [])]], [], places) :=
  ⟨[], by kernel_rfl⟩
set_option maxRecDepth 100000 in
theorem lifted (os : Os) (started : os.Started) (H : Type) (enc : TypeId × Value → H) (F : Stop.Interp) :
    ReturnsInHanded {} Tryz.checked os 5 .any ((Rows.OpenSpec.upto Rows.rowsFindsSpec).preRow enc Tryz.prog Tryz.f5 Rows.rowsFindsUptoRow.domain false Rows.rowsFindsUptoRow.laid) (((Rows.OpenSpec.upto Rows.rowsFindsSpec).at F).post enc Tryz.prog Tryz.f5 false true false false) := by
  obtain ⟨places, hx⟩ := reads os enc
  refine returnsInHanded_of_row (C := Tryz.checked) (s := Rows.OpenSpec.upto Rows.rowsFindsSpec) own started (by kernel_rfl) Tryz.func5
    (witness_row_at (enc := enc) (C := Tryz.checked) false (laidWorld os) #[.agg #[.int .u8 0, .slice none 0 0, .int .i64 0, .int .i64 0], .slice none 0 0, .agg #[.int .i64 0, .string ⟨#[]⟩]] (World.laidAll_os _ _ _) (by kernel_rfl) (by kernel_rfl) (by kernel_rfl)
      (OpenSpec.preRow_of_cond 8 hx (by kernel_rfl) (fun k hk => by cases hk; kernel_rfl) (by kernel_rfl) (laid_met os))) ?_
  intro W base args ds gs before hval hW _ hcond _ _ _ _
  exact contract H enc W base args ds gs before hval hW (hcond _ rfl)
theorem saidUpto : Rows.RowsFindsUptoSaid :=
  OpenClaim.holds_of_cond 5 Tryz.f5 rfl rfl rfl rfl rfl rfl rfl ⟨rfl, rfl, rfl, rfl, rfl⟩ rfl rfl rfl rfl rfl (by kernel_rfl) Tryz.func5 (by kernel_rfl)
    (of_decide_eq_true (by kernel_rfl)) (by unfold Func.isWrapper; first | (rw [if_pos (by decide +kernel)]; kernel_rfl) | (rw [if_neg (by decide +kernel)]; exact ⟨rfl, rfl⟩))
    (fun os started H enc _ F => by rw [OpenClaim.pre_eq_preRow]; exact lifted os started H enc F)
theorem plain (f : FuncId) (fn : Func) (hf : Tryz.pinned.checked.prog.funcNamed "chandler/chandlerlaw06.RowsFinds" = some f) (hfn : Tryz.pinned.checked.prog.funcs[f]? = some fn) :
    false = Tryz.pinned.checked.prog.looks [] ∧ ∀ (j : Nat) t, fn.params[j]? = some t → Tryz.pinned.checked.prog.wantsStandIn t = false := by
  obtain rfl : f = 5 := Option.some.inj ((show Tryz.prog.funcNamed "chandler/chandlerlaw06.RowsFinds" = some 5 by kernel_rfl).symm.trans hf) |>.symm
  obtain rfl : fn = Tryz.f5 := (Option.some.inj (Tryz.func5.symm.trans hfn)).symm
  refine ⟨by kernel_rfl, fun j t ht => ?_⟩
  rw [Tryz.params5] at ht
  have ht2 : t = 24 ∨ t = 34 ∨ t = 46 := by simpa using Array.mem_of_getElem? ht
  rcases ht2 with rfl | rfl | rfl
  · exact (show Tryz.prog.wantsStandIn 24 = false by kernel_rfl)
  · exact (show Tryz.prog.wantsStandIn 34 = false by kernel_rfl)
  · exact (show Tryz.prog.wantsStandIn 46 = false by kernel_rfl)
theorem cardUpto : Rows.RowsFindsUptoCardSaid :=
  Claim7.holds_tied_plain_at .later [] _ _ _ _ saidUpto (fun _ h => by cases h) (by kernel_rfl) (fun _ h => by cases h) rowsFindsUpto_row_tie rfl ⟨rfl, rfl⟩ (by kernel_rfl) rfl plain (by kernel_rfl)
end RowsFinds
theorem rowsFinds_holds : Rows.RowsFindsUptoCardSaid := RowsFinds.cardUpto
end Go.Proofs.YtkinkgbmlhiakaaGreatDoor
