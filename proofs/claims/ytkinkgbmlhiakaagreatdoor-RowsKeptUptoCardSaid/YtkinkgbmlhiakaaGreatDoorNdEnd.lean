/- merged: Open1 UpG RoKepC -/
import Derived.Test.YtkinkgbmlhiakaaGreatDoorProg
import Derived.Test.YtkinkgbmlhiakaaGreatDoorNd01
import Derived.ProofKit
import Derived.Deep.Slices
import Derived.SizedLaws
import Derived.Test.YtkinkgbmlhiakaaGreatDoorRows
import Derived.Test.YtkinkgbmlhiakaaGreatDoorCards
import Derived.Test.YtkinkgbmlhiakaaGreatDoorTie
import Derived.Test.YtkinkgbmlhiakaaGreatDoorNd36
import Derived.Test.YtkinkgbmlhiakaaGreatDoorNd33
import Derived.OpenShut
import Derived.Lay
import Derived.Deep.DeepHandedRow
namespace Go.Proofs.YtkinkgbmlhiakaaGreatDoor
section
open Go Go.RowKit
theorem cellsInt : Tryz.prog.cellsOf 3 = 1 := by kernel_rfl
theorem cellsStr : Tryz.prog.cellsOf 9 = 1 := by kernel_rfl
theorem wf_i64 {n : Int} (h : (Lit.int .i64 n).wf = true) : -9223372036854775808 <= n /\ n <= 9223372036854775807 := by
 simp only [Lit.wf, Bool.and_eq_true, decide_eq_true_eq] at h; have a1 : IntKind.min .i64 = -9223372036854775808 := rfl; have a2 : IntKind.max .i64 = 9223372036854775807 := rfl; rw [a1, a2] at h; exact h
section
variable {H : Type} {enc : TypeId × Value -> H} {w : World} {base : Nat} {spare : Nat -> Bool} {held : Bool}
end
end
section
open Go Go.RowKit
theorem jHx (a : Addr) (x j : Nat) : (a.add x).add j = a.add (x + j) := by
 unfold Addr.add; by_cases hz : x = 0 <;> by_cases hj : j = 0 <;> simp [hz, hj]
 ·omega
section
variable {H : Type} {enc : TypeId × Value -> H} {w : World} {base : Nat} {spare : Nat -> Bool} {held : Bool}
theorem jHq (d : DataW H) : 1 <= Rows.uptoBulk d := by
 cases d with
 | lit l => cases l <;> simp [Rows.uptoBulk]
 | _ => simp [Rows.uptoBulk]
theorem qWs {d : DataW H} {l : List (DataW H)} (h : d ∈ l) : Rows.uptoBulk d <= Rows.uptoBulkAll l := by
 induction l with
 | nil => cases h
 | cons x r ih =>
  simp only [Rows.uptoBulkAll]; rcases List.mem_cons.1 h with rfl | e
  ·omega
  ·have := ih e; omega
theorem jHr (l : List (DataW H)) : l.length <= Rows.uptoBulkAll l := by
 induction l with
 | nil => simp [Rows.uptoBulkAll]
 | cons x r ih => have := jHq x; simp only [Rows.uptoBulkAll, List.length_cons]; omega
theorem bulk_all {l : List (DataW H)} (hk : Rows.uptoSmall H l = true) : ∀ d ∈ l, Rows.uptoBulk d <= 1048576 := fun d hd => by
 have h1 : Rows.uptoBulkAll l <= 1048576 := of_decide_eq_true hk; exact Nat.le_trans (qWs hd) h1
theorem open_small {α : Type} {f : α -> List Value} {Q : α -> Prop} {size : Nat} {t e : TypeId} {fuel : Nat} {cs : List Value} {y : DataW H × List MemPlace} (ht : Tryz.prog.underlying t = some (.slice e)) (hc : Tryz.prog.cellsOf e = size) (hs0 : 0 < size)
  (hf : ∀ x, (f x).length = size) (hel : ∀ (n : Nat) (cs : List Value) (y : DataW H × List MemPlace), DataW.trod enc Tryz.prog w base spare held n e cs = some y -> Rows.uptoBulk y.1 <= 1048576 -> ∃ x, cs = f x /\ Q x)
  (h : DataW.trod enc Tryz.prog w base spare held fuel t cs = some y) (hfit : Rows.uptoBulk y.1 <= 1048576) :
  ∃ (a : Option Addr) (cap : Nat) (ls : List α), cs = [.slice a ls.length cap] /\ Lies w size f a ls /\ (∀ x ∈ ls, Q x) /\ ls.length <= 1048576 := by
 rcases Deep.open_slice ht h with ⟨rfl, _⟩ | ⟨a', len, cap, m, n, D, Pl, rfl, hb, hl, hm, hmm, hx, hev0⟩
 ·exact ⟨none, 0, [], rfl, ⟨⟨by simp, fun _ => rfl, fun a ha => by cases ha⟩, fun h => by simp at h, fun _ h => by simp at h⟩, fun x hx => by simp at hx, Nat.zero_le _⟩
 ·have hml : len <= m := by rw [hmm]; split <;> omega
  rw [hx] at hfit; simp only [Rows.uptoBulk] at hfit; have hlen0 := jHr ((List.range len).map D); rw [List.length_map, List.length_range] at hlen0; have hev : ∀ i, i < len -> ∃ x, w.cells? base (a'.add (i * size)) size = some (f x) /\ Q x := fun i hi => by
   obtain ⟨cs', h1, h2⟩ := hev0 i (by omega)
   have hbi := qWs (H := H) (d := D i) (l := (List.range len).map D) (List.mem_map.2 ⟨i, List.mem_range.2 hi, rfl⟩); obtain ⟨x, rfl, hq⟩ := hel n cs' _ h2 (by show Rows.uptoBulk (D i) <= 1048576; omega)
   rw [hc] at h1; exact ⟨x, h1, hq⟩
  have hlist : ∀ k, k <= len -> ∃ ls : List α, ls.length = k /\ (∀ x ∈ ls, Q x) /\ ∀ (i : Nat) x, ls[i]? = some x -> w.cells? base (a'.add (i * size)) size = some (f x) := by
   intro k; induction k with
   | zero => exact fun _ => ⟨[], rfl, fun x h => by simp at h, fun i x h => by simp at h⟩
   | succ k ih =>
    intro hk; obtain ⟨ls, h1, hq, h2⟩ := ih (by omega)
    obtain ⟨x, hx', hqx⟩ := hev k (by omega)
    refine ⟨ls ++ [x], by simp [h1], fun z hz => ?_, fun i y hy => ?_⟩
    ·rcases List.mem_append.1 hz with h | h
     ·exact hq z h
     ·simp at h; subst h; exact hqx
    ·rw [List.getElem?_append] at hy; split at hy
     ·exact h2 i y hy
     ·have : i = k := by
       rcases Nat.lt_or_ge (i - ls.length) 1 with h | h
       ·omega
       ·rw [List.getElem?_eq_none (by simpa using h)] at hy; cases hy
      subst this; rw [h1, Nat.sub_self] at hy; simp at hy
      subst hy; exact hx'
  obtain ⟨ls, h1, hq, h2⟩ := hlist len (Nat.le_refl _); have hcell : ∀ (i : Nat) x, ls[i]? = some x -> ∀ j u, (f x)[j]? = some u -> w.cell? (a'.add (i * size + j)) = some u := by
   intro i x hi j u hu; have h3 := (World.cells?_some (h2 i x hi)).2.2 j (by have := (List.getElem?_eq_some_iff.1 hu).1; rwa [hf] at this)
   rw [hu] at h3; rw [<- h3]; rw [jHx]
  refine ⟨some a', cap, ls, by rw [h1], ⟨⟨by rw [qDo hf], fun h => (by cases h), fun a'' ha j u hu => ?_⟩, fun hlen x hx => ?_, fun k hlen hk => ?_⟩, hq, by omega⟩
  ·cases ha
   have hj : j = j / size * size + j % size := by rw [Nat.mul_comm]; exact (Nat.div_add_mod j size).symm
   rw [hj, qJi hf ls _ _ (Nat.mod_lt _ hs0)] at hu; rw [hj]; cases hls : ls[j / size]? with
   | none => rw [hls] at hu; cases hu
   | some x => rw [hls] at hu; exact hcell _ x hls _ u hu
  ·cases hx
   obtain ⟨x, hx0⟩ : ∃ x, ls[0]? = some x := ⟨ls[0]'(by omega), by simp⟩
   have := hcell 0 x hx0 0 _ (List.getElem?_eq_getElem (by rw [hf]; exact hs0))
   simp only [Nat.zero_mul, Nat.add_zero] at this; unfold World.cell? at this; simp only [Addr.add, if_true] at this; split at this
   ·split at this
    ·cases this
    ·rename_i h; simpa using h
   ·cases this
  ·obtain ⟨a'', ha, rfl⟩ := hk; cases ha
   obtain ⟨x, hx0⟩ : ∃ x, ls[0]? = some x := ⟨ls[0]'(by omega), by simp⟩
   have := hcell 0 x hx0 0 _ (List.getElem?_eq_getElem (by rw [hf]; exact hs0))
   have := World.block_lt_of_cell? _ _ this
   simpa [Addr.add] using this
theorem small_text {n : Nat} {cs : List Value} {y : DataW H × List MemPlace} (h : DataW.trod enc Tryz.prog w base spare held n 9 cs = some y) (hfit : Rows.uptoBulk y.1 <= 1048576) : ∃ s : ByteArray, cs = [.string s] /\ s.size <= 1048576 := by
 obtain ⟨s, hcs, hx, _⟩ := DataW.trod_string Tryz.underlying9 h; refine ⟨s, hcs, ?_⟩; rw [hx] at hfit; simp only [Rows.uptoBulk] at hfit; have e : s.data.toList.length = s.size := by rw [Array.length_toList]; rfl
 omega
end
end
end Go.Proofs.YtkinkgbmlhiakaaGreatDoor
namespace Go.Proofs.YtkinkgbmlhiakaaGreatDoor
open Go Go.RowKit
section
variable {H : Type} {enc : TypeId × Value → H} {w : World} {base : Nat} {spare : Nat → Bool} {held : Bool}
set_option maxRecDepth 100000 in
theorem open_long64 {r : Reach} {b0 : Nat} {v : Value} {d : DataW H} {ps : List MemPlace} (hval : Value.okWide Tryz.prog w r b0 43 v) (hd : DataW.Trod enc Tryz.prog w base spare held 43 v d ps) (hb : Rows.uptoBulk d ≤ 1048576) :
    ∃ (a : Option Addr) (cap : Nat) (ls : List Int), v = .slice a ls.length cap ∧ Lies w 1 oneI a ls ∧ (∀ x ∈ ls, I64 x) ∧ ls.length ≤ 1048576 := by
  obtain ⟨a, len, cap, rfl⟩ := WideShapes.okWide_slice Tryz.underlying43 hval
  obtain ⟨fuel, hf⟩ := hd
  obtain ⟨a', cap', ls, e, l, q, z⟩ := open_small (f := oneI) (Q := I64) Tryz.underlying43 (show Tryz.prog.cellsOf 2 = 1 by kernel_rfl) (by decide) oneI_len (fun n cs y hy _ => by
    obtain ⟨m, rfl, _, hwf⟩ := DataW.trod_int Tryz.underlying2 hy
    exact ⟨m, rfl, wf_i64 hwf⟩) hf hb
  simp only [Value.cells] at e
  cases e
  exact ⟨a, cap, ls, rfl, l, q, z⟩
set_option maxRecDepth 100000 in
theorem open_gone {r : Reach} {b0 : Nat} {v : Value} {d : DataW H} {ps : List MemPlace} (hval : Value.okWide Tryz.prog w r b0 56 v) (hd : DataW.Trod enc Tryz.prog w base spare held 56 v d ps) (hb : Rows.uptoBulk d ≤ 1048576) :
    ∃ (a : Option Addr) (cap : Nat) (ls : List Int), v = .slice a ls.length cap ∧ Lies w 1 oneI a ls ∧ (∀ x ∈ ls, I64 x) ∧ ls.length ≤ 1048576 := by
  obtain ⟨a, len, cap, rfl⟩ := WideShapes.okWide_slice Tryz.underlying56 hval
  obtain ⟨fuel, hf⟩ := hd
  obtain ⟨a', cap', ls, e, l, q, z⟩ := open_small (f := oneI) (Q := I64) Tryz.underlying56 cellsInt (by decide) oneI_len (fun n cs y hy _ => by
    obtain ⟨m, rfl, _, hwf⟩ := DataW.trod_int Tryz.underlying3 hy
    exact ⟨m, rfl, wf_i64 hwf⟩) hf hb
  simp only [Value.cells] at e
  cases e
  exact ⟨a, cap, ls, rfl, l, q, z⟩
set_option maxRecDepth 100000 in
theorem open_names {r : Reach} {b0 : Nat} {v : Value} {d : DataW H} {ps : List MemPlace} (hval : Value.okWide Tryz.prog w r b0 68 v) (hd : DataW.Trod enc Tryz.prog w base spare held 68 v d ps) (hb : Rows.uptoBulk d ≤ 1048576) :
    ∃ (a : Option Addr) (cap : Nat) (ls : List ByteArray), v = .slice a ls.length cap ∧ Lies w 1 oneT a ls ∧ (∀ x ∈ ls, x.size ≤ 1048576) ∧ ls.length ≤ 1048576 := by
  obtain ⟨a, len, cap, rfl⟩ := WideShapes.okWide_slice Tryz.underlying68 hval
  obtain ⟨fuel, hf⟩ := hd
  obtain ⟨a', cap', ls, e, l, q, z⟩ := open_small (f := oneT) (Q := fun s => s.size ≤ 1048576) Tryz.underlying68 cellsStr (by decide) (fun _ => rfl) (fun n cs y hy hb => small_text hy hb) hf hb
  simp only [Value.cells] at e
  cases e
  exact ⟨a, cap, ls, rfl, l, q, z⟩
end
namespace RowsKept
open Go.ChangeShapes Go.WideShapes Go.ChangeAt
theorem own : ownKnob Tryz.prog.godebug = none := by kernel_rfl
theorem laidOut : laidOutB Tryz.prog = true := by kernel_rfl
set_option maxRecDepth 100000 in
theorem contract (H : Type) (enc : TypeId × Value → H) (W : World) (base : Nat) (args : Array Value) (ds gs : List (DataW H)) (before : List MemPlace)
    (hval0 : ∀ (j : Nat) t v, Tryz.f6.params[j]? = some t → args[j]? = some v → Value.okWide Tryz.prog W .any base t v)
    (hW : DataW.Whole enc Tryz.prog Tryz.f6.params.toList Rows.rowsKeptSpec.vars false W args.toList ds gs before) (hk : Rows.uptoSmall H (ds ++ gs) = true) :
    Calls Tryz.prog 6 args W fun e W' => ∃ v, e = .returned v ∧ Rows.rowsKeptSpec.post enc Tryz.prog Tryz.f6 false true false false W args v W' := by
  have hbk := bulk_all hk
  have hval : ∀ (j : Nat) t v, Tryz.f6.params[j]? = some t → args[j]? = some v → Value.okWide Tryz.prog W .any base t v := hval0
  have hW' := hW
  obtain ⟨p, q, hA0, hV, rfl, hfz, hnd⟩ := hW
  have hA : DataW.TrodAll enc Tryz.prog W 0 (fun _ => true) true Tryz.f6.params.toList args.toList ds p := hA0
  rw [Tryz.params6] at hA hval
  obtain ⟨v0, vs0, d0, ds0, p0, q0, hargs, rfl, rfl, h0, r0⟩ := trodAll_cons hA
  obtain ⟨v1, vs1, d1, ds1, p1, q1, rfl, rfl, rfl, h1, r1⟩ := trodAll_cons r0
  obtain ⟨v2, vs2, d2, ds2, p2, q2, rfl, rfl, rfl, h2, r2⟩ := trodAll_cons r1
  obtain ⟨rfl, rfl, rfl⟩ := trodAll_nil r2
  obtain rfl : args = #[v0, v1, v2] := by cases args; simp_all
  obtain ⟨rfl, rfl⟩ := trodVars_none hV
  have lt0 : ∀ x ∈ p0, x.block < W.heap.size := by obtain ⟨m, hm⟩ := h0; exact DataW.trod_lt m _ _ _ hm
  have lt1 : ∀ x ∈ p1, x.block < W.heap.size := by obtain ⟨m, hm⟩ := h1; exact DataW.trod_lt m _ _ _ hm
  have lt2 : ∀ x ∈ p2, x.block < W.heap.size := by obtain ⟨m, hm⟩ := h2; exact DataW.trod_lt m _ _ _ hm
  obtain ⟨x0a, x0b, x0c, rfl, f0a, f0b, f0c⟩ := open_names (hval 0 68 v0 rfl rfl) h0 (hbk d0 (by simp))
  obtain ⟨x1a, x1b, x1c, rfl, f1a, f1b, f1c⟩ := open_long64 (hval 1 43 v1 rfl rfl) h1 (hbk d1 (by simp))
  obtain ⟨x2a, x2b, x2c, rfl, f2a, f2b, f2c⟩ := open_gone (hval 2 56 v2 rfl rfl) h2 (hbk d2 (by simp))
  clear hA0 hval0
  refine (walk' W x0a x0b x0c f0a f0b f0c x1a x1b x1c f1a f1b f1c x2a x2b x2c f2a f2b f2c).mono fun e W' ⟨he, bel⟩ => ?_
  subst he
  exact ⟨_, rfl, _, _, _, [], _, [], hW', trodAll_mk1 (shut_bool Tryz.underlying4 _), (trodAll_cons_mk (RowKit.Below.trod laidOut (by kernel_rfl) (of_decide_eq_true (by kernel_rfl)) h0 bel lt0) (trodAll_cons_mk (RowKit.Below.trod laidOut (by kernel_rfl) (of_decide_eq_true (by kernel_rfl)) h1 bel lt1) (trodAll_cons_mk (RowKit.Below.trod laidOut (by kernel_rfl) (of_decide_eq_true (by kernel_rfl)) h2 bel lt2) trodAll_mk0))), rfl, bel.frame _, fun h => by cases h⟩
noncomputable def laidWorld (os : Os) : World := World.laidAll Tryz.prog os Rows.rowsKeptUptoRow.laid
theorem laid_met (os : Os) : laidMetH Tryz.prog Rows.rowsKeptUptoRow.laid ((laidWorld os).forCall (fun _ _ => 0) ⟨#[], #[.slice none 0 0, .slice none 0 0, .slice none 0 0], []⟩).memory := by
  rw [MakeChecks.laidMetH_plain _ _ _ (by kernel_rfl)]
  exact laidMet_laidAll _ (by kernel_rfl) (by kernel_rfl)
theorem reads (os : Os) {H : Type} (enc : TypeId × Value → H) : ∃ places, DataW.whole enc Tryz.prog ((laidWorld os).forCall (fun _ _ => 0) ⟨#[], #[.slice none 0 0, .slice none 0 0, .slice none 0 0], []⟩).memory Tryz.f6.params.toList Rows.rowsKeptSpec.vars false #[Value.slice none 0 0, Value.slice none 0 0, Value.slice none 0 0].toList 8 = some ([.nil, .nil, .nil], [], places) :=
  ⟨[], by kernel_rfl⟩
set_option maxRecDepth 100000 in
theorem lifted (os : Os) (started : os.Started) (H : Type) (enc : TypeId × Value → H) (F : Stop.Interp) :
    ReturnsInHanded {} Tryz.checked os 6 .any ((Rows.OpenSpec.upto Rows.rowsKeptSpec).preRow enc Tryz.prog Tryz.f6 Rows.rowsKeptUptoRow.domain false Rows.rowsKeptUptoRow.laid) (((Rows.OpenSpec.upto Rows.rowsKeptSpec).at F).post enc Tryz.prog Tryz.f6 false true false false) := by
  obtain ⟨places, hx⟩ := reads os enc
  refine returnsInHanded_of_row (C := Tryz.checked) (s := Rows.OpenSpec.upto Rows.rowsKeptSpec) own started (by kernel_rfl) Tryz.func6
    (witness_row_at (enc := enc) (C := Tryz.checked) false (laidWorld os) #[.slice none 0 0, .slice none 0 0, .slice none 0 0] (World.laidAll_os _ _ _) (by kernel_rfl) (by kernel_rfl) (by kernel_rfl)
      (OpenSpec.preRow_of_cond 8 hx (by kernel_rfl) (fun k hk => by cases hk; kernel_rfl) (by kernel_rfl) (laid_met os))) ?_
  intro W base args ds gs before hval hW _ hcond _ _ _ _
  exact contract H enc W base args ds gs before hval hW (hcond _ rfl)
theorem saidUpto : Rows.RowsKeptUptoSaid :=
  OpenClaim.holds_of_cond 6 Tryz.f6 rfl rfl rfl rfl rfl rfl rfl ⟨rfl, rfl, rfl, rfl, rfl⟩ rfl rfl rfl rfl rfl (by kernel_rfl) Tryz.func6 (by kernel_rfl)
    (of_decide_eq_true (by kernel_rfl)) (by unfold Func.isWrapper; first | (rw [if_pos (by decide +kernel)]; kernel_rfl) | (rw [if_neg (by decide +kernel)]; exact ⟨rfl, rfl⟩))
    (fun os started H enc _ F => by rw [OpenClaim.pre_eq_preRow]; exact lifted os started H enc F)
theorem plain (f : FuncId) (fn : Func) (hf : Tryz.pinned.checked.prog.funcNamed "chandler/chandlerlaw06.RowsKept" = some f) (hfn : Tryz.pinned.checked.prog.funcs[f]? = some fn) :
    false = Tryz.pinned.checked.prog.looks [] ∧ ∀ (j : Nat) t, fn.params[j]? = some t → Tryz.pinned.checked.prog.wantsStandIn t = false := by
  obtain rfl : f = 6 := Option.some.inj ((show Tryz.prog.funcNamed "chandler/chandlerlaw06.RowsKept" = some 6 by kernel_rfl).symm.trans hf) |>.symm
  obtain rfl : fn = Tryz.f6 := (Option.some.inj (Tryz.func6.symm.trans hfn)).symm
  refine ⟨by kernel_rfl, fun j t ht => ?_⟩
  rw [Tryz.params6] at ht
  have ht2 : t = 68 ∨ t = 43 ∨ t = 56 := by simpa using Array.mem_of_getElem? ht
  rcases ht2 with rfl | rfl | rfl
  · exact (show Tryz.prog.wantsStandIn 68 = false by kernel_rfl)
  · exact (show Tryz.prog.wantsStandIn 43 = false by kernel_rfl)
  · exact (show Tryz.prog.wantsStandIn 56 = false by kernel_rfl)
theorem cardUpto : Rows.RowsKeptUptoCardSaid :=
  Claim7.holds_tied_plain_at .later [] _ _ _ _ saidUpto (fun _ h => by cases h) (by kernel_rfl) (fun _ h => by cases h) rowsKeptUpto_row_tie rfl ⟨rfl, rfl⟩ (by kernel_rfl) rfl plain (by kernel_rfl)
end RowsKept
theorem rowsKept_holds : Rows.RowsKeptUptoCardSaid := RowsKept.cardUpto
end Go.Proofs.YtkinkgbmlhiakaaGreatDoor
