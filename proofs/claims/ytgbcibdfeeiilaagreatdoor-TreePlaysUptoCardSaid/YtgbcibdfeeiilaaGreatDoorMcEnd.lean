/- merged: TeUp TePlaysC -/
import Derived.Test.YtgbcibdfeeiilaaGreatDoorRows
import Derived.Test.YtgbcibdfeeiilaaGreatDoorMc36
import Derived.Test.YtgbcibdfeeiilaaGreatDoorMc01
import Derived.WalkKit
import Derived.ProofKit
import Derived.OpenShut
import Derived.Lay
import Derived.Deep.DeepHandedRow
import Derived.Test.YtgbcibdfeeiilaaGreatDoorCards
import Derived.Test.YtgbcibdfeeiilaaGreatDoorTie
namespace Go.Proofs.YtgbcibdfeeiilaaGreatDoor
section
open Go Go.RowKit
theorem jGm (a : Addr) (x j : Nat) : (a.add x).add j = a.add (x + j) := by
 unfold Addr.add; by_cases hz : x = 0 <;> by_cases hj : j = 0 <;> simp [hz, hj]
 ·omega
section
variable {H : Type} {enc : TypeId × Value -> H} {w : World} {base : Nat} {spare : Nat -> Bool} {held : Bool}
theorem jGf (d : DataW H) : 1 <= Rows.uptoBulk d := by
 cases d with
 | lit l => cases l <;> simp [Rows.uptoBulk]
 | _ => simp [Rows.uptoBulk]
theorem qQb {d : DataW H} {l : List (DataW H)} (h : d ∈ l) : Rows.uptoBulk d <= Rows.uptoBulkAll l := by
 induction l with
 | nil => cases h
 | cons x r ih =>
  simp only [Rows.uptoBulkAll]; rcases List.mem_cons.1 h with rfl | e
  ·omega
  ·have := ih e; omega
theorem jGg (l : List (DataW H)) : l.length <= Rows.uptoBulkAll l := by
 induction l with
 | nil => simp [Rows.uptoBulkAll]
 | cons x r ih => have := jGf x; simp only [Rows.uptoBulkAll, List.length_cons]; omega
theorem bulk_all {l : List (DataW H)} (hk : Rows.uptoSmall H l = true) : ∀ d ∈ l, Rows.uptoBulk d <= 1048576 := fun d hd => by
 have h1 : Rows.uptoBulkAll l <= 1048576 := of_decide_eq_true hk; exact Nat.le_trans (qQb hd) h1
theorem qNp {α : Type} {f : α -> List Value} {Q : α -> Prop} {size : Nat} {t e : TypeId} {fuel : Nat} {cs : List Value} {y : DataW H × List MemPlace} (ht : Tryz.prog.underlying t = some (.slice e)) (hc : Tryz.prog.cellsOf e = size) (hs0 : 0 < size)
  (hf : ∀ x, (f x).length = size) (hel : ∀ (n : Nat) (cs : List Value) (y : DataW H × List MemPlace), DataW.trod enc Tryz.prog w base spare held n e cs = some y -> Rows.uptoBulk y.1 <= 1048576 -> ∃ x, cs = f x /\ Q x)
  (h : DataW.trod enc Tryz.prog w base spare held fuel t cs = some y) (hfit : Rows.uptoBulk y.1 <= 1048576) :
  ∃ (a : Option Addr) (cap : Nat) (ls : List α), cs = [.slice a ls.length cap] /\ Lies w size f a ls /\ (∀ x ∈ ls, Q x) /\ ls.length <= 1048576 := by
 rcases Deep.open_slice ht h with ⟨rfl, _⟩ | ⟨a', len, cap, m, n, D, Pl, rfl, hb, hl, hm, hmm, hx, hev0⟩
 ·exact ⟨none, 0, [], rfl, ⟨⟨by simp, fun _ => rfl, fun a ha => by cases ha⟩, fun h => by simp at h, fun _ h => by simp at h⟩, fun x hx => by simp at hx, Nat.zero_le _⟩
 ·have hml : len <= m := by rw [hmm]; split <;> omega
  rw [hx] at hfit; simp only [Rows.uptoBulk] at hfit; have hlen0 := jGg ((List.range len).map D); rw [List.length_map, List.length_range] at hlen0; have hev : ∀ i, i < len -> ∃ x, w.cells? base (a'.add (i * size)) size = some (f x) /\ Q x := fun i hi => by
   obtain ⟨cs', h1, h2⟩ := hev0 i (by omega)
   have hbi := qQb (H := H) (d := D i) (l := (List.range len).map D) (List.mem_map.2 ⟨i, List.mem_range.2 hi, rfl⟩); obtain ⟨x, rfl, hq⟩ := hel n cs' _ h2 (by show Rows.uptoBulk (D i) <= 1048576; omega)
   rw [hc] at h1; exact ⟨x, h1, hq⟩
  have hlist : ∀ k, k <= len -> ∃ ls : List α, ls.length = k /\ (∀ x ∈ ls, Q x) /\ ∀ (i : Nat) x, ls[i]? = some x -> w.cells? base (a'.add (i * size)) size = some (f x) := by
   intro k; induction k with
   | zero => exact fun _ => ⟨[], rfl, fun x h => by simp at h, fun i x h => by simp at h⟩
   | succ k ih =>
    intro hk; obtain ⟨ls, h1, hq, h2⟩ := ih (by omega)
    obtain ⟨x, hx', hqx⟩ := hev k (by omega)
    refine ⟨ls ++ [x], by simp [h1], fun z hz => ?_, fun i y hy => ?_⟩
    ·rcases List.mem_append.1 hz with h | h
     ·exact hq z h
     ·simp at h; subst h; exact hqx
    ·rw [List.getElem?_append] at hy; split at hy
     ·exact h2 i y hy
     ·have : i = k := by
       rcases Nat.lt_or_ge (i - ls.length) 1 with h | h
       ·omega
       ·rw [List.getElem?_eq_none (by simpa using h)] at hy; cases hy
      subst this; rw [h1, Nat.sub_self] at hy; simp at hy
      subst hy; exact hx'
  obtain ⟨ls, h1, hq, h2⟩ := hlist len (Nat.le_refl _); have hcell : ∀ (i : Nat) x, ls[i]? = some x -> ∀ j u, (f x)[j]? = some u -> w.cell? (a'.add (i * size + j)) = some u := by
   intro i x hi j u hu; have h3 := (World.cells?_some (h2 i x hi)).2.2 j (by have := (List.getElem?_eq_some_iff.1 hu).1; rwa [hf] at this)
   rw [hu] at h3; rw [<- h3]; rw [jGm]
  refine ⟨some a', cap, ls, by rw [h1], ⟨⟨by rw [qDt hf], fun h => (by cases h), fun a'' ha j u hu => ?_⟩, fun hlen x hx => ?_, fun k hlen hk => ?_⟩, hq, by omega⟩
  ·cases ha
   have hj : j = j / size * size + j % size := by rw [Nat.mul_comm]; exact (Nat.div_add_mod j size).symm
   rw [hj, qJc hf ls _ _ (Nat.mod_lt _ hs0)] at hu; rw [hj]; cases hls : ls[j / size]? with
   | none => rw [hls] at hu; cases hu
   | some x => rw [hls] at hu; exact hcell _ x hls _ u hu
  ·cases hx
   obtain ⟨x, hx0⟩ : ∃ x, ls[0]? = some x := ⟨ls[0]'(by omega), by simp⟩
   have := hcell 0 x hx0 0 _ (List.getElem?_eq_getElem (by rw [hf]; exact hs0))
   simp only [Nat.zero_mul, Nat.add_zero] at this; unfold World.cell? at this; simp only [Addr.add, if_true] at this; split at this
   ·split at this
    ·cases this
    ·rename_i h; simpa using h
   ·cases this
  ·obtain ⟨a'', ha, rfl⟩ := hk; cases ha
   obtain ⟨x, hx0⟩ : ∃ x, ls[0]? = some x := ⟨ls[0]'(by omega), by simp⟩
   have := hcell 0 x hx0 0 _ (List.getElem?_eq_getElem (by rw [hf]; exact hs0))
   have := World.block_lt_of_cell? _ _ this
   simpa [Addr.add] using this
theorem qJr {n : Nat} {cs : List Value} {y : DataW H × List MemPlace} (h : DataW.trod enc Tryz.prog w base spare held n 9 cs = some y) (hfit : Rows.uptoBulk y.1 <= 1048576) : ∃ s : ByteArray, cs = [.string s] /\ s.size <= 1048576 := by
 obtain ⟨s, hcs, hx, _⟩ := DataW.trod_string Tryz.underlying9 h; refine ⟨s, hcs, ?_⟩; rw [hx] at hfit; simp only [Rows.uptoBulk] at hfit; have e : s.data.toList.length = s.size := by rw [Array.length_toList]; rfl
 omega
theorem qGb {fs : Array Field} {t : TypeId} {fuel : Nat} {cs : List Value} {x : DataW H × List MemPlace} (ht : Tryz.prog.underlying t = some (.struct fs)) (h : DataW.trod enc Tryz.prog w base spare held fuel t cs = some x) (hfit : Rows.uptoBulk x.1 <= 1048576)
  (i : Nat) (f : Field) (hf : fs[i]? = some f) : ∃ n y, DataW.trod enc Tryz.prog w base spare held n f.type ((cs.drop f.offset).take (Tryz.prog.cellsOf f.type)) = some y /\ Rows.uptoBulk y.1 <= 1048576 := by
 obtain ⟨xs, n, _, hx, _, hlen, hall⟩ := DataW.trod_struct ht h; have hi : i < xs.length := by rw [hlen]; exact (Array.getElem?_eq_some_iff.1 hf).1
 refine ⟨n, xs[i], by rw [hall i f hf]; simp [hi], ?_⟩
 rw [hx] at hfit; simp only [Rows.uptoBulk] at hfit; have := qQb (H := H) (d := xs[i].1) (l := xs.map (·.1)) (List.mem_map.2 ⟨xs[i], by simp, rfl⟩)
 omega
theorem jCk : Tryz.prog.cellsOf 67 = 3 := by kernel_rfl
theorem jGd : Tryz.prog.cellsOf 43 = 1 := by kernel_rfl
theorem jCj : Tryz.prog.cellsOf 56 = 4 := by kernel_rfl
theorem jCl : Tryz.prog.cellsOf 4 = 1 := by kernel_rfl
theorem jCg : ∃ f0 f1 f2 : Field, Tryz.prog.underlying 67 = some (.struct #[f0, f1, f2]) /\ f0.offset = 0 /\ f0.type = 9 /\ f1.offset = 1 /\ f1.type = 9 /\ f2.offset = 2 /\ f2.type = 4 := ⟨_, _, _, Tryz.underlying67, rfl, rfl, rfl, rfl, rfl, rfl⟩
theorem jAe : ∃ f0 f1 f2 f3 : Field, Tryz.prog.underlying 56 = some (.struct #[f0, f1, f2, f3]) /\ f0.offset = 0 /\ f0.type = 3 /\ f1.offset = 1 /\ f1.type = 3 /\ f2.offset = 2 /\ f2.type = 43 /\ f3.offset = 3 /\ f3.type = 9 := ⟨_, _, _, _, Tryz.underlying56, rfl, rfl, rfl, rfl, rfl, rfl, rfl, rfl⟩
theorem qUu : 1048576 <= maxLen := by unfold maxLen; decide
theorem jJl {n : Nat} {cs : List Value} {y : DataW H × List MemPlace} (h : DataW.trod enc Tryz.prog w base spare held n 67 cs = some y) (hfit : Rows.uptoBulk y.1 <= 1048576) : ∃ c : Cg, cs = ccs c /\ (c.key.size <= maxLen /\ c.value.size <= maxLen) := by
 obtain ⟨f0, f1, f2, hu, o0, t0, o1, t1, o2, t2⟩ := jCg; have hl := qIw hu h; rw [jCk] at hl; obtain ⟨n0, y0, h0, s0⟩ := qGb hu h hfit 0 f0 rfl; obtain ⟨n1, y1, h1, s1⟩ := qGb hu h hfit 1 f1 rfl; obtain ⟨b, hc2⟩ := qXw hu h 2 f2 rfl (by rw [t2]; exact Tryz.underlying4) (by rw [t2]; exact jCl)
 rw [t0] at h0; rw [t1] at h1; obtain ⟨k, e0, z0⟩ := qJr h0 s0; obtain ⟨v, e1, z1⟩ := qJr h1 s1; rw [qWk] at e0 e1; have g0 := qDj e0; have g1 := qDj e1; rw [o0] at g0; rw [o1] at g1; rw [o2] at hc2; refine ⟨⟨k, v, b⟩, ?_, Nat.le_trans z0 qUu, Nat.le_trans z1 qUu⟩; apply List.ext_getElem?; intro j
 match j with
 | 0 => exact g0
 | 1 => exact g1
 | 2 => exact hc2
 | j + 3 => rw [List.getElem?_eq_none (by omega), List.getElem?_eq_none (by simp)]
theorem qZh {fuel : Nat} {cs : List Value} {y : DataW H × List MemPlace} (h : DataW.trod enc Tryz.prog w base spare held fuel 43 cs = some y) (hfit : Rows.uptoBulk y.1 <= 1048576) :
  ∃ (a : Option Addr) (cap : Nat) (ls : List Cg), cs = [.slice a ls.length cap] /\ Lies w 3 ccs a ls /\ (∀ c ∈ ls, c.key.size <= maxLen /\ c.value.size <= maxLen) /\ ls.length <= 1048576 :=
 qNp (f := ccs) (Q := fun c => c.key.size <= maxLen /\ c.value.size <= maxLen) Tryz.underlying43 jCk (by decide) qBp (fun n cs y hy hb => jJl hy hb) h hfit
theorem jJk {n : Nat} {cs : List Value} {y : DataW H × List MemPlace} (h : DataW.trod enc Tryz.prog w base spare held n 56 cs = some y) (hfit : Rows.uptoBulk y.1 <= 1048576) : ∃ o : OpR, cs = o.vs /\ OpOk w o := by
 obtain ⟨f0, f1, f2, f3, hu, o0, t0, o1, t1, o2, t2, o3, t3⟩ := jAe; have hl := qIw hu h; rw [jCj] at hl; obtain ⟨kd, hc0, _⟩ := qRy (k := .i64) hu h 0 f0 rfl (by rw [t0]; exact Tryz.underlying3) (by rw [t0]; exact qWl)
 obtain ⟨m, hc1, _⟩ := qRy (k := .i64) hu h 1 f1 rfl (by rw [t1]; exact Tryz.underlying3) (by rw [t1]; exact qWl)
 obtain ⟨n2, y2, h2, s2⟩ := qGb hu h hfit 2 f2 rfl; obtain ⟨n3, y3, h3, s3⟩ := qGb hu h hfit 3 f3 rfl; rw [t2] at h2; rw [t3] at h3; obtain ⟨a, cap, ls, e2, l2, q2, z2⟩ := qZh h2 s2; obtain ⟨s, e3, _⟩ := qJr h3 s3; rw [jGd] at e2; rw [qWk] at e3; have g2 := qDj e2; have g3 := qDj e3; rw [o0] at hc0; rw [o1] at hc1; rw [o2] at g2; rw [o3] at g3; refine ⟨⟨kd, m, a, cap, ls, s⟩, ?_, l2, z2, q2⟩; apply List.ext_getElem?; intro j
 match j with
 | 0 => exact hc0
 | 1 => exact hc1
 | 2 => exact g2
 | 3 => exact g3
 | j + 4 => rw [List.getElem?_eq_none (by omega), List.getElem?_eq_none (by simp)]
set_option maxRecDepth 100000
theorem open_script {r : Reach} {b0 : Nat} {v : Value} {d : DataW H} {ps : List MemPlace} (hval : Value.okWide Tryz.prog w r b0 51 v) (hd : DataW.Trod enc Tryz.prog w base spare held 51 v d ps) (hb : Rows.uptoBulk d <= 1048576) :
  ∃ (a : Option Addr) (cap : Nat) (ls : List OpR), v = .slice a ls.length cap /\ Lies w 4 OpR.vs a ls /\ (∀ o ∈ ls, OpOk w o) /\ ls.length * 56 <= 140737488351232 := by
 obtain ⟨a, len, cap, rfl⟩ := WideShapes.okWide_slice Tryz.underlying51 hval; obtain ⟨fuel, hf⟩ := hd; obtain ⟨a', cap', ls, e, l, q, z⟩ := qNp (f := OpR.vs) (Q := fun o => OpOk w o) Tryz.underlying51 jCj (by decide) qLx (fun n cs y hy hb => jJk hy hb) hf hb
 simp only [Value.cells] at e; cases e
 exact ⟨a, cap, ls, rfl, l, q, by omega⟩
end
end
end Go.Proofs.YtgbcibdfeeiilaaGreatDoor
namespace Go.Proofs.YtgbcibdfeeiilaaGreatDoor
open Go Go.RowKit
namespace TreePlays
open Go.ChangeShapes Go.WideShapes Go.ChangeAt
set_option maxRecDepth 100000 in
theorem walk' (W : World) (n : Int) (_n1 : -9223372036854775808 ≤ n) (_n2 : n ≤ 9223372036854775807) (room : Int) (_r1 : -9223372036854775808 ≤ room) (_r2 : room ≤ 9223372036854775807) (a : Option Addr) (cap : Nat) (os : List OpR) (hos : Lies W 4 OpR.vs a os) (hok : ∀ o ∈ os, OpOk W o) (hr : os.length * 56 ≤ 140737488351232) :
    Calls Tryz.prog 5 #[.int .i64 n, .int .i64 room, .slice a os.length cap] W fun e w' => e = .returned (.bool true) ∧ RowKit.Below W.heap.size W w' := (plays_walk W n room a cap os hos hok hr).mono fun _ _ ⟨he, hm⟩ => ⟨he, hm.below (Nat.le_refl _) (fun _ e => e.elim)⟩
theorem own : ownKnob Tryz.prog.godebug = none := by kernel_rfl
theorem laidOut : laidOutB Tryz.prog = true := by kernel_rfl
set_option maxRecDepth 100000 in
theorem contract (H : Type) (enc : TypeId × Value → H) (W : World) (base : Nat) (args : Array Value) (ds gs : List (DataW H)) (before : List MemPlace)
    (hval0 : ∀ (j : Nat) t v, Tryz.f5.params[j]? = some t → args[j]? = some v → Value.okWide Tryz.prog W .any base t v)
    (hW : DataW.Whole enc Tryz.prog Tryz.f5.params.toList Rows.treePlaysSpec.vars false W args.toList ds gs before) (hk : Rows.uptoSmall H (ds ++ gs) = true) :
    Calls Tryz.prog 5 args W fun e W' => ∃ v, e = .returned v ∧ Rows.treePlaysSpec.post enc Tryz.prog Tryz.f5 false true false false W args v W' := by
  have hbk := bulk_all hk
  have hval : ∀ (j : Nat) t v, Tryz.f5.params[j]? = some t → args[j]? = some v → Value.okWide Tryz.prog W .any base t v := hval0
  have hW' := hW
  obtain ⟨p, q, hA0, hV, rfl, hfz, hnd⟩ := hW
  have hA : DataW.TrodAll enc Tryz.prog W 0 (fun _ => true) true Tryz.f5.params.toList args.toList ds p := hA0
  rw [Tryz.params5] at hA hval
  obtain ⟨v0, vs0, d0, ds0, p0, q0, hargs, rfl, rfl, h0, r0⟩ := trodAll_cons hA
  obtain ⟨v1, vs1, d1, ds1, p1, q1, rfl, rfl, rfl, h1, r1⟩ := trodAll_cons r0
  obtain ⟨v2, vs2, d2, ds2, p2, q2, rfl, rfl, rfl, h2, r2⟩ := trodAll_cons r1
  obtain ⟨rfl, rfl, rfl⟩ := trodAll_nil r2
  obtain rfl : args = #[v0, v1, v2] := by cases args; simp_all
  obtain ⟨rfl, rfl⟩ := trodVars_none hV
  have lt0 : ∀ x ∈ p0, x.block < W.heap.size := by obtain ⟨m, hm⟩ := h0; exact DataW.trod_lt m _ _ _ hm
  have lt1 : ∀ x ∈ p1, x.block < W.heap.size := by obtain ⟨m, hm⟩ := h1; exact DataW.trod_lt m _ _ _ hm
  have lt2 : ∀ x ∈ p2, x.block < W.heap.size := by obtain ⟨m, hm⟩ := h2; exact DataW.trod_lt m _ _ _ hm
  obtain ⟨n0, rfl, _, _, wf0⟩ := open_int Tryz.underlying3 (hval 0 3 v0 rfl rfl) h0
  have lh0 := wf_i64 wf0
  obtain ⟨n1, rfl, _, _, wf1⟩ := open_int Tryz.underlying3 (hval 1 3 v1 rfl rfl) h1
  have lh1 := wf_i64 wf1
  obtain ⟨x2a, x2b, x2c, rfl, f2a, f2b, f2c⟩ := open_script (hval 2 51 v2 rfl rfl) h2 (hbk d2 (by simp))
  clear hA0 hval0
  refine (walk' W n0 lh0.1 lh0.2 n1 lh1.1 lh1.2 x2a x2b x2c f2a f2b f2c).mono fun e W' ⟨he, bel⟩ => ?_
  subst he
  exact ⟨_, rfl, _, _, _, [], _, [], hW', trodAll_mk1 (shut_bool Tryz.underlying4 _), (trodAll_cons_mk (RowKit.Below.trod laidOut (by kernel_rfl) (of_decide_eq_true (by kernel_rfl)) h0 bel lt0) (trodAll_cons_mk (RowKit.Below.trod laidOut (by kernel_rfl) (of_decide_eq_true (by kernel_rfl)) h1 bel lt1) (trodAll_cons_mk (RowKit.Below.trod laidOut (by kernel_rfl) (of_decide_eq_true (by kernel_rfl)) h2 bel lt2) trodAll_mk0))), rfl, bel.frame _, fun h => by cases h⟩
noncomputable def laidWorld (os : Os) : World := World.laidAll Tryz.prog os Rows.treePlaysUptoRow.laid
theorem laid_met (os : Os) : laidMetH Tryz.prog Rows.treePlaysUptoRow.laid ((laidWorld os).forCall (fun _ _ => 0) ⟨#[], #[.int .i64 0, .int .i64 0, .slice none 0 0], []⟩).memory := by
  rw [MakeChecks.laidMetH_plain _ _ _ (by kernel_rfl)]
  exact laidMet_laidAll _ (by kernel_rfl) (by kernel_rfl)
theorem reads (os : Os) {H : Type} (enc : TypeId × Value → H) : ∃ places, DataW.whole enc Tryz.prog ((laidWorld os).forCall (fun _ _ => 0) ⟨#[], #[.int .i64 0, .int .i64 0, .slice none 0 0], []⟩).memory Tryz.f5.params.toList Rows.treePlaysSpec.vars false #[Value.int .i64 0, Value.int .i64 0, Value.slice none 0 0].toList 8 = some ([.lit (.int .i64 0), .lit (.int .i64 0), .nil], [], places) :=
  ⟨[], by kernel_rfl⟩
set_option maxRecDepth 100000 in
theorem lifted (os : Os) (started : os.Started) (H : Type) (enc : TypeId × Value → H) (F : Stop.Interp) :
    ReturnsInHanded {} Tryz.checked os 5 .any ((Rows.OpenSpec.upto Rows.treePlaysSpec).preRow enc Tryz.prog Tryz.f5 Rows.treePlaysUptoRow.domain false Rows.treePlaysUptoRow.laid) (((Rows.OpenSpec.upto Rows.treePlaysSpec).at F).post enc Tryz.prog Tryz.f5 false true false false) := by
  obtain ⟨places, hx⟩ := reads os enc
  refine returnsInHanded_of_row (C := Tryz.checked) (s := Rows.OpenSpec.upto Rows.treePlaysSpec) own started (by kernel_rfl) Tryz.func5
    (witness_row_at (enc := enc) (C := Tryz.checked) false (laidWorld os) #[.int .i64 0, .int .i64 0, .slice none 0 0] (World.laidAll_os _ _ _) (by kernel_rfl) (by kernel_rfl) (by kernel_rfl)
      (OpenSpec.preRow_of_cond 8 hx (by kernel_rfl) (fun k hk => by cases hk; kernel_rfl) (by kernel_rfl) (laid_met os))) ?_
  intro W base args ds gs before hval hW _ hcond _ _ _ _
  exact contract H enc W base args ds gs before hval hW (hcond _ rfl)
theorem saidUpto : Rows.TreePlaysUptoSaid :=
  OpenClaim.holds_of_cond 5 Tryz.f5 rfl rfl rfl rfl rfl rfl rfl ⟨rfl, rfl, rfl, rfl, rfl⟩ rfl rfl rfl rfl rfl (by kernel_rfl) Tryz.func5 (by kernel_rfl)
    (of_decide_eq_true (by kernel_rfl)) (by unfold Func.isWrapper; first | (rw [if_pos (by decide +kernel)]; kernel_rfl) | (rw [if_neg (by decide +kernel)]; exact ⟨rfl, rfl⟩))
    (fun os started H enc _ F => by rw [OpenClaim.pre_eq_preRow]; exact lifted os started H enc F)
theorem plain (f : FuncId) (fn : Func) (hf : Tryz.pinned.checked.prog.funcNamed "chandler/chandlerlaw05.TreePlays" = some f) (hfn : Tryz.pinned.checked.prog.funcs[f]? = some fn) :
    false = Tryz.pinned.checked.prog.looks [] ∧ ∀ (j : Nat) t, fn.params[j]? = some t → Tryz.pinned.checked.prog.wantsStandIn t = false := by
  obtain rfl : f = 5 := Option.some.inj ((show Tryz.prog.funcNamed "chandler/chandlerlaw05.TreePlays" = some 5 by kernel_rfl).symm.trans hf) |>.symm
  obtain rfl : fn = Tryz.f5 := (Option.some.inj (Tryz.func5.symm.trans hfn)).symm
  refine ⟨by kernel_rfl, fun j t ht => ?_⟩
  rw [Tryz.params5] at ht
  have ht2 : t = 3 ∨ t = 51 := by simpa using Array.mem_of_getElem? ht
  rcases ht2 with rfl | rfl
  · exact (show Tryz.prog.wantsStandIn 3 = false by kernel_rfl)
  · exact (show Tryz.prog.wantsStandIn 51 = false by kernel_rfl)
theorem cardUpto : Rows.TreePlaysUptoCardSaid :=
  Claim7.holds_tied_plain_at .later [] _ _ _ _ saidUpto (fun _ h => by cases h) (by kernel_rfl) (fun _ h => by cases h) treePlaysUpto_row_tie rfl ⟨rfl, rfl⟩ (by kernel_rfl) rfl plain (by kernel_rfl)
end TreePlays
theorem treePlays_holds : Rows.TreePlaysUptoCardSaid := TreePlays.cardUpto
end Go.Proofs.YtgbcibdfeeiilaaGreatDoor
