/- The changes by which a row takes another one's place are the document's, or refused as it says: for every table and every two rows of a bulk of 1048576 at the most; the arguments read afterwards as before. -/
import Derived.Test.YtoclecpedhbokaaRows
import Derived.Test.YtoclecpedhbokaaRwOpn
import Derived.Test.YtoclecpedhbokaaRwW
import Derived.Test.YtoclecpedhbokaaRwCr
import Derived.OpenShut
import Derived.JoinedCond
namespace Go.Proofs.Ytoclecpedhbokaa
open Go Go.RowKit

namespace RowsChange
open Go.ChangeShapes Go.WideShapes Go.ChangeAt

theorem chg_len (P Q : Option PB) : (chgL P Q).length ≤ 3 := by
  unfold chgL
  split
  · simp
  · split <;> simp
  · split <;> simp
  · split <;> simp

theorem chg_shape (P Q : Option PB) (n m : Nat) : ∃ (l : List Cg) (k : Int), l.length ≤ 3 ∧ ∀ w e w', ChgAns w P Q n m e w' → Mod (fun _ => False) w w' ∧ ∃ la cap, e = .returned (.tuple #[.slice la l.length cap, .int .i64 k]) ∧ Lies w' 3 Cg.cs la l := by
  by_cases hb : chgBad P Q n m
  · exact ⟨[], 60, by decide, fun w e w' h => ⟨h.1, none, 0, (h.2.elim (fun x => x.2) (fun x => absurd hb x.1)), lies_nil _ _ _ _⟩⟩
  · exact ⟨chgL P Q, 0, chg_len P Q, fun w e w' h => ⟨h.1, (h.2.elim (fun x => absurd x.1 hb) (fun x => x.2))⟩⟩

set_option maxRecDepth 100000 in
set_option maxHeartbeats 2000000 in
theorem changed_same {w : World} {a b : Option Addr} {r : List Cg} (c1 c2 : Nat) (h1 : Lies w 3 Cg.cs a r) (h2 : Lies w 3 Cg.cs b r) (hn : r.length ≤ 3) :
    Calls Try.prog 16 #[.slice a r.length c1, .slice b r.length c2] w fun e w' => e = .returned (.bool true) ∧ Mod (fun _ => False) w w' := by
  have H1 := hid h1
  have H2 := hid h2
  clear h1 h2
  go_enter Try.func16, Try.ntmps16
  go_wp2_with fail
  go_loopw [13] (fun sc wr => ∃ k : Nat, k ≤ r.length ∧ sc = .int .i64 (k : Int) ∧ Mod (fun _ => False) w wr) (fun sc _ => r.length - (intOf sc).toNat)
  case atStart => exact ⟨0, Nat.zero_le _, rfl, Mod.refl _ _⟩
  case round =>
    obtain ⟨k, hk, rfl, hm⟩ := hrel
    have HM := hid hm
    by_cases hlt : k < r.length
    case neg =>
      have hke : k = r.length := by omega
      subst hke
      go_wp2_with fail
      go_ret
      exact ⟨rfl, HM.out⟩
    case pos =>
      obtain ⟨v, hv⟩ : ∃ v, r[k]? = some v := ⟨_, List.getElem?_eq_getElem hlt⟩
      have hq := H1.out.ext hm
      have hp := H2.out.ext hm
      obtain ⟨g, off, rfl⟩ := hq.some (by omega)
      obtain ⟨g2, off2, rfl⟩ := hp.some (by omega)
      have q0 := fun x : Ext wr => x.cell (hq.cell cg_len hv (j := 0) rfl)
      have q1 := fun x : Ext wr => x.cell (hq.cell cg_len hv (j := 1) rfl)
      have q2 := fun x : Ext wr => x.cell (hq.cell cg_len hv (j := 2) rfl)
      have p0 := fun x : Ext wr => x.cell (hp.cell cg_len hv (j := 0) rfl)
      have p1 := fun x : Ext wr => x.cell (hp.cell cg_len hv (j := 1) rfl)
      have p2 := fun x : Ext wr => x.cell (hp.cell cg_len hv (j := 2) rfl)
      obtain ⟨ky, vl, gn⟩ := v
      simp only [Nat.add_zero] at q0 p0
      simp only at q1 p1 q2 p2
      clear hq hp hv hm
      go_upto_region 6 with fail
      refine wp_region_ext (by kernel_rfl) (by kernel_rfl) ?_
      repeat (go_big_quiet_step ((fail)))
      refine wpQuiet_nil ?_
      rintro _ ⟨x, rfl⟩
      clear q0 q1 q2 p0 p1 p2
      go_wp2_with fail
      go_roundw
      case rel => exact ⟨k + 1, by omega, by go_num, HM.out.trans x.mod⟩
      case measure => simp [intOf]; omega

set_option maxRecDepth 100000 in
set_option maxHeartbeats 4000000 in
theorem walk (W : World) (name keys idx : Int) (ca : Option Addr) (cc : Nat) (cols : List Int) (hl : Lies W 1 oneI ca cols) (hn : cols.length ≤ 1048576) (ra : Option Addr) (rc : Nat) (r : List Vl) (hr : Lies W 2 Vl.cs ra r) (hv : ∀ x ∈ r, x.Ok ∧ x.s.size ≤ 1048576) (hrn : r.length ≤ 1048576) (fa : Option Addr) (fc : Nat) (f : List Vl) (hf : Lies W 2 Vl.cs fa f) (hvf : ∀ x ∈ f, x.Ok ∧ x.s.size ≤ 1048576) (hfn : f.length ≤ 1048576) :
    Calls Try.prog 6 #[.agg #[.int .u8 name, .slice ca cols.length cc, .int .i64 keys, .int .i64 idx], .slice ra r.length rc, .slice fa f.length fc] W fun e w' => e = .returned (.bool true) ∧ Below W.heap.size W w' := by
  have hma : Mod (fun _ => False) W (W.alloc (.cells #[.int .u8 name, .slice ca cols.length cc, .int .i64 keys, .int .i64 idx] 24)) := (Mod.refl _ _).alloc _
  have ha : (W.alloc (.cells #[.int .u8 name, .slice ca cols.length cc, .int .i64 keys, .int .i64 idx] 24)).heap[W.heap.size]? = some (.cells #[.int .u8 name, .slice ca cols.length cc, .int .i64 keys, .int .i64 idx] 24 (0, 0)) := heap_alloc_new _ _
  have HM := hid hma
  have HL := hid hl
  have HR := hid hr
  have HF := hid hf
  have HRow := hid (fun (V : World) (hm : Mod (fun _ => False) (W.alloc (.cells #[.int .u8 name, .slice ca cols.length cc, .int .i64 keys, .int .i64 idx] 24)) V) => row4 ((hm.block _ (lt_of_heap ha) (fun h => h)).trans ha))
  have HWk := hid (fun V : World => wakes_any V)
  have hok := fun v hx => (hv v hx).1
  have hokf := fun v hx => (hvf v hx).1
  have hsz := sizes_small (cols := cols) (r := r) (by omega) hok (fun v hx => by have := (hv v hx).2; omega)
  have hszf := sizes_small (cols := cols) (r := f) (by omega) hokf (fun v hx => by have := (hvf v hx).2; omega)
  obtain ⟨l, n, hln, hans⟩ := chg_shape ((pairO name cols keys idx r).map PX.b) ((pairO name cols keys idx f).map PX.b) r.length f.length
  have HE := hid (fun (V : World) (h1 : Lies V 1 oneI ca cols) (h2 : Lies V 2 Vl.cs ra r) (h3 : Lies V 2 Vl.cs fa f) => (changes_any (w := V) name keys idx cc rc fc h1 h2 h3 (by omega) (by omega) hok hsz (by omega) hokf hszf).mono (hans V))
  have HRe := hid (fun (V : World) (ca ra fa : Option Addr) (cc rc fc : Nat) (h1 : Lies V 1 oneI ca cols) (h2 : Lies V 2 Vl.cs ra r) (h3 : Lies V 2 Vl.cs fa f) => (rchanges_any (w := V) name keys idx cc rc fc h1 h2 h3 (by omega) (by omega) hok hsz (by omega) hokf hszf).mono (hans V))
  have HTr := hid (fun (V : World) (h1 : Lies V 1 oneI ca cols) => tableRef_any (w := V) name keys idx cc h1 (by omega))
  have HLr := hid (fun (V : World) (h1 : Lies V 2 Vl.cs ra r) => rowRef_any (w := V) rc h1 (by omega))
  have HLf := hid (fun (V : World) (h1 : Lies V 2 Vl.cs fa f) => rowRef_any (w := V) fc h1 (by omega))
  have HSa := hid (fun (V : World) (a b : Option Addr) (c1 c2 : Nat) (h1 : Lies V 3 Cg.cs a l) (h2 : Lies V 3 Cg.cs b l) => changed_same c1 c2 h1 h2 hln)
  clear hma ha hl hr hf hv hvf hok hokf hsz hszf hrn hfn hans hn
  obtain ⟨b0, b1, b2, b3⟩ := HRow.out _ (Mod.refl _ _)
  have HEc := hid (HE.out _ (HL.out.ext HM.out) (HR.out.ext HM.out) (HF.out.ext HM.out))
  go_enter Try.func6, Try.ntmps6
  go_upto_region 1 with fail
  generalize W.alloc (.cells #[.int .u8 name, .slice ca cols.length cc, .int .i64 keys, .int .i64 idx] 24) = C at *
  go_upto_region 2 with (go_at_call 14; refine HEc.out.mono ?_; rintro e w1 ⟨hm, la1, cap1, rfl, hl1⟩; have HM1 := hid hm; have HL1 := hid hl1; clear hm hl1)
  have HL2 := hid (HL.out.ext (HM.out.trans HM1.out))
  have HR2 := hid (HR.out.ext (HM.out.trans HM1.out))
  have HF2 := hid (HF.out.ext (HM.out.trans HM1.out))
  clear b0 b1 b2 b3
  obtain ⟨b0, b1, b2, b3⟩ := HRow.out _ HM1.out
  go_upto_region 3 with (first
    | (go_at_call 9; refine (HTr.out _ HL2.out).mono ?_; rintro e w3 ⟨hm3, la3, cap3, rfl, hl3⟩; have HM3 := hid hm3; have HR3 := hid (HR2.out.ext hm3); have HL3 := hid hl3; clear hm3 hl3)
    | (go_at_call 10; refine (HLr.out _ HR3.out).mono ?_; rintro e w4 ⟨la4, cap4, rfl, hl4, _, hm4⟩; have HM4 := hid (HM3.out.trans hm4); have HL4 := hid hl4; have HL5 := hid (HL3.out.ext hm4); have HF4 := hid (HF2.out.ext HM4.out); clear hm4 hl4 HR3)
    | (go_at_call 10; refine (HLf.out _ HF4.out).mono ?_; rintro e w5 ⟨la5, cap5, rfl, hl5, _, hm5⟩; have HM5 := hid (HM4.out.trans hm5); have HG5 := hid hl5; have HG3 := hid (HL5.out.ext hm5); have HG4 := hid (HL4.out.ext hm5); clear hm5 hl5)
    | (go_at_call 15; refine (HRe.out _ _ _ _ _ _ _ HG3.out HG4.out HG5.out).mono ?_; rintro e w6 ⟨hm6, la6, cap6, rfl, hl6⟩; have HM6 := hid (HM5.out.trans hm6); have HL6 := hid hl6; clear hm6 hl6))
  clear b0 b1 b2 b3
  have HL1' := hid (HL1.out.ext HM6.out)
  go_wp2_with (first
    | (go_at_call 11; refine (HWk.out _).mono ?_; rintro e w7 ⟨rfl, hm7⟩; have HM7 := hid (HM6.out.trans hm7); have HLa := hid (HL1'.out.ext hm7); have HLb := hid (HL6.out.ext hm7); clear hm7)
    | (go_at_call 16; refine (HSa.out _ _ _ _ _ HLa.out HLb.out).mono ?_; rintro e w8 ⟨rfl, hm8⟩; have HM8 := hid (HM7.out.trans hm8); clear hm8))
  go_ret
  exact ⟨rfl, (HM.out.trans (HM1.out.trans HM8.out)).below (Nat.le_refl _) (fun _ h => h.elim)⟩

theorem own : ownKnob Try.prog.godebug = none := by kernel_rfl
theorem laidOut : laidOutB Try.prog = true := by kernel_rfl

set_option maxRecDepth 100000 in
theorem contract (H : Type) (enc : TypeId × Value → H) (W : World) (base : Nat) (args : Array Value) (ds gs : List (DataW H)) (before : List MemPlace)
    (hval0 : ∀ (j : Nat) t v, Try.f6.params[j]? = some t → args[j]? = some v → Value.okWide Try.prog W .any base t v)
    (hW : DataW.Whole enc Try.prog Try.f6.params.toList Rows.rowsChangeSpec.vars false W args.toList ds gs before) (hk : Rows.uptoSmall H (ds ++ gs) = true) :
    Calls Try.prog 6 args W fun e W' => ∃ v, e = .returned v ∧ Rows.rowsChangeSpec.post enc Try.prog Try.f6 false true false false W args v W' := by
  have hbk := bulk_all hk
  have hval : ∀ (j : Nat) t v, Try.f6.params[j]? = some t → args[j]? = some v → Value.okWide Try.prog W .any base t v := hval0
  have hW' := hW
  obtain ⟨p, q, hA0, hV, rfl, hfz, hnd⟩ := hW
  have hA : DataW.TrodAll enc Try.prog W 0 (fun _ => true) true Try.f6.params.toList args.toList ds p := hA0
  rw [Try.params6] at hA hval
  obtain ⟨v0, vs0, d0, ds0, p0, q0, hargs, rfl, rfl, h0, r0⟩ := trodAll_cons hA
  obtain ⟨v1, vs1, d1, ds1, p1, q1, rfl, rfl, rfl, h1, r1⟩ := trodAll_cons r0
  obtain ⟨v2, vs2, d2, ds2, p2, q2, rfl, rfl, rfl, h2, r2⟩ := trodAll_cons r1
  obtain ⟨rfl, rfl, rfl⟩ := trodAll_nil r2
  obtain rfl : args = #[v0, v1, v2] := by cases args; simp_all
  obtain ⟨rfl, rfl⟩ := trodVars_none hV
  have lt0 : ∀ x ∈ p0, x.block < W.heap.size := by obtain ⟨m, hm⟩ := h0; exact DataW.trod_lt m _ _ _ hm
  have lt1 : ∀ x ∈ p1, x.block < W.heap.size := by obtain ⟨m, hm⟩ := h1; exact DataW.trod_lt m _ _ _ hm
  have lt2 : ∀ x ∈ p2, x.block < W.heap.size := by obtain ⟨m, hm⟩ := h2; exact DataW.trod_lt m _ _ _ hm
  obtain ⟨x0a, x0b, x0c, x0d, x0e, x0f, rfl, f0a, f0b⟩ := open_table (hval 0 24 v0 rfl rfl) h0 (hbk d0 (by simp))
  obtain ⟨x1a, x1b, x1c, rfl, f1a, f1b, f1c⟩ := open_row (hval 1 26 v1 rfl rfl) h1 (hbk d1 (by simp))
  obtain ⟨x2a, x2b, x2c, rfl, f2a, f2b, f2c⟩ := open_row (hval 2 26 v2 rfl rfl) h2 (hbk d2 (by simp))
  clear hA0 hval0
  refine (walk W x0a x0b x0c x0d x0e x0f f0a f0b x1a x1b x1c f1a f1b f1c x2a x2b x2c f2a f2b f2c).mono fun e W' ⟨he, bel⟩ => ?_
  subst he
  exact ⟨_, rfl, _, _, _, [], _, [], hW', trodAll_mk1 (shut_bool Try.underlying4 _), (trodAll_cons_mk (Below.trod laidOut (by kernel_rfl) (of_decide_eq_true (by kernel_rfl)) h0 bel lt0) (trodAll_cons_mk (Below.trod laidOut (by kernel_rfl) (of_decide_eq_true (by kernel_rfl)) h1 bel lt1) (trodAll_cons_mk (Below.trod laidOut (by kernel_rfl) (of_decide_eq_true (by kernel_rfl)) h2 bel lt2) trodAll_mk0))), rfl, bel.frame _, fun h => by cases h⟩

set_option maxRecDepth 100000 in
theorem lifted (os : Os) (started : os.Started) (H : Type) (enc : TypeId × Value → H) (F : Stop.Interp) :
    ReturnsInHanded {} Try.checked os 6 .any ((Rows.OpenSpec.upto Rows.rowsChangeSpec).pre6 enc Try.prog Try.f6 Rows.rowsChangeUptoRow.domain false) (((Rows.OpenSpec.upto Rows.rowsChangeSpec).at F).post enc Try.prog Try.f6 false true false false) := by
  refine returnsInHanded_of_cond (C := Try.checked) (s := Rows.OpenSpec.upto Rows.rowsChangeSpec) (k := Rows.uptoSmall) rfl own started (by kernel_rfl) Try.func6
    (OpenSpec.witness (enc := enc) (C := Try.checked) (s := Rows.OpenSpec.upto Rows.rowsChangeSpec) (k := Rows.uptoSmall) rfl false ⟨#[], #[.agg #[.int .u8 0, .slice none 0 0, .int .i64 0, .int .i64 0], .slice none 0 0, .slice none 0 0], []⟩ 8 (by kernel_rfl) (by kernel_rfl) (by kernel_rfl)
      (x := ([.agg [.lit (.int .u8 0), .nil, .lit (.int .i64 0), .lit (.int .i64 0)], .nil, .nil], [], [])) (by kernel_rfl) rfl (by kernel_rfl)) ?_
  intro W base args ds gs before hval hW _ hk _
  exact contract H enc W base args ds gs before hval hW hk

theorem proved : Rows.RowsChangeUptoSaid :=
  OpenClaim.holds_of_cond 6 Try.f6 rfl rfl rfl rfl rfl rfl rfl ⟨rfl, rfl, rfl, rfl, rfl⟩ rfl rfl rfl rfl rfl (by kernel_rfl) Try.func6 (by kernel_rfl)
    (of_decide_eq_true (by kernel_rfl)) (by unfold Func.isWrapper; first | (rw [if_pos (by decide +kernel)]; kernel_rfl) | (rw [if_neg (by decide +kernel)]; exact ⟨rfl, rfl⟩))
    (fun os started H enc _ F => lifted os started H enc F)
#print axioms proved


end RowsChange

theorem rowsChange_holds : Rows.RowsChangeUptoSaid := RowsChange.proved
end Go.Proofs.Ytoclecpedhbokaa
