/- Whatever pair is read, it is refused, or gives the fit row whose pair it is: for every table and every pair of a bulk of 1048576 at the most; the arguments read afterwards as before. -/
import Derived.Test.YtoclecpedhbokaaRows
import Derived.Test.YtoclecpedhbokaaRwOpn
import Derived.Test.YtoclecpedhbokaaRwW
import Derived.Test.YtoclecpedhbokaaRwB2
import Derived.OpenShut
import Derived.JoinedCond
namespace Go.Proofs.Ytoclecpedhbokaa
open Go Go.RowKit

namespace RowsDecode
open Go.ChangeShapes Go.WideShapes Go.ChangeAt

set_option maxRecDepth 100000 in
set_option maxHeartbeats 4000000 in
theorem walk (W : World) (name keys idx : Int) (ca : Option Addr) (cc : Nat) (cols : List Int) (hl : Lies W 1 oneI ca cols) (hn : cols.length ≤ 1048576) (ks vs : ByteArray) (hks : ks.size ≤ 1048576) (hvs : vs.size ≤ 1048576) :
    Calls Try.prog 4 #[.agg #[.int .u8 name, .slice ca cols.length cc, .int .i64 keys, .int .i64 idx], .agg #[.string ks, .string vs]] W fun e w' => e = .returned (.bool true) ∧ Below W.heap.size W w' := by
  have hma : Mod (fun _ => False) W ((W.alloc (.cells #[.int .u8 name, .slice ca cols.length cc, .int .i64 keys, .int .i64 idx] 24)).alloc (.cells #[.string ks, .string vs] 28)) := ((Mod.refl _ _).alloc _).alloc _
  have hs1 : (W.alloc (.cells #[.int .u8 name, .slice ca cols.length cc, .int .i64 keys, .int .i64 idx] 24)).heap.size = W.heap.size + 1 := by simp
  have ha : ((W.alloc (.cells #[.int .u8 name, .slice ca cols.length cc, .int .i64 keys, .int .i64 idx] 24)).alloc (.cells #[.string ks, .string vs] 28)).heap[W.heap.size]? = some (.cells #[.int .u8 name, .slice ca cols.length cc, .int .i64 keys, .int .i64 idx] 24 (0, 0)) := by
    rw [Below.heap_alloc _ _ _ (by omega)]
    exact heap_alloc_new _ _
  have hb : ((W.alloc (.cells #[.int .u8 name, .slice ca cols.length cc, .int .i64 keys, .int .i64 idx] 24)).alloc (.cells #[.string ks, .string vs] 28)).heap[W.heap.size + 1]? = some (.cells #[.string ks, .string vs] 28 (0, 0)) := by
    rw [← hs1]
    exact heap_alloc_new _ _
  have HM := hid hma
  have HD := hid (decode_any name keys idx cc ks vs (hl.ext hma) (by omega) (by omega) (by omega))
  have HL := hid hl
  have HRow := hid (fun (V : World) (hm : Mod (fun _ => False) ((W.alloc (.cells #[.int .u8 name, .slice ca cols.length cc, .int .i64 keys, .int .i64 idx] 24)).alloc (.cells #[.string ks, .string vs] 28)) V) => And.intro (row4 ((hm.block _ (lt_of_heap ha) (fun h => h)).trans ha)) (row2 ((hm.block _ (lt_of_heap hb) (fun h => h)).trans hb)))
  have HWk := hid (fun V : World => wakes_any V)
  clear hma hs1 ha hb hl
  obtain ⟨⟨b0, b1, b2, b3⟩, c0, c1, _, _⟩ := HRow.out _ (Mod.refl _ _)
  go_enter Try.func4, Try.ntmps4
  go_upto_region 1 with fail
  generalize (W.alloc (.cells #[.int .u8 name, .slice ca cols.length cc, .int .i64 keys, .int .i64 idx] 24)).alloc (.cells #[.string ks, .string vs] 28) = C at *
  go_upto_region 2 with (go_at_call 12; refine HD.out.mono ?_; rintro e w1 ⟨hm1, hans⟩; have HM1 := hid hm1; clear hm1; rcases hans with ⟨r, la, cap, hok, hrl, hro, rfl, hlies, _⟩ | ⟨hno, rfl⟩; all_goals (try (have HRl := hid hrl; clear hrl)))
  · obtain ⟨p, hp, rfl, rfl⟩ := hok.2
    have HLs := hid hlies
    have hsz := sizes_small (cols := cols) (r := r) (by have := HRl.out; omega) (fun v hv => (hro v hv).1) (fun v hv => (hro v hv).2)
    have HRp := hid (fun (V : World) (ca ra : Option Addr) (cc rc : Nat) (h1 : Lies V 1 oneI ca cols) (h2 : Lies V 2 Vl.cs ra r) => rpairs_any (w := V) name keys idx cc rc h1 h2 (by omega) (by have := HRl.out; omega) (fun v hv => (hro v hv).1) hsz.1 hsz.2)
    rw [hp] at HRp
    have hpv : rpairV (some p) = .tuple #[.agg #[.string (ba p.k), .string (ba p.v)], .string (ba p.x), .bool true] := rfl
    rw [hpv] at HRp
    have HTr := hid (fun (V : World) (h1 : Lies V 1 oneI ca cols) => tableRef_any (w := V) name keys idx cc h1 (by omega))
    have HLr := hid (fun (V : World) (h1 : Lies V 2 Vl.cs la r) => rowRef_any (w := V) cap h1 (by have := HRl.out; omega))
    clear hok hro hlies b0 b1 b2 b3 c0 c1 hsz hp hpv
    go_upto_region 7 with (first
      | (go_at_call 11; refine (HWk.out _).mono ?_; rintro e w2 ⟨rfl, hm2⟩; have HM2 := hid (HM1.out.trans hm2); have HLs2 := hid (HLs.out.ext hm2); have HL2 := hid (HL.out.ext (HM.out.trans HM2.out)); obtain ⟨⟨b0, b1, b2, b3⟩, c0, c1, _, _⟩ := HRow.out _ HM2.out; clear hm2)
      | (go_at_call 9; refine (HTr.out _ HL2.out).mono ?_; rintro e w3 ⟨hm3, la3, cap3, rfl, hl3⟩; have HM3 := hid (HM2.out.trans hm3); have HLs3 := hid (HLs2.out.ext hm3); have HL3 := hid hl3; clear hm3 hl3)
      | (go_at_call 10; refine (HLr.out _ HLs3.out).mono ?_; rintro e w4 ⟨la4, cap4, rfl, hl4, _, hm4⟩; have HM4 := hid (HM3.out.trans hm4); have HL4 := hid hl4; have HL5 := hid (HL3.out.ext hm4); clear hm4 hl4)
      | (go_at_call 8; refine (HRp.out _ _ _ _ _ HL5.out HL4.out).mono ?_; rintro e w5 ⟨rfl, hm5⟩; have HM5 := hid (HM4.out.trans hm5); clear hm5))
    have hm6 : Mod (fun _ => False) w5 (w5.alloc (.cells #[.string (ba p.k), .string (ba p.v)] 32)) := (Mod.refl _ _).alloc _
    have HM6 := hid (HM5.out.trans hm6)
    have hn6 : (w5.alloc (.cells #[.string (ba p.k), .string (ba p.v)] 32)).heap[w5.heap.size]? = some (.cells #[.string (ba p.k), .string (ba p.v)] 32 (0, 0)) := heap_alloc_new _ _
    obtain ⟨d0, d1, _, _⟩ := row2 hn6
    clear b0 b1 b2 b3 c0 c1 hm6 hn6
    obtain ⟨⟨b0, b1, b2, b3⟩, c0, c1, _, _⟩ := HRow.out _ HM6.out
    generalize w5.alloc (.cells #[.string (ba p.k), .string (ba p.v)] 32) = V6 at *
    go_wp2_with fail
    go_ret
    exact ⟨rfl, (HM.out.trans HM6.out).below (Nat.le_refl _) (fun _ h => h.elim)⟩
  · go_wp2_with (go_at_call 11; refine (HWk.out _).mono ?_; rintro e w2 ⟨rfl, hm2⟩; have HM2 := hid hm2; clear hm2)
    go_ret
    exact ⟨rfl, (HM.out.trans (HM1.out.trans HM2.out)).below (Nat.le_refl _) (fun _ h => h.elim)⟩

theorem own : ownKnob Try.prog.godebug = none := by kernel_rfl
theorem laidOut : laidOutB Try.prog = true := by kernel_rfl

set_option maxRecDepth 100000 in
theorem contract (H : Type) (enc : TypeId × Value → H) (W : World) (base : Nat) (args : Array Value) (ds gs : List (DataW H)) (before : List MemPlace)
    (hval0 : ∀ (j : Nat) t v, Try.f4.params[j]? = some t → args[j]? = some v → Value.okWide Try.prog W .any base t v)
    (hW : DataW.Whole enc Try.prog Try.f4.params.toList Rows.rowsDecodeSpec.vars false W args.toList ds gs before) (hk : Rows.uptoSmall H (ds ++ gs) = true) :
    Calls Try.prog 4 args W fun e W' => ∃ v, e = .returned v ∧ Rows.rowsDecodeSpec.post enc Try.prog Try.f4 false true false false W args v W' := by
  have hbk := bulk_all hk
  have hval : ∀ (j : Nat) t v, Try.f4.params[j]? = some t → args[j]? = some v → Value.okWide Try.prog W .any base t v := hval0
  have hW' := hW
  obtain ⟨p, q, hA0, hV, rfl, hfz, hnd⟩ := hW
  have hA : DataW.TrodAll enc Try.prog W 0 (fun _ => true) true Try.f4.params.toList args.toList ds p := hA0
  rw [Try.params4] at hA hval
  obtain ⟨v0, vs0, d0, ds0, p0, q0, hargs, rfl, rfl, h0, r0⟩ := trodAll_cons hA
  obtain ⟨v1, vs1, d1, ds1, p1, q1, rfl, rfl, rfl, h1, r1⟩ := trodAll_cons r0
  obtain ⟨rfl, rfl, rfl⟩ := trodAll_nil r1
  obtain rfl : args = #[v0, v1] := by cases args; simp_all
  obtain ⟨rfl, rfl⟩ := trodVars_none hV
  have lt0 : ∀ x ∈ p0, x.block < W.heap.size := by obtain ⟨m, hm⟩ := h0; exact DataW.trod_lt m _ _ _ hm
  have lt1 : ∀ x ∈ p1, x.block < W.heap.size := by obtain ⟨m, hm⟩ := h1; exact DataW.trod_lt m _ _ _ hm
  obtain ⟨x0a, x0b, x0c, x0d, x0e, x0f, rfl, f0a, f0b⟩ := open_table (hval 0 24 v0 rfl rfl) h0 (hbk d0 (by simp))
  obtain ⟨x1a, x1b, rfl, f1a, f1b⟩ := open_pair (hval 1 28 v1 rfl rfl) h1 (hbk d1 (by simp))
  clear hA0 hval0
  refine (walk W x0a x0b x0c x0d x0e x0f f0a f0b x1a x1b f1a f1b).mono fun e W' ⟨he, bel⟩ => ?_
  subst he
  exact ⟨_, rfl, _, _, _, [], _, [], hW', trodAll_mk1 (shut_bool Try.underlying4 _), (trodAll_cons_mk (Below.trod laidOut (by kernel_rfl) (of_decide_eq_true (by kernel_rfl)) h0 bel lt0) (trodAll_cons_mk (Below.trod laidOut (by kernel_rfl) (of_decide_eq_true (by kernel_rfl)) h1 bel lt1) trodAll_mk0)), rfl, bel.frame _, fun h => by cases h⟩

set_option maxRecDepth 100000 in
theorem lifted (os : Os) (started : os.Started) (H : Type) (enc : TypeId × Value → H) (F : Stop.Interp) :
    ReturnsInHanded {} Try.checked os 4 .any ((Rows.OpenSpec.upto Rows.rowsDecodeSpec).pre6 enc Try.prog Try.f4 Rows.rowsDecodeUptoRow.domain false) (((Rows.OpenSpec.upto Rows.rowsDecodeSpec).at F).post enc Try.prog Try.f4 false true false false) := by
  refine returnsInHanded_of_cond (C := Try.checked) (s := Rows.OpenSpec.upto Rows.rowsDecodeSpec) (k := Rows.uptoSmall) rfl own started (by kernel_rfl) Try.func4
    (OpenSpec.witness (enc := enc) (C := Try.checked) (s := Rows.OpenSpec.upto Rows.rowsDecodeSpec) (k := Rows.uptoSmall) rfl false ⟨#[], #[.agg #[.int .u8 0, .slice none 0 0, .int .i64 0, .int .i64 0], .agg #[.string .empty, .string .empty]], []⟩ 8 (by kernel_rfl) (by kernel_rfl) (by kernel_rfl)
      (x := ([.agg [.lit (.int .u8 0), .nil, .lit (.int .i64 0), .lit (.int .i64 0)], .agg [.lit (.string []), .lit (.string [])]], [], [])) (by kernel_rfl) rfl (by kernel_rfl)) ?_
  intro W base args ds gs before hval hW _ hk _
  exact contract H enc W base args ds gs before hval hW hk

theorem proved : Rows.RowsDecodeUptoSaid :=
  OpenClaim.holds_of_cond 4 Try.f4 rfl rfl rfl rfl rfl rfl rfl ⟨rfl, rfl, rfl, rfl, rfl⟩ rfl rfl rfl rfl rfl (by kernel_rfl) Try.func4 (by kernel_rfl)
    (of_decide_eq_true (by kernel_rfl)) (by unfold Func.isWrapper; first | (rw [if_pos (by decide +kernel)]; kernel_rfl) | (rw [if_neg (by decide +kernel)]; exact ⟨rfl, rfl⟩))
    (fun os started H enc _ F => lifted os started H enc F)
#print axioms proved


end RowsDecode

theorem rowsDecode_holds : Rows.RowsDecodeUptoSaid := RowsDecode.proved
end Go.Proofs.Ytoclecpedhbokaa
