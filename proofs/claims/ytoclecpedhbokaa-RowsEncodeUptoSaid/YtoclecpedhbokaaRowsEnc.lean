/- Every row of every table has the document's pair or is refused, and is read back from it: for every table and every row of a bulk of 1048576 at the most; the arguments read afterwards as before. -/
import Derived.Test.YtoclecpedhbokaaRows
import Derived.Test.YtoclecpedhbokaaRwOpn
import Derived.Test.YtoclecpedhbokaaRwW
import Derived.Test.YtoclecpedhbokaaRwB2
import Derived.OpenShut
import Derived.JoinedCond
namespace Go.Proofs.Ytoclecpedhbokaa
open Go Go.RowKit

namespace RowsEncode
open Go.ChangeShapes Go.WideShapes Go.ChangeAt

theorem pair_small {name : Int} {cols : List Int} {keys idx : Int} {r : List Vl} {p : PX} (h : pairO name cols keys idx r = some p) : (ba p.k).size ≤ 4194304 ∧ (ba p.v).size ≤ 4194304 := by
  obtain ⟨_, ⟨h1, _, h3⟩, _⟩ := pairO_inv h
  rw [ba_size, ba_size]
  omega

set_option maxRecDepth 100000 in
set_option maxHeartbeats 4000000 in
theorem walk (W : World) (name keys idx : Int) (ca : Option Addr) (cc : Nat) (cols : List Int) (hl : Lies W 1 oneI ca cols) (hn : cols.length ≤ 1048576) (ra : Option Addr) (rc : Nat) (r : List Vl) (hr : Lies W 2 Vl.cs ra r) (hv : ∀ x ∈ r, x.Ok ∧ x.s.size ≤ 1048576) (hrn : r.length ≤ 1048576) :
    Calls Try.prog 3 #[.agg #[.int .u8 name, .slice ca cols.length cc, .int .i64 keys, .int .i64 idx], .slice ra r.length rc] W fun e w' => e = .returned (.bool true) ∧ Below W.heap.size W w' := by
  have hma : Mod (fun _ => False) W (W.alloc (.cells #[.int .u8 name, .slice ca cols.length cc, .int .i64 keys, .int .i64 idx] 24)) := (Mod.refl _ _).alloc _
  have ha : (W.alloc (.cells #[.int .u8 name, .slice ca cols.length cc, .int .i64 keys, .int .i64 idx] 24)).heap[W.heap.size]? = some (.cells #[.int .u8 name, .slice ca cols.length cc, .int .i64 keys, .int .i64 idx] 24 (0, 0)) := heap_alloc_new _ _
  have HM := hid hma
  have HL := hid hl
  have HR := hid hr
  have HRow := hid (fun (V : World) (hm : Mod (fun _ => False) (W.alloc (.cells #[.int .u8 name, .slice ca cols.length cc, .int .i64 keys, .int .i64 idx] 24)) V) => row4 ((hm.block _ (lt_of_heap ha) (fun h => h)).trans ha))
  have HWk := hid (fun V : World => wakes_any V)
  have hok := fun v hx => (hv v hx).1
  have hsz := sizes_small (cols := cols) (r := r) (by omega) hok (fun v hx => by have := (hv v hx).2; omega)
  have HE := hid (fun (V : World) (h1 : Lies V 1 oneI ca cols) (h2 : Lies V 2 Vl.cs ra r) => encode_any (w := V) name keys idx cc rc h1 h2 (by omega) (by omega) hok hsz.1 hsz.2)
  have HRp := hid (fun (V : World) (ca ra : Option Addr) (cc rc : Nat) (h1 : Lies V 1 oneI ca cols) (h2 : Lies V 2 Vl.cs ra r) => rpairs_any (w := V) name keys idx cc rc h1 h2 (by omega) (by omega) hok hsz.1 hsz.2)
  have HTr := hid (fun (V : World) (h1 : Lies V 1 oneI ca cols) => tableRef_any (w := V) name keys idx cc h1 (by omega))
  have HLr := hid (fun (V : World) (h1 : Lies V 2 Vl.cs ra r) => rowRef_any (w := V) rc h1 (by omega))
  have HOk := hid hok
  have HRn := hid hrn
  clear hma ha hl hr hv hok hsz hrn
  obtain ⟨b0, b1, b2, b3⟩ := HRow.out _ (Mod.refl _ _)
  cases hP : pairO name cols keys idx r with
  | none =>
    rw [hP, show encV none = .tuple #[.agg #[.string ⟨#[]⟩, .string ⟨#[]⟩], .int .i64 60] from rfl] at HE
    rw [hP, show rpairV none = .tuple #[.agg #[.string ⟨#[]⟩, .string ⟨#[]⟩], .string ⟨#[]⟩, .bool false] from rfl] at HRp
    clear hP
    have HEc := hid (HE.out _ (HL.out.ext HM.out) (HR.out.ext HM.out))
    go_enter Try.func3, Try.ntmps3
    go_upto_region 1 with fail
    generalize W.alloc (.cells #[.int .u8 name, .slice ca cols.length cc, .int .i64 keys, .int .i64 idx] 24) = C at *
    go_upto_region 2 with (go_at_call 7; refine HEc.out.mono ?_; rintro e w1 ⟨rfl, hm⟩; have HM1 := hid hm; clear hm)
    have hm1 : Mod (fun _ => False) w1 (w1.alloc (.cells #[.string ⟨#[]⟩, .string ⟨#[]⟩] 28)) := (Mod.refl _ _).alloc _
    have HM2 := hid (HM1.out.trans hm1)
    have HN2 : Hid ((w1.alloc (.cells #[.string ⟨#[]⟩, .string ⟨#[]⟩] 28)).heap[w1.heap.size]? = some (.cells #[.string ⟨#[]⟩, .string ⟨#[]⟩] 28 (0, 0))) := hid (heap_alloc_new _ _)
    have HL2 := hid (HL.out.ext (HM.out.trans HM2.out))
    have HR2 := hid (HR.out.ext (HM.out.trans HM2.out))
    clear b0 b1 b2 b3 hm1
    obtain ⟨b0, b1, b2, b3⟩ := HRow.out _ HM2.out
    generalize w1.alloc (.cells #[.string ⟨#[]⟩, .string ⟨#[]⟩] 28) = V2 at *
    go_upto_region 3 with (first
      | (go_at_call 9; refine (HTr.out _ HL2.out).mono ?_; rintro e w3 ⟨hm3, la3, cap3, rfl, hl3⟩; have HM3 := hid hm3; have HR3 := hid (HR2.out.ext hm3); have HL3 := hid hl3; clear hm3 hl3)
      | (go_at_call 10; refine (HLr.out _ HR3.out).mono ?_; rintro e w4 ⟨la4, cap4, rfl, hl4, _, hm4⟩; have HM4 := hid (HM3.out.trans hm4); have HL4 := hid hl4; have HL5 := hid (HL3.out.ext hm4); clear hm4 hl4)
      | (go_at_call 8; refine (HRp.out _ _ _ _ _ HL5.out HL4.out).mono ?_; rintro e w5 ⟨rfl, hm5⟩; have HM5 := hid (HM4.out.trans hm5); clear hm5))
    have HM6 := hid (HM5.out.alloc (.cells #[.string ⟨#[]⟩, .string ⟨#[]⟩] 32))
    generalize w5.alloc (.cells #[.string ⟨#[]⟩, .string ⟨#[]⟩] 32) = V6 at *
    go_upto_region 5 with (go_at_call 11; refine (HWk.out _).mono ?_; rintro e w7 ⟨rfl, hm7⟩; have HM7 := hid (HM6.out.trans hm7); clear hm7)
    obtain ⟨c0, c1, _, _⟩ := row2 ((HM7.out.block _ (lt_of_heap HN2.out) (fun h => h)).trans HN2.out)
    go_wp2_with fail
    go_ret
    exact ⟨rfl, (HM.out.trans (HM2.out.trans HM7.out)).below (Nat.le_refl _) (fun _ h => h.elim)⟩
  | some p =>
    have HDp := hid (dec_pair HOk.out hP)
    have HSm := hid (pair_small hP)
    rw [hP, show encV (some p) = .tuple #[.agg #[.string (ba p.k), .string (ba p.v)], .int .i64 0] from rfl] at HE
    rw [hP, show rpairV (some p) = .tuple #[.agg #[.string (ba p.k), .string (ba p.v)], .string (ba p.x), .bool true] from rfl] at HRp
    clear hP
    have HEc := hid (HE.out _ (HL.out.ext HM.out) (HR.out.ext HM.out))
    have HD := hid (fun (V : World) (h1 : Lies V 1 oneI ca cols) => ((decode_any (w := V) name keys idx cc (ba p.k) (ba p.v) h1 (by omega) HSm.out.1 HSm.out.2).mono (fun e w' h => by
      refine ⟨h.1, ?_⟩
      rcases h.2 with ⟨r', la, cap, h1, h2, h3, h4, h5, h6⟩ | ⟨h1, h2⟩
      · have hr := dec_one HDp.out h1
        subst hr
        exact ⟨la, cap, h4, h5⟩
      · exact absurd HDp.out (h1 _) : ∀ e w', DecAns V name cols keys idx (ba p.k) (ba p.v) e w' → Mod (fun _ => False) V w' ∧ ∃ la cap, e = .returned (.tuple #[.slice la r.length cap, .int .i64 0]) ∧ Lies w' 2 Vl.cs la r)))
    go_enter Try.func3, Try.ntmps3
    go_upto_region 1 with fail
    generalize W.alloc (.cells #[.int .u8 name, .slice ca cols.length cc, .int .i64 keys, .int .i64 idx] 24) = C at *
    go_upto_region 2 with (go_at_call 7; refine HEc.out.mono ?_; rintro e w1 ⟨rfl, hm⟩; have HM1 := hid hm; clear hm)
    have hm1 : Mod (fun _ => False) w1 (w1.alloc (.cells #[.string (ba p.k), .string (ba p.v)] 28)) := (Mod.refl _ _).alloc _
    have HM2 := hid (HM1.out.trans hm1)
    have HN2 : Hid ((w1.alloc (.cells #[.string (ba p.k), .string (ba p.v)] 28)).heap[w1.heap.size]? = some (.cells #[.string (ba p.k), .string (ba p.v)] 28 (0, 0))) := hid (heap_alloc_new _ _)
    have HL2 := hid (HL.out.ext (HM.out.trans HM2.out))
    have HR2 := hid (HR.out.ext (HM.out.trans HM2.out))
    clear b0 b1 b2 b3 hm1
    obtain ⟨b0, b1, b2, b3⟩ := HRow.out _ HM2.out
    generalize w1.alloc (.cells #[.string (ba p.k), .string (ba p.v)] 28) = V2 at *
    go_upto_region 3 with (first
      | (go_at_call 9; refine (HTr.out _ HL2.out).mono ?_; rintro e w3 ⟨hm3, la3, cap3, rfl, hl3⟩; have HM3 := hid hm3; have HR3 := hid (HR2.out.ext hm3); have HL3 := hid hl3; clear hm3 hl3)
      | (go_at_call 10; refine (HLr.out _ HR3.out).mono ?_; rintro e w4 ⟨la4, cap4, rfl, hl4, _, hm4⟩; have HM4 := hid (HM3.out.trans hm4); have HL4 := hid hl4; have HL5 := hid (HL3.out.ext hm4); clear hm4 hl4)
      | (go_at_call 8; refine (HRp.out _ _ _ _ _ HL5.out HL4.out).mono ?_; rintro e w5 ⟨rfl, hm5⟩; have HM5 := hid (HM4.out.trans hm5); clear hm5))
    have hm6 : Mod (fun _ => False) w5 (w5.alloc (.cells #[.string (ba p.k), .string (ba p.v)] 32)) := (Mod.refl _ _).alloc _
    have HM6 := hid (HM5.out.trans hm6)
    have HN6 : Hid ((w5.alloc (.cells #[.string (ba p.k), .string (ba p.v)] 32)).heap[w5.heap.size]? = some (.cells #[.string (ba p.k), .string (ba p.v)] 32 (0, 0))) := hid (heap_alloc_new _ _)
    clear hm6 b0 b1 b2 b3
    generalize w5.alloc (.cells #[.string (ba p.k), .string (ba p.v)] 32) = V6 at *
    go_upto_region 5 with (go_at_call 11; refine (HWk.out _).mono ?_; rintro e w7 ⟨rfl, hm7⟩; have HM7 := hid hm7; clear hm7)
    have HM8 := hid (HM2.out.trans (HM6.out.trans HM7.out))
    have HL8 := hid (HL.out.ext (HM.out.trans HM8.out))
    have HN8 := hid (((HM6.out.trans HM7.out).block _ (lt_of_heap HN2.out) (fun h => h)).trans HN2.out)
    have HK8 := hid ((HM7.out.block _ (lt_of_heap HN6.out) (fun h => h)).trans HN6.out)
    obtain ⟨c0, c1, _, _⟩ := row2 HN8.out
    obtain ⟨b0, b1, b2, b3⟩ := HRow.out _ HM8.out
    go_upto_region 8 with (go_at_call 12; refine (HD.out _ HL8.out).mono ?_; rintro e w9 ⟨hm9, la9, cap9, rfl, hl9⟩; have HM9 := hid hm9; have HL9 := hid hl9; clear hm9 hl9)
    clear b0 b1 b2 b3 c0 c1
    have HR9 := hid (HR.out.ext (HM.out.trans (HM8.out.trans HM9.out)))
    have HSa := hid (same_same cap9 rc HL9.out HR9.out (by have := HRn.out; omega))
    obtain ⟨c0, c1, _, _⟩ := row2 ((HM9.out.block _ (lt_of_heap HN8.out) (fun h => h)).trans HN8.out)
    obtain ⟨d0, d1, _, _⟩ := row2 ((HM9.out.block _ (lt_of_heap HK8.out) (fun h => h)).trans HK8.out)
    go_wp2_with (go_at_call 13; refine HSa.out.mono ?_; rintro e w10 ⟨rfl, hm10⟩; have HM10 := hid hm10; clear hm10)
    go_ret
    exact ⟨rfl, (HM.out.trans (HM8.out.trans (HM9.out.trans HM10.out))).below (Nat.le_refl _) (fun _ h => h.elim)⟩

theorem own : ownKnob Try.prog.godebug = none := by kernel_rfl
theorem laidOut : laidOutB Try.prog = true := by kernel_rfl

set_option maxRecDepth 100000 in
theorem contract (H : Type) (enc : TypeId × Value → H) (W : World) (base : Nat) (args : Array Value) (ds gs : List (DataW H)) (before : List MemPlace)
    (hval0 : ∀ (j : Nat) t v, Try.f3.params[j]? = some t → args[j]? = some v → Value.okWide Try.prog W .any base t v)
    (hW : DataW.Whole enc Try.prog Try.f3.params.toList Rows.rowsEncodeSpec.vars false W args.toList ds gs before) (hk : Rows.uptoSmall H (ds ++ gs) = true) :
    Calls Try.prog 3 args W fun e W' => ∃ v, e = .returned v ∧ Rows.rowsEncodeSpec.post enc Try.prog Try.f3 false true false false W args v W' := by
  have hbk := bulk_all hk
  have hval : ∀ (j : Nat) t v, Try.f3.params[j]? = some t → args[j]? = some v → Value.okWide Try.prog W .any base t v := hval0
  have hW' := hW
  obtain ⟨p, q, hA0, hV, rfl, hfz, hnd⟩ := hW
  have hA : DataW.TrodAll enc Try.prog W 0 (fun _ => true) true Try.f3.params.toList args.toList ds p := hA0
  rw [Try.params3] at hA hval
  obtain ⟨v0, vs0, d0, ds0, p0, q0, hargs, rfl, rfl, h0, r0⟩ := trodAll_cons hA
  obtain ⟨v1, vs1, d1, ds1, p1, q1, rfl, rfl, rfl, h1, r1⟩ := trodAll_cons r0
  obtain ⟨rfl, rfl, rfl⟩ := trodAll_nil r1
  obtain rfl : args = #[v0, v1] := by cases args; simp_all
  obtain ⟨rfl, rfl⟩ := trodVars_none hV
  have lt0 : ∀ x ∈ p0, x.block < W.heap.size := by obtain ⟨m, hm⟩ := h0; exact DataW.trod_lt m _ _ _ hm
  have lt1 : ∀ x ∈ p1, x.block < W.heap.size := by obtain ⟨m, hm⟩ := h1; exact DataW.trod_lt m _ _ _ hm
  obtain ⟨x0a, x0b, x0c, x0d, x0e, x0f, rfl, f0a, f0b⟩ := open_table (hval 0 24 v0 rfl rfl) h0 (hbk d0 (by simp))
  obtain ⟨x1a, x1b, x1c, rfl, f1a, f1b, f1c⟩ := open_row (hval 1 26 v1 rfl rfl) h1 (hbk d1 (by simp))
  clear hA0 hval0
  refine (walk W x0a x0b x0c x0d x0e x0f f0a f0b x1a x1b x1c f1a f1b f1c).mono fun e W' ⟨he, bel⟩ => ?_
  subst he
  exact ⟨_, rfl, _, _, _, [], _, [], hW', trodAll_mk1 (shut_bool Try.underlying4 _), (trodAll_cons_mk (Below.trod laidOut (by kernel_rfl) (of_decide_eq_true (by kernel_rfl)) h0 bel lt0) (trodAll_cons_mk (Below.trod laidOut (by kernel_rfl) (of_decide_eq_true (by kernel_rfl)) h1 bel lt1) trodAll_mk0)), rfl, bel.frame _, fun h => by cases h⟩

set_option maxRecDepth 100000 in
theorem lifted (os : Os) (started : os.Started) (H : Type) (enc : TypeId × Value → H) (F : Stop.Interp) :
    ReturnsInHanded {} Try.checked os 3 .any ((Rows.OpenSpec.upto Rows.rowsEncodeSpec).pre6 enc Try.prog Try.f3 Rows.rowsEncodeUptoRow.domain false) (((Rows.OpenSpec.upto Rows.rowsEncodeSpec).at F).post enc Try.prog Try.f3 false true false false) := by
  refine returnsInHanded_of_cond (C := Try.checked) (s := Rows.OpenSpec.upto Rows.rowsEncodeSpec) (k := Rows.uptoSmall) rfl own started (by kernel_rfl) Try.func3
    (OpenSpec.witness (enc := enc) (C := Try.checked) (s := Rows.OpenSpec.upto Rows.rowsEncodeSpec) (k := Rows.uptoSmall) rfl false ⟨#[], #[.agg #[.int .u8 0, .slice none 0 0, .int .i64 0, .int .i64 0], .slice none 0 0], []⟩ 8 (by kernel_rfl) (by kernel_rfl) (by kernel_rfl)
      (x := ([.agg [.lit (.int .u8 0), .nil, .lit (.int .i64 0), .lit (.int .i64 0)], .nil], [], [])) (by kernel_rfl) rfl (by kernel_rfl)) ?_
  intro W base args ds gs before hval hW _ hk _
  exact contract H enc W base args ds gs before hval hW hk

theorem proved : Rows.RowsEncodeUptoSaid :=
  OpenClaim.holds_of_cond 3 Try.f3 rfl rfl rfl rfl rfl rfl rfl ⟨rfl, rfl, rfl, rfl, rfl⟩ rfl rfl rfl rfl rfl (by kernel_rfl) Try.func3 (by kernel_rfl)
    (of_decide_eq_true (by kernel_rfl)) (by unfold Func.isWrapper; first | (rw [if_pos (by decide +kernel)]; kernel_rfl) | (rw [if_neg (by decide +kernel)]; exact ⟨rfl, rfl⟩))
    (fun os started H enc _ F => lifted os started H enc F)
#print axioms proved


end RowsEncode

theorem rowsEncode_holds : Rows.RowsEncodeUptoSaid := RowsEncode.proved
end Go.Proofs.Ytoclecpedhbokaa
