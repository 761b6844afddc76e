/- Blanks and lines that are passed over change nothing but the lines' numbers: for every text and every number. The card ties the listed variables to the program's text. -/
import Derived.Test.YtmkbbclbkpofoaaDoorRows
import Derived.Test.YtmkbbclbkpofoaaDoorCards
import Derived.Test.YtmkbbclbkpofoaaDoorTie
import Derived.Test.YtmkbbclbkpofoaaDoorFlD
import Derived.Test.YtmkbbclbkpofoaaDoorFlSa
import Derived.Test.YtmkbbclbkpofoaaDoorFlB
import Derived.Test.YtmkbbclbkpofoaaDoorFlBl
import Derived.Test.YtmkbbclbkpofoaaDoorOpen1
import Derived.WalkKit
import Derived.ProofKit
import Derived.OpenShut
import Derived.ShutString
import Derived.Lay
import Derived.Deep.DeepHandedRow
namespace Go.Proofs.YtmkbbclbkpofoaaDoor
open Go Go.RowKit

namespace FlowBlanks
open Go.ChangeShapes Go.WideShapes Go.ChangeAt Go.ChangeMaps

theorem many_mod (m : Int) : ∃ k : Nat, k ≤ 4 ∧ (max 0 m).tmod 5 = (k : Int) := by
  have h1 : 0 ≤ max 0 m := Int.le_max_left 0 m
  rw [Int.tmod_eq_emod_of_nonneg h1]
  exact ⟨((max 0 m) % 5).toNat, by omega, by omega⟩

/-- What the wide text is behind one byte more. -/
structure Wd (k : Nat) (t s : ByteArray) (i : Nat) : Prop where
  l : s.data.toList = remark ++ wideT k (t.data.toList.take i)
  z : s.size ≤ 11 + 12 * i
theorem take_one (t : ByteArray) (i : Nat) (h : i < t.size) : t.data.toList.take (i + 1) = t.data.toList.take i ++ [t[i]] := by
  have h1 : i < t.data.toList.length := by rw [Array.length_toList]; exact h
  rw [List.take_add_one, List.getElem?_eq_getElem h1]
  simp [ByteArray.getElem_eq_getElem_data]
theorem wd_next {k : Nat} {t s y : ByteArray} {i : Nat} (h : Wd k t s i) (hi : i < t.size) (hy : y.data.toList = wideT k [t[i]]) (hz : y.size ≤ 12) : Wd k t (s ++ y) (i + 1) := by
  refine ⟨?_, by rw [ByteArray.size_append]; have := h.z; omega⟩
  rw [ByteArray.data_append, Array.toList_append, h.l, hy, take_one t i hi, wideT_app, List.append_assoc]
theorem pad_is {k : Nat} (hk : k ≤ 4) : ((⟨#[32, 32, 32, 32, 32]⟩ : ByteArray).extract 0 (1 + k)).data.toList = blanks (k + 1) := by
  have h : k = 0 ∨ k = 1 ∨ k = 2 ∨ k = 3 ∨ k = 4 := by omega
  rcases h with rfl | rfl | rfl | rfl | rfl <;> rfl

set_option maxRecDepth 100000 in
set_option maxHeartbeats 8000000 in
theorem walk' (W : World) (hg : Glob W) (t : ByteArray) (_ : t.size ≤ maxLen) (ht2 : t.size ≤ 140737488351232) (m : Int) (_ : -9223372036854775808 ≤ m) (_ : m ≤ 9223372036854775807) : Calls Tryd.prog 5 #[.string t, .int .i64 m] W fun e w' => e = .returned (.bool true) ∧ Below W.heap.size W w' := by
  have HG := hid hg
  have HW := hid (fun (X : World) (hm : Mod (fun _ => False) W X) => wakes_any (HG.out.ext hm))
  have HP := hid (fun (X : World) (hm : Mod (fun _ => False) W X) (s : ByteArray) => parse_any s (HG.out.ext hm))
  obtain ⟨k, hk4, hkm⟩ := many_mod m
  clear hg
  go_enter Tryd.func5, Tryd.ntmps5
  go_upto_region 4 with (go_at_call 11; refine (HW.out W (Mod.refl _ _)).mono ?_; rintro e w1 ⟨rfl, hm⟩; have HM1 := hid hm; clear hm)
  have hpd := pad_is hk4
  have hpz : ((⟨#[32, 32, 32, 32, 32]⟩ : ByteArray).extract 0 (1 + k)).size = k + 1 := by
    have := congrArg List.length hpd
    unfold blanks at this
    rw [List.length_replicate, Array.length_toList] at this
    exact this
  have HPd := hid hpd
  clear hpd hkm
  generalize (⟨#[32, 32, 32, 32, 32]⟩ : ByteArray).extract 0 (1 + k) = pad at *
  go_upto_region 6 with fail
  go_loopw [6, 7] (fun sw si wr => ∃ (i : Nat) (s : ByteArray), si = .int .i64 (i : Int) ∧ sw = .string s ∧ i ≤ t.size ∧ Wd k t s i ∧ wr = w1) (fun _ si _ => t.size - (intOf si).toNat)
  case atStart => exact ⟨0, _, rfl, rfl, Nat.zero_le _, ⟨rfl, by decide⟩, rfl⟩
  case round =>
    obtain ⟨i, s, rfl, rfl, hi, hwd, rfl⟩ := hrel
    have HWd := hid hwd
    have hsz := hwd.z
    clear hwd
    by_cases hlt : i < t.size
    case pos =>
      by_cases h32 : t[i] = 32
      · have e1 : ((t[i].toNat : Int) == 32) = true := by rw [h32]; rfl
        have HN := hid (wd_next (y := pad) HWd.out hlt (by rw [HPd.out, h32]; unfold wideT; rw [List.flatMap_cons, if_pos rfl, List.flatMap_nil, List.append_nil]) (by omega))
        clear h32
        go_wp2_with fail
        go_roundw
        case rel => exact ⟨i + 1, _, by go_num, rfl, by omega, HN.out, trivial⟩
        case measure => simp [intOf]; omega
      · have e1 : ((t[i].toNat : Int) == 32) = false := by
          have : t[i].toNat ≠ 32 := fun h => h32 (UInt8.toNat_inj.1 h)
          simp; omega
        by_cases h10 : t[i] = 10
        · have e2 : ((t[i].toNat : Int) == 10) = true := by rw [h10]; rfl
          have HN := hid (wd_next (y := (pad ++ (⟨#[10, 10]⟩ : ByteArray)) ++ pad) HWd.out hlt (by rw [ByteArray.data_append, ByteArray.data_append, Array.toList_append, Array.toList_append, HPd.out, h10]; unfold wideT; rw [List.flatMap_cons, if_neg (by decide), if_pos rfl, List.flatMap_nil, List.append_nil]) (by rw [ByteArray.size_append, ByteArray.size_append, show (⟨#[10, 10]⟩ : ByteArray).size = 2 from rfl]; omega))
          clear h10 h32
          go_wp2_with fail
          go_roundw
          case rel => exact ⟨i + 1, _, by go_num, rfl, by omega, HN.out, trivial⟩
          case measure => simp [intOf]; omega
        · have e2 : ((t[i].toNat : Int) == 10) = false := by
            have : t[i].toNat ≠ 10 := fun h => h10 (UInt8.toNat_inj.1 h)
            simp; omega
          have hse : (t.extract i (i + 1)).size = 1 := by rw [ByteArray.size_extract]; omega
          have HN := hid (wd_next (y := t.extract i (i + 1)) HWd.out hlt (by
            have h2 : (t.extract i (i + 1)).data.toList = (t.data.toList.drop i).take 1 := by simp [List.take_drop]
            rw [h2, List.drop_eq_getElem_cons (by rw [Array.length_toList]; exact hlt), List.take_succ_cons, List.take_zero]
            unfold wideT
            rw [List.flatMap_cons, if_neg h32, if_neg h10, List.flatMap_nil, List.append_nil]
            rfl) (by omega))
          have hsl : ∀ v : World, (Instr.slice 9 (.string t) (some (.int .i64 (i : Int))) (some (.int .i64 ((i : Int) + 1))) none).run Tryd.prog v = .ok (.string (t.extract i (i + 1))) v := fun v => by
            have := run_slice_string (P := Tryd.prog) v 9 t .i64 .i64 (i : Int) ((i : Int) + 1) Tryd.underlying9 (by omega) (by omega) (by omega)
            rw [show ((i : Int) + 1).toNat = i + 1 by omega, show ((i : Int)).toNat = i by omega] at this
            exact this
          clear h10 h32
          go_wp2_with fail
          go_roundw
          case rel => exact ⟨i + 1, _, by go_num, rfl, by omega, HN.out, trivial⟩
          case measure => simp [intOf]; omega
    case neg =>
      have hie : i = t.size := by omega
      subst hie
      have HPW := hid (parse_wide (s := s) (t := t) (k := k) (by have := HWd.out.l; rwa [List.take_of_length_le (by rw [Array.length_toList]; exact Nat.le_refl _)] at this))
      clear HWd
      by_cases hs : 2048 < s.size
      · have c1 : (2048 : Int) < (s.size : Int) := by omega
        go_wp2_with fail
        go_ret
        exact ⟨rfl, HM1.out.below (Nat.le_refl _) (fun _ h => h.elim)⟩
      · have c1 : ¬ (2048 : Int) < (s.size : Int) := by omega
        by_cases ht : 2048 < t.size
        · have c2 : (2048 : Int) < (t.size : Int) := by omega
          go_wp2_with fail
          go_ret
          exact ⟨rfl, HM1.out.below (Nat.le_refl _) (fun _ h => h.elim)⟩
        · have c2 : ¬ (2048 : Int) < (t.size : Int) := by omega
          have HPt := hid (HP.out wr HM1.out t)
          have HPs := hid (fun (X : World) (hm : Mod (fun _ => False) W X) => HP.out X hm s)
          rw [HPW.out (by omega) (by omega)] at HPs
          have HFi := hid (fun (x : Df) (n e : Int) (h : parseL t = (x, n, e)) (hn : n ≠ 0) => parse_first h hn)
          generalize hD : parseL t = D at *
          obtain ⟨d, n, e⟩ := D
          have HF := hid (HFi.out d n e rfl)
          have hn : 0 ≤ n ∧ n ≤ 4096 := by
            by_cases h0 : n = 0
            · omega
            · obtain ⟨_, j, h1, h2, _⟩ := HF.out h0
              have h3 := (pieces_len 10 t.data.toList).1
              have h4 : t.data.toList.length = t.size := Array.length_toList
              omega
          clear HFi HF HPW hD HP
          unfold wideN at HPs
          simp only at HPs
          go_upto_region 17 with (go_at_call 9; refine HPt.out.mono ?_; rintro _ w2 ⟨hm, la, cap, ss, rfl, hl⟩; have HM2 := hid hm; have HL1 := hid hl; clear hm hl)
          have HB1 : Hid ((w2.alloc (.cells #[.string d.name, .slice la d.steps.length cap] 24)).heap[w2.heap.size]? = some (.cells #[.string d.name, .slice la d.steps.length cap] 24 (0, 0))) := hid (heap_alloc_new _ _)
          have HM3 := hid ((HM1.out.trans HM2.out).alloc (.cells #[.string d.name, .slice la d.steps.length cap] 24))
          have HL2 := hid (HL1.out.ext ((Mod.refl _ _).alloc (.cells #[.string d.name, .slice la d.steps.length cap] 24)))
          generalize w2.alloc (.cells #[.string d.name, .slice la d.steps.length cap] 24) = V at *
          generalize w2.heap.size = db at *
          clear HM1 HM2 HL1 HPt
          go_upto_region 18 with (go_at_call 9; refine (HPs.out V HM3.out).mono ?_; rintro _ w3 ⟨hm, lb, cap2, ss2, rfl, hl⟩; have HM4 := hid hm; have HL3 := hid hl; clear hm hl)
          have HB2 : Hid ((w3.alloc (.cells #[.string d.name, .slice lb d.steps.length cap2] 24)).heap[w3.heap.size]? = some (.cells #[.string d.name, .slice lb d.steps.length cap2] 24 (0, 0))) := hid (heap_alloc_new _ _)
          have HB1' : Hid ((w3.alloc (.cells #[.string d.name, .slice lb d.steps.length cap2] 24)).heap[db]? = some (.cells #[.string d.name, .slice la d.steps.length cap] 24 (0, 0))) := hid (((HM4.out.alloc _).block _ (lt_of_heap HB1.out) (fun h => h)).trans HB1.out)
          have HM5 := hid ((HM3.out.trans HM4.out).alloc (.cells #[.string d.name, .slice lb d.steps.length cap2] 24))
          have HLa := hid (HL2.out.ext (HM4.out.alloc (.cells #[.string d.name, .slice lb d.steps.length cap2] 24)))
          have HLb := hid (HL3.out.ext ((Mod.refl _ _).alloc (.cells #[.string d.name, .slice lb d.steps.length cap2] 24)))
          generalize w3.alloc (.cells #[.string d.name, .slice lb d.steps.length cap2] 24) = V2 at *
          generalize w3.heap.size = rb at *
          clear HB1 HM3 HM4 HL2 HL3 HPs HG HW
          have HUp : Hid (∀ w', Mod (fun _ => False) V2 w' → w'.cell? ⟨db, 0, none⟩ = some (.string d.name) ∧ w'.cell? ⟨db, 1, none⟩ = some (.slice la d.steps.length cap) ∧ w'.cell? ⟨rb, 0, none⟩ = some (.string d.name) ∧ w'.cell? ⟨rb, 1, none⟩ = some (.slice lb d.steps.length cap2)) := hid (fun w' hm => by
            have h1 := row2 ((hm.block _ (lt_of_heap HB1'.out) (fun h => h)).trans HB1'.out)
            have h2 := row2 ((hm.block _ (lt_of_heap HB2.out) (fun h => h)).trans HB2.out)
            exact ⟨h1.1, h1.2.1, h2.1, h2.2.1⟩)
          clear HB1' HB2
          have HSt := hid (HUp.out V2 (Mod.refl _ _))
          obtain ⟨a0, a1, b0, b1⟩ := HSt.out
          by_cases h0 : n = 0
          · have h1 : ¬ (0 : Int) < n := by omega
            have h2 : (n == 0) = true := by simp [h0]
            have h3 : (2 * n == 0) = true := by simp [h0]
            have h6 : IntKind.i64.wrap (2 * n) = 2 * n := by rw [IntKind.wrap_i64]; omega
            go_upto_region 20 with fail
            go_region_held3 (fun w' => w'.cell? ⟨db, 0, none⟩ = some (.string d.name) ∧ w'.cell? ⟨db, 1, none⟩ = some (.slice la d.steps.length cap) ∧ w'.cell? ⟨rb, 0, none⟩ = some (.string d.name) ∧ w'.cell? ⟨rb, 1, none⟩ = some (.slice lb d.steps.length cap2))
              (first | exact ⟨a0, a1, b0, b1⟩ | exact ⟨c0, c1, d0, d1⟩ | exact ⟨e0, e1, f0, f1⟩ | exact ⟨g0, g1, i0, i1⟩ | go_keep)
              (first
                | (go_at_call 13; (with_reducible refine (lawref_any cap (HLa.out.ext HM6.out)).mono ?_); rintro _ w6 ⟨hm, lc6, cap6, ss6, rfl, hl⟩; have HM7 := hid (HM6.out.trans hm); have HAf := hid hl; have HBf := hid (HBl.out.ext hm); obtain ⟨e0, e1, f0, f1⟩ := HUp.out w6 HM7.out; clear hm hl)
                | (go_at_call 13; (with_reducible refine (lawref_any cap2 (HLb.out.ext HM6.out)).mono ?_); rintro _ w6 ⟨hm, lc6, cap6, ss6, rfl, hl⟩; have HM7 := hid (HM6.out.trans hm); have HBf := hid hl; have HAf := hid (HAl.out.ext hm); obtain ⟨e0, e1, f0, f1⟩ := HUp.out w6 HM7.out; clear hm hl)
                | (go_at_call 13; (with_reducible refine (lawref_any cap (HLa.out.ext (Mod.refl _ _).drew)).mono ?_); rintro _ w5 ⟨hm, lc5, cap5, ss5, rfl, hl⟩; have HM6 := hid ((Mod.refl _ _).drew.trans hm); have HAl := hid hl; obtain ⟨c0, c1, d0, d1⟩ := HUp.out w5 HM6.out; clear hm hl)
                | (go_at_call 13; (with_reducible refine (lawref_any cap2 (HLb.out.ext (Mod.refl _ _).drew)).mono ?_); rintro _ w5 ⟨hm, lc5, cap5, ss5, rfl, hl⟩; have HM6 := hid ((Mod.refl _ _).drew.trans hm); have HBl := hid hl; obtain ⟨c0, c1, d0, d1⟩ := HUp.out w5 HM6.out; clear hm hl)
                | (go_at_call 12; (with_reducible refine (same_any _ _ HAf.out HBf.out).mono ?_); rintro _ w7 ⟨rfl, hm⟩; have HM8 := hid (HM7.out.trans hm); obtain ⟨g0, g1, i0, i1⟩ := HUp.out w7 HM8.out; clear hm))
            all_goals
              go_wp2_with fail
              go_ret
              exact ⟨rfl, (HM5.out.trans HM8.out).below (Nat.le_refl _) (fun _ h => h.elim)⟩
          · have h1 : (0 : Int) < n := by omega
            have h2 : (n == 0) = false := by simp; omega
            have h3 : (2 * n == 0) = false := by simp; omega
            have h6 : IntKind.i64.wrap (2 * n) = 2 * n := by rw [IntKind.wrap_i64]; omega
            go_upto_region 20 with fail
            go_region_held3 (fun w' => w'.cell? ⟨db, 0, none⟩ = some (.string d.name) ∧ w'.cell? ⟨db, 1, none⟩ = some (.slice la d.steps.length cap) ∧ w'.cell? ⟨rb, 0, none⟩ = some (.string d.name) ∧ w'.cell? ⟨rb, 1, none⟩ = some (.slice lb d.steps.length cap2))
              (first | exact ⟨a0, a1, b0, b1⟩ | exact ⟨c0, c1, d0, d1⟩ | exact ⟨e0, e1, f0, f1⟩ | exact ⟨g0, g1, i0, i1⟩ | go_keep)
              (first
                | (go_at_call 13; (with_reducible refine (lawref_any cap (HLa.out.ext HM6.out)).mono ?_); rintro _ w6 ⟨hm, lc6, cap6, ss6, rfl, hl⟩; have HM7 := hid (HM6.out.trans hm); have HAf := hid hl; have HBf := hid (HBl.out.ext hm); obtain ⟨e0, e1, f0, f1⟩ := HUp.out w6 HM7.out; clear hm hl)
                | (go_at_call 13; (with_reducible refine (lawref_any cap2 (HLb.out.ext HM6.out)).mono ?_); rintro _ w6 ⟨hm, lc6, cap6, ss6, rfl, hl⟩; have HM7 := hid (HM6.out.trans hm); have HBf := hid hl; have HAf := hid (HAl.out.ext hm); obtain ⟨e0, e1, f0, f1⟩ := HUp.out w6 HM7.out; clear hm hl)
                | (go_at_call 13; (with_reducible refine (lawref_any cap (HLa.out.ext (Mod.refl _ _).drew)).mono ?_); rintro _ w5 ⟨hm, lc5, cap5, ss5, rfl, hl⟩; have HM6 := hid ((Mod.refl _ _).drew.trans hm); have HAl := hid hl; obtain ⟨c0, c1, d0, d1⟩ := HUp.out w5 HM6.out; clear hm hl)
                | (go_at_call 13; (with_reducible refine (lawref_any cap2 (HLb.out.ext (Mod.refl _ _).drew)).mono ?_); rintro _ w5 ⟨hm, lc5, cap5, ss5, rfl, hl⟩; have HM6 := hid ((Mod.refl _ _).drew.trans hm); have HBl := hid hl; obtain ⟨c0, c1, d0, d1⟩ := HUp.out w5 HM6.out; clear hm hl)
                | (go_at_call 12; (with_reducible refine (same_any _ _ HAf.out HBf.out).mono ?_); rintro _ w7 ⟨rfl, hm⟩; have HM8 := hid (HM7.out.trans hm); obtain ⟨g0, g1, i0, i1⟩ := HUp.out w7 HM8.out; clear hm))
            all_goals
              go_wp2_with fail
              go_ret
              exact ⟨rfl, (HM5.out.trans HM8.out).below (Nat.le_refl _) (fun _ h => h.elim)⟩
theorem own : ownKnob Tryd.prog.godebug = none := by kernel_rfl
theorem laidOut : laidOutB Tryd.prog = true := by kernel_rfl

/-- A world for the witness: the listed tables are laid. -/
noncomputable def laidWorld (os : Os) : World := World.laidAll Tryd.prog os Rows.flowBlanksRow.laid
theorem laid_met (os : Os) : laidMetH Tryd.prog Rows.flowBlanksRow.laid ((laidWorld os).forCall (fun _ _ => 0) ⟨#[], #[.string ⟨#[]⟩, .int .i64 0], []⟩).memory := by
  rw [MakeChecks.laidMetH_plain _ _ _ (by kernel_rfl)]
  exact laidMet_laidAll _ (by kernel_rfl) (by kernel_rfl)

set_option maxRecDepth 100000 in
theorem lifted (os : Os) (started : os.Started) (H : Type) (enc : TypeId × Value → H) (F : Stop.Interp) :
    ReturnsInHanded {} Tryd.checked os 5 .any ((OpenSpec.ofChange Rows.flowBlanksSpec).preRow enc Tryd.prog Tryd.f5 Rows.flowBlanksRow.domain false Rows.flowBlanksRow.laid) (((OpenSpec.ofChange Rows.flowBlanksSpec).at F).post enc Tryd.prog Tryd.f5 false true false false) := by
  refine returnsInHanded_of_row (C := Tryd.checked) (s := OpenSpec.ofChange Rows.flowBlanksSpec) own started (by kernel_rfl) Tryd.func5
    (witness_row_at (enc := enc) (C := Tryd.checked) false (laidWorld os) #[.string ⟨#[]⟩, .int .i64 0] (World.laidAll_os _ _ _) (by kernel_rfl) (by kernel_rfl) (by kernel_rfl)
      (OpenSpec.preRow_of_B rfl 8 (by kernel_rfl) (by kernel_rfl) (laid_met os))) ?_
  intro W base args ds gs before hval0 hW _ _ hsz0 hlaid hshape _
  have hsz : (DataW.weightsEach Tryd.prog (Tryd.f5.params.toList ++ Rows.flowBlanksSpec.plain.varTypes Tryd.prog) (ds ++ gs)).all (· ≤ reachBytes) = true := hsz0
  clear hsz0
  have hval : ∀ (j : Nat) t v, Tryd.f5.params[j]? = some t → args[j]? = some v → Value.okWide Tryd.prog W .any base t v := hval0
  have hW' := hW
  obtain ⟨p, q, hA0, hV, rfl, hfz, hnd⟩ := hW
  have hA : DataW.TrodAll enc Tryd.prog W 0 (fun _ => true) true Tryd.f5.params.toList args.toList ds p := hA0
  rw [Tryd.params5] at hA hval hsz
  obtain ⟨v0, vs0, d0, ds0, p0, q0, hargs, rfl, rfl, h0, r0⟩ := trodAll_cons hA
  obtain ⟨v1, vs1, d1, ds1, p1, q1, rfl, rfl, rfl, h1, r1⟩ := trodAll_cons r0
  obtain ⟨rfl, rfl, rfl⟩ := trodAll_nil r1
  obtain rfl : args = #[v0, v1] := by cases args; simp_all
  obtain ⟨rfl, rfl⟩ := trodVars_none hV
  have lt0 : ∀ x ∈ p0, x.block < W.heap.size := by obtain ⟨m, hm⟩ := h0; exact DataW.trod_lt m _ _ _ hm
  have lt1 : ∀ x ∈ p1, x.block < W.heap.size := by obtain ⟨m, hm⟩ := h1; exact DataW.trod_lt m _ _ _ hm
  have hsz' : (DataW.weightsEach Tryd.prog [9, 3] [d0, d1]).all (· ≤ reachBytes) = true := hsz
  obtain ⟨s0, rfl, rfl, rfl, ws0⟩ := open_string Tryd.underlying9 (hval 0 9 v0 rfl rfl) h0
  have wt0 : s0.size ≤ 140737488351232 := by have := (fits_of_each hsz' (j := 0) rfl rfl) s0.data.toList.length (by simp [DataW.weights]); simpa using this
  obtain ⟨n1, rfl, rfl, rfl, wf1⟩ := open_int Tryd.underlying3 (hval 1 3 v1 rfl rfl) h1
  have lh1 := wf_i64 wf1
  clear hA0 hval0
  refine (walk' W (glob_of hlaid hshape) s0 ws0 wt0 n1 lh1.1 lh1.2).mono fun e W' ⟨he, bel⟩ => ?_
  subst he
  exact ⟨_, rfl, _, _, _, [], _, [], hW', trodAll_mk1 (shut_bool Tryd.underlying4 _), (trodAll_cons_mk (Below.trod laidOut (by kernel_rfl) (of_decide_eq_true (by kernel_rfl)) h0 bel lt0) (trodAll_cons_mk (Below.trod laidOut (by kernel_rfl) (of_decide_eq_true (by kernel_rfl)) h1 bel lt1) trodAll_mk0)), rfl, bel.frame _, fun h => by cases h⟩

theorem said : Rows.FlowBlanksSaid :=
  OpenClaim.holds_of_cond 5 Tryd.f5 rfl rfl rfl rfl rfl rfl rfl ⟨rfl, rfl, rfl, rfl, rfl⟩ rfl rfl rfl rfl rfl (by kernel_rfl) Tryd.func5 (by kernel_rfl)
    (of_decide_eq_true (by kernel_rfl)) (by unfold Func.isWrapper; first | (rw [if_pos (by decide +kernel)]; kernel_rfl) | (rw [if_neg (by decide +kernel)]; exact ⟨rfl, rfl⟩))
    (fun os started H enc _ F => by rw [OpenClaim.pre_eq_preRow]; exact lifted os started H enc F)

theorem plain (f : FuncId) (fn : Func) (hf : Tryd.pinned.checked.prog.funcNamed "chandler/chandlerlaw10.FlowBlanks" = some f) (hfn : Tryd.pinned.checked.prog.funcs[f]? = some fn) :
    true = Tryd.pinned.checked.prog.looks [] ∧ ∀ (j : Nat) t, fn.params[j]? = some t → Tryd.pinned.checked.prog.wantsStandIn t = false := by
  obtain rfl : f = 5 := Option.some.inj ((show Tryd.prog.funcNamed "chandler/chandlerlaw10.FlowBlanks" = some 5 by kernel_rfl).symm.trans hf) |>.symm
  obtain rfl : fn = Tryd.f5 := (Option.some.inj (Tryd.func5.symm.trans hfn)).symm
  refine ⟨by kernel_rfl, fun j t ht => ?_⟩
  rw [Tryd.params5] at ht
  have ht2 : t = 9 ∨ t = 3 := by simpa using Array.mem_of_getElem? ht
  rcases ht2 with rfl | rfl
  · exact (show Tryd.prog.wantsStandIn 9 = false by kernel_rfl)
  · exact (show Tryd.prog.wantsStandIn 3 = false by kernel_rfl)

theorem card : Rows.FlowBlanksCardSaid :=
  Claim7.holds_tied_plain_at .later [] _ _ _ _ said (fun _ h => by cases h) (by kernel_rfl) (fun _ h => by cases h) flowBlanks_row_tie rfl ⟨rfl, rfl⟩ (by kernel_rfl) rfl plain (by kernel_rfl)

end FlowBlanks

theorem flowBlanks_holds : Rows.FlowBlanksCardSaid := FlowBlanks.card
#print axioms flowBlanks_holds

end Go.Proofs.YtmkbbclbkpofoaaDoor
