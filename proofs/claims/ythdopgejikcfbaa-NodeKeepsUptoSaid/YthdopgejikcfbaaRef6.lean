/- The document's fit nodes and places -/
import Derived.Test.YthdopgejikcfbaaRef5
import Derived.Test.YthdopgejikcfbaaPlace
import Derived.IntWalk
namespace Go.Proofs.Ythdopgejikcfbaa
open Go Go.RowKit

theorem binOp_string_leq (t : TypeId) (a b : ByteArray) : binOp .leq t (.string a) (.string b) = pure (.bool (Op.bytesLess a.toList b.toList || a.toList == b.toList)) := by simp [binOp, Op.stringOp]
attribute [local go_sem] binOp_string_leq

/-- An entry that may stand at its place. -/
structure EntOk (leaf : Bool) (es : List Ent) (i : Nat) (x : Ent) : Prop where
  one : ¬ x.key.size < 1
  le : x.key.size ≤ 48
  lt : ∀ y, 0 < i → es[i - 1]? = some y → Op.bytesLess y.key.toList x.key.toList = true
  val : leaf = true → x.value.size ≤ 200
  kid : leaf = false → 1 ≤ x.kid ∧ x.kid < 16384

def RFitP (leaf : Bool) (es : List Ent) : Prop := (∀ i x, es[i]? = some x → EntOk leaf es i x) ∧ (bytesL leaf es).length ≤ 1024 ∧ (leaf = true ∨ 0 < es.length)
noncomputable def rfitB (leaf : Bool) (es : List Ent) : Bool := @decide (RFitP leaf es) (Classical.propDecidable _)
theorem rfitB_true {leaf : Bool} {es : List Ent} (h : RFitP leaf es) : rfitB leaf es = true := @decide_eq_true _ (Classical.propDecidable _) h
theorem rfitB_false {leaf : Bool} {es : List Ent} (h : ¬ RFitP leaf es) : rfitB leaf es = false := @decide_eq_false _ (Classical.propDecidable _) h
theorem rfitB_iff {leaf : Bool} {es : List Ent} : rfitB leaf es = true ↔ RFitP leaf es := ⟨fun h => @of_decide_eq_true _ (Classical.propDecidable _) h, rfitB_true⟩

theorem leq_false {a b : List UInt8} (h : Op.bytesLess a b = true) : (Op.bytesLess b a || b == a) = false := by
  have h1 : Op.bytesLess b a = false := by
    cases hb : Op.bytesLess b a with
    | false => rfl
    | true => have := less_trans h hb; rw [less_irrefl] at this; cases this
  have h2 : (b == a) = false := by
    rw [beq_eq_false_iff_ne]
    rintro rfl
    rw [less_irrefl] at h
    cases h
  rw [h1, h2]
  rfl

theorem leq_true {a b : List UInt8} (h : Op.bytesLess a b = false) : (Op.bytesLess b a || b == a) = true := by
  cases hb : Op.bytesLess b a with
  | true => rfl
  | false => rw [less_total hb h]; simp

set_option maxRecDepth 100000 in
set_option maxHeartbeats 2000000 in
theorem rfit_true {w : World} {sa : Option Addr} {es : List Ent} (cap : Nat) (h : Lies w 3 Ent.cs sa es) (hb : es.length ≤ 4194304) (hok : ∀ x ∈ es, x.Ok) : Calls Try.prog 24 #[.agg #[.bool true, .slice sa es.length cap]] w fun e w' => e = .returned (.bool (rfitB true es)) ∧ Mod (fun _ => False) w w' := by
  have hm : Mod (fun _ => False) w (w.alloc (.cells #[.bool true, .slice sa es.length cap] 32)) := (Mod.refl _ _).alloc _
  have hbx : (w.alloc (.cells #[.bool true, .slice sa es.length cap] 32)).heap[w.heap.size]? = some (.cells #[.bool true, .slice sa es.length cap] 32 (0, 0)) := heap_alloc_new _ _
  have HLs := hid (h.ext hm)
  have HM := hid hm
  have HBx := hid hbx
  have HOk := hid hok
  have hbl : (ba (bytesL true es)).size = (bytesL true es).length := ba_size _
  have HBad := hid (fun (i : Nat) (x : Ent) (hx : es[i]? = some x) (hn : ¬ EntOk true es i x) => rfitB_false (leaf := true) (es := es) (fun hp => hn (hp.1 i x hx)))
  have HGood := hid (fun (ha : ∀ (i : Nat) x, es[i]? = some x → EntOk true es i x) => show rfitB true es = (decide ((bytesL true es).length ≤ 1024) && (true || decide (0 < es.length))) by
    rw [Bool.eq_iff_iff, rfitB_iff]
    simp only [RFitP, Bool.and_eq_true, decide_eq_true_eq, Bool.or_eq_true]
    exact ⟨fun h => h.2, fun h => ⟨ha, h⟩⟩)
  have HBy := hid (fun (w1 : World) (hm1 : Mod (fun _ => False) w w1) => rbytes_any true cap (h.ext hm1) hb hok)
  generalize rfitB true es = F at *
  generalize bytesL true es = L at *
  clear h hm hbx hok
  go_enter Try.func24, Try.ntmps24
  go_wp2_with fail
  generalize w.alloc (.cells #[.bool true, .slice sa es.length cap] 32) = W at *
  go_loopw [3] (fun c wr => ∃ k : Nat, k ≤ es.length ∧ c = .int .i64 k ∧ (∀ (i : Nat) x, i < k → es[i]? = some x → EntOk true es i x) ∧ Mod (fun _ => False) W wr) (fun c _ => es.length - (intOf c).toNat)
  case atStart => exact ⟨0, Nat.zero_le _, rfl, fun i x hi => by omega, Mod.refl _ _⟩
  case round =>
    obtain ⟨k, hk, rfl, hgo, hmk⟩ := hrel
    have HGo := hid hgo
    have HMk := hid hmk
    have hbx2 := (hmk.block _ (lt_of_heap HBx.out) (fun h => h)).trans HBx.out
    have HBx2 := hid hbx2
    obtain ⟨c0, c1⟩ := cells2 hbx2
    clear hgo hmk hbx2
    by_cases hlt : k < es.length
    · obtain ⟨x, hx⟩ : ∃ x, es[k]? = some x := ⟨_, List.getElem?_eq_getElem hlt⟩
      obtain ⟨g, off, rfl⟩ := HLs.out.some (by omega)
      obtain ⟨q0, q1, q2⟩ := rent_cells (HLs.out.ext HMk.out) hx
      obtain ⟨o1, o2, o3, o4⟩ := HOk.out x (List.mem_of_getElem? hx)
      have Hx := hid hx
      have HBk := hid (HBad.out k x hx)
      have hmx : Mod (fun _ => False) wr (wr.alloc (.cells #[.string x.key, .string x.value, .int .i64 x.kid] 51)) := (Mod.refl _ _).alloc _
      have HMx := hid (HMk.out.trans hmx)
      obtain ⟨y0, y1⟩ := cells2 ((hmx.block _ (lt_of_heap HBx2.out) (fun h => h)).trans HBx2.out)
      have HLx := hid (HLs.out.ext HMx.out)
      have kI : (0 : Int) ≤ (k : Int) := by omega
      clear hx hmx
      by_cases h1 : x.key.size < 1
      · have d1 : decide ((x.key.size : Int) < 1) = true := by rw [decide_eq_true_iff]; omega
        have HF0 := hid (HBk.out (fun h => h.one h1))
        go_wp2_with fail
        go_quiet (fail)
        go_wp2_with fail
        go_ret
        refine ⟨?_, (HM.out.trans HMx.out).drewN _⟩
        rw [HF0.out]
        rfl

      · have d1 : decide ((x.key.size : Int) < 1) = false := by rw [decide_eq_false_iff_not]; omega
        by_cases h48 : x.key.size ≤ 48
        · have d2 : decide ((48 : Int) < (x.key.size : Int)) = false := by rw [decide_eq_false_iff_not]; omega
          by_cases hk0 : 0 < k
          · have d3 : decide ((0 : Int) < (k : Int)) = true := by rw [decide_eq_true_iff]; omega
            obtain ⟨p, hp⟩ : ∃ p, es[k - 1]? = some p := ⟨_, List.getElem?_eq_getElem (by omega)⟩
            obtain ⟨p0, _, _⟩ := rent_cells HLx.out hp
            have Hp := hid hp
            have w1 : IntKind.i64.wrap ((k : Int) - 1) = (k : Int) - 1 := IntWalk.i64_in _ (by omega)
            have w2 : ((k : Int) - 1).toNat = k - 1 := by omega
            have w3 : (0 : Int) ≤ (k : Int) - 1 := by omega
            have w4 : (k : Int) - 1 < (es.length : Int) := by omega
            clear hp
            cases hl : Op.bytesLess p.key.toList x.key.toList with
            | true =>
              have d4 := leq_false hl
              have HPrev : Hid (∀ y, 0 < k → es[k - 1]? = some y → Op.bytesLess y.key.toList x.key.toList = true) := fun y _ hy => by rw [Hp.out] at hy; cases hy; exact hl
              clear hl
              by_cases hv : x.value.size ≤ 200
              · have d5 : decide ((200 : Int) < (x.value.size : Int)) = false := by rw [decide_eq_false_iff_not]; omega
                go_wp2_with fail
                go_quiet (fail)
                go_wp2_with fail
                go_roundw
                case rel =>
                  refine ⟨k + 1, by omega, by go_num, fun i y hi hy => ?_, HMx.out.drewN _⟩
                  rcases Nat.lt_or_ge i k with h | h
                  · exact HGo.out i y h hy
                  · have : i = k := by omega
                    subst this
                    rw [Hx.out] at hy
                    cases hy
                    exact ⟨h1, h48, HPrev.out, fun _ => hv, fun h => by cases h⟩
                case measure => simp [intOf]; omega
              · have d5 : decide ((200 : Int) < (x.value.size : Int)) = true := by rw [decide_eq_true_iff]; omega
                have HF0 := hid (HBk.out (fun h => hv (h.val rfl)))
                go_wp2_with fail
                go_quiet (fail)
                go_wp2_with fail
                go_ret
                refine ⟨?_, (HM.out.trans HMx.out).drewN _⟩
                rw [HF0.out]
                rfl

            | false =>
              have d4 := leq_true hl
              have HF0 := hid (HBk.out (fun h => by have := h.lt p hk0 Hp.out; rw [hl] at this; cases this))
              clear hl
              go_wp2_with fail
              go_quiet (fail)
              go_wp2_with fail
              go_ret
              refine ⟨?_, (HM.out.trans HMx.out).drewN _⟩
              rw [HF0.out]
              rfl
          · have d3 : decide ((0 : Int) < (k : Int)) = false := by rw [decide_eq_false_iff_not]; omega
            have HPrev : Hid (∀ y, 0 < k → es[k - 1]? = some y → Op.bytesLess y.key.toList x.key.toList = true) := fun y h => absurd h hk0
            by_cases hv : x.value.size ≤ 200
            · have d5 : decide ((200 : Int) < (x.value.size : Int)) = false := by rw [decide_eq_false_iff_not]; omega
              go_wp2_with fail
              go_quiet (fail)
              go_wp2_with fail
              go_roundw
              case rel =>
                refine ⟨k + 1, by omega, by go_num, fun i y hi hy => ?_, HMx.out.drewN _⟩
                rcases Nat.lt_or_ge i k with h | h
                · exact HGo.out i y h hy
                · have : i = k := by omega
                  subst this
                  rw [Hx.out] at hy
                  cases hy
                  exact ⟨h1, h48, HPrev.out, fun _ => hv, fun h => by cases h⟩
              case measure => simp [intOf]; omega
            · have d5 : decide ((200 : Int) < (x.value.size : Int)) = true := by rw [decide_eq_true_iff]; omega
              have HF0 := hid (HBk.out (fun h => hv (h.val rfl)))
              go_wp2_with fail
              go_quiet (fail)
              go_wp2_with fail
              go_ret
              refine ⟨?_, (HM.out.trans HMx.out).drewN _⟩
              rw [HF0.out]
              rfl

        · have d2 : decide ((48 : Int) < (x.key.size : Int)) = true := by rw [decide_eq_true_iff]; omega
          have HF0 := hid (HBk.out (fun h => h48 h.le))
          go_wp2_with fail
          go_quiet (fail)
          go_wp2_with fail
          go_ret
          refine ⟨?_, (HM.out.trans HMx.out).drewN _⟩
          rw [HF0.out]
          rfl

    · have hke : k = es.length := by omega
      subst hke
      have HFin := hid (HGood.out (fun i x hx => HGo.out i x (List.getElem?_eq_some_iff.1 hx).1 hx))
      go_wp2_with fail
      refine (HBy.out wr (HM.out.trans HMk.out)).mono ?_
      rintro e w2 ⟨rfl, hm2⟩
      obtain ⟨z0, z1⟩ := cells2 ((hm2.block _ (lt_of_heap HBx2.out) (fun h => h)).trans HBx2.out)
      have HM2 := hid ((HM.out.trans HMk.out).trans hm2)
      clear hm2 c0 c1
      by_cases h1 : L.length ≤ 1024
      · have d1 : decide ((L.length : Int) ≤ 1024) = true := by rw [decide_eq_true_iff]; omega
        by_cases h2 : 0 < es.length
        · have d2 : decide ((0 : Int) < (es.length : Int)) = true := by rw [decide_eq_true_iff]; omega
          have hf1 : F = true := by rw [HFin.out]; simp [h1, h2]
          have HF1 := hid hf1
          have d2n : Hid (decide (0 < es.length) = true) := hid (decide_eq_true h2)
          clear h1 h2 hf1
          go_wp2_with fail
          go_ret
          refine ⟨?_, HM2.out⟩
          rw [HF1.out]
          first
          | rfl
          | (show Ending.returned (.bool (decide (0 < es.length))) = _
             rw [d2n.out])
        · have d2 : decide ((0 : Int) < (es.length : Int)) = false := by rw [decide_eq_false_iff_not]; omega
          have hf1 : F = true := by rw [HFin.out, decide_eq_true h1, decide_eq_false h2]; rfl
          have HF1 := hid hf1
          have d2n : Hid (decide (0 < es.length) = false) := hid (decide_eq_false h2)
          clear h1 hf1
          go_wp2_with fail
          go_ret
          refine ⟨?_, HM2.out⟩
          rw [HF1.out]
          first
          | rfl
          | (show Ending.returned (.bool (decide (0 < es.length))) = _
             rw [d2n.out])
      · have d1 : decide ((L.length : Int) ≤ 1024) = false := by rw [decide_eq_false_iff_not]; omega
        have hf1 : F = false := by rw [HFin.out, decide_eq_false h1]; rfl
        have HF1 := hid hf1
        clear h1 hf1
        go_wp2_with fail
        go_ret
        refine ⟨?_, HM2.out⟩
        rw [HF1.out]
        rfl

set_option maxRecDepth 100000 in
set_option maxHeartbeats 2000000 in
theorem rfit_false {w : World} {sa : Option Addr} {es : List Ent} (cap : Nat) (h : Lies w 3 Ent.cs sa es) (hb : es.length ≤ 4194304) (hok : ∀ x ∈ es, x.Ok) : Calls Try.prog 24 #[.agg #[.bool false, .slice sa es.length cap]] w fun e w' => e = .returned (.bool (rfitB false es)) ∧ Mod (fun _ => False) w w' := by
  have hm : Mod (fun _ => False) w (w.alloc (.cells #[.bool false, .slice sa es.length cap] 32)) := (Mod.refl _ _).alloc _
  have hbx : (w.alloc (.cells #[.bool false, .slice sa es.length cap] 32)).heap[w.heap.size]? = some (.cells #[.bool false, .slice sa es.length cap] 32 (0, 0)) := heap_alloc_new _ _
  have HLs := hid (h.ext hm)
  have HM := hid hm
  have HBx := hid hbx
  have HOk := hid hok
  have hbl : (ba (bytesL false es)).size = (bytesL false es).length := ba_size _
  have HBad := hid (fun (i : Nat) (x : Ent) (hx : es[i]? = some x) (hn : ¬ EntOk false es i x) => rfitB_false (leaf := false) (es := es) (fun hp => hn (hp.1 i x hx)))
  have HGood := hid (fun (ha : ∀ (i : Nat) x, es[i]? = some x → EntOk false es i x) => show rfitB false es = (decide ((bytesL false es).length ≤ 1024) && (false || decide (0 < es.length))) by
    rw [Bool.eq_iff_iff, rfitB_iff]
    simp only [RFitP, Bool.and_eq_true, decide_eq_true_eq, Bool.or_eq_true]
    exact ⟨fun h => h.2, fun h => ⟨ha, h⟩⟩)
  have HBy := hid (fun (w1 : World) (hm1 : Mod (fun _ => False) w w1) => rbytes_any false cap (h.ext hm1) hb hok)
  generalize rfitB false es = F at *
  generalize bytesL false es = L at *
  clear h hm hbx hok
  go_enter Try.func24, Try.ntmps24
  go_wp2_with fail
  generalize w.alloc (.cells #[.bool false, .slice sa es.length cap] 32) = W at *
  go_loopw [3] (fun c wr => ∃ k : Nat, k ≤ es.length ∧ c = .int .i64 k ∧ (∀ (i : Nat) x, i < k → es[i]? = some x → EntOk false es i x) ∧ Mod (fun _ => False) W wr) (fun c _ => es.length - (intOf c).toNat)
  case atStart => exact ⟨0, Nat.zero_le _, rfl, fun i x hi => by omega, Mod.refl _ _⟩
  case round =>
    obtain ⟨k, hk, rfl, hgo, hmk⟩ := hrel
    have HGo := hid hgo
    have HMk := hid hmk
    have hbx2 := (hmk.block _ (lt_of_heap HBx.out) (fun h => h)).trans HBx.out
    have HBx2 := hid hbx2
    obtain ⟨c0, c1⟩ := cells2 hbx2
    clear hgo hmk hbx2
    by_cases hlt : k < es.length
    · obtain ⟨x, hx⟩ : ∃ x, es[k]? = some x := ⟨_, List.getElem?_eq_getElem hlt⟩
      obtain ⟨g, off, rfl⟩ := HLs.out.some (by omega)
      obtain ⟨q0, q1, q2⟩ := rent_cells (HLs.out.ext HMk.out) hx
      obtain ⟨o1, o2, o3, o4⟩ := HOk.out x (List.mem_of_getElem? hx)
      have Hx := hid hx
      have HBk := hid (HBad.out k x hx)
      have hmx : Mod (fun _ => False) wr (wr.alloc (.cells #[.string x.key, .string x.value, .int .i64 x.kid] 51)) := (Mod.refl _ _).alloc _
      have HMx := hid (HMk.out.trans hmx)
      obtain ⟨y0, y1⟩ := cells2 ((hmx.block _ (lt_of_heap HBx2.out) (fun h => h)).trans HBx2.out)
      have HLx := hid (HLs.out.ext HMx.out)
      have kI : (0 : Int) ≤ (k : Int) := by omega
      clear hx hmx
      by_cases h1 : x.key.size < 1
      · have d1 : decide ((x.key.size : Int) < 1) = true := by rw [decide_eq_true_iff]; omega
        have HF0 := hid (HBk.out (fun h => h.one h1))
        go_wp2_with fail
        go_quiet (fail)
        go_wp2_with fail
        go_ret
        refine ⟨?_, (HM.out.trans HMx.out).drewN _⟩
        rw [HF0.out]
        rfl

      · have d1 : decide ((x.key.size : Int) < 1) = false := by rw [decide_eq_false_iff_not]; omega
        by_cases h48 : x.key.size ≤ 48
        · have d2 : decide ((48 : Int) < (x.key.size : Int)) = false := by rw [decide_eq_false_iff_not]; omega
          by_cases hk0 : 0 < k
          · have d3 : decide ((0 : Int) < (k : Int)) = true := by rw [decide_eq_true_iff]; omega
            obtain ⟨p, hp⟩ : ∃ p, es[k - 1]? = some p := ⟨_, List.getElem?_eq_getElem (by omega)⟩
            obtain ⟨p0, _, _⟩ := rent_cells HLx.out hp
            have Hp := hid hp
            have w1 : IntKind.i64.wrap ((k : Int) - 1) = (k : Int) - 1 := IntWalk.i64_in _ (by omega)
            have w2 : ((k : Int) - 1).toNat = k - 1 := by omega
            have w3 : (0 : Int) ≤ (k : Int) - 1 := by omega
            have w4 : (k : Int) - 1 < (es.length : Int) := by omega
            clear hp
            cases hl : Op.bytesLess p.key.toList x.key.toList with
            | true =>
              have d4 := leq_false hl
              have HPrev : Hid (∀ y, 0 < k → es[k - 1]? = some y → Op.bytesLess y.key.toList x.key.toList = true) := fun y _ hy => by rw [Hp.out] at hy; cases hy; exact hl
              clear hl
              by_cases hv : x.kid < 1
              · have d5 : decide (x.kid < 1) = true := by rw [decide_eq_true_iff]; exact hv
                have HF0 := hid (HBk.out (fun h => by have := (h.kid rfl).1; omega))
                go_wp2_with fail
                go_quiet (fail)
                go_wp2_with fail
                go_ret
                refine ⟨?_, (HM.out.trans HMx.out).drewN _⟩
                rw [HF0.out]
                rfl
              · have d5 : decide (x.kid < 1) = false := by rw [decide_eq_false_iff_not]; exact hv
                by_cases hv2 : 16384 ≤ x.kid
                · have d6 : decide (16384 ≤ x.kid) = true := by rw [decide_eq_true_iff]; exact hv2
                  have HF0 := hid (HBk.out (fun h => by have := (h.kid rfl).2; omega))
                  go_wp2_with fail
                  go_quiet (fail)
                  go_wp2_with fail
                  go_ret
                  refine ⟨?_, (HM.out.trans HMx.out).drewN _⟩
                  rw [HF0.out]
                  rfl
                · have d6 : decide (16384 ≤ x.kid) = false := by rw [decide_eq_false_iff_not]; exact hv2
                  go_wp2_with fail
                  go_quiet (fail)
                  go_wp2_with fail
                  go_roundw
                  case rel =>
                    refine ⟨k + 1, by omega, by go_num, fun i y hi hy => ?_, HMx.out.drewN _⟩
                    rcases Nat.lt_or_ge i k with h | h
                    · exact HGo.out i y h hy
                    · have : i = k := by omega
                      subst this
                      rw [Hx.out] at hy
                      cases hy
                      exact ⟨h1, h48, HPrev.out, fun h => (by cases h), fun _ => ⟨by omega, by omega⟩⟩
                  case measure => simp [intOf]; omega

            | false =>
              have d4 := leq_true hl
              have HF0 := hid (HBk.out (fun h => by have := h.lt p hk0 Hp.out; rw [hl] at this; cases this))
              clear hl
              go_wp2_with fail
              go_quiet (fail)
              go_wp2_with fail
              go_ret
              refine ⟨?_, (HM.out.trans HMx.out).drewN _⟩
              rw [HF0.out]
              rfl
          · have d3 : decide ((0 : Int) < (k : Int)) = false := by rw [decide_eq_false_iff_not]; omega
            have HPrev : Hid (∀ y, 0 < k → es[k - 1]? = some y → Op.bytesLess y.key.toList x.key.toList = true) := fun y h => absurd h hk0
            by_cases hv : x.kid < 1
            · have d5 : decide (x.kid < 1) = true := by rw [decide_eq_true_iff]; exact hv
              have HF0 := hid (HBk.out (fun h => by have := (h.kid rfl).1; omega))
              go_wp2_with fail
              go_quiet (fail)
              go_wp2_with fail
              go_ret
              refine ⟨?_, (HM.out.trans HMx.out).drewN _⟩
              rw [HF0.out]
              rfl
            · have d5 : decide (x.kid < 1) = false := by rw [decide_eq_false_iff_not]; exact hv
              by_cases hv2 : 16384 ≤ x.kid
              · have d6 : decide (16384 ≤ x.kid) = true := by rw [decide_eq_true_iff]; exact hv2
                have HF0 := hid (HBk.out (fun h => by have := (h.kid rfl).2; omega))
                go_wp2_with fail
                go_quiet (fail)
                go_wp2_with fail
                go_ret
                refine ⟨?_, (HM.out.trans HMx.out).drewN _⟩
                rw [HF0.out]
                rfl
              · have d6 : decide (16384 ≤ x.kid) = false := by rw [decide_eq_false_iff_not]; exact hv2
                go_wp2_with fail
                go_quiet (fail)
                go_wp2_with fail
                go_roundw
                case rel =>
                  refine ⟨k + 1, by omega, by go_num, fun i y hi hy => ?_, HMx.out.drewN _⟩
                  rcases Nat.lt_or_ge i k with h | h
                  · exact HGo.out i y h hy
                  · have : i = k := by omega
                    subst this
                    rw [Hx.out] at hy
                    cases hy
                    exact ⟨h1, h48, HPrev.out, fun h => (by cases h), fun _ => ⟨by omega, by omega⟩⟩
                case measure => simp [intOf]; omega

        · have d2 : decide ((48 : Int) < (x.key.size : Int)) = true := by rw [decide_eq_true_iff]; omega
          have HF0 := hid (HBk.out (fun h => h48 h.le))
          go_wp2_with fail
          go_quiet (fail)
          go_wp2_with fail
          go_ret
          refine ⟨?_, (HM.out.trans HMx.out).drewN _⟩
          rw [HF0.out]
          rfl

    · have hke : k = es.length := by omega
      subst hke
      have HFin := hid (HGood.out (fun i x hx => HGo.out i x (List.getElem?_eq_some_iff.1 hx).1 hx))
      go_wp2_with fail
      refine (HBy.out wr (HM.out.trans HMk.out)).mono ?_
      rintro e w2 ⟨rfl, hm2⟩
      obtain ⟨z0, z1⟩ := cells2 ((hm2.block _ (lt_of_heap HBx2.out) (fun h => h)).trans HBx2.out)
      have HM2 := hid ((HM.out.trans HMk.out).trans hm2)
      clear hm2 c0 c1
      by_cases h1 : L.length ≤ 1024
      · have d1 : decide ((L.length : Int) ≤ 1024) = true := by rw [decide_eq_true_iff]; omega
        by_cases h2 : 0 < es.length
        · have d2 : decide ((0 : Int) < (es.length : Int)) = true := by rw [decide_eq_true_iff]; omega
          have hf1 : F = true := by rw [HFin.out]; simp [h1, h2]
          have HF1 := hid hf1
          have d2n : Hid (decide (0 < es.length) = true) := hid (decide_eq_true h2)
          clear h1 h2 hf1
          go_wp2_with fail
          go_ret
          refine ⟨?_, HM2.out⟩
          rw [HF1.out]
          first
          | rfl
          | (show Ending.returned (.bool (decide (0 < es.length))) = _
             rw [d2n.out])
        · have d2 : decide ((0 : Int) < (es.length : Int)) = false := by rw [decide_eq_false_iff_not]; omega
          have hf1 : F = false := by rw [HFin.out, decide_eq_true h1, decide_eq_false h2]; rfl
          have HF1 := hid hf1
          have d2n : Hid (decide (0 < es.length) = false) := hid (decide_eq_false h2)
          clear h1 hf1
          go_wp2_with fail
          go_ret
          refine ⟨?_, HM2.out⟩
          rw [HF1.out]
          first
          | rfl
          | (show Ending.returned (.bool (decide (0 < es.length))) = _
             rw [d2n.out])
      · have d1 : decide ((L.length : Int) ≤ 1024) = false := by rw [decide_eq_false_iff_not]; omega
        have hf1 : F = false := by rw [HFin.out, decide_eq_false h1]; rfl
        have HF1 := hid hf1
        clear h1 hf1
        go_wp2_with fail
        go_ret
        refine ⟨?_, HM2.out⟩
        rw [HF1.out]
        rfl

--TAIL
end Go.Proofs.Ythdopgejikcfbaa
