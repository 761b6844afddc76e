/- Is a node fit? Its bytes, or the refusal -/
import Derived.Test.YthdopgejikcfbaaNode
namespace Go.Proofs.Ythdopgejikcfbaa
open Go Go.RowKit

def longB (s : ByteArray) : Bool := decide (200 < s.size)
def outB (k : Int) : Bool := decide (k < 1) || decide (16384 ≤ k)

theorem fs_any (s : ByteArray) (w : World) (hs : s.size ≤ 4194304) : Calls Try.prog 42 #[.string s] w fun e w' => e = .returned (.bool (longB s)) ∧ w = w' := by
  unfold longB
  go_enter Try.func42, Try.ntmps42
  go_wp2
  go_ret
  refine ⟨?_, rfl⟩
  congr 2
  simp
  omega
theorem fi_any (k : Int) (w : World) : Calls Try.prog 44 #[.int .i64 k] w fun e w' => e = .returned (.bool (outB k)) ∧ w = w' := by
  by_cases h : k < 1
  · have e : outB k = true := by simp [outB, h]
    rw [e]
    have d : decide (k < 1) = true := by simpa using h
    go_enter Try.func44, Try.ntmps44
    go_wp2
    go_ret
    exact ⟨rfl, rfl⟩
  · have e : outB k = decide (16384 ≤ k) := by simp [outB, h]
    rw [e]
    have d : decide (k < 1) = false := by simpa using h
    go_enter Try.func44, Try.ntmps44
    go_wp2
    go_ret
    exact ⟨rfl, rfl⟩

set_option maxRecDepth 100000 in
theorem idxs_any {w : World} {a : Option Addr} {cap : Nat} {ls : List ByteArray} (h : Lies w 1 (fun x => [.string x]) a ls) (hb : ls.length ≤ 4194304) (hs : ∀ x ∈ ls, x.size ≤ 4194304) :
    Calls Try.prog 49 #[.slice a ls.length cap, .func (.func 42) #[] #[]] w fun e w' => (∃ k : Int, e = .returned (.int .i64 k) ∧ (decide (0 ≤ k) = ls.any longB)) ∧ w = w' := by
  have H := hid h
  have Hs := hid hs
  clear h hs
  go_enter Try.func49, Try.ntmps49
  go_wp2
  go_loop [8] (fun c => ∃ k : Nat, k ≤ ls.length ∧ c = .int .i64 k ∧ ∀ j, j < k → ∀ x, ls[j]? = some x → longB x = false) (fun c => ls.length - (intOf c).toNat)
  case atStart => exact ⟨0, Nat.zero_le _, rfl, fun j hj => by omega⟩
  case round =>
    obtain ⟨k, hk, rfl, hno⟩ := hrel
    have Hno := hid hno
    clear hno
    by_cases hlt : k < ls.length
    · obtain ⟨x, hx⟩ : ∃ x, ls[k]? = some x := ⟨_, List.getElem?_eq_getElem hlt⟩
      obtain ⟨g, off, rfl, hc⟩ := H.out.one hx
      have hsx := Hs.out x (List.mem_of_getElem? hx)
      have Hx := hid hx
      clear hx
      go_wp2_with fail
      refine (fs_any x w hsx).mono ?_
      rintro e w2 ⟨rfl, rfl⟩
      cases hp : longB x with
      | true =>
        go_wp2
        go_ret
        refine ⟨⟨k, rfl, ?_⟩, rfl⟩
        have : ls.any longB = true := List.any_eq_true.2 ⟨x, List.mem_of_getElem? Hx.out, hp⟩
        rw [this]; simp
      | false =>
        have Hp := hid hp
        clear hp
        go_wp2
        go_round
        case rel =>
          refine ⟨k + 1, by omega, by go_num, fun j hj y hy => ?_⟩
          rcases Nat.lt_or_ge j k with h | h
          · exact Hno.out j h y hy
          · have : j = k := by omega
            subst this
            rw [Hx.out] at hy
            cases hy
            exact Hp.out
        case measure => simp [intOf]; omega
    · go_wp2
      go_ret
      refine ⟨⟨-1, rfl, ?_⟩, rfl⟩
      have : ls.any longB = false := by
        rw [List.any_eq_false]
        intro x hx
        obtain ⟨j, hj⟩ := List.getElem?_of_mem hx
        rw [Hno.out j (by have := (List.getElem?_eq_some_iff.1 hj).1; omega) x hj]
        decide
      rw [this]; rfl

theorem conts_any {w : World} {a : Option Addr} {cap : Nat} {ls : List ByteArray} (h : Lies w 1 (fun x => [.string x]) a ls) (hb : ls.length ≤ 4194304) (hs : ∀ x ∈ ls, x.size ≤ 4194304) :
    Calls Try.prog 41 #[.slice a ls.length cap, .func (.func 42) #[] #[]] w fun e w' => e = .returned (.bool (ls.any longB)) ∧ w = w' := by
  have HI := hid (idxs_any (cap := cap) h hb hs)
  clear h hs
  go_enter Try.func41, Try.ntmps41
  go_wp2_with fail
  refine HI.out.mono ?_
  rintro e w2 ⟨⟨k, rfl, hk⟩, rfl⟩
  have Hk := hid hk
  clear hk
  go_wp2
  go_ret
  refine ⟨?_, rfl⟩
  rw [← Hk.out]
  rfl

set_option maxRecDepth 100000 in
theorem idxi_any {w : World} {a : Option Addr} {cap : Nat} {ls : List Int} (h : Lies w 1 (fun x : Int => [.int .i64 x]) a ls) (hb : ls.length ≤ 4194304) :
    Calls Try.prog 50 #[.slice a ls.length cap, .func (.func 44) #[] #[]] w fun e w' => (∃ k : Int, e = .returned (.int .i64 k) ∧ (decide (0 ≤ k) = ls.any outB)) ∧ w = w' := by
  have H := hid h
  clear h
  go_enter Try.func50, Try.ntmps50
  go_wp2
  go_loop [8] (fun c => ∃ k : Nat, k ≤ ls.length ∧ c = .int .i64 k ∧ ∀ j, j < k → ∀ x, ls[j]? = some x → outB x = false) (fun c => ls.length - (intOf c).toNat)
  case atStart => exact ⟨0, Nat.zero_le _, rfl, fun j hj => by omega⟩
  case round =>
    obtain ⟨k, hk, rfl, hno⟩ := hrel
    have Hno := hid hno
    clear hno
    by_cases hlt : k < ls.length
    · obtain ⟨x, hx⟩ : ∃ x, ls[k]? = some x := ⟨_, List.getElem?_eq_getElem hlt⟩
      obtain ⟨g, off, rfl, hc⟩ := H.out.one hx
      have Hx := hid hx
      clear hx
      go_wp2_with fail
      refine (fi_any x w).mono ?_
      rintro e w2 ⟨rfl, rfl⟩
      cases hp : outB x with
      | true =>
        go_wp2
        go_ret
        refine ⟨⟨k, rfl, ?_⟩, rfl⟩
        have : ls.any outB = true := List.any_eq_true.2 ⟨x, List.mem_of_getElem? Hx.out, hp⟩
        rw [this]; simp
      | false =>
        have Hp := hid hp
        clear hp
        go_wp2
        go_round
        case rel =>
          refine ⟨k + 1, by omega, by go_num, fun j hj y hy => ?_⟩
          rcases Nat.lt_or_ge j k with h | h
          · exact Hno.out j h y hy
          · have : j = k := by omega
            subst this
            rw [Hx.out] at hy
            cases hy
            exact Hp.out
        case measure => simp [intOf]; omega
    · go_wp2
      go_ret
      refine ⟨⟨-1, rfl, ?_⟩, rfl⟩
      have : ls.any outB = false := by
        rw [List.any_eq_false]
        intro x hx
        obtain ⟨j, hj⟩ := List.getElem?_of_mem hx
        rw [Hno.out j (by have := (List.getElem?_eq_some_iff.1 hj).1; omega) x hj]
        decide
      rw [this]; rfl

theorem conti_any {w : World} {a : Option Addr} {cap : Nat} {ls : List Int} (h : Lies w 1 (fun x : Int => [.int .i64 x]) a ls) (hb : ls.length ≤ 4194304) :
    Calls Try.prog 43 #[.slice a ls.length cap, .func (.func 44) #[] #[]] w fun e w' => e = .returned (.bool (ls.any outB)) ∧ w = w' := by
  have HI := hid (idxi_any (cap := cap) h hb)
  clear h
  go_enter Try.func43, Try.ntmps43
  go_wp2_with fail
  refine HI.out.mono ?_
  rintro e w2 ⟨⟨k, rfl, hk⟩, rfl⟩
  have Hk := hid hk
  clear hk
  go_wp2
  go_ret
  refine ⟨?_, rfl⟩
  rw [← Hk.out]
  rfl

theorem binOp_string_geq (t : TypeId) (a b : ByteArray) : binOp .geq t (.string a) (.string b) = pure (.bool (!Op.bytesLess a.toList b.toList)) := by simp [binOp, Op.stringOp]
attribute [local go_sem] binOp_string_geq

/-- A key that may stand at its place. -/
def KeyOk (ks : List ByteArray) (i : Nat) : Prop := ∃ x, ks[i]? = some x ∧ x.toList ≠ [] ∧ x.size ≤ 48 ∧ (0 < i → ∃ y, ks[i - 1]? = some y ∧ Op.bytesLess y.toList x.toList = true)
def KeysOk (ks : List ByteArray) : Prop := ∀ i, i < ks.length → KeyOk ks i
def restB (n : Nd) : Bool := if n.leaf then (decide (n.kids.length = 0) && decide (n.values.length = n.keys.length) && !n.values.any longB) else (decide (n.values.length = 0) && decide (n.kids.length = n.keys.length) && decide (0 < n.keys.length) && !n.kids.any outB)
def FitP (n : Nd) : Prop := KeysOk n.keys ∧ restB n = true
noncomputable def fitB (n : Nd) : Bool := @decide (FitP n) (Classical.propDecidable _)

theorem fitB_true {n : Nd} (h : FitP n) : fitB n = true := @decide_eq_true _ (Classical.propDecidable _) h
theorem fitB_false {n : Nd} (h : ¬ FitP n) : fitB n = false := @decide_eq_false _ (Classical.propDecidable _) h
theorem fitB_iff {n : Nd} : fitB n = true ↔ FitP n := ⟨fun h => @of_decide_eq_true _ (Classical.propDecidable _) h, fitB_true⟩
theorem fitB_rest {n : Nd} (h : KeysOk n.keys) : fitB n = restB n := by
  cases hr : restB n with
  | true => exact fitB_true ⟨h, hr⟩
  | false => exact fitB_false (fun hf => by rw [hf.2] at hr; cases hr)

set_option maxRecDepth 100000 in
set_option maxHeartbeats 1000000 in
theorem fit_any {w : World} {n : Nd} (h : NdAt w n) : Calls Try.prog 26 #[.agg #[.bool n.leaf, .slice n.ka n.keys.length n.kc, .slice n.va n.values.length n.vc, .slice n.ia n.kids.length n.ic]] w fun e w' => e = .returned (.bool (fitB n)) ∧ Mod (fun _ => False) w w' := by
  have hbk := h.bk
  have hbv := h.bv
  have hbi := h.bi
  have hm : Mod (fun _ => False) w (w.alloc (.cells #[.bool n.leaf, .slice n.ka n.keys.length n.kc, .slice n.va n.values.length n.vc, .slice n.ia n.kids.length n.ic] 26)) := (Mod.refl _ _).alloc _
  have hbox : (w.alloc (.cells #[.bool n.leaf, .slice n.ka n.keys.length n.kc, .slice n.va n.values.length n.vc, .slice n.ia n.kids.length n.ic] 26)).heap[w.heap.size]? = some (.cells #[.bool n.leaf, .slice n.ka n.keys.length n.kc, .slice n.va n.values.length n.vc, .slice n.ia n.kids.length n.ic] 26 (0, 0)) := heap_alloc_new _ _
  obtain ⟨b0, b1, b2, b3⟩ := cells4 hbox
  have HN := hid (h.ext hm)
  have HM := hid hm
  generalize hF : fitB n = F
  have HF := hid hF
  clear h hm hF hbox
  go_enter Try.func26, Try.ntmps26
  go_wp2_with fail
  generalize w.alloc (.cells #[.bool n.leaf, .slice n.ka n.keys.length n.kc, .slice n.va n.values.length n.vc, .slice n.ia n.kids.length n.ic] 26) = W at *
  go_loop [8] (fun c => ∃ k : Nat, k ≤ n.keys.length ∧ c = .int .i64 k ∧ ∀ i, i < k → KeyOk n.keys i) (fun c => n.keys.length - (intOf c).toNat)
  case atStart => exact ⟨0, Nat.zero_le _, rfl, fun i hi => by omega⟩
  case round =>
    obtain ⟨k, hk, rfl, hok⟩ := hrel
    have HOk := hid hok
    clear hok
    by_cases hlt : k < n.keys.length
    · obtain ⟨x, hx⟩ : ∃ x, n.keys[k]? = some x := ⟨_, List.getElem?_eq_getElem hlt⟩
      obtain ⟨g, off, ha, hc⟩ := HN.out.k.one hx
      have hsx := HN.out.sk x (List.mem_of_getElem? hx)
      have Hx := hid hx
      have hbad : ¬ KeyOk n.keys k → F = false := fun hb => by rw [← HF.out]; exact fitB_false (fun hf => hb (hf.1 k hlt))
      have HBad := hid hbad
      clear hbad
      by_cases he : x.toList = []
      · have hF0 : F = false := HBad.out (fun ⟨y, h1, h2, _⟩ => by rw [Hx.out] at h1; cases h1; exact h2 he)
        have d1 : x.toList.isEmpty = true := by rw [he]; rfl
        have HF0 := hid hF0
        clear hF0 hx
        rw [ha] at b1 ⊢
        clear ha
        go_wp2
        go_ret
        refine ⟨?_, HM.out⟩
        rw [HF0.out]
        rfl
      · have d1 : x.toList.isEmpty = false := by cases h : x.toList <;> simp_all
        by_cases h48 : x.size ≤ 48
        · have d2 : decide ((48 : Int) < (x.size : Int)) = false := by rw [decide_eq_false_iff_not]; omega
          by_cases hk0 : 0 < k
          · obtain ⟨y, hy⟩ : ∃ y, n.keys[k - 1]? = some y := ⟨_, List.getElem?_eq_getElem (by omega)⟩
            obtain ⟨g', off', ha', hc'⟩ := HN.out.k.one hy
            rw [ha] at ha'
            cases ha'
            have Hy := hid hy
            rw [ha] at b1 ⊢
            clear ha hx hy
            cases hlt2 : Op.bytesLess y.toList x.toList with
            | true =>
              have HLt := hid hlt2
              go_wp2
              go_round
              case rel =>
                refine ⟨k + 1, by omega, by go_num, fun i hi => ?_⟩
                rcases Nat.lt_or_ge i k with h | h
                · exact HOk.out i h
                · have : i = k := by omega
                  subst this
                  exact ⟨x, Hx.out, he, h48, fun _ => ⟨y, Hy.out, HLt.out⟩⟩
              case measure => simp [intOf]; omega
            | false =>
              have hF0 : F = false := HBad.out (fun ⟨x', h1, _, _, h2⟩ => by
                rw [Hx.out] at h1; cases h1
                obtain ⟨y', h3, h4⟩ := h2 hk0
                rw [Hy.out] at h3; cases h3
                rw [hlt2] at h4; cases h4)
              have HF0 := hid hF0
              clear hF0
              go_wp2
              go_ret
              refine ⟨?_, HM.out⟩
              rw [HF0.out]
              rfl
          · have hk00 : k = 0 := by omega
            rw [ha] at b1 ⊢
            clear ha hx
            have d3 : decide ((0 : Int) < (k : Int)) = false := by rw [decide_eq_false_iff_not]; omega
            have HK0 := hid hk00
            clear hk00
            go_wp2
            go_round
            case rel =>
              refine ⟨k + 1, by omega, by go_num, fun i hi => ?_⟩
              have : i = k := by have := HK0.out; omega
              subst this
              exact ⟨x, Hx.out, he, h48, fun h => absurd h hk0⟩
            case measure => simp [intOf]; omega
        · have d2 : decide ((48 : Int) < (x.size : Int)) = true := by rw [decide_eq_true_iff]; omega
          have hF0 : F = false := HBad.out (fun ⟨y, h1, _, h2, _⟩ => by rw [Hx.out] at h1; cases h1; exact h48 h2)
          have HF0 := hid hF0
          clear hF0 hx
          rw [ha] at b1 ⊢
          clear ha
          go_wp2
          go_ret
          refine ⟨?_, HM.out⟩
          rw [HF0.out]
          rfl
    · have hke : k = n.keys.length := by omega
      subst hke
      have hFr : F = restB n := by rw [← HF.out]; exact fitB_rest HOk.out
      have HCv := hid (conts_any (cap := n.vc) HN.out.v hbv HN.out.sv)
      have HCi := hid (conti_any (cap := n.ic) HN.out.i hbi)
      unfold restB at hFr
      generalize n.values.any longB = A at *
      generalize n.kids.any outB = B at *
      have HFr := hid hFr
      clear hFr
      cases hl : n.leaf with
      | true =>
        rw [hl] at b0 HFr
        simp only [if_true] at HFr
        by_cases h1 : n.kids.length = 0
        · have d1 : ((n.kids.length : Int) == 0) = true := by rw [beq_iff_eq]; omega
          by_cases h2 : n.values.length = n.keys.length
          · have d2 : ((n.values.length : Int) == (n.keys.length : Int)) = true := by rw [beq_iff_eq]; omega
            simp only [h1, h2, decide_true, Bool.true_and] at HFr
            clear h1 hl
            have H2 := hid h2
            clear h2
            go_wp2_with fail
            refine HCv.out.mono ?_
            rintro e w2 ⟨rfl, rfl⟩
            go_wp2_with fail
            go_ret
            refine ⟨?_, HM.out⟩
            rw [HFr.out]
            rfl
          · have d2 : ((n.values.length : Int) == (n.keys.length : Int)) = false := by rw [beq_eq_false_iff_ne]; omega
            simp only [h1, h2, decide_true, decide_false, Bool.true_and, Bool.false_and] at HFr
            clear h1 h2 hl
            go_wp2_with fail
            go_ret
            refine ⟨?_, HM.out⟩
            rw [HFr.out]
            rfl
        · have d1 : ((n.kids.length : Int) == 0) = false := by rw [beq_eq_false_iff_ne]; omega
          simp only [h1, decide_false, Bool.false_and] at HFr
          clear h1 hl
          go_wp2_with fail
          go_ret
          refine ⟨?_, HM.out⟩
          rw [HFr.out]
          rfl
      | false =>
        rw [hl] at b0 HFr
        simp only [Bool.false_eq_true, if_false] at HFr
        by_cases h1 : n.values.length = 0
        · have d1 : ((n.values.length : Int) == 0) = true := by rw [beq_iff_eq]; omega
          by_cases h2 : n.kids.length = n.keys.length
          · have d2 : ((n.kids.length : Int) == (n.keys.length : Int)) = true := by rw [beq_iff_eq]; omega
            by_cases h3 : 0 < n.keys.length
            · have d3 : decide ((0 : Int) < (n.keys.length : Int)) = true := by rw [decide_eq_true_iff]; omega
              simp only [h1, h2, h3, decide_true, Bool.true_and] at HFr
              clear h1 hl
              have H2 := hid h2
              clear h2
              go_wp2_with fail
              refine HCi.out.mono ?_
              rintro e w2 ⟨rfl, rfl⟩
              go_wp2_with fail
              go_ret
              refine ⟨?_, HM.out⟩
              rw [HFr.out]
              rfl
            · have d3 : decide ((0 : Int) < (n.keys.length : Int)) = false := by rw [decide_eq_false_iff_not]; omega
              simp only [h1, h2, h3, decide_true, decide_false, Bool.true_and, Bool.false_and] at HFr
              clear h1 h2 hl
              go_wp2_with fail
              go_ret
              refine ⟨?_, HM.out⟩
              rw [HFr.out]
              rfl
          · have d2 : ((n.kids.length : Int) == (n.keys.length : Int)) = false := by rw [beq_eq_false_iff_ne]; omega
            simp only [h1, h2, decide_true, decide_false, Bool.true_and, Bool.false_and] at HFr
            clear h1 h2 hl
            go_wp2_with fail
            go_ret
            refine ⟨?_, HM.out⟩
            rw [HFr.out]
            rfl
        · have d1 : ((n.values.length : Int) == 0) = false := by rw [beq_eq_false_iff_ne]; omega
          simp only [h1, decide_false, Bool.false_and] at HFr
          clear h1 hl
          go_wp2_with fail
          go_ret
          refine ⟨?_, HM.out⟩
          rw [HFr.out]
          rfl

/-- What Encode says. -/
noncomputable def encOk (n : Nd) : Bool := fitB n && decide ((bytesL n.leaf n.ents).length ≤ 1024)

def encV (E : Bool) (L : List UInt8) : Value := .tuple #[.string (if E then ba L else ⟨#[]⟩), .int .i64 (if E then 0 else 40)]

set_option maxRecDepth 100000 in
theorem encode_any {w : World} {n : Nd} (h : NdAt w n) : Calls Try.prog 14 #[.agg #[.bool n.leaf, .slice n.ka n.keys.length n.kc, .slice n.va n.values.length n.vc, .slice n.ia n.kids.length n.ic]] w fun e w' => e = .returned (encV (encOk n) (bytesL n.leaf n.ents)) ∧ Mod (fun _ => False) w w' := by
  have hm : Mod (fun _ => False) w (w.alloc (.cells #[.bool n.leaf, .slice n.ka n.keys.length n.kc, .slice n.va n.values.length n.vc, .slice n.ia n.kids.length n.ic] 26)) := (Mod.refl _ _).alloc _
  have hbox : (w.alloc (.cells #[.bool n.leaf, .slice n.ka n.keys.length n.kc, .slice n.va n.values.length n.vc, .slice n.ia n.kids.length n.ic] 26)).heap[w.heap.size]? = some (.cells #[.bool n.leaf, .slice n.ka n.keys.length n.kc, .slice n.va n.values.length n.vc, .slice n.ia n.kids.length n.ic] 26 (0, 0)) := heap_alloc_new _ _
  have HN := hid (h.ext hm)
  have HB := hid (bytes_any (h.ext hm))
  have HM := hid hm
  have HBox := hid hbox
  have hsz : (ba (bytesL n.leaf n.ents)).size = (bytesL n.leaf n.ents).length := ba_size _
  generalize hE : encOk n = E
  unfold encOk at hE
  have HE := hid hE
  generalize hL : bytesL n.leaf n.ents = L at *
  clear h hm hbox hE hL
  go_enter Try.func14, Try.ntmps14
  go_wp2_with fail
  generalize w.alloc (.cells #[.bool n.leaf, .slice n.ka n.keys.length n.kc, .slice n.va n.values.length n.vc, .slice n.ia n.kids.length n.ic] 26) = W at *
  refine HB.out.mono ?_
  rintro e w1 ⟨rfl, hm1⟩
  obtain ⟨b0, b1, b2, b3⟩ := cells4 ((hm1.block _ (lt_of_heap HBox.out) (fun h => h)).trans HBox.out)
  have HF := hid (fit_any (HN.out.ext hm1))
  have HM1 := hid (HM.out.trans hm1)
  clear hm1
  go_wp2_with fail
  refine HF.out.mono ?_
  rintro e w2 ⟨rfl, hm2⟩
  have HM2 := hid (HM1.out.trans hm2)
  clear hm2
  cases hf : fitB n with
  | true =>
    by_cases hle : L.length ≤ 1024
    · have d : decide ((L.length : Int) ≤ 1024) = true := by rw [decide_eq_true_iff]; omega
      have hE : E = true := by rw [← HE.out, hf]; simpa using hle
      have HE1 := hid hE
      clear hE hf
      go_wp2_with fail
      go_ret2
      refine ⟨?_, HM2.out⟩
      rw [HE1.out]; rfl
    · have d : decide ((L.length : Int) ≤ 1024) = false := by rw [decide_eq_false_iff_not]; omega
      have hE : E = false := by rw [← HE.out, hf]; simpa using hle
      have HE1 := hid hE
      clear hE hf
      go_wp2_with fail
      go_ret2
      refine ⟨?_, HM2.out⟩
      rw [HE1.out]; rfl
  | false =>
    have hE : E = false := by rw [← HE.out, hf]; rfl
    have HE1 := hid hE
    clear hE hf
    go_wp2_with fail
    go_ret2
    refine ⟨?_, HM2.out⟩
    rw [HE1.out]; rfl

end Go.Proofs.Ythdopgejikcfbaa
