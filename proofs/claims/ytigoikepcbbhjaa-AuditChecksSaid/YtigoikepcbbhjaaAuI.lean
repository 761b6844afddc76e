/- slices.IndexFunc and slices.ContainsFunc at each of the audit's functions (printed by genau.py) -/
import Derived.Test.YtigoikepcbbhjaaProg
import Derived.Test.YtigoikepcbbhjaaAuL
namespace Go.Proofs.Ytigoikepcbbhjaa
open Go Go.RowKit

set_option maxRecDepth 100000 in
set_option maxHeartbeats 1000000 in
theorem idxLevel {w : World} {a : Option Addr} {l : List Lv} (cap b : Nat) (p : Lv → Bool) (hl : Lies w 6 Lv.cs a l) (hn : l.length ≤ 140737488351232)
    (hf : ∀ (w1 : World) (x : Lv), Mod (fun _ => False) w w1 → x ∈ l → Calls Try.prog 21 #[.agg #[.int .i64 x.i, .int .i64 x.r, .int .i64 x.h, .int .i64 x.a, .int .i64 x.s, .int .i64 x.b], .pointer (some ⟨b, 0, none⟩)] w1 fun e w' => e = .returned (.bool (p x)) ∧ Mod (fun _ => False) w1 w') :
    Calls Try.prog 34 #[.slice a l.length cap, .func (.func 21) #[] #[.pointer (some ⟨b, 0, none⟩)]] w fun e w' => e = .returned (.int .i64 (idxP p l)) ∧ Mod (fun _ => False) w w' := by
  have HL := hid hl
  have HF := hid hf
  clear hl hf
  go_enter Try.func34, Try.ntmps34
  go_wp2
  go_loopw [8] (fun c wr => ∃ k : Nat, k ≤ l.length ∧ c = .int .i64 (k : Int) ∧ (∀ j y, j < k → l[j]? = some y → p y = false) ∧ Mod (fun _ => False) w wr) (fun c _ => l.length - (intOf c).toNat)
  case atStart => exact ⟨0, Nat.zero_le _, rfl, (fun j y h => by omega), Mod.refl _ _⟩
  case round =>
    obtain ⟨k, hk, rfl, hno, hm⟩ := hrel
    have HNo := hid hno
    have HM := hid hm
    clear hno hm
    by_cases hlt : k < l.length
    · obtain ⟨x, hx⟩ : ∃ x, l[k]? = some x := ⟨_, List.getElem?_eq_getElem hlt⟩
      have hlc := HL.out.ext HM.out
      obtain ⟨g, off, rfl⟩ := hlc.some (by omega)
      have q0 := hlc.cell Lv.len hx (j := 0) rfl
      have q1 := hlc.cell Lv.len hx (j := 1) rfl
      have q2 := hlc.cell Lv.len hx (j := 2) rfl
      have q3 := hlc.cell Lv.len hx (j := 3) rfl
      have q4 := hlc.cell Lv.len hx (j := 4) rfl
      have q5 := hlc.cell Lv.len hx (j := 5) rfl
      have HX := hid hx
      have HC := hid (HF.out wr x HM.out (List.mem_of_getElem? hx))
      clear hx hlc
      rw [Nat.add_zero] at q0
      go_wp2_with fail
      refine HC.out.mono ?_
      rintro e w2 ⟨rfl, hm2⟩
      have HM2 := hid hm2
      clear hm2 q0 q1 q2 q3 q4 q5
      cases hp : p x with
      | true =>
        have HV : Hid (idxP p l = (k : Int)) := hid (idx_hit HNo.out HX.out hp)
        clear hp
        go_wp2_with fail
        go_ret
        exact ⟨by rw [HV.out]; rfl, HM.out.trans HM2.out⟩
      | false =>
        have HP := hid hp
        clear hp
        go_wp2_with fail
        go_roundw
        case rel =>
          refine ⟨k + 1, by omega, by go_num, fun j y hj hy => ?_, HM.out.trans HM2.out⟩
          by_cases hjk : j = k
          · subst hjk
            rw [HX.out] at hy
            cases hy
            exact HP.out
          · exact HNo.out j y (by omega) hy
        case measure => simp [intOf]; omega
    · have hke : k = l.length := by omega
      subst hke
      have HV : Hid (idxP p l = -1) := hid (idx_miss HNo.out)
      go_wp2_with fail
      go_ret
      exact ⟨by rw [HV.out]; rfl, HM.out⟩

set_option maxRecDepth 100000 in
theorem conLevel {w : World} {a : Option Addr} {l : List Lv} (cap b : Nat) (p : Lv → Bool) (hl : Lies w 6 Lv.cs a l) (hn : l.length ≤ 140737488351232)
    (hf : ∀ (w1 : World) (x : Lv), Mod (fun _ => False) w w1 → x ∈ l → Calls Try.prog 21 #[.agg #[.int .i64 x.i, .int .i64 x.r, .int .i64 x.h, .int .i64 x.a, .int .i64 x.s, .int .i64 x.b], .pointer (some ⟨b, 0, none⟩)] w1 fun e w' => e = .returned (.bool (p x)) ∧ Mod (fun _ => False) w1 w') :
    Calls Try.prog 20 #[.slice a l.length cap, .func (.func 21) #[] #[.pointer (some ⟨b, 0, none⟩)]] w fun e w' => e = .returned (.bool (l.any p)) ∧ Mod (fun _ => False) w w' := by
  have HI := hid (idxLevel cap b p hl hn hf)
  have HV := hid (idx_any p l)
  clear hl hf
  go_enter Try.func20, Try.ntmps20
  go_wp2_with fail
  refine HI.out.mono ?_
  rintro e w2 ⟨rfl, hm2⟩
  have HM2 := hid hm2
  clear hm2
  go_wp2_with fail
  go_ret
  exact ⟨by rw [HV.out]; rfl, HM2.out⟩

set_option maxRecDepth 100000 in
set_option maxHeartbeats 1000000 in
theorem idxHeld {w : World} {a : Option Addr} {l : List Hl} (cap b : Nat) (p : Hl → Bool) (hl : Lies w 3 Hl.cs a l) (hn : l.length ≤ 140737488351232)
    (hf : ∀ (w1 : World) (x : Hl), Mod (fun _ => False) w w1 → x ∈ l → Calls Try.prog 24 #[.agg #[.int .i64 x.o, .int .i64 x.c, .int .i64 x.a], .pointer (some ⟨b, 0, none⟩)] w1 fun e w' => e = .returned (.bool (p x)) ∧ Mod (fun _ => False) w1 w') :
    Calls Try.prog 36 #[.slice a l.length cap, .func (.func 24) #[] #[.pointer (some ⟨b, 0, none⟩)]] w fun e w' => e = .returned (.int .i64 (idxP p l)) ∧ Mod (fun _ => False) w w' := by
  have HL := hid hl
  have HF := hid hf
  clear hl hf
  go_enter Try.func36, Try.ntmps36
  go_wp2
  go_loopw [8] (fun c wr => ∃ k : Nat, k ≤ l.length ∧ c = .int .i64 (k : Int) ∧ (∀ j y, j < k → l[j]? = some y → p y = false) ∧ Mod (fun _ => False) w wr) (fun c _ => l.length - (intOf c).toNat)
  case atStart => exact ⟨0, Nat.zero_le _, rfl, (fun j y h => by omega), Mod.refl _ _⟩
  case round =>
    obtain ⟨k, hk, rfl, hno, hm⟩ := hrel
    have HNo := hid hno
    have HM := hid hm
    clear hno hm
    by_cases hlt : k < l.length
    · obtain ⟨x, hx⟩ : ∃ x, l[k]? = some x := ⟨_, List.getElem?_eq_getElem hlt⟩
      have hlc := HL.out.ext HM.out
      obtain ⟨g, off, rfl⟩ := hlc.some (by omega)
      have q0 := hlc.cell Hl.len hx (j := 0) rfl
      have q1 := hlc.cell Hl.len hx (j := 1) rfl
      have q2 := hlc.cell Hl.len hx (j := 2) rfl
      have HX := hid hx
      have HC := hid (HF.out wr x HM.out (List.mem_of_getElem? hx))
      clear hx hlc
      rw [Nat.add_zero] at q0
      go_wp2_with fail
      refine HC.out.mono ?_
      rintro e w2 ⟨rfl, hm2⟩
      have HM2 := hid hm2
      clear hm2 q0 q1 q2
      cases hp : p x with
      | true =>
        have HV : Hid (idxP p l = (k : Int)) := hid (idx_hit HNo.out HX.out hp)
        clear hp
        go_wp2_with fail
        go_ret
        exact ⟨by rw [HV.out]; rfl, HM.out.trans HM2.out⟩
      | false =>
        have HP := hid hp
        clear hp
        go_wp2_with fail
        go_roundw
        case rel =>
          refine ⟨k + 1, by omega, by go_num, fun j y hj hy => ?_, HM.out.trans HM2.out⟩
          by_cases hjk : j = k
          · subst hjk
            rw [HX.out] at hy
            cases hy
            exact HP.out
          · exact HNo.out j y (by omega) hy
        case measure => simp [intOf]; omega
    · have hke : k = l.length := by omega
      subst hke
      have HV : Hid (idxP p l = -1) := hid (idx_miss HNo.out)
      go_wp2_with fail
      go_ret
      exact ⟨by rw [HV.out]; rfl, HM.out⟩

set_option maxRecDepth 100000 in
theorem conHeld {w : World} {a : Option Addr} {l : List Hl} (cap b : Nat) (p : Hl → Bool) (hl : Lies w 3 Hl.cs a l) (hn : l.length ≤ 140737488351232)
    (hf : ∀ (w1 : World) (x : Hl), Mod (fun _ => False) w w1 → x ∈ l → Calls Try.prog 24 #[.agg #[.int .i64 x.o, .int .i64 x.c, .int .i64 x.a], .pointer (some ⟨b, 0, none⟩)] w1 fun e w' => e = .returned (.bool (p x)) ∧ Mod (fun _ => False) w1 w') :
    Calls Try.prog 23 #[.slice a l.length cap, .func (.func 24) #[] #[.pointer (some ⟨b, 0, none⟩)]] w fun e w' => e = .returned (.bool (l.any p)) ∧ Mod (fun _ => False) w w' := by
  have HI := hid (idxHeld cap b p hl hn hf)
  have HV := hid (idx_any p l)
  clear hl hf
  go_enter Try.func23, Try.ntmps23
  go_wp2_with fail
  refine HI.out.mono ?_
  rintro e w2 ⟨rfl, hm2⟩
  have HM2 := hid hm2
  clear hm2
  go_wp2_with fail
  go_ret
  exact ⟨by rw [HV.out]; rfl, HM2.out⟩

set_option maxRecDepth 100000 in
set_option maxHeartbeats 1000000 in
theorem idxHeldC {w : World} {a : Option Addr} {l : List Hl} (cap b : Nat) (p : Hl → Bool) (hl : Lies w 3 Hl.cs a l) (hn : l.length ≤ 140737488351232)
    (hf : ∀ (w1 : World) (x : Hl), Mod (fun _ => False) w w1 → x ∈ l → Calls Try.prog 30 #[.agg #[.int .i64 x.o, .int .i64 x.c, .int .i64 x.a], .pointer (some ⟨b, 0, none⟩)] w1 fun e w' => e = .returned (.bool (p x)) ∧ Mod (fun _ => False) w1 w') :
    Calls Try.prog 36 #[.slice a l.length cap, .func (.func 30) #[] #[.pointer (some ⟨b, 0, none⟩)]] w fun e w' => e = .returned (.int .i64 (idxP p l)) ∧ Mod (fun _ => False) w w' := by
  have HL := hid hl
  have HF := hid hf
  clear hl hf
  go_enter Try.func36, Try.ntmps36
  go_wp2
  go_loopw [8] (fun c wr => ∃ k : Nat, k ≤ l.length ∧ c = .int .i64 (k : Int) ∧ (∀ j y, j < k → l[j]? = some y → p y = false) ∧ Mod (fun _ => False) w wr) (fun c _ => l.length - (intOf c).toNat)
  case atStart => exact ⟨0, Nat.zero_le _, rfl, (fun j y h => by omega), Mod.refl _ _⟩
  case round =>
    obtain ⟨k, hk, rfl, hno, hm⟩ := hrel
    have HNo := hid hno
    have HM := hid hm
    clear hno hm
    by_cases hlt : k < l.length
    · obtain ⟨x, hx⟩ : ∃ x, l[k]? = some x := ⟨_, List.getElem?_eq_getElem hlt⟩
      have hlc := HL.out.ext HM.out
      obtain ⟨g, off, rfl⟩ := hlc.some (by omega)
      have q0 := hlc.cell Hl.len hx (j := 0) rfl
      have q1 := hlc.cell Hl.len hx (j := 1) rfl
      have q2 := hlc.cell Hl.len hx (j := 2) rfl
      have HX := hid hx
      have HC := hid (HF.out wr x HM.out (List.mem_of_getElem? hx))
      clear hx hlc
      rw [Nat.add_zero] at q0
      go_wp2_with fail
      refine HC.out.mono ?_
      rintro e w2 ⟨rfl, hm2⟩
      have HM2 := hid hm2
      clear hm2 q0 q1 q2
      cases hp : p x with
      | true =>
        have HV : Hid (idxP p l = (k : Int)) := hid (idx_hit HNo.out HX.out hp)
        clear hp
        go_wp2_with fail
        go_ret
        exact ⟨by rw [HV.out]; rfl, HM.out.trans HM2.out⟩
      | false =>
        have HP := hid hp
        clear hp
        go_wp2_with fail
        go_roundw
        case rel =>
          refine ⟨k + 1, by omega, by go_num, fun j y hj hy => ?_, HM.out.trans HM2.out⟩
          by_cases hjk : j = k
          · subst hjk
            rw [HX.out] at hy
            cases hy
            exact HP.out
          · exact HNo.out j y (by omega) hy
        case measure => simp [intOf]; omega
    · have hke : k = l.length := by omega
      subst hke
      have HV : Hid (idxP p l = -1) := hid (idx_miss HNo.out)
      go_wp2_with fail
      go_ret
      exact ⟨by rw [HV.out]; rfl, HM.out⟩

set_option maxRecDepth 100000 in
theorem conHeldC {w : World} {a : Option Addr} {l : List Hl} (cap b : Nat) (p : Hl → Bool) (hl : Lies w 3 Hl.cs a l) (hn : l.length ≤ 140737488351232)
    (hf : ∀ (w1 : World) (x : Hl), Mod (fun _ => False) w w1 → x ∈ l → Calls Try.prog 30 #[.agg #[.int .i64 x.o, .int .i64 x.c, .int .i64 x.a], .pointer (some ⟨b, 0, none⟩)] w1 fun e w' => e = .returned (.bool (p x)) ∧ Mod (fun _ => False) w1 w') :
    Calls Try.prog 23 #[.slice a l.length cap, .func (.func 30) #[] #[.pointer (some ⟨b, 0, none⟩)]] w fun e w' => e = .returned (.bool (l.any p)) ∧ Mod (fun _ => False) w w' := by
  have HI := hid (idxHeldC cap b p hl hn hf)
  have HV := hid (idx_any p l)
  clear hl hf
  go_enter Try.func23, Try.ntmps23
  go_wp2_with fail
  refine HI.out.mono ?_
  rintro e w2 ⟨rfl, hm2⟩
  have HM2 := hid hm2
  clear hm2
  go_wp2_with fail
  go_ret
  exact ⟨by rw [HV.out]; rfl, HM2.out⟩

set_option maxRecDepth 100000 in
set_option maxHeartbeats 1000000 in
theorem idxAccount {w : World} {a : Option Addr} {l : List Ac} (cap b : Nat) (p : Ac → Bool) (hl : Lies w 9 Ac.cs a l) (hn : l.length ≤ 140737488351232)
    (hf : ∀ (w1 : World) (x : Ac), Mod (fun _ => False) w w1 → x ∈ l → Calls Try.prog 27 #[.agg #[.int .i64 x.o, .int .i64 x.c, .int .i64 x.s, .int .i64 x.l, .int .i64 x.n, .int .i64 x.t, .int .i64 x.p, .int .i64 x.w, .int .i64 x.d], .pointer (some ⟨b, 0, none⟩)] w1 fun e w' => e = .returned (.bool (p x)) ∧ Mod (fun _ => False) w1 w') :
    Calls Try.prog 39 #[.slice a l.length cap, .func (.func 27) #[] #[.pointer (some ⟨b, 0, none⟩)]] w fun e w' => e = .returned (.int .i64 (idxP p l)) ∧ Mod (fun _ => False) w w' := by
  have HL := hid hl
  have HF := hid hf
  clear hl hf
  go_enter Try.func39, Try.ntmps39
  go_wp2
  go_loopw [8] (fun c wr => ∃ k : Nat, k ≤ l.length ∧ c = .int .i64 (k : Int) ∧ (∀ j y, j < k → l[j]? = some y → p y = false) ∧ Mod (fun _ => False) w wr) (fun c _ => l.length - (intOf c).toNat)
  case atStart => exact ⟨0, Nat.zero_le _, rfl, (fun j y h => by omega), Mod.refl _ _⟩
  case round =>
    obtain ⟨k, hk, rfl, hno, hm⟩ := hrel
    have HNo := hid hno
    have HM := hid hm
    clear hno hm
    by_cases hlt : k < l.length
    · obtain ⟨x, hx⟩ : ∃ x, l[k]? = some x := ⟨_, List.getElem?_eq_getElem hlt⟩
      have hlc := HL.out.ext HM.out
      obtain ⟨g, off, rfl⟩ := hlc.some (by omega)
      have q0 := hlc.cell Ac.len hx (j := 0) rfl
      have q1 := hlc.cell Ac.len hx (j := 1) rfl
      have q2 := hlc.cell Ac.len hx (j := 2) rfl
      have q3 := hlc.cell Ac.len hx (j := 3) rfl
      have q4 := hlc.cell Ac.len hx (j := 4) rfl
      have q5 := hlc.cell Ac.len hx (j := 5) rfl
      have q6 := hlc.cell Ac.len hx (j := 6) rfl
      have q7 := hlc.cell Ac.len hx (j := 7) rfl
      have q8 := hlc.cell Ac.len hx (j := 8) rfl
      have HX := hid hx
      have HC := hid (HF.out wr x HM.out (List.mem_of_getElem? hx))
      clear hx hlc
      rw [Nat.add_zero] at q0
      go_wp2_with fail
      refine HC.out.mono ?_
      rintro e w2 ⟨rfl, hm2⟩
      have HM2 := hid hm2
      clear hm2 q0 q1 q2 q3 q4 q5 q6 q7 q8
      cases hp : p x with
      | true =>
        have HV : Hid (idxP p l = (k : Int)) := hid (idx_hit HNo.out HX.out hp)
        clear hp
        go_wp2_with fail
        go_ret
        exact ⟨by rw [HV.out]; rfl, HM.out.trans HM2.out⟩
      | false =>
        have HP := hid hp
        clear hp
        go_wp2_with fail
        go_roundw
        case rel =>
          refine ⟨k + 1, by omega, by go_num, fun j y hj hy => ?_, HM.out.trans HM2.out⟩
          by_cases hjk : j = k
          · subst hjk
            rw [HX.out] at hy
            cases hy
            exact HP.out
          · exact HNo.out j y (by omega) hy
        case measure => simp [intOf]; omega
    · have hke : k = l.length := by omega
      subst hke
      have HV : Hid (idxP p l = -1) := hid (idx_miss HNo.out)
      go_wp2_with fail
      go_ret
      exact ⟨by rw [HV.out]; rfl, HM.out⟩

set_option maxRecDepth 100000 in
theorem conAccount {w : World} {a : Option Addr} {l : List Ac} (cap b : Nat) (p : Ac → Bool) (hl : Lies w 9 Ac.cs a l) (hn : l.length ≤ 140737488351232)
    (hf : ∀ (w1 : World) (x : Ac), Mod (fun _ => False) w w1 → x ∈ l → Calls Try.prog 27 #[.agg #[.int .i64 x.o, .int .i64 x.c, .int .i64 x.s, .int .i64 x.l, .int .i64 x.n, .int .i64 x.t, .int .i64 x.p, .int .i64 x.w, .int .i64 x.d], .pointer (some ⟨b, 0, none⟩)] w1 fun e w' => e = .returned (.bool (p x)) ∧ Mod (fun _ => False) w1 w') :
    Calls Try.prog 26 #[.slice a l.length cap, .func (.func 27) #[] #[.pointer (some ⟨b, 0, none⟩)]] w fun e w' => e = .returned (.bool (l.any p)) ∧ Mod (fun _ => False) w w' := by
  have HI := hid (idxAccount cap b p hl hn hf)
  have HV := hid (idx_any p l)
  clear hl hf
  go_enter Try.func26, Try.ntmps26
  go_wp2_with fail
  refine HI.out.mono ?_
  rintro e w2 ⟨rfl, hm2⟩
  have HM2 := hid hm2
  clear hm2
  go_wp2_with fail
  go_ret
  exact ⟨by rw [HV.out]; rfl, HM2.out⟩

set_option maxRecDepth 100000 in
set_option maxHeartbeats 1000000 in
theorem idxAccountC {w : World} {a : Option Addr} {l : List Ac} (cap b : Nat) (p : Ac → Bool) (hl : Lies w 9 Ac.cs a l) (hn : l.length ≤ 140737488351232)
    (hf : ∀ (w1 : World) (x : Ac), Mod (fun _ => False) w w1 → x ∈ l → Calls Try.prog 33 #[.agg #[.int .i64 x.o, .int .i64 x.c, .int .i64 x.s, .int .i64 x.l, .int .i64 x.n, .int .i64 x.t, .int .i64 x.p, .int .i64 x.w, .int .i64 x.d], .pointer (some ⟨b, 0, none⟩)] w1 fun e w' => e = .returned (.bool (p x)) ∧ Mod (fun _ => False) w1 w') :
    Calls Try.prog 39 #[.slice a l.length cap, .func (.func 33) #[] #[.pointer (some ⟨b, 0, none⟩)]] w fun e w' => e = .returned (.int .i64 (idxP p l)) ∧ Mod (fun _ => False) w w' := by
  have HL := hid hl
  have HF := hid hf
  clear hl hf
  go_enter Try.func39, Try.ntmps39
  go_wp2
  go_loopw [8] (fun c wr => ∃ k : Nat, k ≤ l.length ∧ c = .int .i64 (k : Int) ∧ (∀ j y, j < k → l[j]? = some y → p y = false) ∧ Mod (fun _ => False) w wr) (fun c _ => l.length - (intOf c).toNat)
  case atStart => exact ⟨0, Nat.zero_le _, rfl, (fun j y h => by omega), Mod.refl _ _⟩
  case round =>
    obtain ⟨k, hk, rfl, hno, hm⟩ := hrel
    have HNo := hid hno
    have HM := hid hm
    clear hno hm
    by_cases hlt : k < l.length
    · obtain ⟨x, hx⟩ : ∃ x, l[k]? = some x := ⟨_, List.getElem?_eq_getElem hlt⟩
      have hlc := HL.out.ext HM.out
      obtain ⟨g, off, rfl⟩ := hlc.some (by omega)
      have q0 := hlc.cell Ac.len hx (j := 0) rfl
      have q1 := hlc.cell Ac.len hx (j := 1) rfl
      have q2 := hlc.cell Ac.len hx (j := 2) rfl
      have q3 := hlc.cell Ac.len hx (j := 3) rfl
      have q4 := hlc.cell Ac.len hx (j := 4) rfl
      have q5 := hlc.cell Ac.len hx (j := 5) rfl
      have q6 := hlc.cell Ac.len hx (j := 6) rfl
      have q7 := hlc.cell Ac.len hx (j := 7) rfl
      have q8 := hlc.cell Ac.len hx (j := 8) rfl
      have HX := hid hx
      have HC := hid (HF.out wr x HM.out (List.mem_of_getElem? hx))
      clear hx hlc
      rw [Nat.add_zero] at q0
      go_wp2_with fail
      refine HC.out.mono ?_
      rintro e w2 ⟨rfl, hm2⟩
      have HM2 := hid hm2
      clear hm2 q0 q1 q2 q3 q4 q5 q6 q7 q8
      cases hp : p x with
      | true =>
        have HV : Hid (idxP p l = (k : Int)) := hid (idx_hit HNo.out HX.out hp)
        clear hp
        go_wp2_with fail
        go_ret
        exact ⟨by rw [HV.out]; rfl, HM.out.trans HM2.out⟩
      | false =>
        have HP := hid hp
        clear hp
        go_wp2_with fail
        go_roundw
        case rel =>
          refine ⟨k + 1, by omega, by go_num, fun j y hj hy => ?_, HM.out.trans HM2.out⟩
          by_cases hjk : j = k
          · subst hjk
            rw [HX.out] at hy
            cases hy
            exact HP.out
          · exact HNo.out j y (by omega) hy
        case measure => simp [intOf]; omega
    · have hke : k = l.length := by omega
      subst hke
      have HV : Hid (idxP p l = -1) := hid (idx_miss HNo.out)
      go_wp2_with fail
      go_ret
      exact ⟨by rw [HV.out]; rfl, HM.out⟩

set_option maxRecDepth 100000 in
theorem conAccountC {w : World} {a : Option Addr} {l : List Ac} (cap b : Nat) (p : Ac → Bool) (hl : Lies w 9 Ac.cs a l) (hn : l.length ≤ 140737488351232)
    (hf : ∀ (w1 : World) (x : Ac), Mod (fun _ => False) w w1 → x ∈ l → Calls Try.prog 33 #[.agg #[.int .i64 x.o, .int .i64 x.c, .int .i64 x.s, .int .i64 x.l, .int .i64 x.n, .int .i64 x.t, .int .i64 x.p, .int .i64 x.w, .int .i64 x.d], .pointer (some ⟨b, 0, none⟩)] w1 fun e w' => e = .returned (.bool (p x)) ∧ Mod (fun _ => False) w1 w') :
    Calls Try.prog 26 #[.slice a l.length cap, .func (.func 33) #[] #[.pointer (some ⟨b, 0, none⟩)]] w fun e w' => e = .returned (.bool (l.any p)) ∧ Mod (fun _ => False) w w' := by
  have HI := hid (idxAccountC cap b p hl hn hf)
  have HV := hid (idx_any p l)
  clear hl hf
  go_enter Try.func26, Try.ntmps26
  go_wp2_with fail
  refine HI.out.mono ?_
  rintro e w2 ⟨rfl, hm2⟩
  have HM2 := hid hm2
  clear hm2
  go_wp2_with fail
  go_ret
  exact ⟨by rw [HV.out]; rfl, HM2.out⟩

set_option maxRecDepth 100000 in
set_option maxHeartbeats 1000000 in
theorem idxGoodsC {w : World} {a : Option Addr} {l : List Gd} (cap b : Nat) (p : Gd → Bool) (hl : Lies w 3 Gd.cs a l) (hn : l.length ≤ 140737488351232)
    (hf : ∀ (w1 : World) (x : Gd), Mod (fun _ => False) w w1 → x ∈ l → Calls Try.prog 32 #[.agg #[.int .i64 x.o, .int .i64 x.s, .slice x.la x.ls.length x.lc], .pointer (some ⟨b, 0, none⟩)] w1 fun e w' => e = .returned (.bool (p x)) ∧ Mod (fun _ => False) w1 w') :
    Calls Try.prog 41 #[.slice a l.length cap, .func (.func 32) #[] #[.pointer (some ⟨b, 0, none⟩)]] w fun e w' => e = .returned (.int .i64 (idxP p l)) ∧ Mod (fun _ => False) w w' := by
  have HL := hid hl
  have HF := hid hf
  clear hl hf
  go_enter Try.func41, Try.ntmps41
  go_wp2
  go_loopw [8] (fun c wr => ∃ k : Nat, k ≤ l.length ∧ c = .int .i64 (k : Int) ∧ (∀ j y, j < k → l[j]? = some y → p y = false) ∧ Mod (fun _ => False) w wr) (fun c _ => l.length - (intOf c).toNat)
  case atStart => exact ⟨0, Nat.zero_le _, rfl, (fun j y h => by omega), Mod.refl _ _⟩
  case round =>
    obtain ⟨k, hk, rfl, hno, hm⟩ := hrel
    have HNo := hid hno
    have HM := hid hm
    clear hno hm
    by_cases hlt : k < l.length
    · obtain ⟨x, hx⟩ : ∃ x, l[k]? = some x := ⟨_, List.getElem?_eq_getElem hlt⟩
      have hlc := HL.out.ext HM.out
      obtain ⟨g, off, rfl⟩ := hlc.some (by omega)
      have q0 := hlc.cell Gd.len hx (j := 0) rfl
      have q1 := hlc.cell Gd.len hx (j := 1) rfl
      have q2 := hlc.cell Gd.len hx (j := 2) rfl
      have HX := hid hx
      have HC := hid (HF.out wr x HM.out (List.mem_of_getElem? hx))
      clear hx hlc
      rw [Nat.add_zero] at q0
      go_wp2_with fail
      refine HC.out.mono ?_
      rintro e w2 ⟨rfl, hm2⟩
      have HM2 := hid hm2
      clear hm2 q0 q1 q2
      cases hp : p x with
      | true =>
        have HV : Hid (idxP p l = (k : Int)) := hid (idx_hit HNo.out HX.out hp)
        clear hp
        go_wp2_with fail
        go_ret
        exact ⟨by rw [HV.out]; rfl, HM.out.trans HM2.out⟩
      | false =>
        have HP := hid hp
        clear hp
        go_wp2_with fail
        go_roundw
        case rel =>
          refine ⟨k + 1, by omega, by go_num, fun j y hj hy => ?_, HM.out.trans HM2.out⟩
          by_cases hjk : j = k
          · subst hjk
            rw [HX.out] at hy
            cases hy
            exact HP.out
          · exact HNo.out j y (by omega) hy
        case measure => simp [intOf]; omega
    · have hke : k = l.length := by omega
      subst hke
      have HV : Hid (idxP p l = -1) := hid (idx_miss HNo.out)
      go_wp2_with fail
      go_ret
      exact ⟨by rw [HV.out]; rfl, HM.out⟩

set_option maxRecDepth 100000 in
theorem conGoodsC {w : World} {a : Option Addr} {l : List Gd} (cap b : Nat) (p : Gd → Bool) (hl : Lies w 3 Gd.cs a l) (hn : l.length ≤ 140737488351232)
    (hf : ∀ (w1 : World) (x : Gd), Mod (fun _ => False) w w1 → x ∈ l → Calls Try.prog 32 #[.agg #[.int .i64 x.o, .int .i64 x.s, .slice x.la x.ls.length x.lc], .pointer (some ⟨b, 0, none⟩)] w1 fun e w' => e = .returned (.bool (p x)) ∧ Mod (fun _ => False) w1 w') :
    Calls Try.prog 31 #[.slice a l.length cap, .func (.func 32) #[] #[.pointer (some ⟨b, 0, none⟩)]] w fun e w' => e = .returned (.bool (l.any p)) ∧ Mod (fun _ => False) w w' := by
  have HI := hid (idxGoodsC cap b p hl hn hf)
  have HV := hid (idx_any p l)
  clear hl hf
  go_enter Try.func31, Try.ntmps31
  go_wp2_with fail
  refine HI.out.mono ?_
  rintro e w2 ⟨rfl, hm2⟩
  have HM2 := hid hm2
  clear hm2
  go_wp2_with fail
  go_ret
  exact ⟨by rw [HV.out]; rfl, HM2.out⟩

set_option maxRecDepth 100000 in
set_option maxHeartbeats 1000000 in
theorem idxInstance {w : World} {a : Option Addr} {l : List In} (cap b : Nat) (p : In → Bool) (hl : Lies w 6 In.cs a l) (hn : l.length ≤ 140737488351232)
    (hf : ∀ (w1 : World) (x : In), Mod (fun _ => False) w w1 → x ∈ l → Calls Try.prog 29 #[.agg #[.int .i64 x.o, .int .i64 x.s, .bool x.p, .slice x.ma x.ml x.mc, .slice x.ta x.tl x.tc, .string x.f], .pointer (some ⟨b, 0, none⟩)] w1 fun e w' => e = .returned (.bool (p x)) ∧ Mod (fun _ => False) w1 w') :
    Calls Try.prog 40 #[.slice a l.length cap, .func (.func 29) #[] #[.pointer (some ⟨b, 0, none⟩)]] w fun e w' => e = .returned (.int .i64 (idxP p l)) ∧ Mod (fun _ => False) w w' := by
  have HL := hid hl
  have HF := hid hf
  clear hl hf
  go_enter Try.func40, Try.ntmps40
  go_wp2
  go_loopw [8] (fun c wr => ∃ k : Nat, k ≤ l.length ∧ c = .int .i64 (k : Int) ∧ (∀ j y, j < k → l[j]? = some y → p y = false) ∧ Mod (fun _ => False) w wr) (fun c _ => l.length - (intOf c).toNat)
  case atStart => exact ⟨0, Nat.zero_le _, rfl, (fun j y h => by omega), Mod.refl _ _⟩
  case round =>
    obtain ⟨k, hk, rfl, hno, hm⟩ := hrel
    have HNo := hid hno
    have HM := hid hm
    clear hno hm
    by_cases hlt : k < l.length
    · obtain ⟨x, hx⟩ : ∃ x, l[k]? = some x := ⟨_, List.getElem?_eq_getElem hlt⟩
      have hlc := HL.out.ext HM.out
      obtain ⟨g, off, rfl⟩ := hlc.some (by omega)
      have q0 := hlc.cell In.len hx (j := 0) rfl
      have q1 := hlc.cell In.len hx (j := 1) rfl
      have q2 := hlc.cell In.len hx (j := 2) rfl
      have q3 := hlc.cell In.len hx (j := 3) rfl
      have q4 := hlc.cell In.len hx (j := 4) rfl
      have q5 := hlc.cell In.len hx (j := 5) rfl
      have HX := hid hx
      have HC := hid (HF.out wr x HM.out (List.mem_of_getElem? hx))
      clear hx hlc
      rw [Nat.add_zero] at q0
      go_wp2_with fail
      refine HC.out.mono ?_
      rintro e w2 ⟨rfl, hm2⟩
      have HM2 := hid hm2
      clear hm2 q0 q1 q2 q3 q4 q5
      cases hp : p x with
      | true =>
        have HV : Hid (idxP p l = (k : Int)) := hid (idx_hit HNo.out HX.out hp)
        clear hp
        go_wp2_with fail
        go_ret
        exact ⟨by rw [HV.out]; rfl, HM.out.trans HM2.out⟩
      | false =>
        have HP := hid hp
        clear hp
        go_wp2_with fail
        go_roundw
        case rel =>
          refine ⟨k + 1, by omega, by go_num, fun j y hj hy => ?_, HM.out.trans HM2.out⟩
          by_cases hjk : j = k
          · subst hjk
            rw [HX.out] at hy
            cases hy
            exact HP.out
          · exact HNo.out j y (by omega) hy
        case measure => simp [intOf]; omega
    · have hke : k = l.length := by omega
      subst hke
      have HV : Hid (idxP p l = -1) := hid (idx_miss HNo.out)
      go_wp2_with fail
      go_ret
      exact ⟨by rw [HV.out]; rfl, HM.out⟩

set_option maxRecDepth 100000 in
theorem conInstance {w : World} {a : Option Addr} {l : List In} (cap b : Nat) (p : In → Bool) (hl : Lies w 6 In.cs a l) (hn : l.length ≤ 140737488351232)
    (hf : ∀ (w1 : World) (x : In), Mod (fun _ => False) w w1 → x ∈ l → Calls Try.prog 29 #[.agg #[.int .i64 x.o, .int .i64 x.s, .bool x.p, .slice x.ma x.ml x.mc, .slice x.ta x.tl x.tc, .string x.f], .pointer (some ⟨b, 0, none⟩)] w1 fun e w' => e = .returned (.bool (p x)) ∧ Mod (fun _ => False) w1 w') :
    Calls Try.prog 28 #[.slice a l.length cap, .func (.func 29) #[] #[.pointer (some ⟨b, 0, none⟩)]] w fun e w' => e = .returned (.bool (l.any p)) ∧ Mod (fun _ => False) w w' := by
  have HI := hid (idxInstance cap b p hl hn hf)
  have HV := hid (idx_any p l)
  clear hl hf
  go_enter Try.func28, Try.ntmps28
  go_wp2_with fail
  refine HI.out.mono ?_
  rintro e w2 ⟨rfl, hm2⟩
  have HM2 := hid hm2
  clear hm2
  go_wp2_with fail
  go_ret
  exact ⟨by rw [HV.out]; rfl, HM2.out⟩

set_option maxRecDepth 100000 in
set_option maxHeartbeats 1000000 in
theorem idxOrder {w : World} {a : Option Addr} {l : List Od} (cap b : Nat) (p : Od → Bool) (hl : Lies w 6 Od.cs a l) (hn : l.length ≤ 140737488351232)
    (hf : ∀ (w1 : World) (x : Od), Mod (fun _ => False) w w1 → x ∈ l → Calls Try.prog 38 #[.agg #[.int .i64 x.i, .int .i64 x.c, .string x.f, .slice x.la x.ll x.lc, .int .i64 x.n, .int .i64 x.t], .pointer (some ⟨b, 0, none⟩)] w1 fun e w' => e = .returned (.bool (p x)) ∧ Mod (fun _ => False) w1 w') :
    Calls Try.prog 37 #[.slice a l.length cap, .func (.func 38) #[] #[.pointer (some ⟨b, 0, none⟩)]] w fun e w' => e = .returned (.int .i64 (idxP p l)) ∧ Mod (fun _ => False) w w' := by
  have HL := hid hl
  have HF := hid hf
  clear hl hf
  go_enter Try.func37, Try.ntmps37
  go_wp2
  go_loopw [8] (fun c wr => ∃ k : Nat, k ≤ l.length ∧ c = .int .i64 (k : Int) ∧ (∀ j y, j < k → l[j]? = some y → p y = false) ∧ Mod (fun _ => False) w wr) (fun c _ => l.length - (intOf c).toNat)
  case atStart => exact ⟨0, Nat.zero_le _, rfl, (fun j y h => by omega), Mod.refl _ _⟩
  case round =>
    obtain ⟨k, hk, rfl, hno, hm⟩ := hrel
    have HNo := hid hno
    have HM := hid hm
    clear hno hm
    by_cases hlt : k < l.length
    · obtain ⟨x, hx⟩ : ∃ x, l[k]? = some x := ⟨_, List.getElem?_eq_getElem hlt⟩
      have hlc := HL.out.ext HM.out
      obtain ⟨g, off, rfl⟩ := hlc.some (by omega)
      have q0 := hlc.cell Od.len hx (j := 0) rfl
      have q1 := hlc.cell Od.len hx (j := 1) rfl
      have q2 := hlc.cell Od.len hx (j := 2) rfl
      have q3 := hlc.cell Od.len hx (j := 3) rfl
      have q4 := hlc.cell Od.len hx (j := 4) rfl
      have q5 := hlc.cell Od.len hx (j := 5) rfl
      have HX := hid hx
      have HC := hid (HF.out wr x HM.out (List.mem_of_getElem? hx))
      clear hx hlc
      rw [Nat.add_zero] at q0
      go_wp2_with fail
      refine HC.out.mono ?_
      rintro e w2 ⟨rfl, hm2⟩
      have HM2 := hid hm2
      clear hm2 q0 q1 q2 q3 q4 q5
      cases hp : p x with
      | true =>
        have HV : Hid (idxP p l = (k : Int)) := hid (idx_hit HNo.out HX.out hp)
        clear hp
        go_wp2_with fail
        go_ret
        exact ⟨by rw [HV.out]; rfl, HM.out.trans HM2.out⟩
      | false =>
        have HP := hid hp
        clear hp
        go_wp2_with fail
        go_roundw
        case rel =>
          refine ⟨k + 1, by omega, by go_num, fun j y hj hy => ?_, HM.out.trans HM2.out⟩
          by_cases hjk : j = k
          · subst hjk
            rw [HX.out] at hy
            cases hy
            exact HP.out
          · exact HNo.out j y (by omega) hy
        case measure => simp [intOf]; omega
    · have hke : k = l.length := by omega
      subst hke
      have HV : Hid (idxP p l = -1) := hid (idx_miss HNo.out)
      go_wp2_with fail
      go_ret
      exact ⟨by rw [HV.out]; rfl, HM.out⟩

end Go.Proofs.Ytigoikepcbbhjaa
