/- strings.Trim by the zero byte -/
import Derived.Test.YtbfdmglmolkloaaGreatDoorPack
import Derived.Deep.QuietTactic
import Derived.BigQuiet
namespace Go.Proofs.YtbfdmglmolkloaaGreatDoor
open Go Go.RowKit

def trL (l : List UInt8) : List UInt8 := l.dropWhile (· == 0)
def trR (l : List UInt8) : List UInt8 := (l.reverse.dropWhile (· == 0)).reverse

theorem trL_zero {l : List UInt8} {b : UInt8} (h : b.toNat = 0) : trL (b :: l) = trL l := by
  have : b = 0 := UInt8.toNat_inj.1 h
  unfold trL; rw [this, List.dropWhile_cons_of_pos (by rfl)]
theorem trL_stop {l : List UInt8} {b : UInt8} (h : b.toNat ≠ 0) : trL (b :: l) = b :: l := by
  unfold trL; rw [List.dropWhile_cons_of_neg]
  intro hb
  exact h (by rw [beq_iff_eq.1 hb]; rfl)
theorem trR_zero {l : List UInt8} {b : UInt8} (h : b.toNat = 0) : trR (l ++ [b]) = trR l := by
  have : b = 0 := UInt8.toNat_inj.1 h
  unfold trR; rw [this, List.reverse_append, List.reverse_singleton, List.singleton_append, List.dropWhile_cons_of_pos (by rfl)]
theorem trR_stop {l : List UInt8} {b : UInt8} (h : b.toNat ≠ 0) : trR (l ++ [b]) = l ++ [b] := by
  unfold trR; rw [List.reverse_append, List.reverse_singleton, List.singleton_append, List.dropWhile_cons_of_neg, List.reverse_cons, List.reverse_reverse]
  intro hb
  exact h (by rw [beq_iff_eq.1 hb]; rfl)

/-- All bytes are zero. -/
def AllZ (l : List UInt8) : Prop := ∀ b ∈ l, b = 0

theorem trL_nil {l : List UInt8} : trL l = [] ↔ AllZ l := by
  induction l with
  | nil => exact ⟨fun _ b hb => (by cases hb), fun _ => rfl⟩
  | cons b r ih =>
    by_cases h : b.toNat = 0
    · rw [trL_zero h, ih]
      have : b = 0 := UInt8.toNat_inj.1 h
      exact ⟨fun h2 x hx => by rcases List.mem_cons.1 hx with rfl | hx; exact this; exact h2 x hx, fun h2 x hx => h2 x (List.mem_cons_of_mem _ hx)⟩
    · rw [trL_stop h]
      exact ⟨fun h2 => (by cases h2), fun h2 => absurd (by rw [h2 b List.mem_cons_self]; rfl) h⟩

theorem trR_allZ {l : List UInt8} : AllZ (trR l) ↔ AllZ l := by
  constructor
  · intro h b hb
    have : l.reverse = l.reverse.takeWhile (· == 0) ++ l.reverse.dropWhile (· == 0) := (List.takeWhile_append_dropWhile).symm
    have hb' : b ∈ l.reverse := List.mem_reverse.2 hb
    rw [this] at hb'
    rcases List.mem_append.1 hb' with h1 | h1
    · exact beq_iff_eq.1 (List.all_eq_true.1 List.all_takeWhile b h1)
    · exact h b (List.mem_reverse.2 h1)
  · intro h b hb
    exact h b (List.mem_reverse.1 ((List.dropWhile_suffix _).subset (List.mem_reverse.1 hb)))

theorem trim_nil (l : List UInt8) : trL (trR l) = [] ↔ AllZ l := trL_nil.trans trR_allZ

def mkB (l : List UInt8) : ByteArray := ⟨l.toArray⟩
theorem mkB_of {t : ByteArray} {l : List UInt8} (h : t.data.toList = l) : t = mkB l := by
  unfold mkB; rw [← h]

theorem tail_list {t : ByteArray} (h : 0 < t.size) : t.data.toList = t[0] :: (t.extract 1 t.size).data.toList := by
  have e : t.data.toList.length = t.size := rfl
  rw [ByteArray.data_extract, Array.toList_extract, List.extract_eq_take_drop, List.take_of_length_le (by rw [List.length_drop]; omega)]
  have := List.drop_eq_getElem_cons (l := t.data.toList) (i := 0) (by omega)
  rw [List.drop_zero] at this
  exact this
theorem last_list {t : ByteArray} (h : 0 < t.size) : t.data.toList = (t.extract 0 (t.size - 1)).data.toList ++ [t[t.size - 1]] := by
  have e : t.data.toList.length = t.size := rfl
  rw [ByteArray.data_extract, Array.toList_extract, List.extract_eq_take_drop, List.drop_zero, Nat.sub_zero]
  have := List.take_succ_eq_append_getElem (l := t.data.toList) (i := t.size - 1) (by omega)
  rw [show t.size - 1 + 1 = t.size by omega, List.take_of_length_le (by omega)] at this
  exact this

set_option maxRecDepth 100000 in
theorem trimLeft_any (s : ByteArray) (w : World) (_hs : s.size ≤ maxLen) : Calls Tryz.prog 60 #[.string s, .int .u8 0] w fun e w' => e = .returned (.string (mkB (trL s.data.toList))) ∧ w = w' := by
  go_enter Tryz.func60, Tryz.ntmps60
  go_wp2
  go_loop [0] (fun c => ∃ t : ByteArray, t.size ≤ s.size ∧ c = .string t ∧ trL t.data.toList = trL s.data.toList) (fun c => match c with | .string t => t.size | _ => 0)
  case atStart => exact ⟨s, Nat.le_refl _, rfl, rfl⟩
  case round =>
    obtain ⟨t, hle, rfl, hq⟩ := hrel
    have HQ := hid hq
    clear hq
    by_cases h0 : 0 < t.size
    · have hl := tail_list h0
      have HL := hid hl
      clear hl
      by_cases hz : t[0].toNat = 0
      · have z : ((t[0].toNat : Int) == 0) = true := by rw [beq_iff_eq]; omega
        have HN : Hid (trL (t.extract 1 t.size).data.toList = trL s.data.toList) := hid (by rw [← HQ.out, HL.out, trL_zero hz])
        clear hz
        go_wp2_with fail
        go_round
        case rel => exact ⟨_, by rw [ByteArray.size_extract]; omega, rfl, HN.out⟩
        case measure => simp; omega
      · have z : ((t[0].toNat : Int) == 0) = false := by rw [beq_eq_false_iff_ne]; omega
        have HA : Hid (t = mkB (trL s.data.toList)) := hid (mkB_of (by rw [← HQ.out, HL.out, trL_stop hz]))
        clear hz
        go_wp2_with fail
        go_ret
        exact ⟨congrArg (fun x => Ending.returned (.string x)) HA.out, rfl⟩
    · have HA : Hid (t = mkB (trL s.data.toList)) := hid (mkB_of (by rw [← HQ.out, Array.toList_eq_nil_iff.2 (Array.eq_empty_of_size_eq_zero (by have : t.data.size = t.size := rfl; omega))]; rfl))
      go_wp2_with fail
      go_ret
      exact ⟨congrArg (fun x => Ending.returned (.string x)) HA.out, rfl⟩

set_option maxRecDepth 100000 in
theorem trimRight_any (s : ByteArray) (w : World) (hs : s.size ≤ maxLen) : Calls Tryz.prog 61 #[.string s, .int .u8 0] w fun e w' => e = .returned (.string (mkB (trR s.data.toList))) ∧ w = w' := by
  unfold maxLen at hs
  go_enter Tryz.func61, Tryz.ntmps61
  go_wp2
  go_loop [0] (fun c => ∃ t : ByteArray, t.size ≤ s.size ∧ c = .string t ∧ trR t.data.toList = trR s.data.toList) (fun c => match c with | .string t => t.size | _ => 0)
  case atStart => exact ⟨s, Nat.le_refl _, rfl, rfl⟩
  case round =>
    obtain ⟨t, hle, rfl, hq⟩ := hrel
    have HQ := hid hq
    clear hq
    by_cases h0 : 0 < t.size
    · have hl := last_list h0
      have HL := hid hl
      clear hl
      have i1 : (0 : Int) ≤ (t.size : Int) - 1 := by omega
      have i2 : (1 : Int) ≤ (t.size : Int) := by omega
      by_cases hz : t[t.size - 1].toNat = 0
      · have z : ((t[t.size - 1].toNat : Int) == 0) = true := by rw [beq_iff_eq]; omega
        have HN : Hid (trR (t.extract 0 (t.size - 1)).data.toList = trR s.data.toList) := hid (by rw [← HQ.out, HL.out, trR_zero hz])
        clear hz
        go_wp2_with fail
        go_round
        case rel => exact ⟨_, by rw [ByteArray.size_extract]; omega, rfl, HN.out⟩
        case measure => simp; omega
      · have z : ((t[t.size - 1].toNat : Int) == 0) = false := by rw [beq_eq_false_iff_ne]; omega
        have HA : Hid (t = mkB (trR s.data.toList)) := hid (mkB_of (by rw [← HQ.out, HL.out, trR_stop hz]))
        clear hz
        go_wp2_with fail
        go_ret
        exact ⟨congrArg (fun x => Ending.returned (.string x)) HA.out, rfl⟩
    · have HA : Hid (t = mkB (trR s.data.toList)) := hid (mkB_of (by rw [← HQ.out, Array.toList_eq_nil_iff.2 (Array.eq_empty_of_size_eq_zero (by have : t.data.size = t.size := rfl; omega))]; rfl))
      go_wp2_with fail
      go_ret
      exact ⟨congrArg (fun x => Ending.returned (.string x)) HA.out, rfl⟩

def trimB (s : ByteArray) : ByteArray := if s.data.toList = [] then s else mkB (trL (trR s.data.toList))

theorem trimB_nil (s : ByteArray) : (trimB s).data.toList = [] ↔ AllZ s.data.toList := by
  unfold trimB
  split
  · next h => rw [h]; exact ⟨fun _ b hb => (by cases hb), fun _ => rfl⟩
  · exact trim_nil _

theorem trL_size (l : List UInt8) : (trL l).length ≤ l.length := (List.dropWhile_suffix _).length_le
theorem trR_size (l : List UInt8) : (trR l).length ≤ l.length := by
  unfold trR
  rw [List.length_reverse]
  have := (List.dropWhile_suffix (l := l.reverse) (· == (0 : UInt8))).length_le
  rw [List.length_reverse] at this
  exact this

set_option maxRecDepth 100000 in
theorem trim_any (s : ByteArray) (w : World) (hs : s.size ≤ maxLen) : Calls Tryz.prog 45 #[.string s, .string ⟨#[0]⟩] w fun e w' => e = .returned (.string (trimB s)) ∧ ∃ n, w' = w.drewN n := by
  by_cases h0 : s.data.toList = []
  · have e1 : trimB s = s := by unfold trimB; rw [if_pos h0]
    have e2 : s.toList.isEmpty = true := by rw [ByteArray.toList_eq, h0]; rfl
    rw [e1]
    clear e1 h0
    go_enter Tryz.func45, Tryz.ntmps45
    go_wp2_with fail
    go_ret
    exact ⟨rfl, 0, rfl⟩
  · have HE : Hid (trimB s = mkB (trL (trR s.data.toList))) := hid (by unfold trimB; rw [if_neg h0])
    have e2 : s.toList.isEmpty = false := by rw [ByteArray.toList_eq]; cases h : s.data.toList with | nil => exact absurd h h0 | cons _ _ => rfl
    have z0 : ∀ h, ((⟨#[0]⟩ : ByteArray)[0]'h).toNat = 0 := fun _ => rfl
    have hm : (mkB (trR s.data.toList)).size ≤ maxLen := Nat.le_trans (show (trR s.data.toList).toArray.size ≤ s.size from by rw [List.size_toArray]; exact trR_size s.data.toList) hs
    have HR := hid (fun w => trimRight_any s w hs)
    have HL := hid (fun w => trimLeft_any (mkB (trR s.data.toList)) w hm)
    have e3 : (mkB (trR s.data.toList)).data.toList = trR s.data.toList := by unfold mkB; simp
    rw [e3] at HL
    clear h0 hm e3
    go_enter Tryz.func45, Tryz.ntmps45
    go_wp2_with fail
    go_quiet ((first | (go_at_call 61; exact Calls.quiet_of_same ((HR.out _).mono fun _ _ h => ⟨h.1, h.2.symm⟩)) | (go_at_call 60; exact Calls.quiet_of_same ((HL.out _).mono fun _ _ h => ⟨h.1, h.2.symm⟩))))
    go_wp2_with fail
    go_ret
    exact ⟨congrArg (fun x => Ending.returned (.string x)) HE.out.symm, _, rfl⟩

end Go.Proofs.YtbfdmglmolkloaaGreatDoor
