/- The walk of JournalPlays -/
import Derived.Test.YtbfdmglmolkloaaGreatDoorJpT
import Derived.Test.YtbfdmglmolkloaaGreatDoorJrW
namespace Go.Proofs.YtbfdmglmolkloaaGreatDoor
open Go Go.RowKit

namespace JournalPlays

def Rel (W : World) (wb b r : Nat) (sa ra : Option Addr) (m : Nat) (c : Value) (wr : World) : Prop :=
  ∃ k : Nat, k ≤ m ∧ c = .int .i64 (k : Int) ∧ StepsTo W wb b r sa ra (501 + k * 1002) wr

set_option maxRecDepth 100000 in
set_option maxHeartbeats 2000000 in
theorem walk (W : World) (n room : Int) (a : Option Addr) (cap : Nat) (os : List JOp) (hos : Lies W 4 JOp.vs a os) (hok : ∀ o ∈ os, JOk W o) (hr : os.length * 56 ≤ 140737488351232) :
    Calls Tryz.prog 3 #[.int .i64 n, .int .i64 room, .slice a os.length cap] W fun e w' => e = .returned (.bool true) ∧ Below W.heap.size W w' := by
  have HOs := hid hos
  have HOk := hid hok
  have hlen : os.length ≤ 2513169434844 := by omega
  clear hos hok hr
  go_enter Tryz.func3, Tryz.ntmps3
  go_wp2_with fail
  refine (new_any n).mono ?_
  rintro e w1 ⟨b, sa, rfl, hb, hbk, hd1, hm1⟩
  have F1 : Hid (∀ k, diskF b sa k → W.heap.size ≤ k) := hid (by
    rintro k (rfl | h)
    · exact hb
    · exact hbk k h)
  have D1 := hid hd1
  have M1 := hid hm1
  clear hd1 hm1 hbk hb
  go_wp2_with fail
  refine (rnew_any n).mono ?_
  rintro e w2 ⟨r, ra, rfl, hb2, hbk2, hd2, hm2⟩
  have F2 : Hid (∀ k, diskF r ra k → w1.heap.size ≤ k) := hid (by
    rintro k (rfl | h)
    · exact hb2
    · exact hbk2 k h)
  have D2 := hid hd2
  have M2 := hid hm2
  have hma : Mod (fun _ => False) w2 (w2.alloc (.cells #[.pointer (some ⟨b, 0, none⟩), .pointer none, .pointer (some ⟨r, 0, none⟩), .pointer none] 31)) := (Mod.refl _ _).alloc _
  have HW0 : Hid (WW W (w2.alloc (.cells #[.pointer (some ⟨b, 0, none⟩), .pointer none, .pointer (some ⟨r, 0, none⟩), .pointer none] 31)) w2.heap.size b r sa ra (newD n) (rnewD n) 0 none none) := hid (by
    have s1 := M1.out.size
    have s2 := hm2.size
    refine ⟨heap_alloc_new _ _, (D1.out.mod hm2 (fun _ _ h => h)).mod hma (fun _ _ h => h), hd2.mod hma (fun _ _ h => h), ⟨alike_new n, ⟨by show (0 : Int) ≤ _; decide⟩⟩, fun k hk h => ?_, fun h => ?_, fun h => ?_, .inl ⟨rfl, rfl⟩, ?_, ((M1.out.trans hm2).trans hma).mono (fun _ _ h => h.elim)⟩
    · have := D1.out.lt k hk
      have := F2.out k h
      omega
    · have := D1.out.lt _ h; omega
    · have := hd2.lt _ h; omega
    · rintro k (rfl | h | h)
      · omega
      · exact F1.out k h
      · have := F2.out k h; omega)
  clear hd2 hm2 hbk2 hb2 hma
  obtain ⟨w3, h3⟩ : ∃ w3, w2.alloc (.cells #[.pointer (some ⟨b, 0, none⟩), .pointer none, .pointer (some ⟨r, 0, none⟩), .pointer none] 31) = w3 := ⟨_, rfl⟩
  rw [h3] at HW0
  have H3 := hid h3
  clear h3
  have HWk := hid (fun (v : World) (hv : WW W v w2.heap.size b r sa ra (newD n) (rnewD n) 0 none none) => wopen_yes hv (by decide) room)
  go_wp2_with (first | (go_at_call 6; rw [H3.out]; refine (wakes_yes _).mono ?_; rintro e w4 ⟨rfl, hm4⟩; have HW4 := hid (HW0.out.ext hm4); clear hm4) | (go_at_call 7; refine (HWk.out _ HW4.out).mono ?_; rintro e w5 ⟨rfl, D5, R5, j5, k5, hw5⟩; have HW5 := hid hw5; clear hw5))
  obtain ⟨wb, hwb⟩ : ∃ wb, w2.heap.size = wb := ⟨_, rfl⟩
  rw [hwb] at HW5 ⊢
  go_loopw [26] (fun c wr => Rel W wb b r sa ra os.length c wr) (fun c _ => os.length - (intOf c).toNat)
  case atStart => exact ⟨0, Nat.zero_le _, rfl, D5, R5, j5, k5, HW5.out⟩
  case round =>
    obtain ⟨k, hk, rfl, D, R, jp, kp, hw⟩ := hrel
    have HW := hid hw
    clear hw
    by_cases hlt : k < os.length
    · obtain ⟨o, hx⟩ : ∃ x, os[k]? = some x := ⟨_, List.getElem?_eq_getElem hlt⟩
      have HO := hid (HOk.out o (List.mem_of_getElem? hx))
      have hl := HOs.out.old HW.out.m (fun _ h => h)
      obtain ⟨g, off, rfl⟩ := HOs.out.some (by omega)
      have q0 := hl.cell jop_len hx (j := 0) rfl
      have q1 := hl.cell jop_len hx (j := 1) rfl
      have q2 := hl.cell jop_len hx (j := 2) rfl
      have q3 := hl.cell jop_len hx (j := 3) rfl
      rw [Nat.add_zero] at q0
      obtain ⟨kd, pl, ca, cc, cs, data⟩ := o
      simp only at q0 q1 q2 q3
      have HSt := hid (fun (v : World) (hv : WW W v wb b r sa ra D R (501 + k * 1002) jp kp) => step_any hv (by omega) room ⟨kd, pl, ca, cc, cs, data⟩ HO.out)
      have HSt2 : Hid (∀ (v : World), WW W v wb b r sa ra D R (501 + k * 1002) jp kp → Calls Tryz.prog 8 #[.pointer (some ⟨wb, 0, none⟩), .int .i64 room, .agg #[.int .i64 kd, .int .i64 pl, .slice ca cs.length cc, .string data]] v fun e w' => e = .returned (.bool true) ∧ StepsTo W wb b r sa ra (501 + k * 1002 + 1002) w') := hid HSt.out
      have HWa := hid (HW.out.ext ((Mod.refl _ _).alloc (.cells #[.int .i64 kd, .int .i64 pl, .slice ca cs.length cc, .string data] 36)))
      clear hx hl HSt
      go_wp2_with (first
        | (go_at_call 8; refine (HSt2.out _ HWa.out).mono ?_; rintro e w6 ⟨rfl, D6, R6, j6, k6, hw6⟩; have HW6 := hid hw6; clear hw6)
        | (go_at_call 9; refine (alike_yes HW6.out).mono ?_; rintro e w7 ⟨rfl, hw7⟩; have HW7 := hid hw7; clear hw7))
      go_roundw
      case rel => exact ⟨k + 1, by omega, by go_num, _, _, _, _, HW7.out.up (by omega)⟩
      case measure => simp [intOf]; omega
    · go_wp2_with fail
      go_ret
      exact ⟨rfl, HW.out.m.below (Nat.le_refl _) (fun _ h => h)⟩

end JournalPlays
end Go.Proofs.YtbfdmglmolkloaaGreatDoor
