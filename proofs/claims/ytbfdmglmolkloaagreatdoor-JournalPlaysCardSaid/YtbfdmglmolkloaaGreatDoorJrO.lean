/- A journal: Open -/
import Derived.Test.YtbfdmglmolkloaaGreatDoorJrF
import Derived.Test.YtbfdmglmolkloaaGreatDoorJrN
namespace Go.Proofs.YtbfdmglmolkloaaGreatDoor
open Go Go.RowKit

theorem open_arg {w : World} {d : Nat} (room : Int) (h : room < 1 ∨ 500 < room) : Calls Tryz.prog 10 #[.pointer (some ⟨d, 0, none⟩), .int .i64 room] w fun e w' => e = .returned (.tuple #[.pointer none, .int .i64 2]) ∧ w = w' := by
  by_cases h1 : room < 1
  · have d1 : decide (room < 1) = true := by simpa using h1
    go_enter Tryz.func10, Tryz.ntmps10
    go_wp2
    go_ret2
    exact ⟨rfl, rfl⟩
  · have d1 : decide (room < 1) = false := by simpa using h1
    have d2 : decide (500 < room) = true := by rw [decide_eq_true_iff]; omega
    go_enter Tryz.func10, Tryz.ntmps10
    go_wp2
    go_ret2
    exact ⟨rfl, rfl⟩

theorem open_none (w : World) (room : Int) : Calls Tryz.prog 10 #[.pointer none, .int .i64 room] w fun e w' => e = .returned (.tuple #[.pointer none, .int .i64 1]) ∧ w = w' := by
  go_enter Tryz.func10, Tryz.ntmps10
  go_wp2
  go_ret2
  exact ⟨rfl, rfl⟩

/-- What Open answers. -/
def OpenAns (w : World) (d : Nat) (sa : Option Addr) (room : Nat) (R : Int × Dsk) (e : Ending) (w' : World) : Prop :=
  DiskAt w' d sa R.2 ∧ Mod (diskF d sa) w w' ∧
    ((R.1 = 0 ∧ ∃ j, e = .returned (.tuple #[.pointer (some ⟨j, 0, none⟩), .int .i64 0]) ∧ JAt w' j d room ∧ w.heap.size ≤ j) ∨ (R.1 ≠ 0 ∧ e = .returned (.tuple #[.pointer none, .int .i64 R.1])))

theorem finF_cast (room : Nat) (l : List Nat) (D : Dsk) (n : Nat) (r : List Nat) (h : l = n :: r) : openL room D (some l) = finF room 0 l D := by subst h; rfl

set_option maxRecDepth 100000 in
set_option maxHeartbeats 2000000 in
theorem open_any {w : World} {d k0 room : Nat} {sa : Option Addr} {D : Dsk} (hD : DiskAt w d sa D) (hb : Bud D k0) (hk0 : k0 ≤ 2305843009213693952) (h1 : 1 ≤ room) (hr : room ≤ 500) :
    Calls Tryz.prog 10 #[.pointer (some ⟨d, 0, none⟩), .int .i64 (room : Int)] w fun e w' => OpenAns w d sa room (openF room D) e w' := by
  have d1 : decide ((room : Int) < 1) = false := by rw [decide_eq_false_iff_not]; omega
  have d2 : decide (500 < (room : Int)) = false := by rw [decide_eq_false_iff_not]; omega
  have HD := hid hD
  have HLt := hid hD.lt
  have HOF : Hid (openF room D = if (readF D 0).2 = 0 then openL room D (numF room (jlen room D) (readF D 0).1) else ((readF D 0).2, D)) := hid rfl
  have HRd := hid (fun (v : World) (hv : DiskAt v d sa D) => read_any hv 0)
  have HRs := hid (hb.read 0)
  have HB := hid hb
  have hn := hb.n
  generalize openF room D = F at *
  generalize readF D 0 = r at *
  clear hD hb
  go_enter Tryz.func10, Tryz.ntmps10
  go_wp2_with fail
  have hma : Mod (fun _ => False) w (w.alloc (.cells #[.pointer (some ⟨d, 0, none⟩), .int .i64 (room : Int)] 83)) := (Mod.refl _ _).alloc _
  have hja : JAt (w.alloc (.cells #[.pointer (some ⟨d, 0, none⟩), .int .i64 (room : Int)] 83)) w.heap.size d room := heap_alloc_new _ _
  have HD1 := hid (HD.out.mod hma (fun _ _ h => h))
  have hne : ¬ diskF d sa w.heap.size := fun h => by have := HLt.out _ h; omega
  generalize w.alloc (.cells #[.pointer (some ⟨d, 0, none⟩), .int .i64 (room : Int)] 83) = W at *
  have HM := hid (hma.mono (T := diskF d sa) (fun _ _ h => h.elim))
  have HJ := hid hja
  clear hma hja
  refine (HRd.out _ HD1.out).mono ?_
  rintro e w1 ⟨rfl, hd1, hm1⟩
  have HD2 := hid hd1
  have HM1 := hid (HM.out.trans hm1)
  have HJ1 := hid (HJ.out.mod hm1 hne)
  clear hd1 hm1
  by_cases hz : r.2 = 0
  · have hof := HOF.out
    rw [if_pos hz] at hof
    rw [hz]
    have HN := hid (numbers_any HD2.out HJ1.out hn hr r.1 (by have := HRs.out; omega))
    cases hnum : numF room (jlen room D) r.1 with
    | none =>
      rw [hnum] at hof HN
      have HO := hid hof
      clear hof hnum hz
      go_wp2_with fail
      refine HN.out.mono ?_
      rintro e w2 ⟨hm2, rfl⟩
      have HM2 := hid (HM1.out.trans (hm2.mono (fun _ _ h => h.elim)))
      have HD3 := hid (HD2.out.mod hm2 (fun _ _ h => h))
      clear hm2
      go_wp2_with fail
      go_ret2
      rw [HO.out]
      exact ⟨HD3.out, HM2.out, .inr ⟨(show (32 : Int) ≠ 0 by decide), rfl⟩⟩
    | some l =>
      rw [hnum] at hof HN
      have HO := hid hof
      clear hof hnum hz
      go_wp2_with fail
      refine HN.out.mono ?_
      rintro e w2 ⟨hm2, la, cap, rfl, hol, hbl, hl5, hln⟩
      have HM2 := hid (HM1.out.trans (hm2.mono (fun _ _ h => h.elim)))
      have HD3 := hid (HD2.out.mod hm2 (fun _ _ h => h))
      have HJ2 := hid (HJ1.out.mod hm2 (fun h => h))
      have HL := hid hol
      have HLn := hid hln
      have HBl : Hid (∀ k, blk la k → ¬ diskF d sa k) := hid (fun k hk h => by have := HD2.out.lt k h; have := hbl k hk; omega)
      clear hm2 hol hbl hln
      cases l with
      | nil =>
        clear hl5
        simp only [List.length_nil] at *
        go_wp2_with fail
        go_ret2
        rw [HO.out]
        exact ⟨HD3.out, HM2.out, .inl ⟨rfl, _, rfl, HJ2.out, Nat.le_refl _⟩⟩
      | cons n l =>
        have hpos : 0 < (n :: l).length := by simp
        have HFi := hid (finish_any HD3.out HJ2.out hne HB.out hk0 hr HL.out hl5 HLn.out HBl.out)
        rw [← finF_cast room (n :: l) D n l rfl, ← HO.out] at HFi
        generalize (n :: l).length = len at *
        have c1 : decide (0 < (len : Int)) = true := by rw [decide_eq_true_iff]; omega
        go_wp2_with fail
        refine HFi.out.mono ?_
        rintro e w3 ⟨rfl, hd3, hm3⟩
        have HM3 := hid (HM2.out.trans hm3)
        have HD4 := hid hd3
        have HJ3 := hid (HJ2.out.mod hm3 hne)
        clear hd3 hm3
        by_cases hf : F.1 = 0
        · have hf2 : (F.1 == 0) = true := by simpa using hf
          have HF0 := hid hf
          clear hf
          go_wp2_with fail
          go_ret2
          exact ⟨HD4.out, HM3.out, .inl ⟨HF0.out, _, rfl, HJ3.out, Nat.le_refl _⟩⟩
        · have hf2 : (F.1 == 0) = false := by simpa using hf
          have HF0 := hid hf
          clear hf
          go_wp2_with fail
          go_ret2
          exact ⟨HD4.out, HM3.out, .inr ⟨HF0.out, rfl⟩⟩
  · have hz2 : (r.2 == 0) = false := by simpa using hz
    have hof := HOF.out
    rw [if_neg hz] at hof
    have HO := hid hof
    have HZ := hid hz
    clear hof hz
    go_wp2_with fail
    go_ret2
    rw [HO.out]
    exact ⟨HD2.out, HM1.out, .inr ⟨HZ.out, rfl⟩⟩

end Go.Proofs.YtbfdmglmolkloaaGreatDoor
