/- The document's journal: Open -/
import Derived.Test.YtbfdmglmolkloaaGreatDoorJpN
namespace Go.Proofs.YtbfdmglmolkloaaGreatDoor
open Go Go.RowKit

/-- Bounds of the document's disk. -/
structure RB (R : Rsk) (t : Nat) : Prop where
  n : R.secs.length ≤ 16384
  sm : RSm R
  w0 : 0 ≤ R.done
  w1 : R.done ≤ t
  l0 : 0 ≤ R.left
  l1 : R.left ≤ 9223372036854775807

theorem RB.le {R : Rsk} {t m : Nat} (h : RB R t) (hm : t ≤ m) : RB R m := ⟨h.n, h.sm, h.w0, by have := h.w1; omega, h.l0, h.l1⟩
theorem Both.rb {D : Dsk} {R : Rsk} {t : Nat} (h : Both D R t) : RB R t := ⟨by rw [← h.1.len]; exact h.1.small, h.1.sm, h.1.w0, h.1.w1, h.1.l0, h.1.l1⟩

theorem rwriteF_len (R : Rsk) (i : Int) (s : ByteArray) : (rwriteF R i s).2.secs.length = R.secs.length := by
  unfold rwriteF
  split
  · rfl
  · split
    · rfl
    · split
      · rfl
      · split
        · rfl
        · simp [rput]

theorem RB.write {R : Rsk} {t : Nat} (h : RB R t) (i : Int) (s : ByteArray) : RB (rwriteF R i s).2 (t + 1) := by
  have hw0 := h.w0
  have hw1 := h.w1
  have hl0 := h.l0
  have hl1 := h.l1
  unfold rwriteF
  split
  · exact h.le (by omega)
  · split
    · exact h.le (by omega)
    · split
      · exact h.le (by omega)
      · split
        · exact ⟨h.n, h.sm, hw0, by simp only; omega, hl0, hl1⟩
        · rename_i h1 h2 h3 h4
          refine ⟨by simp only [rput, List.length_set]; exact h.n, fun j => ?_, by simp only [rput]; omega, by simp only [rput]; omega, ?_, ?_⟩
          · simp only [rput, List.getElem?_set]
            by_cases hj : i.toNat = j
            · rw [if_pos hj]
              split
              · exact bareB_small (by omega)
              · exact Nat.zero_le _
            · rw [if_neg hj]
              exact h.sm j
          · simp only [rput]
            split
            · rename_i hs
              have : R.left ≠ 0 := fun hz => h4 ⟨hs, hz⟩
              omega
            · exact hl0
          · simp only [rput]
            split <;> omega

theorem rw_any {w : World} {b : Nat} {sa : Option Addr} {R : Rsk} {t : Nat} (h : RefAt w b sa R) (hb : RB R t) (ht : t < 4611686018427387904) (i : Int) (s : ByteArray) (hs : s.size ≤ maxLen) : Calls Tryz.prog 25 #[.pointer (some ⟨b, 0, none⟩), .int .i64 i, .string s] w fun e w' => e = .returned (.int .i64 (rwriteF R i s).1) ∧ RefAt w' b sa (rwriteF R i s).2 ∧ Mod (diskF b sa) w w' :=
  rwrite_any h i s hs hb.l0 hb.l1 (by have := hb.w1; omega) hb.w0

theorem rreadF_size {R : Rsk} {t : Nat} (h : RB R t) (i : Int) : (rreadF R i).1.size ≤ 1024 := by
  unfold rreadF
  split
  · exact Nat.zero_le _
  · split
    · exact Nat.zero_le _
    · exact Nat.le_of_eq (pad_size (h.sm i.toNat))

theorem ropen_arg {w : World} {v : Value} (room : Int) (h : room < 1 ∨ 500 < room) : Calls Tryz.prog 15 #[v, .int .i64 room] w fun e w' => e = .returned (.tuple #[.pointer none, .int .i64 2]) ∧ w = w' := by
  by_cases h1 : room < 1
  · have d1 : decide (room < 1) = true := by simpa using h1
    go_enter Tryz.func15, Tryz.ntmps15
    go_wp2
    go_ret2
    exact ⟨rfl, rfl⟩
  · have d1 : decide (room < 1) = false := by simpa using h1
    have d2 : decide (500 < room) = true := by rw [decide_eq_true_iff]; omega
    go_enter Tryz.func15, Tryz.ntmps15
    go_wp2
    go_ret2
    exact ⟨rfl, rfl⟩

/-- What the document's Open answers. -/
def ROpenAns (w : World) (r : Nat) (ra : Option Addr) (room : Nat) (P : Int × Rsk) (e : Ending) (w' : World) : Prop :=
  RefAt w' r ra P.2 ∧ Mod (diskF r ra) w w' ∧
    ((P.1 = 0 ∧ ∃ j, e = .returned (.tuple #[.pointer (some ⟨j, 0, none⟩), .int .i64 0]) ∧ RJAt w' j r room ∧ w.heap.size ≤ j) ∨ (P.1 ≠ 0 ∧ e = .returned (.tuple #[.pointer none, .int .i64 P.1])))

theorem rop_nil (room i : Nat) (R : Rsk) : ropF room i [] R = rwriteF R 0 (ba [0]) := rfl
theorem rop_cons (room i n : Nat) (l : List Nat) (R : Rsk) : ropF room i (n :: l) R =
    if (rreadF R (1 + (i : Int))).2 = 0 then
      (if (rwriteF R ((room : Int) + 1 + (n : Int)) (rreadF R (1 + (i : Int))).1).1 = 0 then ropF room (i + 1) l (rwriteF R ((room : Int) + 1 + (n : Int)) (rreadF R (1 + (i : Int))).1).2
       else rwriteF R ((room : Int) + 1 + (n : Int)) (rreadF R (1 + (i : Int))).1)
    else ((rreadF R (1 + (i : Int))).2, R) := by
  rw [ropF, show ((1 + i : Nat) : Int) = 1 + (i : Int) by omega, show ((room + 1 + n : Nat) : Int) = (room : Int) + 1 + (n : Int) by omega]

def ROpR (room : Nat) (l : List Nat) (F : Int × Rsk) (k : Nat) (R' : Rsk) : Prop := (k < l.length ∨ l ≠ []) → F = ropF room k (l.drop k) R'

set_option maxRecDepth 100000 in
set_option maxHeartbeats 4000000 in
theorem ropen_any {w : World} {r t room : Nat} {ra : Option Addr} {R : Rsk} (hR : RefAt w r ra R) (hb : RB R t) (ht : t ≤ 2305843009213693952) (h1 : 1 ≤ room) (hr : room ≤ 500) :
    Calls Tryz.prog 15 #[.pointer (some ⟨r, 0, none⟩), .int .i64 (room : Int)] w fun e w' => ROpenAns w r ra room (ropenF room R) e w' := by
  have d1 : decide ((room : Int) < 1) = false := by rw [decide_eq_false_iff_not]; omega
  have d2 : decide (500 < (room : Int)) = false := by rw [decide_eq_false_iff_not]; omega
  have HR := hid hR
  have HLt := hid hR.lt
  have HOF : Hid (ropenF room R = if (rreadF R 0).2 = 0 then ropenL room R (numF room (rjlen room R) (rreadF R 0).1) else ((rreadF R 0).2, R)) := hid rfl
  have HRd := hid (fun (v : World) (hv : RefAt v r ra R) => rread_any hv 0 hb.sm)
  have HRs := hid (rreadF_size hb 0)
  have HB := hid hb
  have hn := hb.n
  generalize ropenF room R = F at *
  generalize rreadF R 0 = x at *
  clear hR hb
  go_enter Tryz.func15, Tryz.ntmps15
  go_wp2_with fail
  have hma : Mod (fun _ => False) w (w.alloc (.cells #[.pointer (some ⟨r, 0, none⟩), .int .i64 (room : Int)] 93)) := (Mod.refl _ _).alloc _
  have hja : RJAt (w.alloc (.cells #[.pointer (some ⟨r, 0, none⟩), .int .i64 (room : Int)] 93)) w.heap.size r room := heap_alloc_new _ _
  have HR1 := hid (HR.out.mod hma (fun _ _ h => h))
  have hne : ¬ diskF r ra w.heap.size := fun h => by have := HLt.out _ h; omega
  generalize w.alloc (.cells #[.pointer (some ⟨r, 0, none⟩), .int .i64 (room : Int)] 93) = W at *
  have HM := hid hma
  have HJ := hid hja
  clear hma hja
  refine (HRd.out _ HR1.out).mono ?_
  rintro e w1 ⟨rfl, hm1⟩
  have HR2 := hid (HR1.out.mod hm1 (fun _ _ h => h))
  have HM1 := hid (HM.out.trans hm1)
  have HJ1 := hid (HJ.out.mod hm1 (fun h => h))
  clear hm1
  by_cases hz : x.2 = 0
  · have hof := HOF.out
    rw [if_pos hz] at hof
    rw [hz]
    have HN := hid (rnumbers_any HR2.out HJ1.out hn hr x.1 (by have := HRs.out; omega))
    cases hnum : numF room (rjlen room R) x.1 with
    | none =>
      rw [hnum] at hof HN
      have HO := hid hof
      clear hof hnum hz
      go_wp2_with fail
      refine HN.out.mono ?_
      rintro e w2 ⟨hm2, rfl⟩
      have HM2 := hid (HM1.out.trans hm2)
      have HR3 := hid (HR2.out.mod hm2 (fun _ _ h => h))
      clear hm2
      go_wp2_with fail
      go_ret2
      rw [HO.out]
      exact ⟨HR3.out, HM2.out.mono (fun _ _ h => h.elim), .inr ⟨(show (32 : Int) ≠ 0 by decide), rfl⟩⟩
    | some l =>
      rw [hnum] at hof HN
      have HO := hid hof
      clear hof hnum hz
      go_wp2_with fail
      refine HN.out.mono ?_
      rintro e w2 ⟨hm2, la, cap, rfl, hol, hbl, hl5, hln⟩
      have HM2 := hid (HM1.out.trans hm2)
      have HR3 := hid (HR2.out.mod hm2 (fun _ _ h => h))
      have HJ2 := hid (HJ1.out.mod hm2 (fun h => h))
      have HL := hid hol
      have HLn := hid hln
      have HBl : Hid (∀ k, blk la k → ¬ diskF r ra k) := hid (fun k hk h => by have := HR2.out.lt k h; have := hbl k hk; omega)
      have HMd := hid (HM2.out.mono (T := diskF r ra) (fun _ _ h => h.elim))
      have HFr : Hid (l ≠ [] → F = ropF room 0 l R) := hid (fun h => by
        rw [HO.out]
        cases l with
        | nil => exact absurd rfl h
        | cons n l => rfl)
      have HF0 : Hid (l = [] → F = (0, R)) := hid (fun h => by rw [HO.out, h]; rfl)
      clear hm2 hol hbl hln HO
      go_wp2_with fail
      go_loopw [10] (fun c wr => ∃ (k : Nat) (R' : Rsk), k ≤ l.length ∧ c = .int .i64 (k : Int) ∧ RefAt wr r ra R' ∧ RB R' (t + k) ∧ (l ≠ [] → F = ropF room k (l.drop k) R') ∧ (l = [] → R' = R) ∧ Mod (diskF r ra) w2 wr) (fun c _ => l.length - (intOf c).toNat)
      case atStart => exact ⟨0, R, Nat.zero_le _, rfl, HR3.out, HB.out, HFr.out, fun _ => rfl, Mod.refl _ _⟩
      case round =>
        obtain ⟨k, R', hk, rfl, hd, hbd, hfr, hrr, hm⟩ := hrel
        have HDk := hid hd
        have HBk := hid hbd
        have HFk := hid hfr
        have HRr := hid hrr
        have HMk := hid hm
        clear hd hbd hfr hrr hm
        by_cases hlt : k < l.length
        · obtain ⟨g, off, rfl⟩ := HL.out.some_lit (by omega)
          have hc := (HL.out.mod HMk.out HBl.out).num hlt
          have hx := HLn.out l[k] (List.getElem_mem hlt)
          have hS : F = ropF room k (l[k] :: l.drop (k + 1)) R' := by
            rw [← List.drop_eq_getElem_cons hlt]
            exact HFk.out (fun h => by rw [h] at hlt; simp at hlt)
          rw [rop_cons] at hS
          have HRk := hid (rread_any HDk.out (1 + (k : Int)) HBk.out.sm)
          have hqs := rreadF_size HBk.out (1 + (k : Int))
          generalize l[k] = n at *
          generalize rreadF R' (1 + (k : Int)) = q at *
          have HQs := hid hqs
          by_cases hq : q.2 = 0
          · rw [if_pos hq] at hS
            have HS := hid hS
            have hq2 : (q.2 == 0) = true := by simpa using hq
            have hq3 : (q.2 != 0) = false := by simpa using hq
            clear hS hqs hq
            go_wp2_with fail
            refine HRk.out.mono ?_
            rintro e w3 ⟨rfl, hm3⟩
            have HW := hid (rw_any (HDk.out.mod hm3 (fun _ _ h => h)) HBk.out (by omega) ((room : Int) + 1 + (n : Int)) q.1 (by unfold maxLen; have := HQs.out; omega))
            have HBw := hid (HBk.out.write ((room : Int) + 1 + (n : Int)) q.1)
            have HM3 := hid (HMk.out.trans (hm3.mono (T := diskF r ra) (fun _ _ h => h.elim)))
            have hc2 := (HL.out.mod HM3.out HBl.out).num hlt
            have hcn : w3.cell? ⟨g, off + k, none⟩ = some (.int .i64 (n : Int)) := by
              have := (hm3.cell (World.block_lt_of_cell? _ _ hc) (fun h => h)).trans hc
              exact this
            generalize rwriteF R' ((room : Int) + 1 + (n : Int)) q.1 = p at *
            clear hm3 hc hc2
            go_wp2_with fail
            refine HW.out.mono ?_
            rintro e w4 ⟨rfl, hd4, hm4⟩
            have HR4 := hid hd4
            have HM4 := hid (HM3.out.trans hm4)
            clear hd4 hm4 hcn
            by_cases hp : p.1 = 0
            · have hp2 : (p.1 == 0) = true := by simpa using hp
              have hp3 : (p.1 != 0) = false := by simpa using hp
              have hs2 := HS.out
              rw [if_pos hp] at hs2
              have HS2 := hid hs2
              clear hs2 hp
              go_wp2_with fail
              go_roundw
              case rel => exact ⟨k + 1, p.2, by omega, by go_num, HR4.out, HBw.out.le (by omega), fun _ => HS2.out, fun h => by rw [h] at hlt; simp at hlt, HM4.out⟩
              case measure => simp [intOf]; omega
            · have hp2 : (p.1 == 0) = false := by simpa using hp
              have hp3 : (p.1 != 0) = true := by simpa using hp
              have hs2 := HS.out
              rw [if_neg hp] at hs2
              have HS2 := hid hs2
              have HP := hid hp
              clear hs2 hp
              go_wp2_with fail
              go_ret2
              rw [HS2.out]
              exact ⟨HR4.out, HMd.out.trans HM4.out, .inr ⟨HP.out, rfl⟩⟩
          · rw [if_neg hq] at hS
            have HS := hid hS
            have hq2 : (q.2 == 0) = false := by simpa using hq
            have hq3 : (q.2 != 0) = true := by simpa using hq
            have HQ := hid hq
            clear hS hqs hq
            go_wp2_with fail
            refine HRk.out.mono ?_
            rintro e w3 ⟨rfl, hm3⟩
            have HR4 := hid (HDk.out.mod hm3 (fun _ _ h => h))
            have HM3 := hid (HMd.out.trans (HMk.out.trans (hm3.mono (T := diskF r ra) (fun _ _ h => h.elim))))
            clear hm3 hc
            go_wp2_with fail
            go_ret2
            rw [HS.out]
            exact ⟨HR4.out, HM3.out, .inr ⟨HQ.out, rfl⟩⟩
        · have hke : k = l.length := by omega
          subst hke
          by_cases hl0 : l = []
          · subst hl0
            have HFz := hid (HF0.out rfl)
            have HRz := hid (HRr.out rfl)
            have HJz := hid (HJ2.out.mod HMk.out hne)
            simp only [List.length_nil] at *
            go_wp2_with fail
            go_ret2
            rw [HFz.out]
            refine ⟨by rw [← HRz.out]; exact HDk.out, HMd.out.trans HMk.out, .inl ⟨rfl, _, rfl, HJz.out, Nat.le_refl _⟩⟩
          · have hS : F = rwriteF R' 0 (ba [0]) := by rw [HFk.out hl0, List.drop_length, rop_nil]
            have hpos : 0 < l.length := List.length_pos_iff.2 hl0
            have HH : Hid (Calls Tryz.prog 36 #[.slice none 0 0] wr fun e w' => e = .returned (.string (ba [0])) ∧ Mod (fun _ => False) wr w') := hid (by
              have := rhead_any (w := wr) (a := none) 0 (lies_nil wr 2 Chg.cs none) (by simp) (fun c hc => by cases hc)
              rw [show hdL (places []) = [0] from hdL_nil] at this
              exact this)
            have HWa := hid (fun (v : World) (hv : Mod (fun _ => False) wr v) => rw_any (HDk.out.mod hv (fun _ _ h => h)) HBk.out (by omega) 0 (ba [0]) (by have := one_size; unfold maxLen; omega))
            rw [← hS] at HWa
            have HJz := hid (HJ2.out.mod HMk.out hne)
            generalize l.length = len at *
            have c1 : decide (0 < (len : Int)) = true := by rw [decide_eq_true_iff]; omega
            clear hS hl0
            go_wp2_with fail
            refine HH.out.mono ?_
            rintro e w3 ⟨rfl, hm3⟩
            have HW := hid (HWa.out w3 hm3)
            have HM3 := hid (HMk.out.trans (hm3.mono (T := diskF r ra) (fun _ _ h => h.elim)))
            have HJ3 := hid (HJz.out.mod hm3 (fun h => h))
            clear hm3
            go_wp2_with fail
            refine HW.out.mono ?_
            rintro e w4 ⟨rfl, hd4, hm4⟩
            have HR4 := hid hd4
            have HM4 := hid (HMd.out.trans (HM3.out.trans hm4))
            have HJ4 := hid (HJ3.out.mod hm4 hne)
            clear hd4 hm4
            by_cases hf : F.1 = 0
            · have hf2 : (F.1 == 0) = true := by simpa using hf
              have hf3 : (F.1 != 0) = false := by simpa using hf
              have HF1 := hid hf
              clear hf
              go_wp2_with fail
              go_ret2
              exact ⟨HR4.out, HM4.out, .inl ⟨HF1.out, _, rfl, HJ4.out, Nat.le_refl _⟩⟩
            · have hf2 : (F.1 == 0) = false := by simpa using hf
              have hf3 : (F.1 != 0) = true := by simpa using hf
              have HF1 := hid hf
              clear hf
              go_wp2_with fail
              go_ret2
              exact ⟨HR4.out, HM4.out, .inr ⟨HF1.out, rfl⟩⟩
  · have hz2 : (x.2 == 0) = false := by simpa using hz
    have hz3 : (x.2 != 0) = true := by simpa using hz
    have hof := HOF.out
    rw [if_neg hz] at hof
    have HO := hid hof
    have HZ := hid hz
    clear hof hz
    go_wp2_with fail
    go_ret2
    rw [HO.out]
    exact ⟨HR2.out, HM1.out.mono (fun _ _ h => h.elim), .inr ⟨HZ.out, rfl⟩⟩

end Go.Proofs.YtbfdmglmolkloaaGreatDoor
