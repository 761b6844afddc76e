/- A journal: Read and finish -/
import Derived.Test.YtbfdmglmolkloaaGreatDoorJr
namespace Go.Proofs.YtbfdmglmolkloaaGreatDoor
open Go Go.RowKit

set_option maxRecDepth 100000 in
set_option maxHeartbeats 1000000 in
theorem jread_any {w : World} {j d room : Nat} {sa : Option Addr} {D : Dsk} (hD : DiskAt w d sa D) (hj : JAt w j d room) (hne : ¬ diskF d sa j) (hn : D.secs.length ≤ 16384) (hr : room ≤ 500) (i : Int) :
    Calls Tryz.prog 13 #[.pointer (some ⟨j, 0, none⟩), .int .i64 i] w fun e w' => e = .returned (.tuple #[.string (readJ room D i).1, .int .i64 (readJ room D i).2]) ∧ DiskAt w' d sa D ∧ Mod (diskF d sa) w w' := by
  have HD := hid hD
  by_cases h0 : i < 0
  · have e : readJ room D i = (⟨#[]⟩, 10) := by unfold readJ; rw [if_pos (.inl h0)]
    rw [e]
    have d0 : decide (i < 0) = true := by simpa using h0
    clear hj hD
    go_enter Tryz.func13, Tryz.ntmps13
    go_wp2
    go_ret2
    exact ⟨rfl, HD.out, Mod.refl _ _⟩
  · have d0 : decide (i < 0) = false := by simpa using h0
    have HJl := hid (jlen_any hD hj hn hr)
    have HJ := hid hj
    by_cases h1 : (jlen room D : Int) ≤ i
    · have e : readJ room D i = (⟨#[]⟩, 10) := by unfold readJ; rw [if_pos (.inr h1)]
      rw [e]
      have d1 : decide ((jlen room D : Int) ≤ i) = true := by simpa using h1
      clear hj hD
      go_enter Tryz.func13, Tryz.ntmps13
      go_wp2_with fail
      refine HJl.out.mono ?_
      rintro e w1 ⟨rfl, hm⟩
      have HM := hid hm
      clear hm
      go_wp2
      go_ret2
      exact ⟨rfl, HD.out.mod HM.out (fun _ _ h => h), HM.out.mono (fun _ _ h => h.elim)⟩
    · have e : readJ room D i = readF D ((room : Int) + 1 + i) := by unfold readJ; rw [if_neg (by omega)]
      rw [e]
      have d1 : decide ((jlen room D : Int) ≤ i) = false := by simpa using h1
      have hi : i ≤ 16384 := by unfold jlen at h1; omega
      obtain ⟨n, rfl⟩ := Int.eq_ofNat_of_zero_le (show 0 ≤ i by omega)
      have e2 : ((room + 1 + n : Nat) : Int) = (room : Int) + 1 + (n : Int) := by omega
      have HRa := hid (fun (v : World) (h : DiskAt v d sa D) => read_any h ((room : Int) + 1 + (n : Int)))
      generalize readF D ((room : Int) + 1 + (n : Int)) = r at *
      clear hj hD e
      go_enter Tryz.func13, Tryz.ntmps13
      go_wp2_with fail
      refine HJl.out.mono ?_
      rintro e w1 ⟨rfl, hm⟩
      have HP := hid (place_any (w := w1.drew) (HJ.out.mod hm.drew (fun h => h)) hr n (by omega))
      have HR := hid (HRa.out w1.drew (HD.out.mod hm.drew (fun _ _ h => h)))
      rw [e2] at HP
      have HJ1 := hid (HJ.out.mod hm.drew (fun h => h))
      obtain ⟨c0, c1⟩ := HJ1.out.cells
      have HM := hid (hm.drew.mono (T := diskF d sa) (fun _ _ h => h.elim))
      clear hm e2
      go_wp2_with fail
      go_region_held3 (fun w' => w'.cell? ⟨j, 0, none⟩ = some (.pointer (some ⟨d, 0, none⟩)))
        (first | exact x0 | exact c0 | go_keep)
        (first
          | (go_at_call 33; (with_reducible refine HP.out.mono ?_); rintro e v1 ⟨rfl, rfl⟩)
          | (go_at_call 27; (with_reducible refine HR.out.mono ?_); rintro e v2 ⟨rfl, hd2, hm2⟩; have HD2 := hid hd2; obtain ⟨x0, x1⟩ := (HJ1.out.mod hm2 hne).cells; have HM2 := hid hm2; clear hd2 hm2))
      all_goals
        go_wp2_with fail
        go_ret2
        exact ⟨rfl, HD2.out, HM.out.trans HM2.out⟩

theorem ones_own (w : World) : Own w 3 1 none 0 0 (nums []) := Own.nil w 3 1

theorem fin_nil (room i : Nat) (D : Dsk) : finF room i [] D = writeF D 0 (ba [0]) := rfl
theorem fin_cons (room i n : Nat) (l : List Nat) (D : Dsk) : finF room i (n :: l) D =
    if (readF D (1 + (i : Int))).2 = 0 then
      (if (writeF D ((room : Int) + 1 + (n : Int)) (readF D (1 + (i : Int))).1).1 = 0 then finF room (i + 1) l (writeF D ((room : Int) + 1 + (n : Int)) (readF D (1 + (i : Int))).1).2
       else writeF D ((room : Int) + 1 + (n : Int)) (readF D (1 + (i : Int))).1)
    else ((readF D (1 + (i : Int))).2, D) := by
  rw [finF, show ((1 + i : Nat) : Int) = 1 + (i : Int) by omega, show ((room + 1 + n : Nat) : Int) = (room : Int) + 1 + (n : Int) by omega]

theorem hdL_nil : hdL [] = [0] := by unfold hdL; rw [List.length_nil, uvar_small (by omega)]; rfl

/-- The writes at the end of finish. -/
def FinR (room : Nat) (l : List Nat) (D : Dsk) (k : Nat) (D' : Dsk) : Prop := finF room 0 l D = finF room k (l.drop k) D' ∧ D'.secs.length = D.secs.length

set_option maxRecDepth 100000 in
set_option maxHeartbeats 2000000 in
theorem finish_any {w : World} {j d room k0 : Nat} {sa : Option Addr} {D : Dsk} (hD : DiskAt w d sa D) (hj : JAt w j d room) (hne : ¬ diskF d sa j) (hb : Bud D k0) (hk0 : k0 ≤ 2305843009213693952) (hr : room ≤ 500)
    {la : Option Addr} {cap : Nat} {l : List Nat} (hl : Own w 3 1 la l.length cap (nums l)) (hlen : l.length ≤ 500) (hln : ∀ n ∈ l, n ≤ 16384) (hls : ∀ k, blk la k → ¬ diskF d sa k) :
    Calls Tryz.prog 30 #[.pointer (some ⟨j, 0, none⟩), .slice la l.length cap] w fun e w' => e = .returned (.int .i64 (finF room 0 l D).1) ∧ DiskAt w' d sa (finF room 0 l D).2 ∧ Mod (diskF d sa) w w' := by
  have HD := hid hD
  have HJ := hid hj
  have HB := hid hb
  have HL := hid hl
  have HLn := hid hln
  have HLs := hid hls
  have HR0 : Hid (FinR room l D 0 D) := ⟨rfl, rfl⟩
  obtain ⟨F, hF⟩ : ∃ F, finF room 0 l D = F := ⟨_, rfl⟩
  rw [hF]
  have HF := hid hF
  clear hD hj hb hl hln hls hF
  go_enter Tryz.func30, Tryz.ntmps30
  go_wp2_with fail
  go_loopw [11] (fun c wr => ∃ (k : Nat) (D' : Dsk), k ≤ l.length ∧ c = .int .i64 k ∧ DiskAt wr d sa D' ∧ Bud D' (k0 + k) ∧ FinR room l D k D' ∧ Mod (diskF d sa) w wr) (fun c _ => l.length - (intOf c).toNat)
  case atStart => exact ⟨0, D, Nat.zero_le _, rfl, HD.out, HB.out, HR0.out, Mod.refl _ _⟩
  case round =>
    obtain ⟨k, D', hk, rfl, hd, hbd, hfr, hm⟩ := hrel
    have HDk := hid hd
    have HBk := hid hbd
    have HFk := hid hfr
    have HM := hid hm
    have HJk := hid (HJ.out.mod hm hne)
    obtain ⟨c0, c1⟩ := HJk.out.cells
    clear hd hbd hfr hm
    by_cases hlt : k < l.length
    · obtain ⟨g, off, rfl⟩ := HL.out.some_lit (by omega)
      have hc := (HL.out.mod HM.out HLs.out).num hlt
      have hx := HLn.out l[k] (List.getElem_mem hlt)
      have hS : F = finF room k (l[k] :: l.drop (k + 1)) D' := by rw [← List.drop_eq_getElem_cons hlt, ← HFk.out.1]; exact HF.out.symm
      rw [fin_cons] at hS
      have HRd := hid (read_any HDk.out (1 + (k : Int)))
      have hrs := HBk.out.read (1 + (k : Int))
      generalize l[k] = x at *
      generalize readF D' (1 + (k : Int)) = r at *
      have HRs := hid hrs
      by_cases hz : r.2 = 0
      · rw [if_pos hz] at hS
        have HS := hid hS
        have hz2 : (r.2 == 0) = true := by simpa using hz
        clear hS hrs
        go_wp2_with fail
        refine HRd.out.mono ?_
        rintro e w1 ⟨rfl, hd1, hm1⟩
        have hJ1 := HJk.out.mod hm1 hne
        have hP := (place_any (w := w1.drew) (hJ1.mod (Mod.refl (fun _ => False) w1).drew (fun h => h)) hr x hx)
        rw [show ((room + 1 + x : Nat) : Int) = (room : Int) + 1 + (x : Int) by omega] at hP
        have HP := hid hP
        clear hP
        have HW := hid (write_any (w := w1.drew) (hd1.mod (Mod.refl (fun _ => False) w1).drew (fun _ _ h => h)) (HBk.out.ok (by omega)) ((room : Int) + 1 + (x : Int)) r.1 (by unfold maxLen; have := HRs.out; omega))
        have HBw := hid (HBk.out.write ((room : Int) + 1 + (x : Int)) r.1)
        have hwl := writeF_len D' ((room : Int) + 1 + (x : Int)) r.1
        rw [HFk.out.2] at hwl
        have HWl := hid hwl
        have HJ2 := hid (hJ1.mod (Mod.refl (fun _ => False) w1).drew (fun h => h))
        have HM2 := hid ((HM.out.trans hm1).drew)
        obtain ⟨v0, v1⟩ := HJ2.out.cells
        generalize writeF D' ((room : Int) + 1 + (x : Int)) r.1 = q at *
        clear hd1 hm1 hJ1 hc c0 c1 hwl
        go_wp2_with fail
        go_region_held3 (fun w' => w'.cell? ⟨j, 0, none⟩ = some (.pointer (some ⟨d, 0, none⟩)))
          (first | exact x0 | exact v0 | go_keep)
          (first
            | (go_at_call 33; (with_reducible refine HP.out.mono ?_); rintro e v1 ⟨rfl, rfl⟩)
            | (go_at_call 24; (with_reducible refine HW.out.mono ?_); rintro e w2 ⟨rfl, hd2, hm2⟩; have HD3 := hid hd2; obtain ⟨x0, x1⟩ := (HJ2.out.mod hm2 hne).cells; have HM3 := hid (HM2.out.trans hm2); clear hd2 hm2))
        all_goals
          by_cases hq : q.1 = 0
          · have hq2 : (q.1 == 0) = true := by simpa using hq
            have hs2 := HS.out
            rw [if_pos hq] at hs2
            have HS2 : Hid (FinR room l D (k + 1) q.2) := ⟨HF.out.trans hs2, HWl.out⟩
            clear hs2 hq
            go_wp2_with fail
            go_roundw
            case rel => exact ⟨k + 1, q.2, by omega, by go_num, HD3.out, HBw.out, HS2.out, HM3.out⟩
            case measure => simp [intOf]; omega
          · have hq2 : (q.1 == 0) = false := by simpa using hq
            have hs2 := HS.out
            rw [if_neg hq] at hs2
            clear hq
            go_wp2_with fail
            go_ret
            rw [hs2]
            exact ⟨rfl, HD3.out, HM3.out⟩
      · rw [if_neg hz] at hS
        have HS := hid hS
        have hz2 : (r.2 == 0) = false := by simpa using hz
        clear hS hrs hz
        go_wp2_with fail
        refine HRd.out.mono ?_
        rintro e w1 ⟨rfl, hd1, hm1⟩
        have HD1 := hid hd1
        have HM1 := hid (HM.out.trans hm1)
        clear hd1 hm1 hc c0 c1
        go_wp2_with fail
        go_ret
        rw [HS.out]
        exact ⟨rfl, HD1.out, HM1.out⟩
    · have hke : k = l.length := by omega
      subst hke
      have hS : F = writeF D' 0 (ba [0]) := by rw [← fin_nil room l.length, ← HF.out, HFk.out.1, List.drop_length]
      have HH : Hid (Calls Tryz.prog 32 #[.slice none 0 0] wr.drew fun e w' => e = .returned (.string (ba [0])) ∧ Mod (fun _ => False) wr.drew w') := hid (by
        have := head_any (w := wr.drew) (cap := 0) (ones_own wr.drew) (by simp) (by simp)
        rw [hdL_nil] at this
        exact this)
      have HWa : Hid (∀ v, Mod (fun _ => False) wr v → Calls Tryz.prog 24 #[.pointer (some ⟨d, 0, none⟩), .int .i64 0, .string (ba [0])] v fun e w' => e = .returned (.int .i64 F.1) ∧ DiskAt w' d sa F.2 ∧ Mod (diskF d sa) v w') := hid (fun v hv => by
        have := write_any (HDk.out.mod hv (fun _ _ h => h)) (HBk.out.ok (by omega)) 0 (ba [0]) (by have := one_size; unfold maxLen; omega)
        rw [← hS] at this
        exact this)
      have HJd : Hid (∀ v, Mod (fun _ => False) wr v → v.cell? ⟨j, 0, none⟩ = some (.pointer (some ⟨d, 0, none⟩))) := hid (fun v hv => (HJk.out.mod hv (fun h => h)).cells.1)
      have hw0 : Mod (fun _ => False) wr wr.drew := (Mod.refl _ _).drew
      have HW0 := hid hw0
      have z0 := HJd.out _ hw0
      clear hS c0 c1 hw0
      go_wp2_with fail
      go_region_held3 (fun w' => w'.cell? ⟨j, 0, none⟩ = some (.pointer (some ⟨d, 0, none⟩)))
        (first | exact x0 | exact y0 | exact z0 | go_keep)
        (first
          | (go_at_call 32; (with_reducible refine HH.out.mono ?_); rintro e v1 ⟨rfl, hm1⟩; have HV1 := hid (HW0.out.trans hm1); have y0 := HJd.out v1 HV1.out; clear hm1)
          | (go_at_call 24; (with_reducible refine (HWa.out _ HV1.out).mono ?_); rintro e w2 ⟨rfl, hd2, hm2⟩; have HD3 := hid hd2; obtain ⟨x0, x1⟩ := ((HJk.out.mod HV1.out (fun h => h)).mod hm2 hne).cells; have HM3 := hid (HM.out.trans ((HV1.out.mono (fun _ _ h => h.elim)).trans hm2)); clear hd2 hm2))
      all_goals
        go_wp2_with fail
        go_ret
        exact ⟨rfl, HD3.out, HM3.out⟩

end Go.Proofs.YtbfdmglmolkloaaGreatDoor
