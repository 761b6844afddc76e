/- The document's journal: Commit -/
import Derived.Test.YtbfdmglmolkloaaGreatDoorJpO
namespace Go.Proofs.YtbfdmglmolkloaaGreatDoor
open Go Go.RowKit

theorem rfin_nil (room : Nat) (R : Rsk) : rfinF room [] R = rwriteF R 0 (ba [0]) := rfl
theorem rfin_cons (room : Nat) (c : Chg) (r : List Chg) (R : Rsk) (hp : 0 ≤ c.pos) : rfinF room (c :: r) R = if (rwriteF R ((room : Int) + 1 + c.pos) c.data).1 = 0 then rfinF room r (rwriteF R ((room : Int) + 1 + c.pos) c.data).2 else rwriteF R ((room : Int) + 1 + c.pos) c.data := by
  rw [rfinF, show ((room + 1 + c.pos.toNat : Nat) : Int) = (room : Int) + 1 + c.pos by omega]
theorem rput_cons (i : Nat) (c : Chg) (r : List Chg) (R : Rsk) : rputF i (c :: r) R = if (rwriteF R (1 + (i : Int)) c.data).1 = 0 then rputF (i + 1) r (rwriteF R (1 + (i : Int)) c.data).2 else rwriteF R (1 + (i : Int)) c.data := by
  rw [rputF, show ((1 + i : Nat) : Int) = 1 + (i : Int) by omega]

set_option maxRecDepth 100000 in
set_option maxHeartbeats 8000000 in
theorem rcommit_first {w : World} {k0 r room t : Nat} {ra : Option Addr} {R : Rsk} (hR : RefAt w r ra R) (hj : RJAt w k0 r room) (hne : ¬ diskF r ra k0) (hb : RB R t) (ht : t ≤ 1152921504606846976) (hr : room ≤ 500)
    {a : Option Addr} {cap0 : Nat} {cs : List Chg} (hc : ChAt w a cs) (hap : 0 < cs.length → ∀ k, blk a k → ¬ diskF r ra k) (hle : cs.length ≤ room) (hpos : 0 < cs.length) :
    Calls Tryz.prog 16 #[.pointer (some ⟨k0, 0, none⟩), .slice a cs.length cap0] w fun e w' => e = .returned (.int .i64 (rcommitF room cs R).1) ∧ RefAt w' r ra (rcommitF room cs R).2 ∧ Mod (diskF r ra) w w' := by
  obtain ⟨g, off, rfl⟩ := hc.l.some hpos
  have HC := hid hc
  have HD := hid hR
  have HJ := hid hj
  have HB := hid hb
  have HAp := hid (hap hpos)
  have HFc : Hid (rcommitF room cs R = if checkL (rjlen room R) [] cs = 0 then (if (rputF 0 cs R).1 = 0 then rheadF room cs (rputF 0 cs R).2 else rputF 0 cs R) else (checkL (rjlen room R) [] cs, R)) := hid (by
    unfold rcommitF
    rw [if_neg (by omega)]
    by_cases h : checkL (rjlen room R) [] cs = 0
    · rw [if_pos h, if_pos h, if_neg (by intro h; subst h; simp at hpos)]
    · rw [if_neg h, if_neg h])
  have HJl := hid (fun (v : World) (hv : Mod (fun _ => False) w v) => rlen_any (hR.mod hv (fun _ _ h => h)) (hj.mod hv (fun h => h)) hb.n hr)
  have hjl : rjlen room R ≤ 16384 := by have := hb.n; unfold rjlen; omega
  have d1 : decide (room < cs.length) = false := by rw [decide_eq_false_iff_not]; omega
  have d2 : ((cs.length : Int) == 0) = false := by rw [beq_eq_false_iff_ne]; omega
  generalize rcommitF room cs R = F at *
  generalize rjlen room R = len at *
  have HFbad : Hid (∀ e, checkL len [] cs = e → e ≠ 0 → F = (e, R)) := hid (fun e h1 h2 => by rw [HFc.out, if_neg (by rw [h1]; exact h2), h1])
  obtain ⟨c0, c1⟩ := hj.cells
  clear hR hj hc hap hb
  go_enter Tryz.func16, Tryz.ntmps16
  go_wp2_with fail
  clear c0 c1
  go_loopw [5] (fun sc wr => ∃ k : Nat, k ≤ cs.length ∧ sc = .int .i64 (k : Int) ∧ checkL len [] cs = checkL len (places (cs.take k)) (cs.drop k) ∧ (∀ c ∈ cs.take k, 0 ≤ c.pos ∧ c.pos < len) ∧ Mod (fun _ => False) w wr) (fun sc _ => cs.length - (intOf sc).toNat)
  case atStart => exact ⟨0, Nat.zero_le _, rfl, rfl, (fun c hc => by simp at hc), Mod.refl _ _⟩
  case round =>
    obtain ⟨k, hk, rfl, r1, r2, r3⟩ := hrel
    obtain ⟨wo, rfl⟩ : ∃ wo : World, wo = wr := ⟨_, rfl⟩
    have HCk := hid r1
    have HPl := hid r2
    have HM := hid r3
    clear r1 r2 r3
    by_cases hlt : k < cs.length
    · obtain ⟨x, hx⟩ : ∃ x, cs[k]? = some x := ⟨_, List.getElem?_eq_getElem hlt⟩
      have hxe : cs[k] = x := by rw [List.getElem?_eq_getElem hlt] at hx; exact Option.some.inj hx
      have hxs := HC.out.s x (List.mem_of_getElem? hx)
      obtain ⟨hxp1, hxp2⟩ := HC.out.p x (List.mem_of_getElem? hx)
      have HSt : Hid (checkL len [] cs = if x.pos < 0 ∨ (len : Int) ≤ x.pos then 10 else if 1024 < x.data.size then 11 else if x.pos.toNat ∈ places (cs.take k) then 30 else checkL len (places (cs.take k) ++ [x.pos.toNat]) (cs.drop (k + 1))) := hid (by
        rw [HCk.out, List.drop_eq_getElem_cons hlt, hxe]; rfl)
      have HTk : Hid (places (cs.take (k + 1)) = places (cs.take k) ++ [x.pos.toNat]) := hid (by rw [places_take cs k hlt, hxe])
      have HTm : Hid (cs.take (k + 1) = cs.take k ++ [x]) := hid (by rw [List.take_succ_eq_append_getElem hlt, hxe])
      have HCell : Hid (∀ v, Mod (fun _ => False) w v → v.cell? ⟨g, off + k * 2, none⟩ = some (.int .i64 x.pos) ∧ v.cell? ⟨g, off + k * 2 + 1, none⟩ = some (.string x.data)) := hid (fun v hv => by
        have h0 := (HC.out.l.old hv (fun _ h => h.elim)).cell chg_len hx (j := 0) rfl
        have h1 := (HC.out.l.old hv (fun _ h => h.elim)).cell chg_len hx (j := 1) rfl
        rw [Nat.add_zero] at h0
        exact ⟨h0, h1⟩)
      obtain ⟨pos, data⟩ := x
      simp only at hxs hxp1 hxp2 HSt HTk HTm HCell
      unfold maxLen at hxs
      have HK := hid (fun y : Ext wo => HJl.out y.val (HM.out.trans y.mod))
      have kk0 : ∀ y : Ext wo, y.val.cell? ⟨g, off + k * 2, none⟩ = some (.int .i64 pos) := fun y => (HCell.out y.val (HM.out.trans y.mod)).1
      clear hx hxe
      by_cases hp0 : pos < 0
      · have e0 : decide (pos < 0) = true := by simpa using hp0
        have HE : Hid (F = (10, R)) := hid (HFbad.out 10 (by rw [HSt.out, if_pos (Or.inl hp0)]) (by decide))
        clear hp0
        go_wp2_with fail
        refine wp_region_ext (by kernel_rfl) (by kernel_rfl) ?_
        repeat (go_big_quiet_step ((fail)))
        refine wpQuiet_nil ?_
        rintro _ ⟨y, rfl⟩
        go_wp2_with fail
        go_ret
        rw [HE.out]
        exact ⟨rfl, HD.out.mod (HM.out.trans y.mod) (fun _ _ h => h), (HM.out.trans y.mod).mono (fun _ _ h => h.elim)⟩
      · have e0 : decide (pos < 0) = false := by simpa using hp0
        obtain ⟨p, rfl⟩ := Int.eq_ofNat_of_zero_le (show 0 ≤ pos by omega)
        by_cases hpl : len ≤ p
        · have e1 : decide (len ≤ p) = true := by simpa using hpl
          have HE : Hid (F = (10, R)) := hid (HFbad.out 10 (by rw [HSt.out, if_pos (Or.inr (by omega))]) (by decide))
          clear hp0 hpl
          go_wp2_with fail
          refine wp_region_ext (by kernel_rfl) (by kernel_rfl) ?_
          repeat (go_big_quiet_step ((go_at_call 19; exact ext_call (HK.out _))))
          refine wpQuiet_nil ?_
          rintro _ ⟨y, rfl⟩
          go_wp2_with fail
          go_ret
          rw [HE.out]
          exact ⟨rfl, HD.out.mod (HM.out.trans y.mod) (fun _ _ h => h), (HM.out.trans y.mod).mono (fun _ _ h => h.elim)⟩
        · have e1 : decide (len ≤ p) = false := by simpa using hpl
          have hnot : ¬ ((p : Int) < 0 ∨ (len : Int) ≤ (p : Int)) := by omega
          have hst := HSt.out
          rw [if_neg hnot] at hst
          have hpl2 : p < len := by omega
          have HPl2 := hid hpl2
          by_cases hds : 1024 < data.size
          · rw [if_pos hds] at hst
            have HE : Hid (F = (11, R)) := hid (HFbad.out 11 hst (by decide))
            have e2 : decide (1024 < (data.size : Int)) = true := by rw [decide_eq_true_iff]; omega
            have e3 : decide (1024 < data.size) = true := by simpa using hds
            clear hp0 hpl hst hnot hpl2 hds
            go_wp2_with fail
            refine wp_region_ext (by kernel_rfl) (by kernel_rfl) ?_
            repeat (go_big_quiet_step ((go_at_call 19; exact ext_call (HK.out _))))
            refine wpQuiet_nil ?_
            rintro _ ⟨y, rfl⟩
            obtain ⟨_, q1⟩ := HCell.out y.val (HM.out.trans y.mod)
            go_wp2_with fail
            go_ret
            rw [HE.out]
            exact ⟨rfl, HD.out.mod (HM.out.trans y.mod) (fun _ _ h => h), (HM.out.trans y.mod).mono (fun _ _ h => h.elim)⟩
          · rw [if_neg hds] at hst
            have e2 : decide (1024 < (data.size : Int)) = false := by rw [decide_eq_false_iff_not]; omega
            have e3 : decide (1024 < data.size) = false := by simpa using hds
            have hpn : ((p : Int)).toNat = p := by omega
            rw [hpn] at hst HTk
            have HSt2 := hid hst
            clear hp0 hpl hst hnot hpl2 hds HSt hpn
            go_wp2_with fail
            refine wp_region_ext (by kernel_rfl) (by kernel_rfl) ?_
            repeat (go_big_quiet_step ((go_at_call 19; exact ext_call (HK.out _))))
            refine wpQuiet_nil ?_
            rintro _ ⟨y, rfl⟩
            clear kk0
            have HMy := hid (HM.out.trans y.mod)
            generalize y.val = Y at *
            obtain ⟨_, q1⟩ := HCell.out Y HMy.out
            clear HK y
            go_wp2_with fail
            clear q1
            go_loopw [6] (fun c wv => ∃ q : Nat, q ≤ k ∧ c = .int .i64 (q : Int) ∧ (∀ (p' : Nat) (c : Chg), p' < q → cs[p']? = some c → c.pos ≠ (p : Int)) ∧ Mod (fun _ => False) w wv) (fun c _ => k - (intOf c).toNat)
            case atStart => exact ⟨0, Nat.zero_le _, rfl, (fun p' c h => by omega), HMy.out⟩
            case round =>
              obtain ⟨q, hq, rfl, hno, hmv⟩ := hrel
              obtain ⟨wv, rfl⟩ : ∃ wv : World, wv = wr := ⟨_, rfl⟩
              have HNo := hid hno
              have HMv := hid hmv
              clear hno hmv
              by_cases hqk : q < k
              · obtain ⟨z, hz⟩ : ∃ z, cs[q]? = some z := ⟨_, List.getElem?_eq_getElem (by omega)⟩
                have z0 := (HC.out.l.old HMv.out (fun _ h => h.elim)).cell chg_len hz (j := 0) rfl
                rw [Nat.add_zero] at z0
                obtain ⟨v0, _⟩ := HCell.out wv HMv.out
                have HZ := hid hz
                obtain ⟨zp, zd⟩ := z
                have z0' : wv.cell? ⟨g, off + q * 2, none⟩ = some (.int .i64 zp) := z0
                by_cases he : zp = (p : Int)
                · have HIn : Hid (p ∈ places (cs.take k)) := hid (by
                    refine List.mem_map.2 ⟨⟨zp, zd⟩, List.mem_of_getElem? (i := q) (by rw [List.getElem?_take, if_pos hqk]; exact HZ.out), ?_⟩
                    simp only [he]
                    omega)
                  have HE : Hid (F = (30, R)) := hid (HFbad.out 30 (by rw [HSt2.out, if_pos HIn.out]) (by decide))
                  have e4 : (zp == (p : Int)) = true := by rw [beq_iff_eq]; exact he
                  clear he z0 hz
                  go_wp2_with fail
                  go_quiet (fail)
                  go_wp2_with fail
                  go_ret
                  rw [HE.out]
                  exact ⟨rfl, HD.out.mod (HMv.out.drewN _) (fun _ _ h => h), (HMv.out.drewN _).mono (fun _ _ h => h.elim)⟩
                · have e4 : (zp == (p : Int)) = false := by rw [beq_eq_false_iff_ne]; exact he
                  have HNe := hid he
                  clear he z0 hz
                  go_wp2_with fail
                  go_quiet (fail)
                  go_wp2_with fail
                  go_roundw
                  case rel =>
                    refine ⟨q + 1, by omega, by go_num, fun p' c hp' hc' => ?_, HMv.out.drewN _⟩
                    by_cases hpq : p' = q
                    · subst hpq
                      rw [HZ.out] at hc'
                      cases hc'
                      exact HNe.out
                    · exact HNo.out p' c (by omega) hc'
                  case measure => simp [intOf]; omega
              · have hqe : q = k := by omega
                subst hqe
                have HIn : Hid (p ∉ places (cs.take q)) := hid (fun hm => by
                  obtain ⟨c, hc, he⟩ := List.mem_map.1 hm
                  obtain ⟨i, hi⟩ := List.getElem?_of_mem hc
                  have hi2 := (List.getElem?_eq_some_iff.1 hi).1
                  rw [List.length_take] at hi2
                  rw [List.getElem?_take, if_pos (by omega)] at hi
                  have := HPl.out c hc
                  exact HNo.out i c (by omega) hi (by omega))
                go_wp2_with fail
                go_roundw
                case rel =>
                  refine ⟨q + 1, by omega, by go_num, ?_, fun c hc => ?_, HMv.out⟩
                  · rw [HTk.out, HSt2.out, if_neg HIn.out]
                  · rw [HTm.out] at hc
                    rcases List.mem_append.1 hc with h | h
                    · exact HPl.out c h
                    · simp at h; subst h; simp only; have := HPl2.out; omega
                case measure => simp [intOf]; omega
    · have hke : k = cs.length := by omega
      subst hke
      have HCe : Hid (checkL len [] cs = 0) := hid (by rw [HCk.out, List.drop_length]; rfl)
      have HFok : Hid (F = if (rputF 0 cs R).1 = 0 then rheadF room cs (rputF 0 cs R).2 else rputF 0 cs R) := hid (by rw [HFc.out, if_pos HCe.out])
      have HPos : Hid (∀ c ∈ cs, 0 ≤ c.pos ∧ c.pos < len) := hid (by have := HPl.out; rwa [List.take_length] at this)
      have HDr := hid (HD.out.mod HM.out (fun _ _ h => h))
      have HMr := hid (HM.out.mono (T := diskF r ra) (fun _ _ h => h.elim))
      obtain ⟨U, rfl⟩ : ∃ U : World, U = wo := ⟨_, rfl⟩
      clear HCk HPl HM HFc HFbad HCe
      go_wp2_with fail
      go_loopw [7] (fun sc wv => ∃ (k : Nat) (R' : Rsk), k ≤ cs.length ∧ sc = .int .i64 (k : Int) ∧ RefAt wv r ra R' ∧ RB R' (t + k) ∧ rputF 0 cs R = rputF k (cs.drop k) R' ∧ Mod (diskF r ra) U wv) (fun sc _ => cs.length - (intOf sc).toNat)
      case atStart => exact ⟨0, R, Nat.zero_le _, rfl, HDr.out, HB.out, rfl, Mod.refl _ _⟩
      case round =>
        obtain ⟨wv, rfl⟩ : ∃ wv : World, wv = wr := ⟨_, rfl⟩
        obtain ⟨k, R', hk, rfl, r1, r2, r3, r4⟩ := hrel
        have HDk := hid r1
        have HBk := hid r2
        have HPk := hid r3
        have HMu := hid r4
        have HMw := hid (HMr.out.trans r4)
        clear r1 r2 r3 r4
        by_cases hlt : k < cs.length
        · obtain ⟨x, hx⟩ : ∃ x, cs[k]? = some x := ⟨_, List.getElem?_eq_getElem hlt⟩
          have hxe : cs[k] = x := by rw [List.getElem?_eq_getElem hlt] at hx; exact Option.some.inj hx
          have hxs := HC.out.s x (List.mem_of_getElem? hx)
          have HSt : Hid (rputF 0 cs R = if (rwriteF R' (1 + (k : Int)) x.data).1 = 0 then rputF (k + 1) (cs.drop (k + 1)) (rwriteF R' (1 + (k : Int)) x.data).2 else rwriteF R' (1 + (k : Int)) x.data) := hid (by
            rw [HPk.out, List.drop_eq_getElem_cons hlt, hxe, rput_cons])
          have HUp : Hid (∀ v, Mod (diskF r ra) wv.drew v → v.cell? ⟨k0, 0, none⟩ = some (.pointer (some ⟨r, 0, none⟩)) ∧ v.cell? ⟨g, off + k * 2 + 1, none⟩ = some (.string x.data)) := hid (fun v hv => by
            have hm := HMw.out.drew.trans hv
            exact ⟨(HJ.out.mod hm hne).cells.1, (HC.out.mod hm (fun _ => HAp.out)).l.cell chg_len hx (j := 1) rfl⟩)
          obtain ⟨pos, data⟩ := x
          simp only at hxs HSt HUp
          have HW := hid (rw_any (w := wv.drew) (HDk.out.mod (Mod.refl (fun _ => False) wv).drew (fun _ _ h => h)) HBk.out (by omega) (1 + (k : Int)) data hxs)
          have HBw := hid (HBk.out.write (1 + (k : Int)) data)
          have hmd : Mod (diskF r ra) wv wv.drew := (Mod.refl _ _).drew
          have HMd := hid hmd
          clear hmd
          obtain ⟨z0, z1⟩ := HUp.out wv.drew (Mod.refl _ _)
          generalize rwriteF R' (1 + (k : Int)) data = q at *
          have s1 : IntKind.i64.wrap (1 + (k : Int)) = 1 + (k : Int) := by rw [IntKind.wrap_i64]; omega
          clear hxs hx hxe
          go_wp2_with fail
          go_region_held3 (fun w' => w'.cell? ⟨k0, 0, none⟩ = some (.pointer (some ⟨r, 0, none⟩)) ∧ w'.cell? ⟨g, off + k * 2 + 1, none⟩ = some (.string data))
            (first | exact ⟨x0, x1⟩ | exact ⟨z0, z1⟩ | go_keep)
            ((go_at_call 25; (with_reducible refine HW.out.mono ?_); rintro e w2 ⟨rfl, hd2, hm2⟩; have HD3 := hid hd2; obtain ⟨x0, x1⟩ := HUp.out w2 hm2; have HM3 := hid (HMu.out.trans (HMd.out.trans hm2)); clear hd2 hm2))
          all_goals
            clear s1
            by_cases hq : q.1 = 0
            · have hq2 : (q.1 == 0) = true := by simpa using hq
              have hq3 : (q.1 != 0) = false := by simpa using hq
              have HS2 : Hid (rputF 0 cs R = rputF (k + 1) (cs.drop (k + 1)) q.2) := hid (by rw [HSt.out, if_pos hq])
              clear hq
              go_wp2_with fail
              go_roundw
              case rel => exact ⟨k + 1, q.2, by omega, by go_num, HD3.out, HBw.out, HS2.out, HM3.out⟩
              case measure => simp [intOf]; omega
            · have hq2 : (q.1 == 0) = false := by simpa using hq
              have hq3 : (q.1 != 0) = true := by simpa using hq
              have HS2 : Hid (F = q) := hid (by rw [HFok.out, HSt.out, if_neg hq, if_neg hq])
              clear hq
              go_wp2_with fail
              go_ret
              rw [HS2.out]
              exact ⟨rfl, HD3.out, HMr.out.trans HM3.out⟩
        · have hke : k = cs.length := by omega
          subst hke
          have HPe : Hid (rputF 0 cs R = (0, R')) := hid (by rw [HPk.out, List.drop_length]; rfl)
          have HFh : Hid (F = if (rwriteF R' 0 (ba (hdL (places cs)))).1 = 0 then rfinF room cs (rwriteF R' 0 (ba (hdL (places cs)))).2 else rwriteF R' 0 (ba (hdL (places cs)))) := hid (by rw [HFok.out, HPe.out, if_pos rfl]; rfl)
          have hps : ∀ c ∈ cs, 0 ≤ c.pos ∧ c.pos ≤ 16384 := fun c hc => by have := HPos.out c hc; omega
          have HPs := hid hps
          have HH := hid (rhead_any cap0 (HC.out.mod HMw.out (fun _ => HAp.out)).l (by omega) hps)
          have hhs : (ba (hdL (places cs))).size ≤ maxLen := by
            rw [ba_size, ← hdK_all]
            have := hdK_len (places cs) (places cs).length (fun n hn => by
              obtain ⟨c, hc, rfl⟩ := List.mem_map.1 hn
              have := hps c hc
              omega) (by rw [places_len]; omega)
            unfold maxLen
            omega
          have HWa := hid (fun (v : World) (hv : Mod (fun _ => False) wv v) => rw_any (HDk.out.mod hv (fun _ _ h => h)) HBk.out (by omega) 0 (ba (hdL (places cs))) hhs)
          have HBw := hid (HBk.out.write 0 (ba (hdL (places cs))))
          generalize ba (hdL (places cs)) = hb at *
          generalize rwriteF R' 0 hb = q at *
          clear hhs hps
          go_wp2_with fail
          refine HH.out.mono ?_
          rintro e v1 ⟨rfl, hm1⟩
          have HV1 := hid (HMw.out.trans (hm1.mono (T := diskF r ra) (fun _ _ h => h.elim)))
          have HW := hid (HWa.out v1 hm1)
          have z0 := (HJ.out.mod HV1.out hne).cells.1
          clear hm1
          go_wp2_with fail
          refine HW.out.mono ?_
          rintro e v2 ⟨rfl, hd2, hm2⟩
          have HD2 := hid hd2
          have HV2 := hid (HV1.out.trans hm2)
          clear hd2 hm2 z0
          by_cases hq : q.1 = 0
          · have hq2 : (q.1 == 0) = true := by simpa using hq
            have hq3 : (q.1 != 0) = false := by simpa using hq
            have HS2 : Hid (F = rfinF room cs q.2) := hid (by rw [HFh.out, if_pos hq])
            clear hq
            go_wp2_with fail
            go_loopw [11] (fun sc wv => ∃ (m : Nat) (R' : Rsk), m ≤ cs.length ∧ sc = .int .i64 (m : Int) ∧ RefAt wv r ra R' ∧ RB R' (t + cs.length + 1 + m) ∧ F = rfinF room (cs.drop m) R' ∧ Mod (diskF r ra) w wv) (fun sc _ => cs.length - (intOf sc).toNat)
            case atStart => exact ⟨0, q.2, Nat.zero_le _, rfl, HD2.out, HBw.out, HS2.out, HV2.out⟩
            case round =>
              obtain ⟨wy, rfl⟩ : ∃ wy : World, wy = wr := ⟨_, rfl⟩
              obtain ⟨m, Rm, hm, rfl, r1, r2, r3, r4⟩ := hrel
              have HDm := hid r1
              have HBm := hid r2
              have HFm := hid r3
              have HMm := hid r4
              clear r1 r2 r3 r4 hq2 hq3
              by_cases hlt : m < cs.length
              · obtain ⟨x, hx⟩ : ∃ x, cs[m]? = some x := ⟨_, List.getElem?_eq_getElem hlt⟩
                have hxe : cs[m] = x := by rw [List.getElem?_eq_getElem hlt] at hx; exact Option.some.inj hx
                have hxs := HC.out.s x (List.mem_of_getElem? hx)
                obtain ⟨hx0, hx1⟩ := HPs.out x (List.mem_of_getElem? hx)
                have HSt : Hid (F = if (rwriteF Rm ((room : Int) + 1 + x.pos) x.data).1 = 0 then rfinF room (cs.drop (m + 1)) (rwriteF Rm ((room : Int) + 1 + x.pos) x.data).2 else rwriteF Rm ((room : Int) + 1 + x.pos) x.data) := hid (by
                  rw [HFm.out, List.drop_eq_getElem_cons hlt, hxe, rfin_cons _ _ _ _ hx0])
                have HUp : Hid (∀ v, Mod (diskF r ra) wy.drew v → v.cell? ⟨k0, 0, none⟩ = some (.pointer (some ⟨r, 0, none⟩)) ∧ v.cell? ⟨k0, 1, none⟩ = some (.int .i64 (room : Int)) ∧ v.cell? ⟨g, off + m * 2, none⟩ = some (.int .i64 x.pos) ∧ v.cell? ⟨g, off + m * 2 + 1, none⟩ = some (.string x.data)) := hid (fun v hv => by
                  have hmm := HMm.out.drew.trans hv
                  have hl := (HC.out.mod hmm (fun _ => HAp.out)).l
                  have h0 := hl.cell chg_len hx (j := 0) rfl
                  rw [Nat.add_zero] at h0
                  exact ⟨(HJ.out.mod hmm hne).cells.1, (HJ.out.mod hmm hne).cells.2, h0, hl.cell chg_len hx (j := 1) rfl⟩)
                obtain ⟨pos, data⟩ := x
                simp only at hxs hx0 hx1 HSt HUp
                have HW := hid (rw_any (w := wy.drew) (HDm.out.mod (Mod.refl (fun _ => False) wy).drew (fun _ _ h => h)) HBm.out (by omega) ((room : Int) + 1 + pos) data hxs)
                have HBw := hid (HBm.out.write ((room : Int) + 1 + pos) data)
                have hmd : Mod (diskF r ra) w wy.drew := HMm.out.drew
                have HMd := hid hmd
                clear hmd
                obtain ⟨z0, z1, z2, z3⟩ := HUp.out wy.drew (Mod.refl _ _)
                generalize rwriteF Rm ((room : Int) + 1 + pos) data = p at *
                have s1 : IntKind.i64.wrap ((room : Int) + 1) = (room : Int) + 1 := by rw [IntKind.wrap_i64]; omega
                have s2 : IntKind.i64.wrap ((room : Int) + 1 + pos) = (room : Int) + 1 + pos := by rw [IntKind.wrap_i64]; omega
                clear hxs hx hxe
                go_wp2_with fail
                go_region_held3 (fun w' => w'.cell? ⟨k0, 0, none⟩ = some (.pointer (some ⟨r, 0, none⟩)) ∧ w'.cell? ⟨k0, 1, none⟩ = some (.int .i64 (room : Int)) ∧ w'.cell? ⟨g, off + m * 2, none⟩ = some (.int .i64 pos) ∧ w'.cell? ⟨g, off + m * 2 + 1, none⟩ = some (.string data))
                  (first | exact ⟨x0, x1, x2, x3⟩ | exact ⟨z0, z1, z2, z3⟩ | go_keep)
                  ((go_at_call 25; (with_reducible refine HW.out.mono ?_); rintro e w2 ⟨rfl, hd2, hm2⟩; have HD3 := hid hd2; obtain ⟨x0, x1, x2, x3⟩ := HUp.out w2 hm2; have HM3 := hid (HMd.out.trans hm2); clear hd2 hm2))
                all_goals
                  clear s1 s2
                  by_cases hp : p.1 = 0
                  · have hp2 : (p.1 == 0) = true := by simpa using hp
                    have hp3 : (p.1 != 0) = false := by simpa using hp
                    have HS3 : Hid (F = rfinF room (cs.drop (m + 1)) p.2) := hid (by rw [HSt.out, if_pos hp])
                    clear hp
                    go_wp2_with fail
                    go_roundw
                    case rel => exact ⟨m + 1, p.2, by omega, by go_num, HD3.out, HBw.out, HS3.out, HM3.out⟩
                    case measure => simp [intOf]; omega
                  · have hp2 : (p.1 == 0) = false := by simpa using hp
                    have hp3 : (p.1 != 0) = true := by simpa using hp
                    have HS3 : Hid (F = p) := hid (by rw [HSt.out, if_neg hp])
                    clear hp
                    go_wp2_with fail
                    go_ret
                    rw [HS3.out]
                    exact ⟨rfl, HD3.out, HM3.out⟩
              · have hme : m = cs.length := by omega
                subst hme
                have hS : F = rwriteF Rm 0 (ba [0]) := by rw [HFm.out, List.drop_length, rfin_nil]
                have HH2 : Hid (Calls Tryz.prog 36 #[.slice none 0 0] wy fun e w' => e = .returned (.string (ba [0])) ∧ Mod (fun _ => False) wy w') := hid (by
                  have := rhead_any (w := wy) (a := none) 0 (lies_nil wy 2 Chg.cs none) (by simp) (fun c hc => by cases hc)
                  rw [show hdL (places []) = [0] from hdL_nil] at this
                  exact this)
                have HWb := hid (fun (v : World) (hv : Mod (fun _ => False) wy v) => rw_any (HDm.out.mod hv (fun _ _ h => h)) HBm.out (by omega) 0 (ba [0]) (by have := one_size; unfold maxLen; omega))
                rw [← hS] at HWb
                clear hS
                go_wp2_with fail
                refine HH2.out.mono ?_
                rintro e w3 ⟨rfl, hm3⟩
                have HW2 := hid (HWb.out w3 hm3)
                have HM3 := hid (HMm.out.trans (hm3.mono (T := diskF r ra) (fun _ _ h => h.elim)))
                have z0 := (HJ.out.mod HM3.out hne).cells.1
                clear hm3
                go_wp2_with fail
                refine HW2.out.mono ?_
                rintro e w4 ⟨rfl, hd4, hm4⟩
                have HR4 := hid hd4
                have HM4 := hid (HM3.out.trans hm4)
                clear hd4 hm4 z0
                go_wp2_with fail
                go_ret
                exact ⟨rfl, HR4.out, HM4.out⟩
          · have hq2 : (q.1 == 0) = false := by simpa using hq
            have hq3 : (q.1 != 0) = true := by simpa using hq
            have HS2 : Hid (F = q) := hid (by rw [HFh.out, if_neg hq])
            clear hq
            go_wp2_with fail
            go_ret
            rw [HS2.out]
            exact ⟨rfl, HD2.out, HV2.out⟩

set_option maxRecDepth 100000 in
theorem rcommit_any {w : World} {k0 r room t : Nat} {ra : Option Addr} {R : Rsk} (hR : RefAt w r ra R) (hj : RJAt w k0 r room) (hne : ¬ diskF r ra k0) (hb : RB R t) (ht : t ≤ 1152921504606846976) (hr : room ≤ 500)
    {a : Option Addr} (cap0 : Nat) {cs : List Chg} (hc : ChAt w a cs) (hap : 0 < cs.length → ∀ k, blk a k → ¬ diskF r ra k) (hlen : cs.length ≤ maxLen) :
    Calls Tryz.prog 16 #[.pointer (some ⟨k0, 0, none⟩), .slice a cs.length cap0] w fun e w' => e = .returned (.int .i64 (rcommitF room cs R).1) ∧ RefAt w' r ra (rcommitF room cs R).2 ∧ Mod (diskF r ra) w w' := by
  obtain ⟨c0, c1⟩ := hj.cells
  unfold maxLen at hlen
  by_cases hle : room < cs.length
  · have e : rcommitF room cs R = (31, R) := by unfold rcommitF; rw [if_pos hle]
    rw [e]
    have HD := hid hR
    have d1 : decide (room < cs.length) = true := by simpa using hle
    clear hR hj hb hc hap e
    go_enter Tryz.func16, Tryz.ntmps16
    go_wp2
    go_ret
    exact ⟨rfl, HD.out, Mod.refl _ _⟩
  · by_cases hpos : cs.length = 0
    · have e : rcommitF room cs R = (0, R) := by unfold rcommitF; rw [if_neg hle, List.eq_nil_of_length_eq_zero hpos]; rfl
      rw [e, hpos]
      have HD := hid hR
      have d1 : decide (room < 0) = false := by simp
      clear hR hj hb hc hap e hle hpos hlen
      go_enter Tryz.func16, Tryz.ntmps16
      go_wp2_with fail
      go_loopw [5] (fun sc wr => sc = .int .i64 0 ∧ wr = w) (fun sc _ => 0)
      case atStart => exact ⟨rfl, rfl⟩
      case round =>
        obtain ⟨rfl, rfl⟩ := hrel
        go_wp2_with fail
        go_ret
        exact ⟨rfl, HD.out, Mod.refl _ _⟩
    · exact rcommit_first hR hj hne hb ht hr hc hap (by omega) (by omega)

end Go.Proofs.YtbfdmglmolkloaaGreatDoor
