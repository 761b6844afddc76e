/- The document's journal: numbers -/
import Derived.Test.YtbfdmglmolkloaaGreatDoorJp
namespace Go.Proofs.YtbfdmglmolkloaaGreatDoor
open Go Go.RowKit

/-- The relation of the loop. -/
def RNumRel (w wr : World) (s : ByteArray) (room len N i a : Nat) (out : List Nat) (la : Option Addr) (cap : Nat) : Prop :=
  numF room len s = numsL len s (N - i) a out ∧ out.length = i ∧ i ≤ N ∧ a ≤ s.size ∧ (∀ n ∈ out, n ≤ 16384) ∧ Own wr 3 1 la out.length cap (nums out) ∧ (∀ k, blk la k → w.heap.size ≤ k) ∧ Mod (fun _ => False) w wr

theorem allZ_of {s : ByteArray} {a : Nat} (h : ∀ p, a ≤ p → (hp : p < s.size) → s[p] = 0) : AllZ (s.data.toList.drop a) := fun b hb => by
  obtain ⟨i, hi⟩ := List.getElem?_of_mem hb
  rw [List.getElem?_drop] at hi
  have hl : s.data.toList.length = s.size := rfl
  have hlt := (List.getElem?_eq_some_iff.1 hi).1
  have := h (a + i) (by omega) (by omega)
  rw [List.getElem?_eq_getElem hlt] at hi
  rw [← Option.some.inj hi, ← this, Array.getElem_toList]
  rfl

theorem not_allZ {s : ByteArray} {a p : Nat} (h1 : a ≤ p) (h2 : p < s.size) (h3 : s[p] ≠ 0) : ¬ AllZ (s.data.toList.drop a) := fun hz => by
  have hl : s.data.toList.length = s.size := rfl
  refine h3 (hz s[p] ?_)
  refine List.mem_of_getElem? (i := p - a) ?_
  rw [List.getElem?_drop, show a + (p - a) = p by omega, List.getElem?_eq_getElem (by omega), Array.getElem_toList]
  rfl

set_option maxRecDepth 100000 in
set_option maxHeartbeats 4000000 in
theorem rnumbers_any {w : World} {k r room : Nat} {ra : Option Addr} {R : Rsk} (hR : RefAt w r ra R) (hk : RJAt w k r room) (hn : R.secs.length ≤ 16384) (hr : room ≤ 500) (s : ByteArray) (hs : s.size ≤ 1048576) :
    Calls Tryz.prog 35 #[.pointer (some ⟨k, 0, none⟩), .string s] w fun e w' => NumAns w (numF room (rjlen room R) s) e w' := by
  obtain ⟨i0, hi, hz0, hz1, hz2⟩ := info_parts infoInt
  have HR0 : Hid (Calls Tryz.prog 50 #[.string s, .int .i64 0] w fun e w' => e = .returned (ruV 0 (rdU 0 s.data.toList)) ∧ w = w') := hid (rreadUint_any s 0 w (by omega))
  have HJl := hid (fun (v : World) (hv : Mod (fun _ => False) w v) => rlen_any (hR.mod hv (fun _ _ h => h)) (hk.mod hv (fun h => h)) hn hr)
  obtain ⟨c0, c1⟩ := hk.cells
  have hjl : rjlen room R ≤ 16384 := by unfold rjlen; omega
  have HNf : Hid (numF room (rjlen room R) s = if (rdU 0 s.data.toList).e = 0 ∧ (rdU 0 s.data.toList).v ≤ room then numsL (rjlen room R) s (rdU 0 s.data.toList).v (rdU 0 s.data.toList).n [] else none) := hid rfl
  have hfit := rdU_fits s 0 (Nat.zero_le _)
  rw [List.drop_zero] at hfit
  generalize rjlen room R = len at *
  generalize rdU 0 s.data.toList = u at *
  have HFit := hid hfit
  clear hR hk hfit
  by_cases hu : u.e = 0
  · rw [ruV_ok hu] at HR0
    obtain ⟨f1, f2⟩ := HFit.out hu
    have HU := hid hu
    clear hu
    by_cases hv : u.v ≤ room
    · have d1 : decide (room < u.v) = false := by simpa using hv
      have hNf := HNf.out
      rw [if_pos ⟨HU.out, hv⟩] at hNf
      have HN0 := hid hNf
      clear hNf
      go_enter Tryz.func35, Tryz.ntmps35
      go_wp2_with fail
      refine HR0.out.mono ?_
      rintro e w1 ⟨rfl, rfl⟩
      go_wp2_with fail
      go_loopw [7, 9] (fun sat sout wr => ∃ (i a : Nat) (out : List Nat) (la : Option Addr) (cap : Nat), sat = .int .i64 (a : Int) ∧ sout = .slice la i cap ∧ RNumRel w wr s room len u.v i a out la cap) (fun _ sout _ => match sout with | .slice _ n _ => u.v - n | _ => 0)
      case atStart =>
        refine ⟨0, u.n, [], none, 0, ?_, rfl, by rw [Nat.sub_zero]; exact HN0.out, rfl, Nat.zero_le _, by omega, (fun n hn => by cases hn), Own.nil _ _ _, (fun k hk => (blk_none k hk).elim), Mod.refl _ _⟩
        congr 1
      case round =>
        obtain ⟨i, a, out, la, cap, rfl, rfl, hrel⟩ := hrel
        obtain ⟨r1, r2, r3, r4, r5, r6, r7, r8⟩ := hrel
        have HM := hid r8
        have HO := hid r6
        have HB := hid r7
        have HOut := hid r5
        have HNum := hid r1
        have HLen := hid r2
        have HRa := hid (rreadUint_any s a wr (by omega))
        have HFa := hid (rdU_fits s a r4)
        have HS0 := hid (numsL_bad (len := len) (s := s) (c := u.v - i - 1) (a := a) (out := out))
        have HS1 := hid (numsL_succ (len := len) (s := s) (c := u.v - i - 1) (a := a) (out := out))
        have hi500 : i ≤ 500 := by omega
        clear r1 r2 r5 r6 r7 r8 c0 c1
        by_cases hlt : i < u.v
        · have HNs : Hid (u.v - i = u.v - i - 1 + 1) := hid (by omega)
          rw [HNs.out] at HNum
          obtain ⟨x, hx⟩ : ∃ x, rdU 0 (s.data.toList.drop a) = x := ⟨_, rfl⟩
          rw [hx] at HRa HFa HS0 HS1
          clear hx
          by_cases hxe : x.e = 0
          · rw [ruV_ok hxe] at HRa
            obtain ⟨f3, f4⟩ := HFa.out hxe
            by_cases hxl : x.v < len
            · have d2 : decide (len ≤ x.v) = false := by simpa using hxl
              have hxn : x.v ≤ 16384 := by omega
              have HXl := hid hxl
              have HXe := hid hxe
              clear hxl hxe
              go_wp2_with fail
              refine HRa.out.mono ?_
              rintro e w1 ⟨rfl, rfl⟩
              go_wp2_with fail
              refine (HJl.out _ HM.out).mono ?_
              rintro e w2 ⟨rfl, hm2⟩
              have HM2 := hid (HM.out.trans hm2)
              have HO2 := hid (HO.out.mod hm2 (fun _ _ h => h))
              clear hm2
              go_wp2_with fail
              obtain ⟨wo, rfl⟩ : ∃ wo : World, wo = wr := ⟨_, rfl⟩
              go_loop [13] (fun c => ∃ q : Nat, q ≤ i ∧ c = .int .i64 (q : Int) ∧ ∀ (p n : Nat), p < q → out[p]? = some n → n ≠ x.v) (fun c => i - (intOf c).toNat)
              case atStart => exact ⟨0, Nat.zero_le _, rfl, fun p n hp => by omega⟩
              case round =>
                obtain ⟨q, hq, rfl, hno⟩ := hrel
                have HNo := hid hno
                clear hno
                by_cases hql : q < i
                · have hqo : q < out.length := by rw [HLen.out]; exact hql
                  obtain ⟨g, off, rfl⟩ := HO2.out.some_lit (by omega)
                  have hc := HO2.out.num hqo
                  have HGet : Hid (out[q]? = some out[q]) := hid (List.getElem?_eq_getElem hqo)
                  have HMem : Hid (out[q] ∈ out) := hid (List.getElem_mem hqo)
                  generalize out[q] = y at *
                  by_cases hy : y = x.v
                  · have e1 : ((y : Int) == (x.v : Int)) = true := by rw [beq_iff_eq]; omega
                    have HIn : Hid (x.v ∈ out) := hid (by rw [← hy]; exact HMem.out)
                    clear hy hqo
                    go_wp2_with fail
                    go_ret2
                    refine ⟨HM2.out, ?_⟩
                    rw [HNum.out, HS0.out (fun h => h.2.2 HIn.out)]
                    rfl
                  · have e1 : ((y : Int) == (x.v : Int)) = false := by rw [beq_eq_false_iff_ne]; omega
                    have e2 : (y == x.v) = false := by rw [beq_eq_false_iff_ne]; exact hy
                    have HY := hid hy
                    clear hy hqo
                    go_wp2_with fail
                    go_round
                    case rel =>
                      refine ⟨q + 1, by omega, by go_num, fun p n hp hn => ?_⟩
                      by_cases hpq : p = q
                      · subst hpq
                        rw [HGet.out] at hn
                        cases hn
                        exact HY.out
                      · exact HNo.out p n (by omega) hn
                    case measure => simp [intOf]; omega
                · have hqi : q = i := by omega
                  subst hqi
                  have HIn : Hid (x.v ∉ out) := hid (fun hm => by
                    obtain ⟨p, hp⟩ := List.getElem?_of_mem hm
                    exact HNo.out p x.v (by have := (List.getElem?_eq_some_iff.1 hp).1; have := HLen.out; omega) hp rfl)
                  have hwm := HM2.out.size
                  have HSr : Hid (Src (w2.alloc (.cells #[.int .i64 (x.v : Int)] 3)) 1 (some ⟨w2.heap.size, 0, none⟩) 1 [.int .i64 (x.v : Int)]) := hid (src_new (heap_alloc_new _ _) rfl)
                  have hO4 := HO2.out.mod (S := fun _ => False) ((Mod.refl _ w2).alloc (.cells #[.int .i64 (x.v : Int)] 3)) (fun _ _ h => h)
                  rw [HLen.out] at hO4
                  have HO4 := hid hO4
                  clear hO4
                  go_wp2_with (at_builtin; refine wpList_append_Own rfl (.tmp 65) (.tmp 68) 84 rfl 3 i0 _ 1 8 Tryz.underlying84 hi hz0 hz1 hz2 rfl la q cap _ rfl HO4.out (some ⟨w2.heap.size, 0, none⟩) 1 1 _ rfl HSr.out (by intro u hu; simp at hu; subst hu; rfl) (by unfold maxLen; omega) (by omega) ?_; intro la' cap' w5 hown5 hm5 hb5 hn5 hr5; have Hown5 := hid hown5; have Hm5 := hid hm5; have Hb5 := hid hb5; clear hown5 hm5 hb5 hn5 hr5)
                  go_roundw
                  case rel =>
                    refine ⟨q + 1, a + x.n, out ++ [x.v], la', cap', ?_, rfl, ?_, ?_, by omega, by omega, fun n hn => ?_, ?_, fun k hk => ?_, ?_⟩
                    · congr 1
                    · rw [HNum.out, HS1.out HXe.out HXl.out HIn.out]; congr 1
                    · rw [List.length_append, HLen.out]; rfl
                    · rcases List.mem_append.1 hn with h | h
                      · exact HOut.out n h
                      · simp at h; omega
                    · rw [nums_snoc, List.length_append, HLen.out]; exact Hown5.out
                    · rcases Hb5.out k hk with h | h
                      · exact HB.out k h
                      · simp at h; omega
                    · exact (HM2.out.alloc _).then Hm5.out (fun i hi h => by have := HB.out i h; omega)
                  case measure => simp; omega
            · have d2 : decide (len ≤ x.v) = true := by simpa using hxl
              have HXl := hid hxl
              clear hxl hxe
              go_wp2_with fail
              refine HRa.out.mono ?_
              rintro e w1 ⟨rfl, rfl⟩
              go_wp2_with fail
              refine (HJl.out _ HM.out).mono ?_
              rintro e w2 ⟨rfl, hm2⟩
              have HM2 := hid (HM.out.trans hm2)
              clear hm2
              go_wp2_with fail
              go_ret2
              refine ⟨HM2.out, ?_⟩
              rw [HNum.out, HS0.out (fun h => HXl.out h.2.1)]
              rfl
          · rw [ruV_bad hxe] at HRa
            have e1 : ((x.e : Int) == 0) = false := by rw [beq_eq_false_iff_ne]; omega
            have e2 : ((x.e : Int) != 0) = true := by rw [bne_iff_ne]; omega
            have HXe := hid hxe
            clear hxe
            go_wp2_with fail
            refine HRa.out.mono ?_
            rintro e w1 ⟨rfl, rfl⟩
            go_wp2_with fail
            go_ret2
            refine ⟨HM.out, ?_⟩
            rw [HNum.out, HS0.out (fun h => HXe.out h.1)]
            rfl
        · have HIe : Hid (i = u.v) := hid (by omega)
          have HNe : Hid (numF room len s = numsL len s 0 a out) := hid (by rw [HNum.out, HIe.out, Nat.sub_self])
          go_wp2_with fail
          obtain ⟨wo, rfl⟩ : ∃ wo : World, wo = wr := ⟨_, rfl⟩
          go_loop [7] (fun c => ∃ q : Nat, a ≤ q ∧ q ≤ s.size ∧ c = .int .i64 (q : Int) ∧ ∀ p, a ≤ p → p < q → (hp : p < s.size) → s[p] = 0) (fun c => s.size - (intOf c).toNat)
          case atStart => exact ⟨a, Nat.le_refl _, r4, rfl, fun p h1 h2 => by omega⟩
          case round =>
            obtain ⟨q, hq1, hq2, rfl, hzz⟩ := hrel
            have HZz := hid hzz
            clear hzz
            by_cases hql : q < s.size
            · by_cases hz : s[q] = 0
              · have HZ := hid hz
                go_wp2_with fail
                go_round
                case rel =>
                  refine ⟨q + 1, by omega, by omega, by go_num, fun p h1 h2 hp => ?_⟩
                  by_cases hpq : p = q
                  · subst hpq; exact HZ.out
                  · exact HZz.out p h1 (by omega) hp
                case measure => simp [intOf]; omega
              · have hz2 : (((s[q]).toNat : Int) == 0) = false := by
                  rw [beq_eq_false_iff_ne]
                  intro h
                  exact hz (UInt8.toNat_inj.1 (by show (s[q]).toNat = 0; omega))
                have hz3 : (((s[q]).toNat : Int) != 0) = true := by
                  rw [bne_iff_ne]
                  intro h
                  exact hz (UInt8.toNat_inj.1 (by show (s[q]).toNat = 0; omega))
                have HNz := hid (not_allZ hq1 hql hz)
                clear hz
                go_wp2_with fail
                go_ret2
                refine ⟨HM.out, ?_⟩
                rw [HNe.out, numsL_end HNz.out]
                rfl
            · have HAz := hid (allZ_of (s := s) (a := a) (fun p h1 hp => HZz.out p h1 (by omega) hp))
              go_wp2_with fail
              go_ret2
              refine ⟨HM.out, ?_⟩
              rw [HNe.out, numsL_zero HAz.out]
              exact ⟨la, cap, (by rw [HLen.out]; rfl), HO.out, fun k hk => HB.out k hk, by rw [HLen.out]; exact hi500, HOut.out⟩
    · have d1 : decide (room < u.v) = true := by simpa using hv
      have hNf := HNf.out
      rw [if_neg (fun h => hv h.2)] at hNf
      have HN0 := hid hNf
      clear hNf hv
      go_enter Tryz.func35, Tryz.ntmps35
      go_wp2_with fail
      refine HR0.out.mono ?_
      rintro e w1 ⟨rfl, rfl⟩
      go_wp2_with fail
      go_ret2
      refine ⟨Mod.refl _ _, ?_⟩
      rw [HN0.out]
      rfl
  · rw [ruV_bad hu] at HR0
    have e1 : ((u.e : Int) == 0) = false := by rw [beq_eq_false_iff_ne]; omega
    have e2 : ((u.e : Int) != 0) = true := by rw [bne_iff_ne]; omega
    have hNf := HNf.out
    rw [if_neg (fun h => hu h.1)] at hNf
    have HN0 := hid hNf
    clear hNf hu
    go_enter Tryz.func35, Tryz.ntmps35
    go_wp2_with fail
    refine HR0.out.mono ?_
    rintro e w1 ⟨rfl, rfl⟩
    go_wp2_with fail
    go_ret2
    refine ⟨Mod.refl _ _, ?_⟩
    rw [HN0.out]
    rfl

end Go.Proofs.YtbfdmglmolkloaaGreatDoor
