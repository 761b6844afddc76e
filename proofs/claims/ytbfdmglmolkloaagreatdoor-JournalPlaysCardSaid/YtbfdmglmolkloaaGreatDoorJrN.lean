/- A journal: numbers -/
import Derived.Test.YtbfdmglmolkloaaGreatDoorJr
import Derived.Test.YtbfdmglmolkloaaGreatDoorRd
import Derived.Test.YtbfdmglmolkloaaGreatDoorMap2
namespace Go.Proofs.YtbfdmglmolkloaaGreatDoor
open Go Go.RowKit

noncomputable def KU : Keys Tryz.prog 105 Int := intKeys Tryz.underlying105
theorem zeroInt (w : World) : (zeroValue 3).run Tryz.prog w = .ok (.int .i64 0) w := by kernel_rfl
theorem infoInt : (Tryz.prog.info? 3).map (fun i => (i.zero, i.size, i.bytes)) = some (some (.int .i64 0), 1, 8) := by kernel_rfl

def mapOf (l : List Nat) : List (Int × Value) := l.map fun (n : Nat) => ((n : Int), .int .i64 1)
theorem mapOf_snoc (l : List Nat) (n : Nat) : mapOf (l ++ [n]) = mapOf l ++ [((n : Int), .int .i64 1)] := by simp [mapOf]
theorem aget_mapOf : ∀ (l : List Nat) (x : Nat), aget (mapOf l) (x : Int) = if x ∈ l then some (.int .i64 1) else none
  | [], x => by simp [mapOf, aget]
  | n :: l, x => by
    have ih := aget_mapOf l x
    unfold mapOf aget at *
    rw [List.map_cons, List.find?_cons]
    by_cases h : n = x
    · subst h; simp
    · have h1 : ¬ ((n : Int) = (x : Int)) := by omega
      have h2 : ¬ x = n := fun e => h e.symm
      simp only [h1, decide_false]
      rw [ih]
      simp [h2]

/-- What numbers answers. -/
def NumAns (w : World) (o : Option (List Nat)) (e : Ending) (w' : World) : Prop :=
  Mod (fun _ => False) w w' ∧ match o with
    | none => e = .returned (.tuple #[.slice none 0 0, .int .i64 32])
    | some l => ∃ la cap, e = .returned (.tuple #[.slice la l.length cap, .int .i64 0]) ∧ Own w' 3 1 la l.length cap (nums l) ∧ (∀ k, blk la k → w.heap.size ≤ k) ∧ l.length ≤ 500 ∧ ∀ n ∈ l, n ≤ 16384

/-- The relation of the loop. -/
def NumRel (w wr : World) (s : ByteArray) (room len N i a : Nat) (out : List Nat) (la : Option Addr) (cap : Nat) : Prop :=
  numF room len s = numsL len s (N - i) a out ∧ out.length = i ∧ i ≤ N ∧ a ≤ s.size ∧ (∀ n ∈ out, n ≤ 16384) ∧ Own wr 3 1 la out.length cap (nums out) ∧ MapAt KU.kv wr w.heap.size (mapOf out) ∧ (∀ k, blk la k → w.heap.size < k) ∧ Mod (fun _ => False) w wr

theorem ruV_ok {a : Nat} {x : RU} (h : x.e = 0) : ruV a x = .tuple #[.int .u64 (x.v : Int), .int .i64 ((a : Int) + (x.n : Int)), .int .i64 0] := by unfold ruV; rw [if_pos h]
theorem ruV_bad {a : Nat} {x : RU} (h : x.e ≠ 0) : ruV a x = .tuple #[.int .u64 0, .int .i64 0, .int .i64 (x.e : Int)] := by unfold ruV; rw [if_neg h]

theorem rdU_fits (s : ByteArray) (a : Nat) (ha : a ≤ s.size) (he : (rdU 0 (s.data.toList.drop a)).e = 0) : a + (rdU 0 (s.data.toList.drop a)).n ≤ s.size ∧ (rdU 0 (s.data.toList.drop a)).v < 18446744073709551616 := by
  obtain ⟨h1, h2, h3, h4⟩ := rdU_bound (s.data.toList.drop a) 0
  have h5 := h4 (by omega)
  have hl : s.data.toList.length = s.size := rfl
  rw [List.length_drop, hl] at h1
  have t6 : two64 = 18446744073709551616 := by decide
  rw [Nat.pow_zero, Nat.mul_one, t6] at h5
  exact ⟨by omega, h5⟩

set_option maxRecDepth 100000 in
set_option maxHeartbeats 4000000 in
theorem numbers_any {w : World} {j d room : Nat} {sa : Option Addr} {D : Dsk} (hD : DiskAt w d sa D) (hj : JAt w j d room) (hn : D.secs.length ≤ 16384) (hr : room ≤ 500) (s : ByteArray) (hs : s.size ≤ 1048576) :
    Calls Tryz.prog 29 #[.pointer (some ⟨j, 0, none⟩), .string s] w fun e w' => NumAns w (numF room (jlen room D) s) e w' := by
  obtain ⟨i0, hi, hz0, hz1, hz2⟩ := info_parts infoInt
  have HR0 : Hid (Calls Tryz.prog 44 #[.string s, .int .i64 0] w fun e w' => e = .returned (ruV 0 (rdU 0 s.data.toList)) ∧ w = w') := hid (readUint_any s 0 w (by unfold maxLen; omega))
  have HJl := hid (fun (v : World) (hv : Mod (fun _ => False) w v) => jlen_any (hD.mod hv (fun _ _ h => h)) (hj.mod hv (fun h => h)) hn hr)
  obtain ⟨c0, c1⟩ := hj.cells
  have hjl : jlen room D ≤ 16384 := by unfold jlen; omega
  have HNf : Hid (numF room (jlen room D) s = if (rdU 0 s.data.toList).e = 0 ∧ (rdU 0 s.data.toList).v ≤ room then numsL (jlen room D) s (rdU 0 s.data.toList).v (rdU 0 s.data.toList).n [] else none) := hid rfl
  have hfit := rdU_fits s 0 (Nat.zero_le _)
  rw [List.drop_zero] at hfit
  generalize jlen room D = len at *
  generalize rdU 0 s.data.toList = u at *
  have HFit := hid hfit
  clear hD hj hfit
  have hmm := @run_makeMap Tryz.prog
  by_cases hu : u.e = 0
  · rw [ruV_ok hu] at HR0
    obtain ⟨f1, f2⟩ := HFit.out hu
    have HU := hid hu
    clear hu
    by_cases hv : u.v ≤ room
    · have d1 : decide (room < u.v) = false := by simpa using hv
      have hNf := HNf.out
      rw [if_pos ⟨HU.out, hv⟩] at hNf
      have HN0 := hid hNf
      clear hNf
      go_enter Tryz.func29, Tryz.ntmps29
      go_wp2_with fail
      refine HR0.out.mono ?_
      rintro e w1 ⟨rfl, rfl⟩
      go_wp2_with fail
      go_loopw [7, 9, 31] (fun sat sout si wr => ∃ (i a : Nat) (out : List Nat) (la : Option Addr) (cap : Nat), sat = .int .i64 (a : Int) ∧ sout = .slice la out.length cap ∧ si = .int .u64 (i : Int) ∧ NumRel w wr s room len u.v i a out la cap) (fun _ _ si _ => u.v - (intOf si).toNat)
      case atStart =>
        refine ⟨0, u.n, [], none, 0, ?_, rfl, rfl, by rw [Nat.sub_zero]; exact HN0.out, rfl, Nat.zero_le _, by omega, (fun n hn => by cases hn), Own.nil _ _ _, MapAt.made KU.kv w, (fun k hk => (blk_none k hk).elim), (Mod.refl _ _).alloc _⟩
        congr 1
      case round =>
        obtain ⟨i, a, out, la, cap, rfl, rfl, rfl, hrel⟩ := hrel
        obtain ⟨r1, r2, r3, r4, r5, r6, r7, r8, r9⟩ := hrel
        have HM := hid r9
        have HMap := hid r7
        have HO := hid r6
        have HB := hid r8
        have HOut := hid r5
        have HNum := hid r1
        have HLen := hid r2
        have HRa := hid (readUint_any s a wr (by unfold maxLen; omega))
        have HFa := hid (rdU_fits s a r4)
        have HS0 := hid (numsL_bad (len := len) (s := s) (c := u.v - i - 1) (a := a) (out := out))
        have HS1 := hid (numsL_succ (len := len) (s := s) (c := u.v - i - 1) (a := a) (out := out))
        have ho500 : out.length ≤ 500 := by omega
        clear r1 r2 r5 r6 r7 r8 r9 c0 c1
        by_cases hlt : i < u.v
        · have HNs : Hid (u.v - i = u.v - i - 1 + 1) := hid (by omega)
          rw [HNs.out] at HNum
          obtain ⟨x, hx⟩ : ∃ x, rdU 0 (s.data.toList.drop a) = x := ⟨_, rfl⟩
          rw [hx] at HRa HFa HS0 HS1
          clear hx
          by_cases hxe : x.e = 0
          · rw [ruV_ok hxe] at HRa
            obtain ⟨f3, f4⟩ := HFa.out hxe
            by_cases hxl : x.v < len
            · have d2 : decide (len ≤ x.v) = false := by simpa using hxl
              have hxn : x.v ≤ 16384 := by omega
              have HXl := hid hxl
              have HXe := hid hxe
              clear hxl hxe
              go_wp2_with fail
              refine HRa.out.mono ?_
              rintro e w1 ⟨rfl, rfl⟩
              go_wp2_with fail
              refine (HJl.out _ HM.out).mono ?_
              rintro e w2 ⟨rfl, hm2⟩
              have HM2 := hid (HM.out.trans hm2)
              have HMap2 := hid (HMap.out.mod hm2 (fun h => h))
              have HO2 := hid (HO.out.mod hm2 (fun _ _ h => h))
              have hlk := run_lookup_at KU Tryz.underlying108 (zeroInt _) HMap2.out (x.v : Int) false
              rw [aget_mapOf] at hlk
              clear hm2
              by_cases hin : x.v ∈ out
              · rw [if_pos hin] at hlk
                have hlk2 : (Instr.lookup 108 (.map (some w.heap.size)) (.int .u64 (x.v : Int)) false).run Tryz.prog w2 = .ok (.int .i64 1) w2 := hlk
                have HIn := hid hin
                clear hlk hin
                go_wp2_with fail
                go_ret2
                refine ⟨HM2.out, ?_⟩
                rw [HNum.out, HS0.out (fun h => h.2.2 HIn.out)]
                rfl
              · rw [if_neg hin] at hlk
                have hlk2 : (Instr.lookup 108 (.map (some w.heap.size)) (.int .u64 (x.v : Int)) false).run Tryz.prog w2 = .ok (.int .i64 0) w2 := hlk
                have HIn := hid hin
                have HAg : Hid (aget (mapOf out) (x.v : Int) = none) := hid (by rw [aget_mapOf, if_neg hin])
                clear hlk hin
                have hwm := HM2.out.size
                have hml := HMap2.out.lt
                go_wp2_with (first
                  | (at_mapUpdate; refine wpList_update_new rfl _ _ _ 108 rfl KU Tryz.underlying108 w.heap.size _ (x.v : Int) (.int .i64 1) rfl rfl rfl HMap2.out HAg.out ?_; intro w3 hat hm3; have Hat := hid hat; have Hm3 := hid hm3; clear hat hm3; have HO3 := hid (HO2.out.mod Hm3.out (fun k hk h => by have := HB.out k hk; omega)); have HSr : Hid (Src (w3.alloc (.cells #[.int .i64 (x.v : Int)] 3)) 1 (some ⟨w3.heap.size, 0, none⟩) 1 [.int .i64 (x.v : Int)]) := hid (src_new (heap_alloc_new _ _) rfl); have HO4 := hid (HO3.out.mod (S := fun _ => False) ((Mod.refl _ w3).alloc (.cells #[.int .i64 (x.v : Int)] 3)) (fun _ _ h => h)); have HMap4 := hid (Hat.out.mod (S := fun _ => False) ((Mod.refl _ w3).alloc (.cells #[.int .i64 (x.v : Int)] 3)) (fun h => h)); have hsz3 := Hm3.out.size)
                  | (at_builtin; refine wpList_append_Own rfl (.tmp 59) (.tmp 62) 84 rfl 3 i0 _ 1 8 Tryz.underlying84 hi hz0 hz1 hz2 rfl la out.length cap _ rfl HO4.out (some ⟨w3.heap.size, 0, none⟩) 1 1 _ rfl HSr.out (by intro u hu; simp at hu; subst hu; rfl) (by unfold maxLen; omega) (by omega) ?_; intro la' cap' w5 hown5 hm5 hb5 hn5 hr5; have Hown5 := hid hown5; have Hm5 := hid hm5; have Hb5 := hid hb5; clear hown5 hm5 hb5 hn5 hr5))
                go_roundw
                case rel =>
                  refine ⟨i + 1, a + x.n, out ++ [x.v], la', cap', ?_, ?_, rfl, ?_, ?_, by omega, by omega, fun n hn => ?_, ?_, ?_, fun k hk => ?_, ?_⟩
                  · congr 1
                  · congr 1; simp
                  · rw [HNum.out, HS1.out HXe.out HXl.out HIn.out]; congr 1
                  · rw [List.length_append, HLen.out]; rfl
                  · rcases List.mem_append.1 hn with h | h
                    · exact HOut.out n h
                    · simp at h; omega
                  · rw [nums_snoc, List.length_append]; exact Hown5.out
                  · rw [mapOf_snoc]; exact HMap4.out.mod Hm5.out (fun h => by have := HB.out _ h; omega)
                  · rcases Hb5.out k hk with h | h
                    · exact HB.out k h
                    · simp at h; omega
                  · have h1 : Mod (fun k => w.heap.size ≤ k) w2 (w3.alloc (.cells #[.int .i64 (x.v : Int)] 3)) := (Hm3.out.mono (fun k _ h => by omega)).alloc _
                    exact HM2.out.then (h1.trans (Hm5.out.mono (fun k _ h => by have := HB.out k h; omega))) (fun i hi h => by omega)
                case measure => simp [intOf]; omega
            · have d2 : decide (len ≤ x.v) = true := by simpa using hxl
              have HXl := hid hxl
              clear hxl hxe
              go_wp2_with fail
              refine HRa.out.mono ?_
              rintro e w1 ⟨rfl, rfl⟩
              go_wp2_with fail
              refine (HJl.out _ HM.out).mono ?_
              rintro e w2 ⟨rfl, hm2⟩
              have HM2 := hid (HM.out.trans hm2)
              clear hm2
              go_wp2_with fail
              go_ret2
              refine ⟨HM2.out, ?_⟩
              rw [HNum.out, HS0.out (fun h => HXl.out h.2.1)]
              rfl
          · rw [ruV_bad hxe] at HRa
            have e1 : ((x.e : Int) == 0) = false := by rw [beq_eq_false_iff_ne]; omega
            have e2 : ((x.e : Int) != 0) = true := by rw [bne_iff_ne]; omega
            have HXe := hid hxe
            clear hxe
            go_wp2_with fail
            refine HRa.out.mono ?_
            rintro e w1 ⟨rfl, rfl⟩
            go_wp2_with fail
            go_ret2
            refine ⟨HM.out, ?_⟩
            rw [HNum.out, HS0.out (fun h => HXe.out h.1)]
            rfl
        · have HIe : Hid (i = u.v) := hid (by omega)
          have hsl : ∀ v : World, (Instr.slice 9 (.string s) (some (.int .i64 (a : Int))) none none).run Tryz.prog v = .ok (.string (s.extract a s.size)) v := fun v => by
            have := run_slice_string_l (P := Tryz.prog) v 9 s Tryz.underlying9 .i64 (a : Int) (by omega) (by omega)
            simpa using this
          have hxs : (s.extract a s.size).size ≤ maxLen := by rw [ByteArray.size_extract]; unfold maxLen; omega
          have HTr := hid (fun v => trim_any (s.extract a s.size) v hxs)
          have hnil := trimB_nil (s.extract a s.size)
          have hdr : (s.extract a s.size).data.toList = s.data.toList.drop a := by
            rw [ByteArray.data_extract, Array.toList_extract, List.extract_eq_take_drop, List.take_of_length_le]
            have : s.data.toList.length = s.size := rfl
            rw [List.length_drop]; omega
          rw [hdr] at hnil
          have HNil := hid hnil
          have HNe : Hid (numF room len s = numsL len s 0 a out) := hid (by rw [HNum.out, HIe.out, Nat.sub_self])
          clear hnil hdr hxs
          generalize trimB (s.extract a s.size) = tb at *
          by_cases hz : AllZ (s.data.toList.drop a)
          · have ez : tb.toList.isEmpty = true := by rw [ByteArray.toList_eq, HNil.out.2 hz]; rfl
            have HZz := hid hz
            clear hz
            go_wp2_with fail
            refine (HTr.out wr).mono ?_
            rintro e wt ⟨rfl, nq, rfl⟩
            go_wp2_with fail
            go_ret2
            have hmt : Mod (fun _ => False) wr (wr.drewN nq) := (Mod.refl _ _).drewN nq
            refine ⟨HM.out.trans hmt, ?_⟩
            rw [HNe.out, numsL_zero HZz.out]
            exact ⟨la, cap, rfl, HO.out.mod hmt (fun _ _ h => h), fun k hk => by have := HB.out k hk; omega, ho500, HOut.out⟩
          · have ez : tb.toList.isEmpty = false := by
              rw [ByteArray.toList_eq]
              cases hl : tb.data.toList with
              | nil => exact absurd (HNil.out.1 hl) hz
              | cons b r => rfl
            have HZz := hid hz
            clear hz
            go_wp2_with fail
            refine (HTr.out wr).mono ?_
            rintro e wt ⟨rfl, nq, rfl⟩
            go_wp2_with fail
            go_ret2
            refine ⟨HM.out.trans ((Mod.refl _ _).drewN nq), ?_⟩
            rw [HNe.out, numsL_end HZz.out]
            rfl
    · have d1 : decide (room < u.v) = true := by simpa using hv
      have hNf := HNf.out
      rw [if_neg (fun h => hv h.2)] at hNf
      have HN0 := hid hNf
      clear hNf hv
      go_enter Tryz.func29, Tryz.ntmps29
      go_wp2_with fail
      refine HR0.out.mono ?_
      rintro e w1 ⟨rfl, rfl⟩
      go_wp2_with fail
      go_ret2
      refine ⟨Mod.refl _ _, ?_⟩
      rw [HN0.out]
      rfl
  · rw [ruV_bad hu] at HR0
    have e1 : ((u.e : Int) == 0) = false := by rw [beq_eq_false_iff_ne]; omega
    have e2 : ((u.e : Int) != 0) = true := by rw [bne_iff_ne]; omega
    have hNf := HNf.out
    rw [if_neg (fun h => hu h.1)] at hNf
    have HN0 := hid hNf
    clear hNf hu
    go_enter Tryz.func29, Tryz.ntmps29
    go_wp2_with fail
    refine HR0.out.mono ?_
    rintro e w1 ⟨rfl, rfl⟩
    go_wp2_with fail
    go_ret2
    refine ⟨Mod.refl _ _, ?_⟩
    rw [HN0.out]
    rfl

end Go.Proofs.YtbfdmglmolkloaaGreatDoor
