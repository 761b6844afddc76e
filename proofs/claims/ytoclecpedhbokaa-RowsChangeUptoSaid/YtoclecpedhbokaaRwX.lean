/- Decode (printed by gendecode.py) -/
import Derived.Test.YtoclecpedhbokaaRwD
import Derived.Test.YtoclecpedhbokaaRwU
import Derived.Test.YtoclecpedhbokaaRwE
import Derived.Test.YtoclecpedhbokaaRwR
namespace Go.Proofs.Ytoclecpedhbokaa
open Go Go.RowKit

theorem infoVal : (Try.prog.info? 50).map (fun i => (i.zero, i.size, i.bytes)) = some (some (.agg #[.int .i64 0, .string ⟨#[]⟩]), 2, 24) := by kernel_rfl

theorem list_inj {a b : ByteArray} (h : a.toList = b.toList) : a = b := by
  rw [ByteArray.toList_eq, ByteArray.toList_eq] at h
  exact ba_ext h

/-- What Decode answers. -/
def DecAns (w : World) (name : Int) (cols : List Int) (keys idx : Int) (ks vs : ByteArray) (e : Ending) (w' : World) : Prop :=
  Mod (fun _ => False) w w' ∧ ((∃ r la cap, DecOk name cols keys idx ks vs r ∧ r.length = cols.length ∧ (∀ v ∈ r, v.Ok ∧ v.s.size ≤ 4194304) ∧ e = .returned (.tuple #[.slice la r.length cap, .int .i64 0]) ∧ Lies w' 2 Vl.cs la r ∧ ∀ b, blk la b → w.heap.size ≤ b) ∨
    ((∀ r, ¬ DecOk name cols keys idx ks vs r) ∧ e = .returned (.tuple #[.slice none 0 0, .int .i64 60])))

theorem dec_no {w w' : World} {name : Int} {cols : List Int} {keys idx : Int} {ks vs : ByteArray} (hm : Mod (fun _ => False) w w') (h : ∀ r, ¬ DecOk name cols keys idx ks vs r) : DecAns w name cols keys idx ks vs (.returned (.tuple #[.slice none 0 0, .int .i64 60])) w' := ⟨hm, .inr ⟨h, rfl⟩⟩

/-- What the loop over the columns keeps. -/
structure DLoop (C wr : World) (cols : List Int) (K : Nat) (ks vs : ByteArray) (k : Nat) (la : Option Addr) (cap : Nat) (done : List Vl) (a b : Nat) : Prop where
  own : Own wr 50 2 la k cap (done.flatMap Vl.cs)
  new : ∀ b, blk la b → C.heap.size ≤ b
  mod : Mod (fun _ => False) C wr
  len : done.length = k
  at' : a ≤ ks.size
  rd : readR K ks vs 0 cols 2 0 = (readR K ks vs k (cols.drop k) a b).map (done ++ ·)
set_option maxRecDepth 100000 in
set_option maxHeartbeats 8000000 in
theorem decode_any {w : World} {ca : Option Addr} {cols : List Int} (name keys idx : Int) (cc : Nat) (ks vs : ByteArray) (hl : Lies w 1 oneI ca cols) (hn : cols.length ≤ 4194304) (hks : ks.size ≤ 4194304) (hvs : vs.size ≤ 4194304) :
    Calls Try.prog 12 #[.agg #[.int .u8 name, .slice ca cols.length cc, .int .i64 keys, .int .i64 idx], .agg #[.string ks, .string vs]] w fun e w' => DecAns w name cols keys idx ks vs e w' := by
  obtain ⟨i0, hi0, hz0, hz1, hz2⟩ := info_parts infoVal
  have hma : Mod (fun _ => False) w ((w.alloc (.cells #[.int .u8 name, .slice ca cols.length cc, .int .i64 keys, .int .i64 idx] 24)).alloc (.cells #[.string ks, .string vs] 28)) := ((Mod.refl _ _).alloc _).alloc _
  have hs1 : (w.alloc (.cells #[.int .u8 name, .slice ca cols.length cc, .int .i64 keys, .int .i64 idx] 24)).heap.size = w.heap.size + 1 := by simp
  have ha : ((w.alloc (.cells #[.int .u8 name, .slice ca cols.length cc, .int .i64 keys, .int .i64 idx] 24)).alloc (.cells #[.string ks, .string vs] 28)).heap[w.heap.size]? = some (.cells #[.int .u8 name, .slice ca cols.length cc, .int .i64 keys, .int .i64 idx] 24 (0, 0)) := by
    rw [Below.heap_alloc _ _ _ (by omega)]
    exact heap_alloc_new _ _
  have hb : ((w.alloc (.cells #[.int .u8 name, .slice ca cols.length cc, .int .i64 keys, .int .i64 idx] 24)).alloc (.cells #[.string ks, .string vs] 28)).heap[w.heap.size + 1]? = some (.cells #[.string ks, .string vs] 28 (0, 0)) := by
    rw [← hs1]
    exact heap_alloc_new _ _
  have HM := hid hma
  have HA := hid ha
  have HB := hid hb
  have HL := hid hl
  have HF := hid (fit_any name keys idx cc (hl.ext hma) (by omega))
  clear hma hs1 ha hb hl
  obtain ⟨b0, b1, b2, b3⟩ := row4 HA.out
  obtain ⟨c0, c1, _, _⟩ := row2 HB.out
  cases hfit : fitB name cols keys idx with
  | false =>
    have HN : Hid (∀ r, ¬ DecOk name cols keys idx ks vs r) := hid (fun r h => by have := dec_fit h; rw [hfit] at this; cases this)
    rw [hfit] at HF
    clear hfit
    go_enter Try.func12, Try.ntmps12
    go_wp2_with (go_at_call 25; refine HF.out.mono ?_; rintro e w1 ⟨rfl, hm⟩; have HM1 := hid (HM.out.trans hm); clear hm)
    go_ret2
    exact dec_no HM1.out HN.out
  | true =>
    obtain ⟨i1, n1, n2, i2, i3, i4, i5⟩ := fitB_inv hfit
    obtain ⟨K, rfl⟩ : ∃ K : Nat, keys = (K : Int) := ⟨keys.toNat, by omega⟩
    rw [hfit] at HF
    clear hfit i1
    have HPx := hid (fun W : World => Try.strings_HasPrefix ks (ba (headL name.toNat 0)) W)
    rw [ba_data] at HPx
    have HRow := hid (fun (W : World) (hm : Mod (fun _ => False) ((w.alloc (.cells #[.int .u8 name, .slice ca cols.length cc, .int .i64 (K : Int), .int .i64 idx] 24)).alloc (.cells #[.string ks, .string vs] 28)) W) => (fun x y => And.intro x y) (row4 ((hm.block _ (lt_of_heap HA.out) (fun h => h)).trans HA.out)) (row2 ((hm.block _ (lt_of_heap HB.out) (fun h => h)).trans HB.out)))
    have HCv : Hid (∀ W : World, (convert 68 9 (.slice (some ⟨W.heap.size, 0, none⟩) 2 2)).run Try.prog (W.alloc (.cells #[.int .u8 name, .int .u8 0] 5)) = .ok (.string (ba (headL name.toNat 0))) (W.alloc (.cells #[.int .u8 name, .int .u8 0] 5))) := hid (fun W =>
      run_convert_bytes_back (P := Try.prog) _ 68 9 5 ⟨W.heap.size, 0, none⟩ 2 (headL name.toNat 0) Try.underlying68 Try.underlying5 Try.underlying9 (fun j hj => by
        rw [Addr.add_lit, cell_of_row _ _ _ _ _ _ (heap_alloc_new _ _)]
        have : j = 0 ∨ j = 1 := by simp [headL] at hj; omega
        rcases this with rfl | rfl
        · simp [headL]; omega
        · simp [headL]))
    cases hpre : Lib.hasPrefix ks.data.toList (headL name.toNat 0) with
    | false =>
      have HN : Hid (∀ r, ¬ DecOk name cols (K : Int) idx ks vs r) := hid (fun r h => by have := dec_prefix h; rw [hpre] at this; cases this)
      rw [hpre] at HPx
      clear hpre
      go_enter Try.func12, Try.ntmps12
      go_wp2_with (first | (go_at_call 25; refine HF.out.mono ?_; rintro e w1 ⟨rfl, hm⟩; have HM1 := hid (HM.out.trans hm); clear b0 b1 b2 b3 c0 c1; obtain ⟨⟨b0, b1, b2, b3⟩, c0, c1, _, _⟩ := HRow.out w1 hm; have hcv := HCv.out w1; clear hm) | (go_at_call 26; refine (HPx.out _).mono ?_; rintro e w2 ⟨rfl, rfl⟩))
      go_ret2
      exact dec_no (HM1.out.alloc _) HN.out
    | true =>
      rw [hpre] at HPx
      have h2 : 2 ≤ ks.size := prefix_two hpre
      clear hpre
      go_enter Try.func12, Try.ntmps12
      go_upto_region 5 with (first | (go_at_call 25; refine HF.out.mono ?_; rintro e w1 ⟨rfl, hm⟩; have HM1 := hid hm; clear b0 b1 b2 b3 c0 c1; obtain ⟨⟨b0, b1, b2, b3⟩, c0, c1, _, _⟩ := HRow.out w1 hm; have hcv := HCv.out w1; clear hm) | (go_at_call 26; refine (HPx.out _).mono ?_; rintro e w2 ⟨rfl, rfl⟩))
      obtain ⟨C, hC⟩ : ∃ C, ((w.alloc (.cells #[.int .u8 name, .slice ca cols.length cc, .int .i64 (K : Int), .int .i64 idx] 24)).alloc (.cells #[.string ks, .string vs] 28)) = C := ⟨_, rfl⟩
      rw [hC] at HM HA HB HM1 HRow
      clear hC HF b0 b1 b2 b3 c0 c1 hcv
      have HMV := hid (HM1.out.alloc (.cells #[.int .u8 name, .int .u8 0] 5))
      generalize w1.alloc (.cells #[.int .u8 name, .int .u8 0] 5) = V at *
      obtain ⟨⟨b0, b1, b2, b3⟩, c0, c1, _, _⟩ := HRow.out V HMV.out
      go_wp2_with fail
      clear b0 b1 b2 b3 c0 c1
      go_loopw [6, 7, 8, 31] (fun so sa sb sc wr => ∃ (k : Nat) (la : Option Addr) (cap : Nat) (done : List Vl) (a b : Nat), k ≤ cols.length ∧ so = .slice la k cap ∧ sa = .int .i64 (a : Int) ∧ sb = .int .i64 (b : Int) ∧ sc = .int .i64 (k : Int) ∧ DLoop C wr cols K ks vs k la cap done a b) (fun _ _ _ sc _ => cols.length - (intOf sc).toNat)
      case atStart => exact ⟨0, none, 0, [], 2, 0, Nat.zero_le _, rfl, rfl, rfl, rfl, ⟨Own.nil _ _ _, (fun k hk => (blk_none k hk).elim), HMV.out, rfl, h2, by simp⟩⟩
      case round =>
        obtain ⟨k, la, cap, done, a, b, hk, rfl, rfl, rfl, rfl, hd⟩ := hrel
        have HD := hid hd
        clear hd
        obtain ⟨⟨b0, b1, b2, b3⟩, c0, c1, _, _⟩ := HRow.out wr HD.out.mod
        by_cases hlt : k < cols.length
        case neg =>
          have hke : k = cols.length := by omega
          subst hke
          have hrd : readR K ks vs 0 cols 2 0 = some done := by rw [HD.out.rd, List.drop_length]; unfold readR; simp
          obtain ⟨hdl, hdo⟩ := readR_ok hks hvs (by decide) cols 0 2 0 done hrd
          obtain ⟨z1, z2⟩ := sizes_small hn (fun v hv => (hdo v hv).1) (fun v hv => (hdo v hv).2)
          have HOw := hid HD.out.own
          have hlen := HD.out.len
          have HE := hid (encode_any (w := wr) name (K : Int) idx cc cap ((HL.out.ext HM.out).ext HD.out.mod) (by have := HOw.out; rw [← hdl] at this; exact this.lies) (by omega) (by omega) (fun v hv => (hdo v hv).1) z1 z2)
          rw [hdl] at HE
          have HRd := hid hrd
          have HDo := hid hdo
          have HDl := hid hdl
          clear hrd hdo hlen hdl z1 z2
          cases hP : pairO name cols (K : Int) idx done with
          | none =>
            have HN : Hid (∀ r, ¬ DecOk name cols (K : Int) idx ks vs r) := hid (fun r h => by
              have h1 := h.1
              rw [Int.toNat_natCast, HRd.out] at h1
              cases h1
              obtain ⟨p, hp, _⟩ := h.2
              rw [hP] at hp
              cases hp)
            rw [hP, show encV none = .tuple #[.agg #[.string ⟨#[]⟩, .string ⟨#[]⟩], .int .i64 60] from rfl] at HE
            clear hP
            go_wp2_with (go_at_call 7; refine HE.out.mono ?_; rintro e w5 ⟨rfl, hm5⟩; have HM5 := hid hm5; clear hm5)
            go_ret2
            exact dec_no ((HM.out.trans (HD.out.mod.trans HM5.out)).alloc _) HN.out
          | some p =>
            have HP := hid hP
            rw [hP, show encV (some p) = .tuple #[.agg #[.string (ba p.k), .string (ba p.v)], .int .i64 0] from rfl] at HE
            clear hP
            go_upto_region 18 with (go_at_call 7; refine HE.out.mono ?_; rintro e w5 ⟨rfl, hm5⟩; have HM5 := hid hm5; clear hm5)
            have HM6 := hid (HM5.out.alloc (.cells #[.string (ba p.k), .string (ba p.v)] 28))
            have hnew : (w5.alloc (.cells #[.string (ba p.k), .string (ba p.v)] 28)).heap[w5.heap.size]? = some (.cells #[.string (ba p.k), .string (ba p.v)] 28 (0, 0)) := heap_alloc_new _ _
            obtain ⟨d0, d1, _, _⟩ := row2 hnew
            clear b0 b1 b2 b3 c0 c1 hnew
            obtain ⟨⟨b0, b1, b2, b3⟩, c0, c1, _, _⟩ := HRow.out _ (HD.out.mod.trans HM6.out)
            generalize w5.alloc (.cells #[.string (ba p.k), .string (ba p.v)] 28) = V6 at *
            have HBad : Hid ((¬ (ba p.k = ks ∧ ba p.v = vs)) → ∀ r, ¬ DecOk name cols (K : Int) idx ks vs r) := hid (fun hne r h => by
              have h1 := h.1
              rw [Int.toNat_natCast, HRd.out] at h1
              cases h1
              obtain ⟨p', hp, h2, h3⟩ := h.2
              rw [HP.out] at hp
              cases hp
              exact hne ⟨h2, h3⟩)
            by_cases e1 : (ba p.k).toList = ks.toList
            case neg =>
              have HN := hid (HBad.out (fun h => e1 (by rw [h.1])))
              go_wp2_with fail
              go_ret2
              exact dec_no (HM.out.trans (HD.out.mod.trans HM6.out)) HN.out
            case pos =>
              by_cases e2 : (ba p.v).toList = vs.toList
              case neg =>
                have HN := hid (HBad.out (fun h => e2 (by rw [h.2])))
                go_wp2_with fail
                go_ret2
                exact dec_no (HM.out.trans (HD.out.mod.trans HM6.out)) HN.out
              case pos =>
                have HY : Hid (DecOk name cols (K : Int) idx ks vs done) := hid ⟨by rw [Int.toNat_natCast]; exact HRd.out, p, HP.out, list_inj e1, list_inj e2⟩
                go_wp2_with fail
                go_ret2
                refine ⟨HM.out.trans (HD.out.mod.trans HM6.out), .inl ⟨done, la, cap, HY.out, HDl.out, HDo.out, by rw [HDl.out]; rfl, ?_, fun b hb => by have := HD.out.new b hb; have := HM.out.size; omega⟩⟩
                have hown := HOw.out
                rw [← HDl.out] at hown
                exact hown.lies.ext HM6.out
        case pos =>
          obtain ⟨c, hc⟩ : ∃ c, cols[k]? = some c := ⟨_, List.getElem?_eq_getElem hlt⟩
          have HDr : Hid (cols.drop k = c :: cols.drop (k + 1)) := hid (by rw [List.drop_eq_getElem_cons hlt]; rw [List.getElem?_eq_getElem hlt] at hc; cases hc; rfl)
          have hlc := (HL.out.ext HM.out).ext HD.out.mod
          obtain ⟨g, off, rfl⟩ := hlc.some (by omega)
          have q0 := hlc.cell oneI_len hc (j := 0) rfl
          rw [Nat.add_zero, Nat.mul_one] at q0
          have HRd := hid HD.out.rd
          rw [HDr.out] at HRd
          have hVA : Mod (fun _ => False) wr (wr.alloc (.cells #[.int .i64 0, .string ⟨#[]⟩] 50)) := (Mod.refl _ _).alloc _
          have HVA := hid hVA
          have HVb : Hid ((wr.alloc (.cells #[.int .i64 0, .string ⟨#[]⟩] 50)).heap[wr.heap.size]? = some (.cells #[.int .i64 0, .string ⟨#[]⟩] 50 (0, 0))) := hid (heap_alloc_new _ _)
          clear hlc hc hVA
          by_cases hkK : k < K
          case pos =>
            have dk : decide (k < K) = true := by rw [decide_eq_true_iff]; exact hkK
            have HU := hid (fun W : World => unform_any c ks a W (by omega) HD.out.at')
            have HNx := hid (readR_key HRd.out hkK)
            have HUo := hid (unform_ok c ks a (by omega))
            obtain ⟨⟨x0, x1, x2, x3⟩, y0, y1, _, _⟩ := HRow.out _ (HD.out.mod.trans HVA.out)
            go_upto_region 11 with fail
            clear b0 b1 b2 b3 q0 c0 c1
            generalize wr.alloc (.cells #[.int .i64 0, .string ⟨#[]⟩] 50) = VA at *
            generalize unformV c ks a = x at *
            obtain ⟨⟨n, t⟩, nx, ok⟩ := x
            have hrv : rvV ⟨⟨n, t⟩, nx, ok⟩ = .tuple #[.agg #[.int .i64 n, .string t], .int .i64 (nx : Int), .bool ok] := rfl
            rw [hrv] at HU
            have HX := hid (fun (W : World) (hm : Mod (fun _ => False) VA W) => row2 ((hm.block _ (lt_of_heap HVb.out) (fun h => h)).trans HVb.out))
            clear hrv
            go_upto_region 13 with (go_at_call 27; refine (HU.out _).mono ?_; rintro e w5 ⟨rfl, hm5⟩; have HM5 := hid hm5; clear hm5; obtain ⟨d0, d1, f0, f1⟩ := HX.out w5 HM5.out)
            have hZ : (((w5.setCell ⟨wr.heap.size, 0, none⟩ (.int .i64 n)).setCell ⟨wr.heap.size, 1, none⟩ (.string t)).heap[wr.heap.size]? = some (.cells #[.int .i64 n, .string t] 50 (0, 0))) := (set2 (set2 ((HM5.out.block _ (lt_of_heap HVb.out) (fun h => h)).trans HVb.out) (.int .i64 n)).1 (.string t)).2
            have HMZ : Hid (Mod (fun j => wr.heap.size ≤ j) wr ((w5.setCell ⟨wr.heap.size, 0, none⟩ (.int .i64 n)).setCell ⟨wr.heap.size, 1, none⟩ (.string t))) := hid (Mod.setCell (S := fun j => wr.heap.size ≤ j) (p := ⟨wr.heap.size, 1, none⟩) (Mod.setCell (S := fun j => wr.heap.size ≤ j) (p := ⟨wr.heap.size, 0, none⟩) ((HVA.out.trans HM5.out).mono (fun _ _ h => h.elim)) (fun _ => Nat.le_refl _) _) (fun _ => Nat.le_refl _) _)
            clear d0 d1 f0 f1 x0 x1 x2 x3 y0 y1
            generalize (w5.setCell ⟨wr.heap.size, 0, none⟩ (.int .i64 n)).setCell ⟨wr.heap.size, 1, none⟩ (.string t) = Z at *
            have HMCZ := hid (HD.out.mod.then HMZ.out (fun i hi h => by have := HD.out.mod.size; omega))
            have HZ := hid hZ
            clear hZ
            cases ok with
            | false =>
              have HN : Hid (∀ r, ¬ DecOk name cols (K : Int) idx ks vs r) := hid (fun r h => by
                have h1 := h.1
                rw [Int.toNat_natCast, HNx.out.2 (by trivial)] at h1
                cases h1)
              go_wp2_with fail
              go_ret2
              exact dec_no (HM.out.trans HMCZ.out) HN.out
            | true =>
              obtain ⟨d0, d1, _, _⟩ := row2 HZ.out
              have HRn := hid (HNx.out.1 (by trivial))
              have HOz := hid (HD.out.own.mod HMZ.out (fun j hj h => by have := HD.out.own.lt j hj; omega))
              have HOa := hid (HOz.out.mod (S := fun _ => False) ((Mod.refl _ _).alloc (.cells #[.int .i64 n, .string t] 50)) (fun _ _ h => h))
              have HSa : Hid (Src (Z.alloc (.cells #[.int .i64 n, .string t] 50)) 2 (some ⟨Z.heap.size, 0, none⟩) 1 [.int .i64 n, .string t]) := hid (src_new (heap_alloc_new _ _) rfl)
              have HMa := hid (HMCZ.out.alloc (.cells #[.int .i64 n, .string t] 50))
              clear HU HNx
              go_wp2_with (at_builtin; refine wpList_append_Own rfl (.tmp 60) (.tmp 62) 26 rfl 50 i0 _ 2 24 Try.underlying26 hi0 hz0 hz1 hz2 rfl la k cap _ rfl HOa.out (some ⟨Z.heap.size, 0, none⟩) 1 1 _ rfl HSa.out (by intro u hu; simp at hu; rcases hu with rfl | rfl <;> rfl) (by unfold maxLen; omega) (by omega) ?_; intro la' cap' w6 hown6 hm6 hb6 hn6 hr6; have HO6 := hid hown6; have HM6 := hid hm6; have HB6 := hid hb6; clear hown6 hm6 hb6 hn6 hr6 d0 d1)
              go_roundw
              case rel =>
                refine ⟨k + 1, la', cap', done ++ [⟨n, t⟩], nx, b, by omega, rfl, rfl, rfl, by go_num, ⟨?_, fun j hj => ?_, ?_, by rw [List.length_append, HD.out.len]; rfl, HUo.out.2.2 (by trivial) HD.out.at', HRn.out⟩⟩
                · have := HO6.out
                  rw [List.flatMap_append]
                  simpa [Vl.cs] using this
                · rcases HB6.out j hj with h | h
                  · exact HD.out.new j h
                  · have := HMa.out.size; omega
                · exact HMa.out.then HM6.out (fun i hi h => by have := HD.out.new i h; omega)
              case measure => simp [intOf]; omega
          case neg =>
            have dk : decide (k < K) = false := by rw [decide_eq_false_iff_not]; exact hkK
            have HU := hid (fun W : World => unpack_any c vs b W (by unfold maxLen; omega))
            have HNx := hid (readR_val HRd.out hkK)
            have HUo := hid (unpack_ok c vs b (by omega))
            obtain ⟨⟨x0, x1, x2, x3⟩, y0, y1, _, _⟩ := HRow.out _ (HD.out.mod.trans HVA.out)
            go_upto_region 12 with fail
            clear b0 b1 b2 b3 q0 c0 c1
            generalize wr.alloc (.cells #[.int .i64 0, .string ⟨#[]⟩] 50) = VA at *
            generalize unpackV c vs b = x at *
            obtain ⟨⟨n, t⟩, nx, ok⟩ := x
            have hrv : rvV ⟨⟨n, t⟩, nx, ok⟩ = .tuple #[.agg #[.int .i64 n, .string t], .int .i64 (nx : Int), .bool ok] := rfl
            rw [hrv] at HU
            have HX := hid (fun (W : World) (hm : Mod (fun _ => False) VA W) => row2 ((hm.block _ (lt_of_heap HVb.out) (fun h => h)).trans HVb.out))
            clear hrv
            go_upto_region 13 with (go_at_call 28; refine (HU.out _).mono ?_; rintro e w5 ⟨rfl, hm5⟩; have HM5 := hid hm5; clear hm5; obtain ⟨d0, d1, f0, f1⟩ := HX.out w5 HM5.out)
            have hZ : (((w5.setCell ⟨wr.heap.size, 0, none⟩ (.int .i64 n)).setCell ⟨wr.heap.size, 1, none⟩ (.string t)).heap[wr.heap.size]? = some (.cells #[.int .i64 n, .string t] 50 (0, 0))) := (set2 (set2 ((HM5.out.block _ (lt_of_heap HVb.out) (fun h => h)).trans HVb.out) (.int .i64 n)).1 (.string t)).2
            have HMZ : Hid (Mod (fun j => wr.heap.size ≤ j) wr ((w5.setCell ⟨wr.heap.size, 0, none⟩ (.int .i64 n)).setCell ⟨wr.heap.size, 1, none⟩ (.string t))) := hid (Mod.setCell (S := fun j => wr.heap.size ≤ j) (p := ⟨wr.heap.size, 1, none⟩) (Mod.setCell (S := fun j => wr.heap.size ≤ j) (p := ⟨wr.heap.size, 0, none⟩) ((HVA.out.trans HM5.out).mono (fun _ _ h => h.elim)) (fun _ => Nat.le_refl _) _) (fun _ => Nat.le_refl _) _)
            clear d0 d1 f0 f1 x0 x1 x2 x3 y0 y1
            generalize (w5.setCell ⟨wr.heap.size, 0, none⟩ (.int .i64 n)).setCell ⟨wr.heap.size, 1, none⟩ (.string t) = Z at *
            have HMCZ := hid (HD.out.mod.then HMZ.out (fun i hi h => by have := HD.out.mod.size; omega))
            have HZ := hid hZ
            clear hZ
            cases ok with
            | false =>
              have HN : Hid (∀ r, ¬ DecOk name cols (K : Int) idx ks vs r) := hid (fun r h => by
                have h1 := h.1
                rw [Int.toNat_natCast, HNx.out.2 (by trivial)] at h1
                cases h1)
              go_wp2_with fail
              go_ret2
              exact dec_no (HM.out.trans HMCZ.out) HN.out
            | true =>
              obtain ⟨d0, d1, _, _⟩ := row2 HZ.out
              have HRn := hid (HNx.out.1 (by trivial))
              have HOz := hid (HD.out.own.mod HMZ.out (fun j hj h => by have := HD.out.own.lt j hj; omega))
              have HOa := hid (HOz.out.mod (S := fun _ => False) ((Mod.refl _ _).alloc (.cells #[.int .i64 n, .string t] 50)) (fun _ _ h => h))
              have HSa : Hid (Src (Z.alloc (.cells #[.int .i64 n, .string t] 50)) 2 (some ⟨Z.heap.size, 0, none⟩) 1 [.int .i64 n, .string t]) := hid (src_new (heap_alloc_new _ _) rfl)
              have HMa := hid (HMCZ.out.alloc (.cells #[.int .i64 n, .string t] 50))
              clear HU HNx
              go_wp2_with (at_builtin; refine wpList_append_Own rfl (.tmp 60) (.tmp 62) 26 rfl 50 i0 _ 2 24 Try.underlying26 hi0 hz0 hz1 hz2 rfl la k cap _ rfl HOa.out (some ⟨Z.heap.size, 0, none⟩) 1 1 _ rfl HSa.out (by intro u hu; simp at hu; rcases hu with rfl | rfl <;> rfl) (by unfold maxLen; omega) (by omega) ?_; intro la' cap' w6 hown6 hm6 hb6 hn6 hr6; have HO6 := hid hown6; have HM6 := hid hm6; have HB6 := hid hb6; clear hown6 hm6 hb6 hn6 hr6 d0 d1)
              go_roundw
              case rel =>
                refine ⟨k + 1, la', cap', done ++ [⟨n, t⟩], a, nx, by omega, rfl, rfl, rfl, by go_num, ⟨?_, fun j hj => ?_, ?_, by rw [List.length_append, HD.out.len]; rfl, HD.out.at', HRn.out⟩⟩
                · have := HO6.out
                  rw [List.flatMap_append]
                  simpa [Vl.cs] using this
                · rcases HB6.out j hj with h | h
                  · exact HD.out.new j h
                  · have := HMa.out.size; omega
                · exact HMa.out.then HM6.out (fun i hi h => by have := HD.out.new i h; omega)
              case measure => simp [intOf]; omega
end Go.Proofs.Ytoclecpedhbokaa
