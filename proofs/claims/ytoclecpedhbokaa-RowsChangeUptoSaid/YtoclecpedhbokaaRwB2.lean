/- The document's Pairs (printed by genrpairs.py) -/
import Derived.Test.YtoclecpedhbokaaRwC2
namespace Go.Proofs.Ytoclecpedhbokaa
open Go Go.RowKit

def rpairV : Option PX → Value
  | some p => .tuple #[.agg #[.string (ba p.k), .string (ba p.v)], .string (ba p.x), .bool true]
  | none => .tuple #[.agg #[.string ⟨#[]⟩, .string ⟨#[]⟩], .string ⟨#[]⟩, .bool false]

theorem rret {w V : World} {T : TypeId} {v0 v1 : Value} (hm : Mod (fun _ => False) w V) (h : V.heap[w.heap.size + 1]? = some (.cells #[v0, v1] T (0, 0))) (a b : Value) :
    ((V.setCell ⟨w.heap.size + 1, 0, none⟩ a).setCell ⟨w.heap.size + 1, 1, none⟩ b).cell? ⟨w.heap.size + 1, 0, none⟩ = some a ∧ ((V.setCell ⟨w.heap.size + 1, 0, none⟩ a).setCell ⟨w.heap.size + 1, 1, none⟩ b).cell? ⟨w.heap.size + 1, 1, none⟩ = some b ∧ Mod (fun _ => False) w ((V.setCell ⟨w.heap.size + 1, 0, none⟩ a).setCell ⟨w.heap.size + 1, 1, none⟩ b) := by
  have r := row2 (set2 (set2 h a).1 b).2
  exact ⟨r.1, r.2.1, (hm.setCell (fun h => by simp only at h; omega) _).setCell (fun h => by simp only at h; omega) _⟩

theorem keysL_min {cols : List Int} {r : List Vl} {K k : Nat} (h : K ≤ k) : keysL cols r (min (k + 1) K) = keysL cols r (min k K) := by
  rw [show min (k + 1) K = K by omega, show min k K = K by omega]

/-- What the document's loop keeps. -/
structure RLoop (C wr : World) (cols : List Int) (r : List Vl) (K : Nat) (idx : Int) (k : Nat) : Prop where
  mod : Mod (fun _ => False) C wr
  typ : ∀ (j : Nat) c v, j < k → cols[j]? = some c → r[j]? = some v → typedV c v = true
  bare : ∀ (j : Nat) v, j < k → ((j : Int) < (K : Int) ∨ (j : Int) = idx) → r[j]? = some v → bareP v.s = true
set_option maxRecDepth 100000 in
set_option maxHeartbeats 8000000 in
theorem rpairs_any {w : World} {ca ra : Option Addr} {cols : List Int} {r : List Vl} (name keys idx : Int) (cc rc : Nat) (hl : Lies w 1 oneI ca cols) (hr : Lies w 2 Vl.cs ra r) (hn : cols.length ≤ 140737488351232) (hrn : r.length ≤ 140737488351232) (hv : ∀ v ∈ r, v.Ok) (hsz : ∀ k, (keysL cols r k).length ≤ 1152921504606846976) (hsv : ∀ j k, (valL cols r j k).length ≤ 1152921504606846976) :
    Calls Try.prog 8 #[.agg #[.int .u8 name, .slice ca cols.length cc, .int .i64 keys, .int .i64 idx], .slice ra r.length rc] w fun e w' => e = .returned (rpairV (pairO name cols keys idx r)) ∧ Mod (fun _ => False) w w' := by
  have hma : Mod (fun _ => False) w (((w.alloc (.cells #[.int .u8 name, .slice ca cols.length cc, .int .i64 keys, .int .i64 idx] 37)).alloc (.cells #[.string ⟨#[]⟩, .string ⟨#[]⟩] 32)).alloc (.cells #[.string ⟨#[]⟩, .string ⟨#[]⟩] 32)) := (((Mod.refl _ _).alloc _).alloc _).alloc _
  obtain ⟨a1, a2, a3⟩ := alloc3 w (.cells #[.int .u8 name, .slice ca cols.length cc, .int .i64 keys, .int .i64 idx] 37) (.cells #[.string ⟨#[]⟩, .string ⟨#[]⟩] 32) (.cells #[.string ⟨#[]⟩, .string ⟨#[]⟩] 32)
  have HM := hid hma
  have HB := hid a1
  have HR1 := hid a2
  have HR2 := hid a3
  have HL := hid hl
  have HR := hid hr
  have HV := hid hv
  have HS := hid hsz
  have HSv := hid hsv
  have HFc := hid (rfit_any name keys idx cc (hl.ext hma) hn)
  clear a1 a2 a3 hl hr hv hsz hsv hma
  cases hfit : fitB name cols keys idx with
  | false =>
    have HN : Hid (pairO name cols keys idx r = none) := hid (pairO_none (fun g => by rw [g.fit] at hfit; cases hfit))
    rw [hfit] at HFc
    obtain ⟨b0, b1, b2, b3⟩ := row4 HB.out
    clear hfit
    go_enter Try.func8, Try.ntmps8
    go_upto_region 3 with (go_at_call 18; refine HFc.out.mono ?_; rintro e w1 ⟨rfl, hm⟩; have HM1 := hid hm; clear hm)
    clear b0 b1 b2 b3
    have a1 := (HM1.out.block _ (lt_of_heap HR1.out) (fun h => h)).trans HR1.out
    have a2 := (HM1.out.block _ (lt_of_heap HR2.out) (fun h => h)).trans HR2.out
    obtain ⟨c0, c1, f0, f1⟩ := row2 a1
    obtain ⟨d0, d1, _, _⟩ := row2 a2
    go_wp2_with fail
    obtain ⟨z0, z1, z2⟩ := rret (HM.out.trans HM1.out) a1 (.string ⟨#[]⟩) (.string ⟨#[]⟩)
    clear c0 c1 f0 f1 d0 d1 a1 a2
    generalize (w1.setCell ⟨w.heap.size + 1, 0, none⟩ (.string ⟨#[]⟩)).setCell ⟨w.heap.size + 1, 1, none⟩ (.string ⟨#[]⟩) = Z at *
    rw [HN.out]
    exact bodyPost_ret (v := rpairV none) (by simp [rpairV, results, Try.results8, go_sem, z0, z1]) rfl ⟨rfl, z2⟩
  | true =>
    obtain ⟨i1, n1, n2, i2, i3, i4, i5⟩ := fitB_inv hfit
    obtain ⟨K, rfl⟩ : ∃ K : Nat, keys = (K : Int) := ⟨keys.toNat, by omega⟩
    have HKd := hid i1
    have HFit := hid hfit
    rw [hfit] at HFc
    obtain ⟨b0, b1, b2, b3⟩ := row4 HB.out
    clear hfit i1
    by_cases hlen : r.length = cols.length
    case neg =>
      have HN : Hid (pairO name cols (K : Int) idx r = none) := hid (pairO_none (fun g => hlen g.len))
      have e1 : ((r.length : Int) != (cols.length : Int)) = true := by rw [bne_iff_ne]; omega
      have e2 : decide (r.length = cols.length) = false := by rw [decide_eq_false_iff_not]; exact hlen
      clear hlen
      go_enter Try.func8, Try.ntmps8
      go_upto_region 3 with (go_at_call 18; refine HFc.out.mono ?_; rintro e w1 ⟨rfl, hm⟩; have HM1 := hid hm; clear hm)
      clear b0 b1 b2 b3
      obtain ⟨b0, b1, b2, b3⟩ := row4 ((HM1.out.block _ (lt_of_heap HB.out) (fun h => h)).trans HB.out)
      have a1 := (HM1.out.block _ (lt_of_heap HR1.out) (fun h => h)).trans HR1.out
      have a2 := (HM1.out.block _ (lt_of_heap HR2.out) (fun h => h)).trans HR2.out
      obtain ⟨c0, c1, f0, f1⟩ := row2 a1
      obtain ⟨d0, d1, _, _⟩ := row2 a2
      go_wp2_with fail
      obtain ⟨z0, z1, z2⟩ := rret (HM.out.trans HM1.out) a1 (.string ⟨#[]⟩) (.string ⟨#[]⟩)
      clear c0 c1 f0 f1 d0 d1 a1 a2
      generalize (w1.setCell ⟨w.heap.size + 1, 0, none⟩ (.string ⟨#[]⟩)).setCell ⟨w.heap.size + 1, 1, none⟩ (.string ⟨#[]⟩) = Z at *
      rw [HN.out]
      exact bodyPost_ret (v := rpairV none) (by simp [rpairV, results, Try.results8, go_sem, z0, z1]) rfl ⟨rfl, z2⟩
    case pos =>
      have HLen := hid hlen
      have e1 : ((r.length : Int) != (cols.length : Int)) = false := by rw [bne_eq_false_iff_eq]; omega
      have e2 : decide (r.length = cols.length) = true := by rw [decide_eq_true_iff]; exact hlen
      clear hlen
      go_enter Try.func8, Try.ntmps8
      go_upto_region 3 with (go_at_call 18; refine HFc.out.mono ?_; rintro e w1 ⟨rfl, hm⟩; have HM1 := hid hm; clear hm)
      clear b0 b1 b2 b3
      obtain ⟨b0, b1, b2, b3⟩ := row4 ((HM1.out.block _ (lt_of_heap HB.out) (fun h => h)).trans HB.out)
      go_wp2_with fail
      clear b0 b1 b2 b3 e1 e2
      obtain ⟨C, hC⟩ : ∃ C, (((w.alloc (.cells #[.int .u8 name, .slice ca cols.length cc, .int .i64 (K : Int), .int .i64 idx] 37)).alloc (.cells #[.string ⟨#[]⟩, .string ⟨#[]⟩] 32)).alloc (.cells #[.string ⟨#[]⟩, .string ⟨#[]⟩] 32)) = C := ⟨_, rfl⟩
      rw [hC] at HM HB HR1 HR2 HM1
      clear hC HFc
      go_loopw [9, 10, 11] (fun sk sv c wr => ∃ k : Nat, k ≤ cols.length ∧ c = .int .i64 (k : Int) ∧ sk = .string (ba (keysL cols r (min k K))) ∧ sv = .string (ba (valL cols r K k)) ∧ RLoop C wr cols r K idx k) (fun _ _ c _ => cols.length - (intOf c).toNat)
      case atStart => exact ⟨0, Nat.zero_le _, rfl, by rw [Nat.zero_min]; rfl, by rw [valL_low cols r (Nat.zero_le K)]; rfl, ⟨HM1.out, (fun j c v h => by omega), (fun j v h => by omega)⟩⟩
      case round =>
        obtain ⟨k, hk, rfl, rfl, rfl, hpl⟩ := hrel
        have HP := hid hpl
        have HPM := hid (HM.out.trans hpl.mod)
        have HPB := hid ((hpl.mod.block _ (lt_of_heap HB.out) (fun h => h)).trans HB.out)
        clear hpl
        obtain ⟨b0, b1, b2, b3⟩ := row4 HPB.out
        by_cases hlt : k < cols.length
        case neg =>
          have hke : k = cols.length := by omega
          subst hke
          obtain ⟨nm, rfl⟩ : ∃ nm : Nat, name = (nm : Int) := ⟨name.toNat, by omega⟩
          have dl : decide (cols.length < r.length) = false := by rw [decide_eq_false_iff_not, HLen.out]; omega
          have HKm : Hid (keysL cols r (min cols.length K) = keysL cols r K) := hid (by rw [show min cols.length K = K by omega])
          rw [HKm.out]
          have HTy := hid (fun (j : Nat) c v (h1 : cols[j]? = some c) (h2 : r[j]? = some v) => HP.out.typ j c v (List.getElem?_eq_some_iff.1 h1).1 h1 h2)
          have HG : Hid (Good (nm : Int) cols (K : Int) idx r) := hid ⟨HFit.out, HLen.out, HTy.out, fun j v hj h2 => HP.out.bare j v (by have := (List.getElem?_eq_some_iff.1 h2).1; rw [HLen.out] at this; exact this) hj h2⟩
          have hcv : (convert 68 9 (.slice (some ⟨wr.heap.size, 0, none⟩) 2 2)).run Try.prog (wr.alloc (.cells #[.int .u8 (nm : Int), .int .u8 0] 5)) = .ok (.string (ba (headL nm 0))) (wr.alloc (.cells #[.int .u8 (nm : Int), .int .u8 0] 5)) :=
            run_convert_bytes_back (P := Try.prog) _ 68 9 5 ⟨wr.heap.size, 0, none⟩ 2 (headL nm 0) Try.underlying68 Try.underlying5 Try.underlying9 (fun j hj => by
              rw [Addr.add_lit, cell_of_row _ _ _ _ _ _ (heap_alloc_new _ _)]
              have : j = 0 ∨ j = 1 := by simp [headL] at hj; omega
              rcases this with rfl | rfl
              · simp [headL]; omega
              · simp [headL])
          have s0 : (ba (headL nm 0)).size = 2 := by rw [ba_size]; rfl
          have s1 : (ba (keysL cols r K)).size ≤ 1152921504606846976 := by rw [ba_size]; exact HS.out K
          have HPk : Hid (ba (headL nm 0) ++ ba (keysL cols r K) = ba (pkeyL (nm : Int) cols (K : Int) r)) := hid (by unfold pkeyL; rw [Int.toNat_natCast, Int.toNat_natCast, ba_append])
          have hz1 : (wr.alloc (.cells #[.int .u8 (nm : Int), .int .u8 0] 5)).heap.size = wr.heap.size + 1 := by simp
          have HA2 : Hid (Mod (fun _ => False) wr ((wr.alloc (.cells #[.int .u8 (nm : Int), .int .u8 0] 5)).alloc (.cells #[.string (ba (pkeyL (nm : Int) cols (K : Int) r)), .string (ba (valL cols r K cols.length))] 32))) := hid (((Mod.refl _ _).alloc _).alloc _)
          have HK1 : Hid (((wr.alloc (.cells #[.int .u8 (nm : Int), .int .u8 0] 5)).alloc (.cells #[.string (ba (pkeyL (nm : Int) cols (K : Int) r)), .string (ba (valL cols r K cols.length))] 32)).heap[wr.heap.size + 1]? = some (.cells #[.string (ba (pkeyL (nm : Int) cols (K : Int) r)), .string (ba (valL cols r K cols.length))] 32 (0, 0))) := hid (by rw [← hz1]; exact heap_alloc_new _ _)
          clear hz1
          go_upto_region 24 with fail
          rw [HPk.out]
          clear b0 b1 b2 b3 hcv s0 s1
          generalize (wr.alloc (.cells #[.int .u8 (nm : Int), .int .u8 0] 5)).alloc (.cells #[.string (ba (pkeyL (nm : Int) cols (K : Int) r)), .string (ba (valL cols r K cols.length))] 32) = V at *
          have HMV := hid (HP.out.mod.trans HA2.out)
          have HPB2 := hid ((HA2.out.block _ (lt_of_heap HPB.out) (fun h => h)).trans HPB.out)
          obtain ⟨b0, b1, b2, b3⟩ := row4 HPB2.out
          by_cases hix : 0 ≤ idx
          case neg =>
            have di : decide (0 ≤ idx) = false := by rw [decide_eq_false_iff_not]; exact hix
            have HX : Hid (pxL (nm : Int) cols (K : Int) idx r = []) := hid (by unfold pxL; rw [if_neg hix])
            go_upto_region 28 with fail
            obtain ⟨Lx, hLx⟩ : ∃ L : List UInt8, L = [] := ⟨_, rfl⟩
            have HLx : Hid ((⟨#[]⟩ : ByteArray) = ba Lx) := hid (by rw [hLx]; rfl)
            rw [HLx.out]
            clear b0 b1 b2 b3 HLx
            have HPX : Hid (pxOf (nm : Int) cols (K : Int) idx r = ⟨pkeyL (nm : Int) cols (K : Int) r, valL cols r K cols.length, Lx⟩) := hid (by unfold pxOf pvalL; rw [HX.out, Int.toNat_natCast, hLx])
            have HPn := hid (fun h => (pairO_size h : pairO (nm : Int) cols (K : Int) idx r = none))
            have HPs := hid (fun h => pairO_some HG.out h)
            rw [HPX.out] at HPn HPs
            generalize hLk : pkeyL (nm : Int) cols (K : Int) r = Lk at *
            generalize hLv : valL cols r K cols.length = Lv at *
            clear hLk hLv hLx HX
            obtain ⟨k0, k1, _, _⟩ := row2 HK1.out
            by_cases z1 : 48 < Lk.length
            case pos =>
              have u1 : (ba Lk).size = Lk.length := ba_size _
              have t1 : decide (48 < Lk.length) = true := by rw [decide_eq_true_iff]; exact z1
              have HN := hid (HPn.out (by unfold SizeOk; simp only; omega))
              clear HPn HPs
              have a1 := (HMV.out.block _ (lt_of_heap HR1.out) (fun h => h)).trans HR1.out
              have a2 := (HMV.out.block _ (lt_of_heap HR2.out) (fun h => h)).trans HR2.out
              obtain ⟨c0, c1, f0, f1⟩ := row2 a1
              obtain ⟨d0, d1, _, _⟩ := row2 a2
              go_wp2_with fail
              obtain ⟨z0, z1, z2⟩ := rret (HM.out.trans HMV.out) a1 (.string ⟨#[]⟩) (.string ⟨#[]⟩)
              clear c0 c1 f0 f1 d0 d1 a1 a2
              generalize (V.setCell ⟨w.heap.size + 1, 0, none⟩ (.string ⟨#[]⟩)).setCell ⟨w.heap.size + 1, 1, none⟩ (.string ⟨#[]⟩) = Z at *
              rw [HN.out]
              exact bodyPost_ret (v := rpairV none) (by simp [rpairV, results, Try.results8, go_sem, z0, z1]) rfl ⟨rfl, z2⟩
            case neg =>
              have u1 : (ba Lk).size = Lk.length := ba_size _
              have t1 : decide (48 < Lk.length) = false := by rw [decide_eq_false_iff_not]; exact z1
              by_cases z2 : 48 < Lx.length
              case pos =>
                have u2 : (ba Lx).size = Lx.length := ba_size _
                have t2 : decide (48 < Lx.length) = true := by rw [decide_eq_true_iff]; exact z2
                have HN := hid (HPn.out (by unfold SizeOk; simp only; omega))
                clear HPn HPs
                have a1 := (HMV.out.block _ (lt_of_heap HR1.out) (fun h => h)).trans HR1.out
                have a2 := (HMV.out.block _ (lt_of_heap HR2.out) (fun h => h)).trans HR2.out
                obtain ⟨c0, c1, f0, f1⟩ := row2 a1
                obtain ⟨d0, d1, _, _⟩ := row2 a2
                go_wp2_with fail
                obtain ⟨z0, z1, z2⟩ := rret (HM.out.trans HMV.out) a1 (.string ⟨#[]⟩) (.string ⟨#[]⟩)
                clear c0 c1 f0 f1 d0 d1 a1 a2
                generalize (V.setCell ⟨w.heap.size + 1, 0, none⟩ (.string ⟨#[]⟩)).setCell ⟨w.heap.size + 1, 1, none⟩ (.string ⟨#[]⟩) = Z at *
                rw [HN.out]
                exact bodyPost_ret (v := rpairV none) (by simp [rpairV, results, Try.results8, go_sem, z0, z1]) rfl ⟨rfl, z2⟩
              case neg =>
                have u2 : (ba Lx).size = Lx.length := ba_size _
                have t2 : decide (48 < Lx.length) = false := by rw [decide_eq_false_iff_not]; exact z2
                by_cases z3 : 200 < Lv.length
                case pos =>
                  have u3 : (ba Lv).size = Lv.length := ba_size _
                  have t3 : decide (200 < Lv.length) = true := by rw [decide_eq_true_iff]; exact z3
                  have HN := hid (HPn.out (by unfold SizeOk; simp only; omega))
                  clear HPn HPs
                  have a1 := (HMV.out.block _ (lt_of_heap HR1.out) (fun h => h)).trans HR1.out
                  have a2 := (HMV.out.block _ (lt_of_heap HR2.out) (fun h => h)).trans HR2.out
                  obtain ⟨c0, c1, f0, f1⟩ := row2 a1
                  obtain ⟨d0, d1, _, _⟩ := row2 a2
                  go_wp2_with fail
                  obtain ⟨z0, z1, z2⟩ := rret (HM.out.trans HMV.out) a1 (.string ⟨#[]⟩) (.string ⟨#[]⟩)
                  clear c0 c1 f0 f1 d0 d1 a1 a2
                  generalize (V.setCell ⟨w.heap.size + 1, 0, none⟩ (.string ⟨#[]⟩)).setCell ⟨w.heap.size + 1, 1, none⟩ (.string ⟨#[]⟩) = Z at *
                  rw [HN.out]
                  exact bodyPost_ret (v := rpairV none) (by simp [rpairV, results, Try.results8, go_sem, z0, z1]) rfl ⟨rfl, z2⟩
                case neg =>
                  have u3 : (ba Lv).size = Lv.length := ba_size _
                  have t3 : decide (200 < Lv.length) = false := by rw [decide_eq_false_iff_not]; exact z3
                  have HN := hid (HPs.out (by unfold SizeOk; simp only; omega))
                  clear HPn HPs
                  have a1 := (HMV.out.block _ (lt_of_heap HR1.out) (fun h => h)).trans HR1.out
                  have a2 := (HMV.out.block _ (lt_of_heap HR2.out) (fun h => h)).trans HR2.out
                  obtain ⟨c0, c1, f0, f1⟩ := row2 a1
                  obtain ⟨d0, d1, _, _⟩ := row2 a2
                  go_wp2_with fail
                  obtain ⟨z0, z1, z2⟩ := rret (HM.out.trans HMV.out) a1 (.string (ba Lk)) (.string (ba Lv))
                  clear c0 c1 f0 f1 d0 d1 a1 a2 k0 k1
                  generalize (V.setCell ⟨w.heap.size + 1, 0, none⟩ (.string (ba Lk))).setCell ⟨w.heap.size + 1, 1, none⟩ (.string (ba Lv)) = Z at *
                  rw [HN.out]
                  exact bodyPost_ret (v := rpairV (some ⟨Lk, Lv, Lx⟩)) (by simp [rpairV, results, Try.results8, go_sem, z0, z1]) rfl ⟨rfl, z2⟩
          case pos =>
            obtain ⟨I, rfl⟩ : ∃ I : Nat, idx = (I : Int) := ⟨idx.toNat, by omega⟩
            have di : decide ((0 : Int) ≤ (I : Int)) = true := by rw [decide_eq_true_iff]; exact hix
            obtain ⟨c, hc⟩ : ∃ c, cols[I]? = some c := ⟨_, List.getElem?_eq_getElem (by omega)⟩
            obtain ⟨v, hvv⟩ : ∃ v, r[I]? = some v := ⟨_, List.getElem?_eq_getElem (by rw [HLen.out]; omega)⟩
            have hkr : I < r.length := by rw [HLen.out]; omega
            have HVo := hid (HV.out v (List.mem_of_getElem? hvv))
            have hrc := (HR.out.ext HPM.out).ext HA2.out
            obtain ⟨g2, off2, rfl⟩ := hrc.some (by omega)
            have p0 := hrc.cell vl_len hvv (j := 0) rfl
            have p1 := hrc.cell vl_len hvv (j := 1) rfl
            rw [Nat.add_zero] at p0
            have HI : Hid (idxL cols r (I : Int) = formV c v) := hid (by
              unfold idxL
              rw [Int.toNat_natCast, List.getD_eq_getElem?_getD, List.getD_eq_getElem?_getD, hc, hvv]; rfl)
            have HX : Hid (pxL (nm : Int) cols (K : Int) (I : Int) r = headL nm 1 ++ formV c v ++ keysL cols r K) := hid (by unfold pxL; rw [if_pos hix, HI.out, Int.toNat_natCast, Int.toNat_natCast])
            have HCx : Hid (∀ x : Ext V, Lies x.val 1 oneI ca cols) := hid (fun x => ((HL.out.ext HPM.out).ext HA2.out).ext x.mod)
            have HCi := hid hc
            have x0 := fun x : Ext V => x.cell b0
            have x1 := fun x : Ext V => x.cell b1
            have x2 := fun x : Ext V => x.cell b2
            have x3 := fun x : Ext V => x.cell b3
            have y1 := fun x : Ext V => x.cell p0
            have y2 := fun x : Ext V => x.cell p1
            have HFm := hid (fun x : Ext V => rformT_any nm I (K : Int) cc c v (HCx.out x) HCi.out hn HVo.out (by omega) (by have := formV_size (k := c) HVo.out; omega))
            have HFs := hid (formV_size (k := c) HVo.out)
            obtain ⟨n, t⟩ := v
            simp only at y1 y2 HFm
            generalize formV c ⟨n, t⟩ = fm at *
            clear hrc hc hvv p0 p1
            go_upto_region 26 with fail
            clear b0 b1 b2 b3
            refine wp_region_ext (by kernel_rfl) (by kernel_rfl) ?_
            repeat (go_big_quiet_step ((go_at_call 23; exact ext_call (HFm.out _))))
            refine wpQuiet_nil ?_
            rintro _ ⟨x, rfl⟩
            clear x0 x1 x2 x3 y1 y2
            have HMX := hid (HMV.out.trans x.mod)
            have HK2 := hid (x.heap HK1.out)
            obtain ⟨Lx, hLx⟩ : ∃ L : List UInt8, L = headL nm 1 ++ fm ++ keysL cols r K := ⟨_, rfl⟩
            have s0 : (ba (headL nm 1 ++ fm)).size ≤ 1152921504606846976 := by rw [ba_size, List.length_append]; have : (headL nm 1).length = 2 := rfl; have := HFs.out; omega
            have s1 : (ba (keysL cols r K)).size ≤ 1152921504606846976 := by rw [ba_size]; exact HS.out K
            have HPx : Hid (ba (headL nm 1 ++ fm) ++ ba (keysL cols r K) = ba Lx) := hid (by rw [hLx, ba_append])
            generalize x.val = X at *
            go_upto_region 28 with fail
            rw [HPx.out]
            clear s0 s1
            have HPX : Hid (pxOf (nm : Int) cols (K : Int) (I : Int) r = ⟨pkeyL (nm : Int) cols (K : Int) r, valL cols r K cols.length, Lx⟩) := hid (by unfold pxOf pvalL; rw [HX.out, Int.toNat_natCast, hLx])
            have HPn := hid (fun h => (pairO_size h : pairO (nm : Int) cols (K : Int) (I : Int) r = none))
            have HPs := hid (fun h => pairO_some HG.out h)
            rw [HPX.out] at HPn HPs
            generalize hLk : pkeyL (nm : Int) cols (K : Int) r = Lk at *
            generalize hLv : valL cols r K cols.length = Lv at *
            clear hLk hLv hLx HX
            obtain ⟨k0, k1, _, _⟩ := row2 HK2.out
            by_cases z1 : 48 < Lk.length
            case pos =>
              have u1 : (ba Lk).size = Lk.length := ba_size _
              have t1 : decide (48 < Lk.length) = true := by rw [decide_eq_true_iff]; exact z1
              have HN := hid (HPn.out (by unfold SizeOk; simp only; omega))
              clear HPn HPs
              have a1 := (HMX.out.block _ (lt_of_heap HR1.out) (fun h => h)).trans HR1.out
              have a2 := (HMX.out.block _ (lt_of_heap HR2.out) (fun h => h)).trans HR2.out
              obtain ⟨c0, c1, f0, f1⟩ := row2 a1
              obtain ⟨d0, d1, _, _⟩ := row2 a2
              go_wp2_with fail
              obtain ⟨z0, z1, z2⟩ := rret (HM.out.trans HMX.out) a1 (.string ⟨#[]⟩) (.string ⟨#[]⟩)
              clear c0 c1 f0 f1 d0 d1 a1 a2
              generalize (X.setCell ⟨w.heap.size + 1, 0, none⟩ (.string ⟨#[]⟩)).setCell ⟨w.heap.size + 1, 1, none⟩ (.string ⟨#[]⟩) = Z at *
              rw [HN.out]
              exact bodyPost_ret (v := rpairV none) (by simp [rpairV, results, Try.results8, go_sem, z0, z1]) rfl ⟨rfl, z2⟩
            case neg =>
              have u1 : (ba Lk).size = Lk.length := ba_size _
              have t1 : decide (48 < Lk.length) = false := by rw [decide_eq_false_iff_not]; exact z1
              by_cases z2 : 48 < Lx.length
              case pos =>
                have u2 : (ba Lx).size = Lx.length := ba_size _
                have t2 : decide (48 < Lx.length) = true := by rw [decide_eq_true_iff]; exact z2
                have HN := hid (HPn.out (by unfold SizeOk; simp only; omega))
                clear HPn HPs
                have a1 := (HMX.out.block _ (lt_of_heap HR1.out) (fun h => h)).trans HR1.out
                have a2 := (HMX.out.block _ (lt_of_heap HR2.out) (fun h => h)).trans HR2.out
                obtain ⟨c0, c1, f0, f1⟩ := row2 a1
                obtain ⟨d0, d1, _, _⟩ := row2 a2
                go_wp2_with fail
                obtain ⟨z0, z1, z2⟩ := rret (HM.out.trans HMX.out) a1 (.string ⟨#[]⟩) (.string ⟨#[]⟩)
                clear c0 c1 f0 f1 d0 d1 a1 a2
                generalize (X.setCell ⟨w.heap.size + 1, 0, none⟩ (.string ⟨#[]⟩)).setCell ⟨w.heap.size + 1, 1, none⟩ (.string ⟨#[]⟩) = Z at *
                rw [HN.out]
                exact bodyPost_ret (v := rpairV none) (by simp [rpairV, results, Try.results8, go_sem, z0, z1]) rfl ⟨rfl, z2⟩
              case neg =>
                have u2 : (ba Lx).size = Lx.length := ba_size _
                have t2 : decide (48 < Lx.length) = false := by rw [decide_eq_false_iff_not]; exact z2
                by_cases z3 : 200 < Lv.length
                case pos =>
                  have u3 : (ba Lv).size = Lv.length := ba_size _
                  have t3 : decide (200 < Lv.length) = true := by rw [decide_eq_true_iff]; exact z3
                  have HN := hid (HPn.out (by unfold SizeOk; simp only; omega))
                  clear HPn HPs
                  have a1 := (HMX.out.block _ (lt_of_heap HR1.out) (fun h => h)).trans HR1.out
                  have a2 := (HMX.out.block _ (lt_of_heap HR2.out) (fun h => h)).trans HR2.out
                  obtain ⟨c0, c1, f0, f1⟩ := row2 a1
                  obtain ⟨d0, d1, _, _⟩ := row2 a2
                  go_wp2_with fail
                  obtain ⟨z0, z1, z2⟩ := rret (HM.out.trans HMX.out) a1 (.string ⟨#[]⟩) (.string ⟨#[]⟩)
                  clear c0 c1 f0 f1 d0 d1 a1 a2
                  generalize (X.setCell ⟨w.heap.size + 1, 0, none⟩ (.string ⟨#[]⟩)).setCell ⟨w.heap.size + 1, 1, none⟩ (.string ⟨#[]⟩) = Z at *
                  rw [HN.out]
                  exact bodyPost_ret (v := rpairV none) (by simp [rpairV, results, Try.results8, go_sem, z0, z1]) rfl ⟨rfl, z2⟩
                case neg =>
                  have u3 : (ba Lv).size = Lv.length := ba_size _
                  have t3 : decide (200 < Lv.length) = false := by rw [decide_eq_false_iff_not]; exact z3
                  have HN := hid (HPs.out (by unfold SizeOk; simp only; omega))
                  clear HPn HPs
                  have a1 := (HMX.out.block _ (lt_of_heap HR1.out) (fun h => h)).trans HR1.out
                  have a2 := (HMX.out.block _ (lt_of_heap HR2.out) (fun h => h)).trans HR2.out
                  obtain ⟨c0, c1, f0, f1⟩ := row2 a1
                  obtain ⟨d0, d1, _, _⟩ := row2 a2
                  go_wp2_with fail
                  obtain ⟨z0, z1, z2⟩ := rret (HM.out.trans HMX.out) a1 (.string (ba Lk)) (.string (ba Lv))
                  clear c0 c1 f0 f1 d0 d1 a1 a2 k0 k1
                  generalize (X.setCell ⟨w.heap.size + 1, 0, none⟩ (.string (ba Lk))).setCell ⟨w.heap.size + 1, 1, none⟩ (.string (ba Lv)) = Z at *
                  rw [HN.out]
                  exact bodyPost_ret (v := rpairV (some ⟨Lk, Lv, Lx⟩)) (by simp [rpairV, results, Try.results8, go_sem, z0, z1]) rfl ⟨rfl, z2⟩
        case pos =>
          obtain ⟨c, hc⟩ : ∃ c, cols[k]? = some c := ⟨_, List.getElem?_eq_getElem hlt⟩
          obtain ⟨v, hvv⟩ : ∃ v, r[k]? = some v := ⟨_, List.getElem?_eq_getElem (by rw [HLen.out]; exact hlt)⟩
          obtain ⟨n, t⟩ := v
          have hkr : k < r.length := by rw [HLen.out]; exact hlt
          have hlc := HL.out.ext HPM.out
          have hrc := HR.out.ext HPM.out
          have HVo := hid (HV.out ⟨n, t⟩ (List.mem_of_getElem? hvv))
          have HKc := hid (HKd.out c (List.mem_of_getElem? hc))
          obtain ⟨g, off, rfl⟩ := hlc.some (by omega)
          obtain ⟨g2, off2, rfl⟩ := hrc.some (by omega)
          have q0 := hlc.cell oneI_len hc (j := 0) rfl
          have p0 := hrc.cell vl_len hvv (j := 0) rfl
          have p1 := hrc.cell vl_len hvv (j := 1) rfl
          rw [Nat.add_zero, Nat.mul_one] at q0
          rw [Nat.add_zero] at p0
          have HSu := hid (fun h : K ≤ k => valL_succ h hc hvv)
          have HKu := hid (keysL_succ hc hvv)
          have HVl := hid (HSv.out K (k + 1))
          have HVk := hid (HSv.out K k)
          have HSk := hid (HS.out k)
          have HSk1 := hid (HS.out (k + 1))
          have HTyp := hid (fun (ht : typedV c ⟨n, t⟩ = true) => (fun (j : Nat) c' v' (hj : j < k + 1) (h1 : cols[j]? = some c') (h2 : r[j]? = some v') => by
            by_cases hjk : j = k
            · subst hjk
              rw [hc] at h1
              rw [hvv] at h2
              cases h1
              cases h2
              exact ht
            · exact HP.out.typ j c' v' (by omega) h1 h2 : ∀ (j : Nat) c' v', j < k + 1 → cols[j]? = some c' → r[j]? = some v' → typedV c' v' = true))
          have HBar := hid (fun (ht : ((k : Int) < (K : Int) ∨ (k : Int) = idx) → bareP t = true) => (fun (j : Nat) v' (hj : j < k + 1) (h1 : (j : Int) < (K : Int) ∨ (j : Int) = idx) (h2 : r[j]? = some v') => by
            by_cases hjk : j = k
            · subst hjk
              rw [hvv] at h2
              cases h2
              exact ht h1
            · exact HP.out.bare j v' (by omega) h1 h2 : ∀ (j : Nat) v', j < k + 1 → ((j : Int) < (K : Int) ∨ (j : Int) = idx) → r[j]? = some v' → bareP v'.s = true))
          have HBad := hid (fun (ht : typedV c ⟨n, t⟩ = false) => (pairO_none (fun g => by have := g.typed k c ⟨n, t⟩ hc hvv; rw [ht] at this; cases this) : pairO name cols (K : Int) idx r = none))
          have HBad2 := hid (fun (h1 : (k : Int) < (K : Int) ∨ (k : Int) = idx) (ht : bareP t = false) => (pairO_none (fun g => by have := g.bare k ⟨n, t⟩ h1 hvv; rw [ht] at this; cases this) : pairO name cols (K : Int) idx r = none))
          clear hlc hrc hc hvv
          rcases HKc.out with rfl | rfl
          · -- a column of kind 0
            cases hs : t.toList.isEmpty with
            | false =>
              have HN := hid (HBad.out (by unfold typedV; rw [if_pos rfl]; exact hs))
              have a1 := (HP.out.mod.block _ (lt_of_heap HR1.out) (fun h => h)).trans HR1.out
              have a2 := (HP.out.mod.block _ (lt_of_heap HR2.out) (fun h => h)).trans HR2.out
              obtain ⟨c0, c1, f0, f1⟩ := row2 a1
              obtain ⟨d0, d1, _, _⟩ := row2 a2
              go_wp2_with fail
              obtain ⟨z0, z1, z2⟩ := rret HPM.out a1 (.string ⟨#[]⟩) (.string ⟨#[]⟩)
              clear c0 c1 f0 f1 d0 d1 a1 a2
              generalize (wr.setCell ⟨w.heap.size + 1, 0, none⟩ (.string ⟨#[]⟩)).setCell ⟨w.heap.size + 1, 1, none⟩ (.string ⟨#[]⟩) = Z at *
              rw [HN.out]
              exact bodyPost_ret (v := rpairV none) (by simp [rpairV, results, Try.results8, go_sem, z0, z1]) rfl ⟨rfl, z2⟩
            | true =>
              have HTy := hid (HTyp.out (by unfold typedV; rw [if_pos rfl]; exact hs))
              have HBt := hid (bare_empty hs)
              by_cases hkK : k < K
              case pos =>
                have dk : decide (k < K) = true := by rw [decide_eq_true_iff]; exact hkK
                have HBr := hid (fun W : World => rbare_any t W HVo.out.s)
                rw [HBt.out] at HBr
                have HBu := hid (HBar.out (fun _ => HBt.out))
                have HKm : Hid (keysL cols r (min k K) = keysL cols r k) := hid (by rw [show min k K = k by omega])
                have HKm1 : Hid (keysL cols r (min (k + 1) K) = keysL cols r (k + 1)) := hid (by rw [show min (k + 1) K = k + 1 by omega])
                have HVs : Hid (valL cols r K (k + 1) = valL cols r K k) := hid (by rw [valL_low cols r (show k + 1 ≤ K by omega), valL_low cols r (show k ≤ K by omega)])
                have s0 : (ba (keysL cols r k)).size ≤ 1152921504606846976 := by rw [ba_size]; exact HSk.out
                have s1 : (ba (formV 0 ⟨n, t⟩)).size ≤ 1152921504606846976 := by rw [ba_size]; have := formV_size (k := 0) HVo.out; omega
                have HBa : Hid (ba (keysL cols r k) ++ ba (formV 0 ⟨n, t⟩) = ba (keysL cols r (k + 1))) := hid (by rw [HKu.out, ba_append])
                rw [HKm.out]
                go_upto_region 17 with (go_at_call 19; refine (HBr.out _).mono ?_; rintro e wq ⟨rfl, rfl⟩)
                have x1 := fun x : Ext wr => x.cell b1
                have y0 := fun x : Ext wr => x.cell q0
                have y1 := fun x : Ext wr => x.cell p0
                have y2 := fun x : Ext wr => x.cell p1
                have HFm := hid (fun x : Ext wr => rformV_any 0 ⟨n, t⟩ x.val HVo.out)
                simp only at HFm
                clear b0 b1 b2 b3 q0 p0 p1
                refine wp_region_ext (by kernel_rfl) (by kernel_rfl) ?_
                repeat (go_big_quiet_step ((go_at_call 20; exact ext_call (HFm.out _))))
                refine wpQuiet_nil ?_
                rintro _ ⟨x, rfl⟩
                clear x1 y0 y1 y2
                go_wp2_with fail
                go_roundw
                case rel => exact ⟨k + 1, by omega, by go_num, by rw [HBa.out, HKm1.out], by rw [HVs.out], ⟨HP.out.mod.trans x.mod, HTy.out, HBu.out⟩⟩
                case measure => simp [intOf]; omega
              case neg =>
                have dk : decide (k < K) = false := by rw [decide_eq_false_iff_not]; exact hkK
                by_cases hki : (k : Int) = idx
                case pos =>
                  subst hki
                  have HBr := hid (fun W : World => rbare_any t W HVo.out.s)
                  rw [HBt.out] at HBr
                  have HBu := hid (HBar.out (fun _ => HBt.out))
                  have HKm1 : Hid (keysL cols r (min (k + 1) K) = keysL cols r (min k K)) := hid (keysL_min (by omega))
                  have HPk : Hid (packV 0 ⟨n, t⟩ = intL n) := hid rfl
                  have HSs := hid (HSu.out (by omega))
                  rw [HPk.out] at HSs
                  have s0 : (ba (valL cols r K k)).size ≤ 1152921504606846976 := by rw [ba_size]; exact HVk.out
                  have s1 : (ba (intL n)).size ≤ 1152921504606846976 := by
                    have := HVl.out
                    rw [HSs.out, List.length_append] at this
                    rw [ba_size]; omega
                  have HBa : Hid (ba (valL cols r K k) ++ ba (intL n) = ba (valL cols r K (k + 1))) := hid (by rw [HSs.out, ba_append])
                  have HTx := hid (fun W : World => rtext_any t W HVo.out.s)
                  have HI := hid (fun W : World => rint_any n W HVo.out.n0 HVo.out.n1)
                  go_upto_region 20 with (first | (go_at_call 19; refine (HBr.out _).mono ?_; rintro e wq ⟨rfl, rfl⟩) | (go_at_call 21; refine (HTx.out _).mono ?_; rintro e w4 ⟨rfl, hm4⟩; have HM4 := hid hm4; clear hm4))
                  have b1' := (HM4.out.cell (World.block_lt_of_cell? _ _ b1) (fun h => h)).trans b1
                  have q0' := (HM4.out.cell (World.block_lt_of_cell? _ _ q0) (fun h => h)).trans q0
                  have p0' := (HM4.out.cell (World.block_lt_of_cell? _ _ p0) (fun h => h)).trans p0
                  clear b0 b1 b2 b3 q0 p0 p1
                  go_wp2_with (go_at_call 22; refine (HI.out _).mono ?_; rintro e w5 ⟨rfl, hm5⟩; have HM5 := hid hm5; clear hm5)
                  go_roundw
                  case rel => exact ⟨k + 1, by omega, by go_num, by rw [HKm1.out], by rw [HBa.out], ⟨(HP.out.mod.trans HM4.out).trans HM5.out, HTy.out, HBu.out⟩⟩
                  case measure => simp [intOf]; omega
                case neg =>
                  have di : ((k : Int) == idx) = false := by rw [beq_eq_false_iff_ne]; exact hki
                  have HBu := hid (HBar.out (fun h => by omega))
                  have HKm1 : Hid (keysL cols r (min (k + 1) K) = keysL cols r (min k K)) := hid (keysL_min (by omega))
                  have HPk : Hid (packV 0 ⟨n, t⟩ = intL n) := hid rfl
                  have HSs := hid (HSu.out (by omega))
                  rw [HPk.out] at HSs
                  have s0 : (ba (valL cols r K k)).size ≤ 1152921504606846976 := by rw [ba_size]; exact HVk.out
                  have s1 : (ba (intL n)).size ≤ 1152921504606846976 := by
                    have := HVl.out
                    rw [HSs.out, List.length_append] at this
                    rw [ba_size]; omega
                  have HBa : Hid (ba (valL cols r K k) ++ ba (intL n) = ba (valL cols r K (k + 1))) := hid (by rw [HSs.out, ba_append])
                  have HTx := hid (fun W : World => rtext_any t W HVo.out.s)
                  have HI := hid (fun W : World => rint_any n W HVo.out.n0 HVo.out.n1)
                  go_upto_region 20 with ((go_at_call 21; refine (HTx.out _).mono ?_; rintro e w4 ⟨rfl, hm4⟩; have HM4 := hid hm4; clear hm4))
                  have b1' := (HM4.out.cell (World.block_lt_of_cell? _ _ b1) (fun h => h)).trans b1
                  have q0' := (HM4.out.cell (World.block_lt_of_cell? _ _ q0) (fun h => h)).trans q0
                  have p0' := (HM4.out.cell (World.block_lt_of_cell? _ _ p0) (fun h => h)).trans p0
                  clear b0 b1 b2 b3 q0 p0 p1
                  go_wp2_with (go_at_call 22; refine (HI.out _).mono ?_; rintro e w5 ⟨rfl, hm5⟩; have HM5 := hid hm5; clear hm5)
                  go_roundw
                  case rel => exact ⟨k + 1, by omega, by go_num, by rw [HKm1.out], by rw [HBa.out], ⟨(HP.out.mod.trans HM4.out).trans HM5.out, HTy.out, HBu.out⟩⟩
                  case measure => simp [intOf]; omega
          · -- a column of kind 1
            by_cases hz : n = 0
            case neg =>
              have HN := hid (HBad.out (by unfold typedV; rw [if_neg (by decide)]; rw [beq_eq_false_iff_ne]; exact hz))
              have ez : (n != 0) = true := by rw [bne_iff_ne]; exact hz
              have a1 := (HP.out.mod.block _ (lt_of_heap HR1.out) (fun h => h)).trans HR1.out
              have a2 := (HP.out.mod.block _ (lt_of_heap HR2.out) (fun h => h)).trans HR2.out
              obtain ⟨c0, c1, f0, f1⟩ := row2 a1
              obtain ⟨d0, d1, _, _⟩ := row2 a2
              go_wp2_with fail
              obtain ⟨z0, z1, z2⟩ := rret HPM.out a1 (.string ⟨#[]⟩) (.string ⟨#[]⟩)
              clear c0 c1 f0 f1 d0 d1 a1 a2
              generalize (wr.setCell ⟨w.heap.size + 1, 0, none⟩ (.string ⟨#[]⟩)).setCell ⟨w.heap.size + 1, 1, none⟩ (.string ⟨#[]⟩) = Z at *
              rw [HN.out]
              exact bodyPost_ret (v := rpairV none) (by simp [rpairV, results, Try.results8, go_sem, z0, z1]) rfl ⟨rfl, z2⟩
            case pos =>
              subst hz
              have HTy := hid (HTyp.out (by unfold typedV; rw [if_neg (by decide)]; rw [beq_iff_eq]))
              by_cases hkK : k < K
              case pos =>
                have dk : decide (k < K) = true := by rw [decide_eq_true_iff]; exact hkK
                cases hb : bareP t with
                | false =>
                  have HN := hid (HBad2.out (.inl (by omega)) hb)
                  have HBr := hid (fun W : World => rbare_any t W HVo.out.s)
                  rw [hb] at HBr
                  have a1 := (HP.out.mod.block _ (lt_of_heap HR1.out) (fun h => h)).trans HR1.out
                  have a2 := (HP.out.mod.block _ (lt_of_heap HR2.out) (fun h => h)).trans HR2.out
                  obtain ⟨c0, c1, f0, f1⟩ := row2 a1
                  obtain ⟨d0, d1, _, _⟩ := row2 a2
                  go_wp2_with (go_at_call 19; refine (HBr.out _).mono ?_; rintro e wq ⟨rfl, rfl⟩)
                  obtain ⟨z0, z1, z2⟩ := rret HPM.out a1 (.string ⟨#[]⟩) (.string ⟨#[]⟩)
                  clear c0 c1 f0 f1 d0 d1 a1 a2
                  generalize (wr.setCell ⟨w.heap.size + 1, 0, none⟩ (.string ⟨#[]⟩)).setCell ⟨w.heap.size + 1, 1, none⟩ (.string ⟨#[]⟩) = Z at *
                  rw [HN.out]
                  exact bodyPost_ret (v := rpairV none) (by simp [rpairV, results, Try.results8, go_sem, z0, z1]) rfl ⟨rfl, z2⟩
                | true =>
                  have HBr := hid (fun W : World => rbare_any t W HVo.out.s)
                  rw [hb] at HBr
                  have HBu := hid (HBar.out (fun _ => hb))
                  have HKm : Hid (keysL cols r (min k K) = keysL cols r k) := hid (by rw [show min k K = k by omega])
                  have HKm1 : Hid (keysL cols r (min (k + 1) K) = keysL cols r (k + 1)) := hid (by rw [show min (k + 1) K = k + 1 by omega])
                  have HVs : Hid (valL cols r K (k + 1) = valL cols r K k) := hid (by rw [valL_low cols r (show k + 1 ≤ K by omega), valL_low cols r (show k ≤ K by omega)])
                  have s0 : (ba (keysL cols r k)).size ≤ 1152921504606846976 := by rw [ba_size]; exact HSk.out
                  have s1 : (ba (formV 1 ⟨0, t⟩)).size ≤ 1152921504606846976 := by rw [ba_size]; have := formV_size (k := 1) HVo.out; omega
                  have HBa : Hid (ba (keysL cols r k) ++ ba (formV 1 ⟨0, t⟩) = ba (keysL cols r (k + 1))) := hid (by rw [HKu.out, ba_append])
                  rw [HKm.out]
                  go_upto_region 17 with (go_at_call 19; refine (HBr.out _).mono ?_; rintro e wq ⟨rfl, rfl⟩)
                  have x1 := fun x : Ext wr => x.cell b1
                  have y0 := fun x : Ext wr => x.cell q0
                  have y1 := fun x : Ext wr => x.cell p0
                  have y2 := fun x : Ext wr => x.cell p1
                  have HFm := hid (fun x : Ext wr => rformV_any 1 ⟨0, t⟩ x.val HVo.out)
                  simp only at HFm
                  clear b0 b1 b2 b3 q0 p0 p1
                  refine wp_region_ext (by kernel_rfl) (by kernel_rfl) ?_
                  repeat (go_big_quiet_step ((go_at_call 20; exact ext_call (HFm.out _))))
                  refine wpQuiet_nil ?_
                  rintro _ ⟨x, rfl⟩
                  clear x1 y0 y1 y2
                  go_wp2_with fail
                  go_roundw
                  case rel => exact ⟨k + 1, by omega, by go_num, by rw [HBa.out, HKm1.out], by rw [HVs.out], ⟨HP.out.mod.trans x.mod, HTy.out, HBu.out⟩⟩
                  case measure => simp [intOf]; omega
              case neg =>
                have dk : decide (k < K) = false := by rw [decide_eq_false_iff_not]; exact hkK
                by_cases hki : (k : Int) = idx
                case pos =>
                  subst hki
                  cases hb : bareP t with
                  | false =>
                    have HN := hid (HBad2.out (.inr rfl) hb)
                    have HBr := hid (fun W : World => rbare_any t W HVo.out.s)
                    rw [hb] at HBr
                    have a1 := (HP.out.mod.block _ (lt_of_heap HR1.out) (fun h => h)).trans HR1.out
                    have a2 := (HP.out.mod.block _ (lt_of_heap HR2.out) (fun h => h)).trans HR2.out
                    obtain ⟨c0, c1, f0, f1⟩ := row2 a1
                    obtain ⟨d0, d1, _, _⟩ := row2 a2
                    go_wp2_with (go_at_call 19; refine (HBr.out _).mono ?_; rintro e wq ⟨rfl, rfl⟩)
                    obtain ⟨z0, z1, z2⟩ := rret HPM.out a1 (.string ⟨#[]⟩) (.string ⟨#[]⟩)
                    clear c0 c1 f0 f1 d0 d1 a1 a2
                    generalize (wr.setCell ⟨w.heap.size + 1, 0, none⟩ (.string ⟨#[]⟩)).setCell ⟨w.heap.size + 1, 1, none⟩ (.string ⟨#[]⟩) = Z at *
                    rw [HN.out]
                    exact bodyPost_ret (v := rpairV none) (by simp [rpairV, results, Try.results8, go_sem, z0, z1]) rfl ⟨rfl, z2⟩
                  | true =>
                    have HBr := hid (fun W : World => rbare_any t W HVo.out.s)
                    rw [hb] at HBr
                    have HBu := hid (HBar.out (fun _ => hb))
                    have HKm1 : Hid (keysL cols r (min (k + 1) K) = keysL cols r (min k K)) := hid (keysL_min (by omega))
                    have HPk : Hid (packV 1 ⟨0, t⟩ = textL t) := hid rfl
                    have HSs := hid (HSu.out (by omega))
                    rw [HPk.out] at HSs
                    have s0 : (ba (valL cols r K k)).size ≤ 1152921504606846976 := by rw [ba_size]; exact HVk.out
                    have s1 : (ba (textL t)).size ≤ 1152921504606846976 := by
                      have := HVl.out
                      rw [HSs.out, List.length_append] at this
                      rw [ba_size]; omega
                    have HBa : Hid (ba (valL cols r K k) ++ ba (textL t) = ba (valL cols r K (k + 1))) := hid (by rw [HSs.out, ba_append])
                    have HTx := hid (fun W : World => rtext_any t W HVo.out.s)
                    go_upto_region 20 with (first | (go_at_call 19; refine (HBr.out _).mono ?_; rintro e wq ⟨rfl, rfl⟩) | (go_at_call 21; refine (HTx.out _).mono ?_; rintro e w4 ⟨rfl, hm4⟩; have HM4 := hid hm4; clear hm4))
                    have b1' := (HM4.out.cell (World.block_lt_of_cell? _ _ b1) (fun h => h)).trans b1
                    have q0' := (HM4.out.cell (World.block_lt_of_cell? _ _ q0) (fun h => h)).trans q0
                    clear b0 b1 b2 b3 q0 p0 p1
                    go_wp2_with fail
                    go_roundw
                    case rel => exact ⟨k + 1, by omega, by go_num, by rw [HKm1.out], by rw [HBa.out], ⟨HP.out.mod.trans HM4.out, HTy.out, HBu.out⟩⟩
                    case measure => simp [intOf]; omega
                case neg =>
                  have di : ((k : Int) == idx) = false := by rw [beq_eq_false_iff_ne]; exact hki
                  have HBu := hid (HBar.out (fun h => by omega))
                  have HKm1 : Hid (keysL cols r (min (k + 1) K) = keysL cols r (min k K)) := hid (keysL_min (by omega))
                  have HPk : Hid (packV 1 ⟨0, t⟩ = textL t) := hid rfl
                  have HSs := hid (HSu.out (by omega))
                  rw [HPk.out] at HSs
                  have s0 : (ba (valL cols r K k)).size ≤ 1152921504606846976 := by rw [ba_size]; exact HVk.out
                  have s1 : (ba (textL t)).size ≤ 1152921504606846976 := by
                    have := HVl.out
                    rw [HSs.out, List.length_append] at this
                    rw [ba_size]; omega
                  have HBa : Hid (ba (valL cols r K k) ++ ba (textL t) = ba (valL cols r K (k + 1))) := hid (by rw [HSs.out, ba_append])
                  have HTx := hid (fun W : World => rtext_any t W HVo.out.s)
                  go_upto_region 20 with ((go_at_call 21; refine (HTx.out _).mono ?_; rintro e w4 ⟨rfl, hm4⟩; have HM4 := hid hm4; clear hm4))
                  have b1' := (HM4.out.cell (World.block_lt_of_cell? _ _ b1) (fun h => h)).trans b1
                  have q0' := (HM4.out.cell (World.block_lt_of_cell? _ _ q0) (fun h => h)).trans q0
                  clear b0 b1 b2 b3 q0 p0 p1
                  go_wp2_with fail
                  go_roundw
                  case rel => exact ⟨k + 1, by omega, by go_num, by rw [HKm1.out], by rw [HBa.out], ⟨HP.out.mod.trans HM4.out, HTy.out, HBu.out⟩⟩
                  case measure => simp [intOf]; omega
end Go.Proofs.Ytoclecpedhbokaa
