/- The document's Check (printed by genrchk2.py) -/
import Derived.Test.YtigoikepcbbhjaaAuE
import Derived.Test.YtigoikepcbbhjaaAuF
import Derived.Deep.DeepCutAuto
namespace Go.Proofs.Ytigoikepcbbhjaa
open Go Go.RowKit

variable {ha la ga aa oa ta ia : Option Addr} {hs : List Hl} {ls : List Lv} {gs : List Gd} {acs : List AP} {os : List OP} {ts : List KP} {ins : List IP}

theorem RL.ext {w w' : World} (t : RL w ha la ga aa oa ta ia hs ls gs acs os ts ins) (hm : Mod (fun _ => False) w w') : RL w' ha la ga aa oa ta ia hs ls gs acs os ts ins :=
  ⟨t.h.ext hm, t.l.ext hm, t.g.ext hm, t.a.ext hm, t.o.ext hm, t.t.ext hm, t.i.ext hm⟩

theorem range_succ_all (f : Nat → Bool) (k : Nat) : (List.range (k + 1)).all f = ((List.range k).all f && f k) := by
  rw [List.range_succ, List.all_append]
  simp

set_option maxRecDepth 100000 in
set_option maxHeartbeats 32000000 in
theorem rcheck_any {w : World} (hc lc gc ac oc tc ic : Nat) (next : Int) (t : RL w ha la ga aa oa ta ia hs ls gs acs os ts ins)
    (n1 : hs.length ≤ 140737488351232) (n2 : ls.length ≤ 140737488351232) (n3 : gs.length ≤ 140737488351232) (n4 : acs.length ≤ 140737488351232) (n5 : os.length ≤ 140737488351232) (n6 : ts.length ≤ 140737488351232) (n7 : ins.length ≤ 140737488351232) :
    Calls Try.prog 8 #[.agg #[.slice ha hs.length hc, .slice la ls.length lc, .slice ga gs.length gc, .slice aa acs.length ac, .slice oa os.length oc, .int .i64 next, .slice ta ts.length tc, .slice ia ins.length ic]] w fun e w' => ChkAns w (checkP ⟨hs, ls, gs.map Gd.pl, acs, os, next, ts, ins⟩) e w' := by
  have hdef : checkP ⟨hs, ls, gs.map Gd.pl, acs, os, next, ts, ins⟩ = outK (lawsP ⟨hs, ls, gs.map Gd.pl, acs, os, next, ts, ins⟩) 5 := rfl
  rw [hdef]
  clear hdef
  obtain ⟨laws, hlaws⟩ : ∃ l, l = lawsP ⟨hs, ls, gs.map Gd.pl, acs, os, next, ts, ins⟩ := ⟨_, rfl⟩
  rw [← hlaws]
  have HLaws : Hid (laws = [ls.all (levelP (gs.map Gd.pl)), hs.all (holdP os), acs.all (accP os), ins.all (clearP hs (gs.map Gd.pl) acs), boundP ts next (liveP ins)]) := hid hlaws
  clear hlaws
  obtain ⟨i0, hi0, hz0, hz1, hz2⟩ := info_parts infoInt
  have hma : Mod (fun _ => False) w (w.alloc (.cells #[.slice ha hs.length hc, .slice la ls.length lc, .slice ga gs.length gc, .slice aa acs.length ac, .slice oa os.length oc, .int .i64 next, .slice ta ts.length tc, .slice ia ins.length ic] 44)) := (Mod.refl _ _).alloc _
  have hcb : (w.alloc (.cells #[.slice ha hs.length hc, .slice la ls.length lc, .slice ga gs.length gc, .slice aa acs.length ac, .slice oa os.length oc, .int .i64 next, .slice ta ts.length tc, .slice ia ins.length ic] 44)).heap[w.heap.size]? = some (.cells #[.slice ha hs.length hc, .slice la ls.length lc, .slice ga gs.length gc, .slice aa acs.length ac, .slice oa os.length oc, .int .i64 next, .slice ta ts.length tc, .slice ia ins.length ic] 44 (0, 0)) := heap_alloc_new _ _
  have HM := hid hma
  have HB := hid hcb
  have HT := hid (t.ext hma)
  clear hma hcb t
  go_enter Try.func8, Try.ntmps8
  go_wp2_with fail
  generalize w.alloc (.cells #[.slice ha hs.length hc, .slice la ls.length lc, .slice ga gs.length gc, .slice aa acs.length ac, .slice oa os.length oc, .int .i64 next, .slice ta ts.length tc, .slice ia ins.length ic] 44) = C at *
  go_loopw [3, 4] (fun a c wr => ∃ k : Nat, k ≤ ls.length ∧ c = .int .i64 (k : Int) ∧ a = .bool ((ls.take k).all (levelP (gs.map Gd.pl))) ∧ Mod (fun _ => False) C wr) (fun _ c _ => ls.length - (intOf c).toNat)
  case atStart => exact ⟨0, Nat.zero_le _, rfl, rfl, Mod.refl _ _⟩
  case round =>
    obtain ⟨k, hk, rfl, rfl, hm⟩ := hrel
    have HMr3 := hid hm
    clear hm
    obtain ⟨w3, rfl⟩ : ∃ y : World, y = wr := ⟨wr, rfl⟩
    obtain ⟨b0, b1, b2, b3, b4, b5, b6, b7⟩ := row8 ((HMr3.out.block _ (lt_of_heap HB.out) (fun h => h)).trans HB.out)
    by_cases hlt : k < ls.length
    case neg =>
      have hke : k = ls.length := by omega
      subst hke
      rw [List.take_of_length_le (Nat.le_refl ls.length)]
      go_wp2_with fail
      clear b0 b1 b2 b3 b4 b5 b6 b7
      go_loopw [6, 7] (fun a c wr => ∃ k : Nat, k ≤ hs.length ∧ c = .int .i64 (k : Int) ∧ a = .bool ((hs.take k).all (holdP os)) ∧ Mod (fun _ => False) C wr) (fun _ c _ => hs.length - (intOf c).toNat)
      case atStart => exact ⟨0, Nat.zero_le _, rfl, rfl, HMr3.out⟩
      case round =>
        obtain ⟨k, hk, rfl, rfl, hm⟩ := hrel
        have HMr6 := hid hm
        clear hm
        obtain ⟨w6, rfl⟩ : ∃ y : World, y = wr := ⟨wr, rfl⟩
        obtain ⟨b0, b1, b2, b3, b4, b5, b6, b7⟩ := row8 ((HMr6.out.block _ (lt_of_heap HB.out) (fun h => h)).trans HB.out)
        by_cases hlt : k < hs.length
        case neg =>
          have hke : k = hs.length := by omega
          subst hke
          rw [List.take_of_length_le (Nat.le_refl hs.length)]
          go_wp2_with fail
          clear b0 b1 b2 b3 b4 b5 b6 b7
          go_loopw [10, 11] (fun a c wr => ∃ k : Nat, k ≤ acs.length ∧ c = .int .i64 (k : Int) ∧ a = .bool ((acs.take k).all (accP os)) ∧ Mod (fun _ => False) C wr) (fun _ c _ => acs.length - (intOf c).toNat)
          case atStart => exact ⟨0, Nat.zero_le _, rfl, rfl, HMr6.out⟩
          case round =>
            obtain ⟨k, hk, rfl, rfl, hm⟩ := hrel
            have HMr10 := hid hm
            clear hm
            obtain ⟨w10, rfl⟩ : ∃ y : World, y = wr := ⟨wr, rfl⟩
            obtain ⟨b0, b1, b2, b3, b4, b5, b6, b7⟩ := row8 ((HMr10.out.block _ (lt_of_heap HB.out) (fun h => h)).trans HB.out)
            by_cases hlt : k < acs.length
            case neg =>
              have hke : k = acs.length := by omega
              subst hke
              rw [List.take_of_length_le (Nat.le_refl acs.length)]
              go_wp2_with fail
              clear b0 b1 b2 b3 b4 b5 b6 b7
              go_loopw [14, 15] (fun a c wr => ∃ k : Nat, k ≤ ins.length ∧ c = .int .i64 (k : Int) ∧ a = .bool ((ins.take k).all (clearP hs (gs.map Gd.pl) acs)) ∧ Mod (fun _ => False) C wr) (fun _ c _ => ins.length - (intOf c).toNat)
              case atStart => exact ⟨0, Nat.zero_le _, rfl, rfl, HMr10.out⟩
              case round =>
                obtain ⟨k, hk, rfl, rfl, hm⟩ := hrel
                have HMr14 := hid hm
                clear hm
                obtain ⟨w14, rfl⟩ : ∃ y : World, y = wr := ⟨wr, rfl⟩
                obtain ⟨b0, b1, b2, b3, b4, b5, b6, b7⟩ := row8 ((HMr14.out.block _ (lt_of_heap HB.out) (fun h => h)).trans HB.out)
                by_cases hlt : k < ins.length
                case neg =>
                  have hke : k = ins.length := by omega
                  subst hke
                  rw [List.take_of_length_le (Nat.le_refl ins.length)]
                  go_wp2_with fail
                  clear b0 b1 b2 b3 b4 b5 b6 b7
                  obtain ⟨b0, b1, b2, b3, b4, b5, b6, b7⟩ := row8 ((HMr14.out.block _ (lt_of_heap HB.out) (fun h => h)).trans HB.out)
                  have HLv := hid (rlive_any (u0 := .slice ha hs.length hc) (u1 := .slice la ls.length lc) (u2 := .slice ga gs.length gc) (u3 := .slice aa acs.length ac) (u4 := .slice oa os.length oc) (u5 := .int .i64 next) (u6 := .slice ta ts.length tc) ic (HT.out.i.ext HMr14.out) n7)
                  obtain ⟨E0, hE0⟩ : ∃ b, b = (decide (liveP ins ≤ 16) && decide (ts.length ≤ 4096)) := ⟨_, rfl⟩
                  have HE0 := hid hE0
                  clear hE0
                  obtain ⟨n, hne⟩ : ∃ n, liveP ins = n := ⟨_, rfl⟩
                  rw [hne] at HLv
                  have HNe := hid hne
                  clear hne
                  go_upto_region 33 with (first | (go_at_call 10; refine HLv.out.mono ?_; rintro e w17 ⟨rfl, hm2⟩; have HM17 := hid (HMr14.out.trans hm2); clear hm2 b0 b1 b2 b3 b4 b5 b6 b7))
                  have b6 := row_at (j := 6) (v := .slice ta ts.length tc) ((HM17.out.block _ (lt_of_heap HB.out) (fun h => h)).trans HB.out) rfl
                  go_cut [18] (fun e wc => e = .bool E0 ∧ w17 = wc)
                  case first =>
                    by_cases h16 : n ≤ 16
                    · have d1 : decide ((n : Int) ≤ 16) = true := decide_eq_true (by omega)
                      have HW : Hid (decide ((ts.length : Int) ≤ 4096) = E0) := hid (by rw [HE0.out, HNe.out, decide_eq_true h16, Bool.true_and]; exact decide_eq_decide.2 (by omega))
                      clear h16
                      go_wp2_with fail
                      go_meet
                      case rel => exact ⟨by rw [HW.out], rfl⟩
                    · have d1 : decide ((n : Int) ≤ 16) = false := decide_eq_false (by omega)
                      have HW : Hid (false = E0) := hid (by rw [HE0.out, HNe.out, decide_eq_false h16, Bool.false_and])
                      clear h16
                      go_wp2_with fail
                      go_meet
                      case rel => exact ⟨by rw [← HW.out], rfl⟩
                  case rest =>
                    obtain ⟨rfl, rfl⟩ := hcut
                    clear b6
                    go_wp2_with fail
                    go_loopw [18, 19] (fun a c wr => ∃ k : Nat, k ≤ ts.length ∧ c = .int .i64 (k : Int) ∧ a = .bool (E0 && (List.range k).all (okAt ts next)) ∧ Mod (fun _ => False) C wr) (fun _ c _ => ts.length - (intOf c).toNat)
                    case atStart => exact ⟨0, Nat.zero_le _, rfl, by simp, HM17.out⟩
                    case round =>
                      obtain ⟨k, hk, rfl, rfl, hm⟩ := hrel
                      have HMr18 := hid hm
                      clear hm
                      obtain ⟨w18, rfl⟩ : ∃ y : World, y = wr := ⟨wr, rfl⟩
                      obtain ⟨b0, b1, b2, b3, b4, b5, b6, b7⟩ := row8 ((HMr18.out.block _ (lt_of_heap HB.out) (fun h => h)).trans HB.out)
                      by_cases hlt : k < ts.length
                      case neg =>
                        have hke : k = ts.length := by omega
                        subst hke
                        go_wp2_with fail
                        clear b0 b1 b2 b3 b4 b5 b6 b7
                        have HA5 : Hid (boundP ts next (liveP ins) = (E0 && (List.range ts.length).all (okAt ts next))) := hid (by rw [HE0.out]; rfl)
                        rw [HA5.out] at HLaws
                        generalize (E0 && (List.range ts.length).all (okAt ts next)) = A5 at *
                        generalize ls.all (levelP (gs.map Gd.pl)) = A1 at *
                        generalize hs.all (holdP os) = A2 at *
                        generalize acs.all (accP os) = A3 at *
                        generalize ins.all (clearP hs (gs.map Gd.pl) acs) = A4 at *
                        obtain ⟨W, rfl⟩ : ∃ y : World, y = w18 := ⟨w18, rfl⟩
                        have HMw := HMr18
                        clear HMr18
                        have hmf : Mod (fun _ => False) W (W.alloc (.cells #[.bool A1, .bool A2, .bool A3, .bool A4, .bool A5] 4)) := (Mod.refl _ _).alloc _
                        have HFb : Hid ((W.alloc (.cells #[.bool A1, .bool A2, .bool A3, .bool A4, .bool A5] 4)).heap[W.heap.size]? = some (.cells #[.bool A1, .bool A2, .bool A3, .bool A4, .bool A5] 4 (0, 0))) := hid (heap_alloc_new _ _)
                        have HMf := hid (HMw.out.trans hmf)
                        clear hmf
                        generalize W.alloc (.cells #[.bool A1, .bool A2, .bool A3, .bool A4, .bool A5] 4) = F at *
                        go_loopw [21, 22] (fun s c wr => ∃ (k : Nat) (sa : Option Addr) (cap : Nat), k ≤ 5 ∧ c = .int .i64 (k : Int) ∧ s = .slice sa (outK laws k).length cap ∧ Own wr 3 1 sa (outK laws k).length cap ((outK laws k).flatMap oneI) ∧ (∀ b, blk sa b → F.heap.size ≤ b) ∧ Mod (fun _ => False) F wr) (fun _ c _ => 5 - (intOf c).toNat)
                        case atStart => exact ⟨0, none, 0, Nat.zero_le _, rfl, rfl, Own.nil _ _ _, (fun b hb => (blk_none b hb).elim), Mod.refl _ _⟩
                        case round =>
                          obtain ⟨k, sa, cap, hk, rfl, rfl, hown, hnew, hm⟩ := hrel
                          have HOw := hid hown
                          have HNw := hid hnew
                          have HMr := hid hm
                          have HLen := hid (outK_len laws k)
                          clear hown hnew hm
                          by_cases hlt : k < 5
                          case neg =>
                            have hke : k = 5 := by omega
                            subst hke
                            go_wp2_with fail
                            go_ret
                            exact ⟨sa, cap, rfl, HOw.out.lies, HM.out.trans (HMf.out.trans HMr.out)⟩
                          case pos =>
                            as_aux_lemma =>
                              have hf := (HMr.out.block _ (lt_of_heap HFb.out) (fun h => h)).trans HFb.out
                              have hcase : k = 0 ∨ k = 1 ∨ k = 2 ∨ k = 3 ∨ k = 4 := by omega
                              rcases hcase with rfl | rfl | rfl | rfl | rfl
                              · have f0 := row_at (j := 0) (v := .bool A1) hf rfl
                                have HBl : Hid (laws[0]? = some A1) := hid (by rw [HLaws.out]; rfl)
                                clear hf
                                cases A1 with
                                | true =>
                                  have HE := hid (out_true HBl.out)
                                  go_wp2_with fail
                                  go_roundw
                                  case rel => exact ⟨1, sa, cap, by omega, by go_num, by rw [HE.out], by rw [HE.out]; exact HOw.out, HNw.out, HMr.out⟩
                                  case measure => simp [intOf]
                                | false =>
                                  have HE := hid (out_false HBl.out)
                                  have hmn : Mod (fun _ => False) wr (wr.alloc (.cells #[.int .i64 1] 3)) := (Mod.refl _ _).alloc _
                                  have HMn := hid (HMr.out.trans hmn)
                                  have HOn := hid (HOw.out.mod hmn (fun _ _ h => h))
                                  have HSn : Hid (Src (wr.alloc (.cells #[.int .i64 1] 3)) 1 (some ⟨wr.heap.size, 0, none⟩) 1 [.int .i64 1]) := hid (src_new (heap_alloc_new _ _) rfl)
                                  clear hmn
                                  go_wp2_with (at_builtin; refine wpList_append_Own rfl (.tmp 243) (.tmp 246) 48 rfl 3 i0 _ 1 8 Try.underlying48 hi0 hz0 hz1 hz2 rfl sa (outK laws 0).length cap _ rfl HOn.out (some ⟨wr.heap.size, 0, none⟩) 1 1 _ rfl HSn.out (by intro u hu; simp at hu; subst hu; rfl) (by have := HLen.out; unfold maxLen; omega) (by have := HLen.out; omega) ?_; intro sa' cap' w6 hown6 hm6 hb6 hn6 hr6; have HO6 := hid hown6; have HM6 := hid hm6; have HB6 := hid hb6; clear hown6 hm6 hb6 hn6 hr6)
                                  go_roundw
                                  case rel =>
                                    refine ⟨1, sa', cap', by omega, by go_num, by rw [HE.out, List.length_append]; rfl, by rw [HE.out, List.length_append, List.flatMap_append]; exact HO6.out, (fun b hb => ?_), HMn.out.then HM6.out (fun i hi h => by have := HNw.out i h; omega)⟩
                                    rcases HB6.out b hb with h | h
                                    · exact HNw.out b h
                                    · have h1 := HMn.out.size
                                      omega
                                  case measure => simp [intOf]
                              · have f0 := row_at (j := 1) (v := .bool A2) hf rfl
                                have HBl : Hid (laws[1]? = some A2) := hid (by rw [HLaws.out]; rfl)
                                clear hf
                                cases A2 with
                                | true =>
                                  have HE := hid (out_true HBl.out)
                                  go_wp2_with fail
                                  go_roundw
                                  case rel => exact ⟨2, sa, cap, by omega, by go_num, by rw [HE.out], by rw [HE.out]; exact HOw.out, HNw.out, HMr.out⟩
                                  case measure => simp [intOf]
                                | false =>
                                  have HE := hid (out_false HBl.out)
                                  have hmn : Mod (fun _ => False) wr (wr.alloc (.cells #[.int .i64 2] 3)) := (Mod.refl _ _).alloc _
                                  have HMn := hid (HMr.out.trans hmn)
                                  have HOn := hid (HOw.out.mod hmn (fun _ _ h => h))
                                  have HSn : Hid (Src (wr.alloc (.cells #[.int .i64 2] 3)) 1 (some ⟨wr.heap.size, 0, none⟩) 1 [.int .i64 2]) := hid (src_new (heap_alloc_new _ _) rfl)
                                  clear hmn
                                  go_wp2_with (at_builtin; refine wpList_append_Own rfl (.tmp 243) (.tmp 246) 48 rfl 3 i0 _ 1 8 Try.underlying48 hi0 hz0 hz1 hz2 rfl sa (outK laws 1).length cap _ rfl HOn.out (some ⟨wr.heap.size, 0, none⟩) 1 1 _ rfl HSn.out (by intro u hu; simp at hu; subst hu; rfl) (by have := HLen.out; unfold maxLen; omega) (by have := HLen.out; omega) ?_; intro sa' cap' w6 hown6 hm6 hb6 hn6 hr6; have HO6 := hid hown6; have HM6 := hid hm6; have HB6 := hid hb6; clear hown6 hm6 hb6 hn6 hr6)
                                  go_roundw
                                  case rel =>
                                    refine ⟨2, sa', cap', by omega, by go_num, by rw [HE.out, List.length_append]; rfl, by rw [HE.out, List.length_append, List.flatMap_append]; exact HO6.out, (fun b hb => ?_), HMn.out.then HM6.out (fun i hi h => by have := HNw.out i h; omega)⟩
                                    rcases HB6.out b hb with h | h
                                    · exact HNw.out b h
                                    · have h1 := HMn.out.size
                                      omega
                                  case measure => simp [intOf]
                              · have f0 := row_at (j := 2) (v := .bool A3) hf rfl
                                have HBl : Hid (laws[2]? = some A3) := hid (by rw [HLaws.out]; rfl)
                                clear hf
                                cases A3 with
                                | true =>
                                  have HE := hid (out_true HBl.out)
                                  go_wp2_with fail
                                  go_roundw
                                  case rel => exact ⟨3, sa, cap, by omega, by go_num, by rw [HE.out], by rw [HE.out]; exact HOw.out, HNw.out, HMr.out⟩
                                  case measure => simp [intOf]
                                | false =>
                                  have HE := hid (out_false HBl.out)
                                  have hmn : Mod (fun _ => False) wr (wr.alloc (.cells #[.int .i64 3] 3)) := (Mod.refl _ _).alloc _
                                  have HMn := hid (HMr.out.trans hmn)
                                  have HOn := hid (HOw.out.mod hmn (fun _ _ h => h))
                                  have HSn : Hid (Src (wr.alloc (.cells #[.int .i64 3] 3)) 1 (some ⟨wr.heap.size, 0, none⟩) 1 [.int .i64 3]) := hid (src_new (heap_alloc_new _ _) rfl)
                                  clear hmn
                                  go_wp2_with (at_builtin; refine wpList_append_Own rfl (.tmp 243) (.tmp 246) 48 rfl 3 i0 _ 1 8 Try.underlying48 hi0 hz0 hz1 hz2 rfl sa (outK laws 2).length cap _ rfl HOn.out (some ⟨wr.heap.size, 0, none⟩) 1 1 _ rfl HSn.out (by intro u hu; simp at hu; subst hu; rfl) (by have := HLen.out; unfold maxLen; omega) (by have := HLen.out; omega) ?_; intro sa' cap' w6 hown6 hm6 hb6 hn6 hr6; have HO6 := hid hown6; have HM6 := hid hm6; have HB6 := hid hb6; clear hown6 hm6 hb6 hn6 hr6)
                                  go_roundw
                                  case rel =>
                                    refine ⟨3, sa', cap', by omega, by go_num, by rw [HE.out, List.length_append]; rfl, by rw [HE.out, List.length_append, List.flatMap_append]; exact HO6.out, (fun b hb => ?_), HMn.out.then HM6.out (fun i hi h => by have := HNw.out i h; omega)⟩
                                    rcases HB6.out b hb with h | h
                                    · exact HNw.out b h
                                    · have h1 := HMn.out.size
                                      omega
                                  case measure => simp [intOf]
                              · have f0 := row_at (j := 3) (v := .bool A4) hf rfl
                                have HBl : Hid (laws[3]? = some A4) := hid (by rw [HLaws.out]; rfl)
                                clear hf
                                cases A4 with
                                | true =>
                                  have HE := hid (out_true HBl.out)
                                  go_wp2_with fail
                                  go_roundw
                                  case rel => exact ⟨4, sa, cap, by omega, by go_num, by rw [HE.out], by rw [HE.out]; exact HOw.out, HNw.out, HMr.out⟩
                                  case measure => simp [intOf]
                                | false =>
                                  have HE := hid (out_false HBl.out)
                                  have hmn : Mod (fun _ => False) wr (wr.alloc (.cells #[.int .i64 4] 3)) := (Mod.refl _ _).alloc _
                                  have HMn := hid (HMr.out.trans hmn)
                                  have HOn := hid (HOw.out.mod hmn (fun _ _ h => h))
                                  have HSn : Hid (Src (wr.alloc (.cells #[.int .i64 4] 3)) 1 (some ⟨wr.heap.size, 0, none⟩) 1 [.int .i64 4]) := hid (src_new (heap_alloc_new _ _) rfl)
                                  clear hmn
                                  go_wp2_with (at_builtin; refine wpList_append_Own rfl (.tmp 243) (.tmp 246) 48 rfl 3 i0 _ 1 8 Try.underlying48 hi0 hz0 hz1 hz2 rfl sa (outK laws 3).length cap _ rfl HOn.out (some ⟨wr.heap.size, 0, none⟩) 1 1 _ rfl HSn.out (by intro u hu; simp at hu; subst hu; rfl) (by have := HLen.out; unfold maxLen; omega) (by have := HLen.out; omega) ?_; intro sa' cap' w6 hown6 hm6 hb6 hn6 hr6; have HO6 := hid hown6; have HM6 := hid hm6; have HB6 := hid hb6; clear hown6 hm6 hb6 hn6 hr6)
                                  go_roundw
                                  case rel =>
                                    refine ⟨4, sa', cap', by omega, by go_num, by rw [HE.out, List.length_append]; rfl, by rw [HE.out, List.length_append, List.flatMap_append]; exact HO6.out, (fun b hb => ?_), HMn.out.then HM6.out (fun i hi h => by have := HNw.out i h; omega)⟩
                                    rcases HB6.out b hb with h | h
                                    · exact HNw.out b h
                                    · have h1 := HMn.out.size
                                      omega
                                  case measure => simp [intOf]
                              · have f0 := row_at (j := 4) (v := .bool A5) hf rfl
                                have HBl : Hid (laws[4]? = some A5) := hid (by rw [HLaws.out]; rfl)
                                clear hf
                                cases A5 with
                                | true =>
                                  have HE := hid (out_true HBl.out)
                                  go_wp2_with fail
                                  go_roundw
                                  case rel => exact ⟨5, sa, cap, by omega, by go_num, by rw [HE.out], by rw [HE.out]; exact HOw.out, HNw.out, HMr.out⟩
                                  case measure => simp [intOf]
                                | false =>
                                  have HE := hid (out_false HBl.out)
                                  have hmn : Mod (fun _ => False) wr (wr.alloc (.cells #[.int .i64 5] 3)) := (Mod.refl _ _).alloc _
                                  have HMn := hid (HMr.out.trans hmn)
                                  have HOn := hid (HOw.out.mod hmn (fun _ _ h => h))
                                  have HSn : Hid (Src (wr.alloc (.cells #[.int .i64 5] 3)) 1 (some ⟨wr.heap.size, 0, none⟩) 1 [.int .i64 5]) := hid (src_new (heap_alloc_new _ _) rfl)
                                  clear hmn
                                  go_wp2_with (at_builtin; refine wpList_append_Own rfl (.tmp 243) (.tmp 246) 48 rfl 3 i0 _ 1 8 Try.underlying48 hi0 hz0 hz1 hz2 rfl sa (outK laws 4).length cap _ rfl HOn.out (some ⟨wr.heap.size, 0, none⟩) 1 1 _ rfl HSn.out (by intro u hu; simp at hu; subst hu; rfl) (by have := HLen.out; unfold maxLen; omega) (by have := HLen.out; omega) ?_; intro sa' cap' w6 hown6 hm6 hb6 hn6 hr6; have HO6 := hid hown6; have HM6 := hid hm6; have HB6 := hid hb6; clear hown6 hm6 hb6 hn6 hr6)
                                  go_roundw
                                  case rel =>
                                    refine ⟨5, sa', cap', by omega, by go_num, by rw [HE.out, List.length_append]; rfl, by rw [HE.out, List.length_append, List.flatMap_append]; exact HO6.out, (fun b hb => ?_), HMn.out.then HM6.out (fun i hi h => by have := HNw.out i h; omega)⟩
                                    rcases HB6.out b hb with h | h
                                    · exact HNw.out b h
                                    · have h1 := HMn.out.size
                                      omega
                                  case measure => simp [intOf]
                      case pos =>
                        as_aux_lemma =>
                          obtain ⟨x, hx⟩ : ∃ x, ts[k]? = some x := ⟨_, List.getElem?_eq_getElem hlt⟩
                          have HS : Hid ((E0 && (List.range (k + 1)).all (okAt ts next)) = ((E0 && (List.range k).all (okAt ts next)) && okAt ts next k)) := hid (by rw [range_succ_all, Bool.and_assoc])
                          have hlc := HT.out.t.ext HMr18.out
                          obtain ⟨g, off, hge⟩ := hlc.some (by omega)
                          have HX := hid hx
                          obtain ⟨xi⟩ := x
                          have h0 := fun v : Ext w18 => v.cell ((hge ▸ hlc : Lies w18 8 KP.cs (some ⟨g, off, none⟩) ts).cell KP.len hx (j := 0) rfl)
                          rw [Nat.add_zero] at h0
                          simp only at h0
                          have HLc := hid hlc
                          subst hge
                          have g5 := fun v : Ext w18 => v.cell b5
                          have g6 := fun v : Ext w18 => v.cell b6
                          have i1 : (0 : Int) ≤ (k : Int) := by omega
                          have i2 : (k : Int) < (ts.length : Int) := by omega
                          clear hx hlc
                          generalize (E0 && (List.range k).all (okAt ts next)) = bb at *
                          cases bb with
                          | false =>
                            go_wp2_with fail
                            clear b0 b1 b2 b3 b4 b5 b6 b7
                            refine wp_region_ext (by kernel_rfl) (by kernel_rfl) ?_
                            repeat (go_big_quiet_step (fail))
                            refine wpQuiet_nil ?_
                            rintro _ ⟨v, rfl⟩
                            clear g5 g6 h0
                            go_wp2_with fail
                            go_roundw
                            case rel => exact ⟨k + 1, by omega, by go_num, by rw [HS.out, Bool.false_and], HMr18.out.trans v.mod⟩
                            case measure => simp [intOf]; omega
                          | true =>
                            cases k with
                            | zero =>
                              have HW : Hid (okAt ts next 0 = decide (xi < next)) := hid (ok_zero HX.out)
                              have z0 : ((0 : Nat) : Int) = 0 := rfl
                              have z1 : (0 : Int) < (ts.length : Int) := by omega
                              simp only [Nat.zero_mul, Nat.add_zero] at h0
                              by_cases hnx : xi < next
                              · have d1 : decide (xi < next) = true := decide_eq_true hnx
                                rw [d1] at HW
                                clear hnx
                                go_wp2_with fail
                                clear b0 b1 b2 b3 b4 b5 b6 b7
                                refine wp_region_ext (by kernel_rfl) (by kernel_rfl) ?_
                                repeat (go_big_quiet_step (fail))
                                refine wpQuiet_nil ?_
                                rintro _ ⟨v, rfl⟩
                                clear g5 g6 h0
                                go_wp2_with fail
                                go_roundw
                                case rel => exact ⟨0 + 1, by omega, by go_num, by rw [HS.out, HW.out]; rfl, HMr18.out.trans v.mod⟩
                                case measure => simp [intOf]; omega
                              · have d1 : decide (xi < next) = false := decide_eq_false hnx
                                rw [d1] at HW
                                clear hnx
                                go_wp2_with fail
                                clear b0 b1 b2 b3 b4 b5 b6 b7
                                refine wp_region_ext (by kernel_rfl) (by kernel_rfl) ?_
                                repeat (go_big_quiet_step (fail))
                                refine wpQuiet_nil ?_
                                rintro _ ⟨v, rfl⟩
                                clear g5 g6 h0
                                go_wp2_with fail
                                go_roundw
                                case rel => exact ⟨0 + 1, by omega, by go_num, by rw [HS.out, HW.out]; rfl, HMr18.out.trans v.mod⟩
                                case measure => simp [intOf]; omega
                            | succ k =>
                              obtain ⟨z, hz⟩ : ∃ z, ts[k]? = some z := ⟨_, List.getElem?_eq_getElem (by omega)⟩
                              have HE : Hid (okAt ts next (k + 1) = (decide (xi < next) && decide (z.i < xi))) := hid (ok_succ HX.out hz)
                              have h9 := fun v : Ext w18 => v.cell (HLc.out.cell KP.len hz (j := 0) rfl)
                              rw [Nat.add_zero] at h9
                              obtain ⟨zi⟩ := z
                              simp only at h9 HE
                              have z0 : ((k + 1 : Nat) : Int) = (k : Int) + 1 := by omega
                              have z1 : (0 : Int) ≤ (k : Int) := by omega
                              have z2 : (k : Int) < (ts.length : Int) := by omega
                              have z3 : ((k : Int) + 1 == 0) = false := beq_eq_false_iff_ne.2 (by omega)
                              have z4 : IntKind.i64.wrap ((k : Int) + 1 - 1) = (k : Int) := by rw [IntKind.wrap_i64]; omega
                              have z5 : wrap64 ((k : Int) + 1 - 1) = (k : Int) := by unfold wrap64; omega
                              have z6 : (k : Int) + 1 < (ts.length : Int) := by omega
                              have z7 : (0 : Int) ≤ (k : Int) + 1 := by omega
                              clear hz
                              by_cases hnx : xi < next
                              · have d1 : decide (xi < next) = true := decide_eq_true hnx
                                have HW : Hid (okAt ts next (k + 1) = decide (zi < xi)) := hid (by rw [HE.out, d1, Bool.true_and])
                                clear hnx
                                go_wp2_with fail
                                clear b0 b1 b2 b3 b4 b5 b6 b7
                                refine wp_region_ext (by kernel_rfl) (by kernel_rfl) ?_
                                repeat (go_big_quiet_step (fail))
                                refine wpQuiet_nil ?_
                                rintro _ ⟨v, rfl⟩
                                clear g5 g6 h0 h9
                                go_wp2_with fail
                                go_roundw
                                case rel => exact ⟨(k + 1) + 1, by omega, by go_num, by rw [HS.out, HW.out]; rfl, HMr18.out.trans v.mod⟩
                                case measure => simp [intOf]; omega
                              · have d1 : decide (xi < next) = false := decide_eq_false hnx
                                have HW : Hid (okAt ts next (k + 1) = false) := hid (by rw [HE.out, d1, Bool.false_and])
                                clear hnx
                                go_wp2_with fail
                                clear b0 b1 b2 b3 b4 b5 b6 b7
                                refine wp_region_ext (by kernel_rfl) (by kernel_rfl) ?_
                                repeat (go_big_quiet_step (fail))
                                refine wpQuiet_nil ?_
                                rintro _ ⟨v, rfl⟩
                                clear g5 g6 h0 h9
                                go_wp2_with fail
                                go_roundw
                                case rel => exact ⟨(k + 1) + 1, by omega, by go_num, by rw [HS.out, HW.out]; rfl, HMr18.out.trans v.mod⟩
                                case measure => simp [intOf]; omega
                case pos =>
                  as_aux_lemma =>
                    obtain ⟨x, hx⟩ : ∃ x, ins[k]? = some x := ⟨_, List.getElem?_eq_getElem hlt⟩
                    have HS := hid (all_succ (clearP hs (gs.map Gd.pl) acs) hx)
                    have hlc := HT.out.i.ext HMr14.out
                    have HK := hid (fun v : Ext w14 => rclear_any (u1 := .slice la ls.length lc) (u4 := .slice oa os.length oc) (u5 := .int .i64 next) (u6 := .slice ta ts.length tc) (u7 := .slice ia ins.length ic) hc gc ac x ((HT.out.h.ext HMr14.out).ext v.mod) ((HT.out.g.g.ext HMr14.out).ext v.mod) ((HT.out.a.ext HMr14.out).ext v.mod) n1 n3 n4)
                    obtain ⟨g, off, hge⟩ := hlc.some (by omega)
                    obtain ⟨xo, xs⟩ := x
                    simp only at HK
                    have h0 := fun v : Ext w14 => v.cell ((hge ▸ hlc : Lies w14 6 IP.cs (some ⟨g, off, none⟩) ins).cell IP.len hx (j := 0) rfl)
                    have h1 := fun v : Ext w14 => v.cell ((hge ▸ hlc : Lies w14 6 IP.cs (some ⟨g, off, none⟩) ins).cell IP.len hx (j := 1) rfl)
                    have h2 := fun v : Ext w14 => v.cell ((hge ▸ hlc : Lies w14 6 IP.cs (some ⟨g, off, none⟩) ins).cell IP.len hx (j := 2) rfl)
                    have h3 := fun v : Ext w14 => v.cell ((hge ▸ hlc : Lies w14 6 IP.cs (some ⟨g, off, none⟩) ins).cell IP.len hx (j := 3) rfl)
                    have h4 := fun v : Ext w14 => v.cell ((hge ▸ hlc : Lies w14 6 IP.cs (some ⟨g, off, none⟩) ins).cell IP.len hx (j := 4) rfl)
                    have h5 := fun v : Ext w14 => v.cell ((hge ▸ hlc : Lies w14 6 IP.cs (some ⟨g, off, none⟩) ins).cell IP.len hx (j := 5) rfl)
                    rw [Nat.add_zero] at h0
                    simp only at h0 h1 h2 h3 h4 h5
                    have i1 : (0 : Int) ≤ (k : Int) := by omega
                    have i2 : (k : Int) < (ins.length : Int) := by omega
                    subst hge
                    have g0 := fun v : Ext w14 => v.cell b0
                    have g1 := fun v : Ext w14 => v.cell b1
                    have g2 := fun v : Ext w14 => v.cell b2
                    have g3 := fun v : Ext w14 => v.cell b3
                    have g4 := fun v : Ext w14 => v.cell b4
                    have g5 := fun v : Ext w14 => v.cell b5
                    have g6 := fun v : Ext w14 => v.cell b6
                    have g7 := fun v : Ext w14 => v.cell b7
                    clear hx hlc
                    generalize (ins.take k).all (clearP hs (gs.map Gd.pl) acs) = bb at *
                    generalize clearP hs (gs.map Gd.pl) acs ⟨xo, xs⟩ = bx at *
                    go_wp2_with fail
                    clear b0 b1 b2 b3 b4 b5 b6 b7
                    refine wp_region_ext (by kernel_rfl) (by kernel_rfl) ?_
                    repeat (go_big_quiet_step ((go_at_call 19; exact ext_call (HK.out _))))
                    refine wpQuiet_nil ?_
                    rintro _ ⟨v, rfl⟩
                    clear g0 g1 g2 g3 g4 g5 g6 g7 h0 h1 h2 h3 h4 h5
                    cases bb with
                    | true =>
                      go_wp2_with fail
                      go_roundw
                      case rel => exact ⟨k + 1, by omega, by go_num, by rw [HS.out]; rfl, HMr14.out.trans v.mod⟩
                      case measure => simp [intOf]; omega
                    | false =>
                      go_wp2_with fail
                      go_roundw
                      case rel => exact ⟨k + 1, by omega, by go_num, by rw [HS.out]; rfl, HMr14.out.trans v.mod⟩
                      case measure => simp [intOf]; omega
            case pos =>
              as_aux_lemma =>
                obtain ⟨x, hx⟩ : ∃ x, acs[k]? = some x := ⟨_, List.getElem?_eq_getElem hlt⟩
                have HS := hid (all_succ (accP os) hx)
                have hlc := HT.out.a.ext HMr10.out
                obtain ⟨g, off, hge⟩ := hlc.some (by omega)
                obtain ⟨ho, hcu, hst, han, hat⟩ := x
                have q0 := (hge ▸ hlc : Lies w10 9 AP.cs (some ⟨g, off, none⟩) acs).cell AP.len hx (j := 0) rfl
                have q1 := (hge ▸ hlc : Lies w10 9 AP.cs (some ⟨g, off, none⟩) acs).cell AP.len hx (j := 1) rfl
                have q2 := (hge ▸ hlc : Lies w10 9 AP.cs (some ⟨g, off, none⟩) acs).cell AP.len hx (j := 2) rfl
                have q3 := (hge ▸ hlc : Lies w10 9 AP.cs (some ⟨g, off, none⟩) acs).cell AP.len hx (j := 3) rfl
                have q4 := (hge ▸ hlc : Lies w10 9 AP.cs (some ⟨g, off, none⟩) acs).cell AP.len hx (j := 4) rfl
                have q5 := (hge ▸ hlc : Lies w10 9 AP.cs (some ⟨g, off, none⟩) acs).cell AP.len hx (j := 5) rfl
                have q6 := (hge ▸ hlc : Lies w10 9 AP.cs (some ⟨g, off, none⟩) acs).cell AP.len hx (j := 6) rfl
                have q7 := (hge ▸ hlc : Lies w10 9 AP.cs (some ⟨g, off, none⟩) acs).cell AP.len hx (j := 7) rfl
                have q8 := (hge ▸ hlc : Lies w10 9 AP.cs (some ⟨g, off, none⟩) acs).cell AP.len hx (j := 8) rfl
                rw [Nat.add_zero] at q0
                simp only at q0 q1 q2 q3 q4 q5 q6 q7 q8
                have hma : Mod (fun _ => False) w10 (w10.alloc (.cells #[.int .i64 ho, .int .i64 hcu, .int .i64 hst, .int .i64 0, .int .i64 han, .int .i64 hat, .int .i64 0, .int .i64 0, .int .i64 0] 72)) := (Mod.refl _ _).alloc _
                have hcx : (w10.alloc (.cells #[.int .i64 ho, .int .i64 hcu, .int .i64 hst, .int .i64 0, .int .i64 han, .int .i64 hat, .int .i64 0, .int .i64 0, .int .i64 0] 72)).heap[w10.heap.size]? = some (.cells #[.int .i64 ho, .int .i64 hcu, .int .i64 hst, .int .i64 0, .int .i64 han, .int .i64 hat, .int .i64 0, .int .i64 0, .int .i64 0] 72 (0, 0)) := heap_alloc_new _ _
                have HMa := hid (HMr10.out.trans hma)
                have HCx := hid hcx
                have HBa := hid ((HMa.out.block _ (lt_of_heap HB.out) (fun h => h)).trans HB.out)
                have HOa := hid (HT.out.o.ext HMa.out)
                have HK := hid (rfind_any (u0 := .slice ha hs.length hc) (u1 := .slice la ls.length lc) (u2 := .slice ga gs.length gc) (u3 := .slice aa acs.length ac) (u5 := .int .i64 next) (u6 := .slice ta ts.length tc) (u7 := .slice ia ins.length ic) oc ho HOa.out n5)
                have i1 : (0 : Int) ≤ (k : Int) := by omega
                have i2 : (k : Int) < (acs.length : Int) := by omega
                subst hge
                clear hx hlc hma hcx
                generalize (acs.take k).all (accP os) = bb at *
                go_upto_region 21 with fail
                clear q0 q1 q2 q3 q4 q5 q6 q7 q8 b0 b1 b2 b3 b4 b5 b6 b7
                generalize w10.alloc (.cells #[.int .i64 ho, .int .i64 hcu, .int .i64 hst, .int .i64 0, .int .i64 han, .int .i64 hat, .int .i64 0, .int .i64 0, .int .i64 0] 72) = D at *
                obtain ⟨b0, b1, b2, b3, b4, b5, b6, b7⟩ := row8 HBa.out
                obtain ⟨e0, e1, e2, e3, e4, e5, e6, e7, e8⟩ := row9 HCx.out
                by_cases s1 : hst = 1
                · subst s1
                  have HS12 : Hid ((1 : Int) = 1 ∨ (1 : Int) = 2) := hid (.inl rfl)
                  go_upto_region 22 with fail
                  have HPd : Hid (accP os ⟨ho, hcu, 1, han, hat⟩ = match os.find? (fun o => o.i == ho) with | none => false | some o => decide (o.c = hcu) && (decide (o.n = han) && decide (o.t = hat))) := hid (by unfold accP; rw [if_pos HS12.out]; rfl)
                  have HF := hid (idx_find (fun o : OP => o.i == ho) os)
                  rcases HF.out with ⟨hi, hf⟩ | ⟨m, z, hi, hz, hf⟩
                  · rw [hi] at HK
                    have HW : Hid (accP os ⟨ho, hcu, 1, han, hat⟩ = false) := hid (by rw [HPd.out, hf])
                    clear hi hf HF HPd
                    cases bb with
                    | true =>
                      go_wp2_with (first | (go_at_call 18; refine HK.out.mono ?_; rintro e w2 ⟨rfl, hm2⟩; have HM2 := hid (HMa.out.trans hm2); have HC2 := hid ((hm2.block _ (lt_of_heap HCx.out) (fun h => h)).trans HCx.out); clear b0 b1 b2 b3 b4 b5 b6 b7 e0 e1 e2 e3 e4 e5 e6 e7 e8; obtain ⟨b0, b1, b2, b3, b4, b5, b6, b7⟩ := row8 ((HM2.out.block _ (lt_of_heap HB.out) (fun h => h)).trans HB.out); obtain ⟨e0, e1, e2, e3, e4, e5, e6, e7, e8⟩ := row9 HC2.out; clear hm2))
                      go_roundw
                      case rel => exact ⟨k + 1, by omega, by go_num, by rw [HS.out, HW.out]; rfl, HM2.out⟩
                      case measure => simp [intOf]; omega
                    | false =>
                      go_wp2_with (first | (go_at_call 18; refine HK.out.mono ?_; rintro e w2 ⟨rfl, hm2⟩; have HM2 := hid (HMa.out.trans hm2); have HC2 := hid ((hm2.block _ (lt_of_heap HCx.out) (fun h => h)).trans HCx.out); clear b0 b1 b2 b3 b4 b5 b6 b7 e0 e1 e2 e3 e4 e5 e6 e7 e8; obtain ⟨b0, b1, b2, b3, b4, b5, b6, b7⟩ := row8 ((HM2.out.block _ (lt_of_heap HB.out) (fun h => h)).trans HB.out); obtain ⟨e0, e1, e2, e3, e4, e5, e6, e7, e8⟩ := row9 HC2.out; clear hm2))
                      go_roundw
                      case rel => exact ⟨k + 1, by omega, by go_num, by rw [HS.out, HW.out]; rfl, HM2.out⟩
                      case measure => simp [intOf]; omega
                  · rw [hi] at HK
                    have HXo := hid hz
                    have hmn : m < os.length := (List.getElem?_eq_some_iff.1 hz).1
                    have m0 : decide ((0 : Int) ≤ (m : Int)) = true := decide_eq_true (by omega)
                    have m1 : (0 : Int) ≤ (m : Int) := by omega
                    have m2 : (m : Int) < (os.length : Int) := by omega
                    have HVz : Hid (accP os ⟨ho, hcu, 1, han, hat⟩ = (decide (z.c = hcu) && (decide (z.n = han) && decide (z.t = hat)))) := hid (by rw [HPd.out, hf])
                    obtain ⟨zi, zc, zn, zt⟩ := z
                    simp only at HVz
                    obtain ⟨g5, off5, hog⟩ := HOa.out.some (by omega)
                    subst hog
                    clear hi hf HF HPd hz
                    cases bb with
                    | false =>
                      go_upto_region 25 with (first | (go_at_call 18; refine HK.out.mono ?_; rintro e w2 ⟨rfl, hm2⟩; have HM2 := hid (HMa.out.trans hm2); have HC2 := hid ((hm2.block _ (lt_of_heap HCx.out) (fun h => h)).trans HCx.out); clear b0 b1 b2 b3 b4 b5 b6 b7 e0 e1 e2 e3 e4 e5 e6 e7 e8; obtain ⟨b0, b1, b2, b3, b4, b5, b6, b7⟩ := row8 ((HM2.out.block _ (lt_of_heap HB.out) (fun h => h)).trans HB.out); obtain ⟨e0, e1, e2, e3, e4, e5, e6, e7, e8⟩ := row9 HC2.out; clear hm2))
                      clear b0 b1 b2 b3 b4 b5 b6 b7 e0 e1 e2 e3 e4 e5 e6 e7 e8
                      refine wp_region_ext (by kernel_rfl) (by kernel_rfl) ?_
                      repeat (go_big_quiet_step (fail))
                      refine wpQuiet_nil ?_
                      rintro _ ⟨v, rfl⟩
                      go_wp2_with fail
                      go_roundw
                      case rel => exact ⟨k + 1, by omega, by go_num, by rw [HS.out, Bool.false_and], HM2.out.trans v.mod⟩
                      case measure => simp [intOf]; omega
                    | true =>
                      by_cases h1 : zc = hcu
                      · have y1 : (zc == hcu) = true := by simpa using h1
                        by_cases h2 : zn = han
                        · have y2 : (zn == han) = true := by simpa using h2
                          have HW : Hid (accP os ⟨ho, hcu, 1, han, hat⟩ = (zt == hat)) := hid (by rw [HVz.out, decide_eq_true h1, decide_eq_true h2]; by_cases h : zt = hat <;> simp [h])
                          clear h1 h2
                          go_upto_region 25 with (first | (go_at_call 18; refine HK.out.mono ?_; rintro e w2 ⟨rfl, hm2⟩; have HM2 := hid (HMa.out.trans hm2); have HC2 := hid ((hm2.block _ (lt_of_heap HCx.out) (fun h => h)).trans HCx.out); clear b0 b1 b2 b3 b4 b5 b6 b7 e0 e1 e2 e3 e4 e5 e6 e7 e8; obtain ⟨b0, b1, b2, b3, b4, b5, b6, b7⟩ := row8 ((HM2.out.block _ (lt_of_heap HB.out) (fun h => h)).trans HB.out); obtain ⟨e0, e1, e2, e3, e4, e5, e6, e7, e8⟩ := row9 HC2.out; clear hm2))
                          have hlo := HT.out.o.ext HM2.out
                          have h1 := fun v : Ext w2 => v.cell (hlo.cell OP.len HXo.out (j := 1) rfl)
                          have h4 := fun v : Ext w2 => v.cell (hlo.cell OP.len HXo.out (j := 4) rfl)
                          have h5 := fun v : Ext w2 => v.cell (hlo.cell OP.len HXo.out (j := 5) rfl)
                          simp only at h1 h4 h5
                          have g4 := fun v : Ext w2 => v.cell b4
                          have j1 := fun v : Ext w2 => v.cell e1
                          have j4 := fun v : Ext w2 => v.cell e4
                          have j5 := fun v : Ext w2 => v.cell e5
                          clear hlo
                          clear b0 b1 b2 b3 b4 b5 b6 b7 e0 e1 e2 e3 e4 e5 e6 e7 e8
                          refine wp_region_ext (by kernel_rfl) (by kernel_rfl) ?_
                          repeat (go_big_quiet_step (fail))
                          refine wpQuiet_nil ?_
                          rintro _ ⟨v, rfl⟩
                          clear h1 h4 h5 g4 j1 j4 j5
                          go_wp2_with fail
                          go_roundw
                          case rel => exact ⟨k + 1, by omega, by go_num, by rw [HS.out, HW.out]; rfl, HM2.out.trans v.mod⟩
                          case measure => simp [intOf]; omega
                        · have y2 : (zn == han) = false := by simpa using h2
                          have HW : Hid (accP os ⟨ho, hcu, 1, han, hat⟩ = false) := hid (by rw [HVz.out, decide_eq_true h1, decide_eq_false h2]; rfl)
                          clear h1 h2
                          go_upto_region 25 with (first | (go_at_call 18; refine HK.out.mono ?_; rintro e w2 ⟨rfl, hm2⟩; have HM2 := hid (HMa.out.trans hm2); have HC2 := hid ((hm2.block _ (lt_of_heap HCx.out) (fun h => h)).trans HCx.out); clear b0 b1 b2 b3 b4 b5 b6 b7 e0 e1 e2 e3 e4 e5 e6 e7 e8; obtain ⟨b0, b1, b2, b3, b4, b5, b6, b7⟩ := row8 ((HM2.out.block _ (lt_of_heap HB.out) (fun h => h)).trans HB.out); obtain ⟨e0, e1, e2, e3, e4, e5, e6, e7, e8⟩ := row9 HC2.out; clear hm2))
                          have hlo := HT.out.o.ext HM2.out
                          have h1 := fun v : Ext w2 => v.cell (hlo.cell OP.len HXo.out (j := 1) rfl)
                          have h4 := fun v : Ext w2 => v.cell (hlo.cell OP.len HXo.out (j := 4) rfl)
                          have h5 := fun v : Ext w2 => v.cell (hlo.cell OP.len HXo.out (j := 5) rfl)
                          simp only at h1 h4 h5
                          have g4 := fun v : Ext w2 => v.cell b4
                          have j1 := fun v : Ext w2 => v.cell e1
                          have j4 := fun v : Ext w2 => v.cell e4
                          have j5 := fun v : Ext w2 => v.cell e5
                          clear hlo
                          clear b0 b1 b2 b3 b4 b5 b6 b7 e0 e1 e2 e3 e4 e5 e6 e7 e8
                          refine wp_region_ext (by kernel_rfl) (by kernel_rfl) ?_
                          repeat (go_big_quiet_step (fail))
                          refine wpQuiet_nil ?_
                          rintro _ ⟨v, rfl⟩
                          clear h1 h4 h5 g4 j1 j4 j5
                          go_wp2_with fail
                          go_roundw
                          case rel => exact ⟨k + 1, by omega, by go_num, by rw [HS.out, HW.out]; rfl, HM2.out.trans v.mod⟩
                          case measure => simp [intOf]; omega
                      · have y1 : (zc == hcu) = false := by simpa using h1
                        have HW : Hid (accP os ⟨ho, hcu, 1, han, hat⟩ = false) := hid (by rw [HVz.out, decide_eq_false h1]; rfl)
                        clear h1
                        go_upto_region 25 with (first | (go_at_call 18; refine HK.out.mono ?_; rintro e w2 ⟨rfl, hm2⟩; have HM2 := hid (HMa.out.trans hm2); have HC2 := hid ((hm2.block _ (lt_of_heap HCx.out) (fun h => h)).trans HCx.out); clear b0 b1 b2 b3 b4 b5 b6 b7 e0 e1 e2 e3 e4 e5 e6 e7 e8; obtain ⟨b0, b1, b2, b3, b4, b5, b6, b7⟩ := row8 ((HM2.out.block _ (lt_of_heap HB.out) (fun h => h)).trans HB.out); obtain ⟨e0, e1, e2, e3, e4, e5, e6, e7, e8⟩ := row9 HC2.out; clear hm2))
                        have hlo := HT.out.o.ext HM2.out
                        have h1 := fun v : Ext w2 => v.cell (hlo.cell OP.len HXo.out (j := 1) rfl)
                        have h4 := fun v : Ext w2 => v.cell (hlo.cell OP.len HXo.out (j := 4) rfl)
                        have h5 := fun v : Ext w2 => v.cell (hlo.cell OP.len HXo.out (j := 5) rfl)
                        simp only at h1 h4 h5
                        have g4 := fun v : Ext w2 => v.cell b4
                        have j1 := fun v : Ext w2 => v.cell e1
                        have j4 := fun v : Ext w2 => v.cell e4
                        have j5 := fun v : Ext w2 => v.cell e5
                        clear hlo
                        clear b0 b1 b2 b3 b4 b5 b6 b7 e0 e1 e2 e3 e4 e5 e6 e7 e8
                        refine wp_region_ext (by kernel_rfl) (by kernel_rfl) ?_
                        repeat (go_big_quiet_step (fail))
                        refine wpQuiet_nil ?_
                        rintro _ ⟨v, rfl⟩
                        clear h1 h4 h5 g4 j1 j4 j5
                        go_wp2_with fail
                        go_roundw
                        case rel => exact ⟨k + 1, by omega, by go_num, by rw [HS.out, HW.out]; rfl, HM2.out.trans v.mod⟩
                        case measure => simp [intOf]; omega
                · by_cases s2 : hst = 2
                  · subst s2
                    have HS12 : Hid ((2 : Int) = 1 ∨ (2 : Int) = 2) := hid (.inr rfl)
                    clear s1
                    go_upto_region 22 with fail
                    have HPd : Hid (accP os ⟨ho, hcu, 2, han, hat⟩ = match os.find? (fun o => o.i == ho) with | none => false | some o => decide (o.c = hcu) && (decide (o.n = han) && decide (o.t = hat))) := hid (by unfold accP; rw [if_pos HS12.out]; rfl)
                    have HF := hid (idx_find (fun o : OP => o.i == ho) os)
                    rcases HF.out with ⟨hi, hf⟩ | ⟨m, z, hi, hz, hf⟩
                    · rw [hi] at HK
                      have HW : Hid (accP os ⟨ho, hcu, 2, han, hat⟩ = false) := hid (by rw [HPd.out, hf])
                      clear hi hf HF HPd
                      cases bb with
                      | true =>
                        go_wp2_with (first | (go_at_call 18; refine HK.out.mono ?_; rintro e w2 ⟨rfl, hm2⟩; have HM2 := hid (HMa.out.trans hm2); have HC2 := hid ((hm2.block _ (lt_of_heap HCx.out) (fun h => h)).trans HCx.out); clear b0 b1 b2 b3 b4 b5 b6 b7 e0 e1 e2 e3 e4 e5 e6 e7 e8; obtain ⟨b0, b1, b2, b3, b4, b5, b6, b7⟩ := row8 ((HM2.out.block _ (lt_of_heap HB.out) (fun h => h)).trans HB.out); obtain ⟨e0, e1, e2, e3, e4, e5, e6, e7, e8⟩ := row9 HC2.out; clear hm2))
                        go_roundw
                        case rel => exact ⟨k + 1, by omega, by go_num, by rw [HS.out, HW.out]; rfl, HM2.out⟩
                        case measure => simp [intOf]; omega
                      | false =>
                        go_wp2_with (first | (go_at_call 18; refine HK.out.mono ?_; rintro e w2 ⟨rfl, hm2⟩; have HM2 := hid (HMa.out.trans hm2); have HC2 := hid ((hm2.block _ (lt_of_heap HCx.out) (fun h => h)).trans HCx.out); clear b0 b1 b2 b3 b4 b5 b6 b7 e0 e1 e2 e3 e4 e5 e6 e7 e8; obtain ⟨b0, b1, b2, b3, b4, b5, b6, b7⟩ := row8 ((HM2.out.block _ (lt_of_heap HB.out) (fun h => h)).trans HB.out); obtain ⟨e0, e1, e2, e3, e4, e5, e6, e7, e8⟩ := row9 HC2.out; clear hm2))
                        go_roundw
                        case rel => exact ⟨k + 1, by omega, by go_num, by rw [HS.out, HW.out]; rfl, HM2.out⟩
                        case measure => simp [intOf]; omega
                    · rw [hi] at HK
                      have HXo := hid hz
                      have hmn : m < os.length := (List.getElem?_eq_some_iff.1 hz).1
                      have m0 : decide ((0 : Int) ≤ (m : Int)) = true := decide_eq_true (by omega)
                      have m1 : (0 : Int) ≤ (m : Int) := by omega
                      have m2 : (m : Int) < (os.length : Int) := by omega
                      have HVz : Hid (accP os ⟨ho, hcu, 2, han, hat⟩ = (decide (z.c = hcu) && (decide (z.n = han) && decide (z.t = hat)))) := hid (by rw [HPd.out, hf])
                      obtain ⟨zi, zc, zn, zt⟩ := z
                      simp only at HVz
                      obtain ⟨g5, off5, hog⟩ := HOa.out.some (by omega)
                      subst hog
                      clear hi hf HF HPd hz
                      cases bb with
                      | false =>
                        go_upto_region 25 with (first | (go_at_call 18; refine HK.out.mono ?_; rintro e w2 ⟨rfl, hm2⟩; have HM2 := hid (HMa.out.trans hm2); have HC2 := hid ((hm2.block _ (lt_of_heap HCx.out) (fun h => h)).trans HCx.out); clear b0 b1 b2 b3 b4 b5 b6 b7 e0 e1 e2 e3 e4 e5 e6 e7 e8; obtain ⟨b0, b1, b2, b3, b4, b5, b6, b7⟩ := row8 ((HM2.out.block _ (lt_of_heap HB.out) (fun h => h)).trans HB.out); obtain ⟨e0, e1, e2, e3, e4, e5, e6, e7, e8⟩ := row9 HC2.out; clear hm2))
                        clear b0 b1 b2 b3 b4 b5 b6 b7 e0 e1 e2 e3 e4 e5 e6 e7 e8
                        refine wp_region_ext (by kernel_rfl) (by kernel_rfl) ?_
                        repeat (go_big_quiet_step (fail))
                        refine wpQuiet_nil ?_
                        rintro _ ⟨v, rfl⟩
                        go_wp2_with fail
                        go_roundw
                        case rel => exact ⟨k + 1, by omega, by go_num, by rw [HS.out, Bool.false_and], HM2.out.trans v.mod⟩
                        case measure => simp [intOf]; omega
                      | true =>
                        by_cases h1 : zc = hcu
                        · have y1 : (zc == hcu) = true := by simpa using h1
                          by_cases h2 : zn = han
                          · have y2 : (zn == han) = true := by simpa using h2
                            have HW : Hid (accP os ⟨ho, hcu, 2, han, hat⟩ = (zt == hat)) := hid (by rw [HVz.out, decide_eq_true h1, decide_eq_true h2]; by_cases h : zt = hat <;> simp [h])
                            clear h1 h2
                            go_upto_region 25 with (first | (go_at_call 18; refine HK.out.mono ?_; rintro e w2 ⟨rfl, hm2⟩; have HM2 := hid (HMa.out.trans hm2); have HC2 := hid ((hm2.block _ (lt_of_heap HCx.out) (fun h => h)).trans HCx.out); clear b0 b1 b2 b3 b4 b5 b6 b7 e0 e1 e2 e3 e4 e5 e6 e7 e8; obtain ⟨b0, b1, b2, b3, b4, b5, b6, b7⟩ := row8 ((HM2.out.block _ (lt_of_heap HB.out) (fun h => h)).trans HB.out); obtain ⟨e0, e1, e2, e3, e4, e5, e6, e7, e8⟩ := row9 HC2.out; clear hm2))
                            have hlo := HT.out.o.ext HM2.out
                            have h1 := fun v : Ext w2 => v.cell (hlo.cell OP.len HXo.out (j := 1) rfl)
                            have h4 := fun v : Ext w2 => v.cell (hlo.cell OP.len HXo.out (j := 4) rfl)
                            have h5 := fun v : Ext w2 => v.cell (hlo.cell OP.len HXo.out (j := 5) rfl)
                            simp only at h1 h4 h5
                            have g4 := fun v : Ext w2 => v.cell b4
                            have j1 := fun v : Ext w2 => v.cell e1
                            have j4 := fun v : Ext w2 => v.cell e4
                            have j5 := fun v : Ext w2 => v.cell e5
                            clear hlo
                            clear b0 b1 b2 b3 b4 b5 b6 b7 e0 e1 e2 e3 e4 e5 e6 e7 e8
                            refine wp_region_ext (by kernel_rfl) (by kernel_rfl) ?_
                            repeat (go_big_quiet_step (fail))
                            refine wpQuiet_nil ?_
                            rintro _ ⟨v, rfl⟩
                            clear h1 h4 h5 g4 j1 j4 j5
                            go_wp2_with fail
                            go_roundw
                            case rel => exact ⟨k + 1, by omega, by go_num, by rw [HS.out, HW.out]; rfl, HM2.out.trans v.mod⟩
                            case measure => simp [intOf]; omega
                          · have y2 : (zn == han) = false := by simpa using h2
                            have HW : Hid (accP os ⟨ho, hcu, 2, han, hat⟩ = false) := hid (by rw [HVz.out, decide_eq_true h1, decide_eq_false h2]; rfl)
                            clear h1 h2
                            go_upto_region 25 with (first | (go_at_call 18; refine HK.out.mono ?_; rintro e w2 ⟨rfl, hm2⟩; have HM2 := hid (HMa.out.trans hm2); have HC2 := hid ((hm2.block _ (lt_of_heap HCx.out) (fun h => h)).trans HCx.out); clear b0 b1 b2 b3 b4 b5 b6 b7 e0 e1 e2 e3 e4 e5 e6 e7 e8; obtain ⟨b0, b1, b2, b3, b4, b5, b6, b7⟩ := row8 ((HM2.out.block _ (lt_of_heap HB.out) (fun h => h)).trans HB.out); obtain ⟨e0, e1, e2, e3, e4, e5, e6, e7, e8⟩ := row9 HC2.out; clear hm2))
                            have hlo := HT.out.o.ext HM2.out
                            have h1 := fun v : Ext w2 => v.cell (hlo.cell OP.len HXo.out (j := 1) rfl)
                            have h4 := fun v : Ext w2 => v.cell (hlo.cell OP.len HXo.out (j := 4) rfl)
                            have h5 := fun v : Ext w2 => v.cell (hlo.cell OP.len HXo.out (j := 5) rfl)
                            simp only at h1 h4 h5
                            have g4 := fun v : Ext w2 => v.cell b4
                            have j1 := fun v : Ext w2 => v.cell e1
                            have j4 := fun v : Ext w2 => v.cell e4
                            have j5 := fun v : Ext w2 => v.cell e5
                            clear hlo
                            clear b0 b1 b2 b3 b4 b5 b6 b7 e0 e1 e2 e3 e4 e5 e6 e7 e8
                            refine wp_region_ext (by kernel_rfl) (by kernel_rfl) ?_
                            repeat (go_big_quiet_step (fail))
                            refine wpQuiet_nil ?_
                            rintro _ ⟨v, rfl⟩
                            clear h1 h4 h5 g4 j1 j4 j5
                            go_wp2_with fail
                            go_roundw
                            case rel => exact ⟨k + 1, by omega, by go_num, by rw [HS.out, HW.out]; rfl, HM2.out.trans v.mod⟩
                            case measure => simp [intOf]; omega
                        · have y1 : (zc == hcu) = false := by simpa using h1
                          have HW : Hid (accP os ⟨ho, hcu, 2, han, hat⟩ = false) := hid (by rw [HVz.out, decide_eq_false h1]; rfl)
                          clear h1
                          go_upto_region 25 with (first | (go_at_call 18; refine HK.out.mono ?_; rintro e w2 ⟨rfl, hm2⟩; have HM2 := hid (HMa.out.trans hm2); have HC2 := hid ((hm2.block _ (lt_of_heap HCx.out) (fun h => h)).trans HCx.out); clear b0 b1 b2 b3 b4 b5 b6 b7 e0 e1 e2 e3 e4 e5 e6 e7 e8; obtain ⟨b0, b1, b2, b3, b4, b5, b6, b7⟩ := row8 ((HM2.out.block _ (lt_of_heap HB.out) (fun h => h)).trans HB.out); obtain ⟨e0, e1, e2, e3, e4, e5, e6, e7, e8⟩ := row9 HC2.out; clear hm2))
                          have hlo := HT.out.o.ext HM2.out
                          have h1 := fun v : Ext w2 => v.cell (hlo.cell OP.len HXo.out (j := 1) rfl)
                          have h4 := fun v : Ext w2 => v.cell (hlo.cell OP.len HXo.out (j := 4) rfl)
                          have h5 := fun v : Ext w2 => v.cell (hlo.cell OP.len HXo.out (j := 5) rfl)
                          simp only at h1 h4 h5
                          have g4 := fun v : Ext w2 => v.cell b4
                          have j1 := fun v : Ext w2 => v.cell e1
                          have j4 := fun v : Ext w2 => v.cell e4
                          have j5 := fun v : Ext w2 => v.cell e5
                          clear hlo
                          clear b0 b1 b2 b3 b4 b5 b6 b7 e0 e1 e2 e3 e4 e5 e6 e7 e8
                          refine wp_region_ext (by kernel_rfl) (by kernel_rfl) ?_
                          repeat (go_big_quiet_step (fail))
                          refine wpQuiet_nil ?_
                          rintro _ ⟨v, rfl⟩
                          clear h1 h4 h5 g4 j1 j4 j5
                          go_wp2_with fail
                          go_roundw
                          case rel => exact ⟨k + 1, by omega, by go_num, by rw [HS.out, HW.out]; rfl, HM2.out.trans v.mod⟩
                          case measure => simp [intOf]; omega
                  · have y1 : (hst == 1) = false := by simpa using s1
                    have y2 : (hst == 2) = false := by simpa using s2
                    have y3 : (hst != 1) = true := by simpa using s1
                    have y4 : (hst != 2) = true := by simpa using s2
                    have HW : Hid (accP os ⟨ho, hcu, hst, han, hat⟩ = true) := hid (by unfold accP; rw [if_neg (fun h => h.elim s1 s2)])
                    clear s1 s2 HK
                    go_wp2_with fail
                    go_roundw
                    case rel => exact ⟨k + 1, by omega, by go_num, by rw [HS.out, HW.out, Bool.and_true], HMa.out⟩
                    case measure => simp [intOf]; omega
        case pos =>
          as_aux_lemma =>
            obtain ⟨x, hx⟩ : ∃ x, hs[k]? = some x := ⟨_, List.getElem?_eq_getElem hlt⟩
            have HS := hid (all_succ (holdP os) hx)
            have hlc := HT.out.h.ext HMr6.out
            obtain ⟨g, off, hge⟩ := hlc.some (by omega)
            obtain ⟨ho, hcu, ham⟩ := x
            have q0 := (hge ▸ hlc : Lies w6 3 Hl.cs (some ⟨g, off, none⟩) hs).cell Hl.len hx (j := 0) rfl
            have q1 := (hge ▸ hlc : Lies w6 3 Hl.cs (some ⟨g, off, none⟩) hs).cell Hl.len hx (j := 1) rfl
            have q2 := (hge ▸ hlc : Lies w6 3 Hl.cs (some ⟨g, off, none⟩) hs).cell Hl.len hx (j := 2) rfl
            rw [Nat.add_zero] at q0
            simp only at q0 q1 q2
            have hma : Mod (fun _ => False) w6 (w6.alloc (.cells #[.int .i64 ho, .int .i64 hcu, .int .i64 ham] 56)) := (Mod.refl _ _).alloc _
            have hcx : (w6.alloc (.cells #[.int .i64 ho, .int .i64 hcu, .int .i64 ham] 56)).heap[w6.heap.size]? = some (.cells #[.int .i64 ho, .int .i64 hcu, .int .i64 ham] 56 (0, 0)) := heap_alloc_new _ _
            have HMa := hid (HMr6.out.trans hma)
            have HCx := hid hcx
            have HBa := hid ((HMa.out.block _ (lt_of_heap HB.out) (fun h => h)).trans HB.out)
            have HOa := hid (HT.out.o.ext HMa.out)
            have HK := hid (rfind_any (u0 := .slice ha hs.length hc) (u1 := .slice la ls.length lc) (u2 := .slice ga gs.length gc) (u3 := .slice aa acs.length ac) (u5 := .int .i64 next) (u6 := .slice ta ts.length tc) (u7 := .slice ia ins.length ic) oc ho HOa.out n5)
            have i1 : (0 : Int) ≤ (k : Int) := by omega
            have i2 : (k : Int) < (hs.length : Int) := by omega
            subst hge
            clear hx hlc hma hcx
            generalize (hs.take k).all (holdP os) = bb at *
            go_upto_region 12 with fail
            clear q0 q1 q2 b0 b1 b2 b3 b4 b5 b6 b7
            generalize w6.alloc (.cells #[.int .i64 ho, .int .i64 hcu, .int .i64 ham] 56) = D at *
            obtain ⟨b0, b1, b2, b3, b4, b5, b6, b7⟩ := row8 HBa.out
            obtain ⟨e0, e1, e2⟩ := row3 HCx.out
            have HPd : Hid (holdP os ⟨ho, hcu, ham⟩ = match os.find? (fun o => o.i == ho) with | none => false | some o => decide (o.c = hcu) && decide (wrap64 (o.n + o.t) = ham)) := hid rfl
            have HF := hid (idx_find (fun o : OP => o.i == ho) os)
            rcases HF.out with ⟨hi, hf⟩ | ⟨m, z, hi, hz, hf⟩
            · rw [hi] at HK
              have HW : Hid (holdP os ⟨ho, hcu, ham⟩ = false) := hid (by rw [HPd.out, hf])
              clear hi hf HF HPd
              cases bb with
              | true =>
                go_wp2_with (first | (go_at_call 18; refine HK.out.mono ?_; rintro e w2 ⟨rfl, hm2⟩; have HM2 := hid (HMa.out.trans hm2); have HC2 := hid ((hm2.block _ (lt_of_heap HCx.out) (fun h => h)).trans HCx.out); clear b0 b1 b2 b3 b4 b5 b6 b7 e0 e1 e2; obtain ⟨b0, b1, b2, b3, b4, b5, b6, b7⟩ := row8 ((HM2.out.block _ (lt_of_heap HB.out) (fun h => h)).trans HB.out); obtain ⟨e0, e1, e2⟩ := row3 HC2.out; clear hm2))
                go_roundw
                case rel => exact ⟨k + 1, by omega, by go_num, by rw [HS.out, HW.out]; rfl, HM2.out⟩
                case measure => simp [intOf]; omega
              | false =>
                go_wp2_with (first | (go_at_call 18; refine HK.out.mono ?_; rintro e w2 ⟨rfl, hm2⟩; have HM2 := hid (HMa.out.trans hm2); have HC2 := hid ((hm2.block _ (lt_of_heap HCx.out) (fun h => h)).trans HCx.out); clear b0 b1 b2 b3 b4 b5 b6 b7 e0 e1 e2; obtain ⟨b0, b1, b2, b3, b4, b5, b6, b7⟩ := row8 ((HM2.out.block _ (lt_of_heap HB.out) (fun h => h)).trans HB.out); obtain ⟨e0, e1, e2⟩ := row3 HC2.out; clear hm2))
                go_roundw
                case rel => exact ⟨k + 1, by omega, by go_num, by rw [HS.out, HW.out]; rfl, HM2.out⟩
                case measure => simp [intOf]; omega
            · rw [hi] at HK
              have HXo := hid hz
              have hmn : m < os.length := (List.getElem?_eq_some_iff.1 hz).1
              have m0 : decide ((0 : Int) ≤ (m : Int)) = true := decide_eq_true (by omega)
              have m1 : (0 : Int) ≤ (m : Int) := by omega
              have m2 : (m : Int) < (os.length : Int) := by omega
              have HVz : Hid (holdP os ⟨ho, hcu, ham⟩ = (decide (z.c = hcu) && decide (wrap64 (z.n + z.t) = ham))) := hid (by rw [HPd.out, hf])
              obtain ⟨zi, zc, zn, zt⟩ := z
              simp only at HVz
              obtain ⟨g5, off5, hog⟩ := HOa.out.some (by omega)
              subst hog
              clear hi hf HF HPd hz
              cases bb with
              | false =>
                go_upto_region 15 with (first | (go_at_call 18; refine HK.out.mono ?_; rintro e w2 ⟨rfl, hm2⟩; have HM2 := hid (HMa.out.trans hm2); have HC2 := hid ((hm2.block _ (lt_of_heap HCx.out) (fun h => h)).trans HCx.out); clear b0 b1 b2 b3 b4 b5 b6 b7 e0 e1 e2; obtain ⟨b0, b1, b2, b3, b4, b5, b6, b7⟩ := row8 ((HM2.out.block _ (lt_of_heap HB.out) (fun h => h)).trans HB.out); obtain ⟨e0, e1, e2⟩ := row3 HC2.out; clear hm2))
                clear b0 b1 b2 b3 b4 b5 b6 b7 e0 e1 e2
                refine wp_region_ext (by kernel_rfl) (by kernel_rfl) ?_
                repeat (go_big_quiet_step (fail))
                refine wpQuiet_nil ?_
                rintro _ ⟨v, rfl⟩
                go_wp2_with fail
                go_roundw
                case rel => exact ⟨k + 1, by omega, by go_num, by rw [HS.out, Bool.false_and], HM2.out.trans v.mod⟩
                case measure => simp [intOf]; omega
              | true =>
                by_cases h1 : zc = hcu
                · have y1 : (zc == hcu) = true := by simpa using h1
                  have HW : Hid (holdP os ⟨ho, hcu, ham⟩ = (wrap64 (zn + zt) == ham)) := hid (by rw [HVz.out, decide_eq_true h1]; by_cases h : wrap64 (zn + zt) = ham <;> simp [h])
                  clear h1
                  go_upto_region 15 with (first | (go_at_call 18; refine HK.out.mono ?_; rintro e w2 ⟨rfl, hm2⟩; have HM2 := hid (HMa.out.trans hm2); have HC2 := hid ((hm2.block _ (lt_of_heap HCx.out) (fun h => h)).trans HCx.out); clear b0 b1 b2 b3 b4 b5 b6 b7 e0 e1 e2; obtain ⟨b0, b1, b2, b3, b4, b5, b6, b7⟩ := row8 ((HM2.out.block _ (lt_of_heap HB.out) (fun h => h)).trans HB.out); obtain ⟨e0, e1, e2⟩ := row3 HC2.out; clear hm2))
                  have hlo := HT.out.o.ext HM2.out
                  have h1 := fun v : Ext w2 => v.cell (hlo.cell OP.len HXo.out (j := 1) rfl)
                  have h4 := fun v : Ext w2 => v.cell (hlo.cell OP.len HXo.out (j := 4) rfl)
                  have h5 := fun v : Ext w2 => v.cell (hlo.cell OP.len HXo.out (j := 5) rfl)
                  simp only at h1 h4 h5
                  have g4 := fun v : Ext w2 => v.cell b4
                  have j1 := fun v : Ext w2 => v.cell e1
                  have j2 := fun v : Ext w2 => v.cell e2
                  clear hlo
                  clear b0 b1 b2 b3 b4 b5 b6 b7 e0 e1 e2
                  refine wp_region_ext (by kernel_rfl) (by kernel_rfl) ?_
                  repeat (go_big_quiet_step (fail))
                  refine wpQuiet_nil ?_
                  rintro _ ⟨v, rfl⟩
                  clear h1 h4 h5 g4 j1 j2
                  go_wp2_with fail
                  go_roundw
                  case rel => exact ⟨k + 1, by omega, by go_num, by rw [HS.out, HW.out]; rfl, HM2.out.trans v.mod⟩
                  case measure => simp [intOf]; omega
                · have y1 : (zc == hcu) = false := by simpa using h1
                  have HW : Hid (holdP os ⟨ho, hcu, ham⟩ = false) := hid (by rw [HVz.out, decide_eq_false h1]; rfl)
                  clear h1
                  go_upto_region 15 with (first | (go_at_call 18; refine HK.out.mono ?_; rintro e w2 ⟨rfl, hm2⟩; have HM2 := hid (HMa.out.trans hm2); have HC2 := hid ((hm2.block _ (lt_of_heap HCx.out) (fun h => h)).trans HCx.out); clear b0 b1 b2 b3 b4 b5 b6 b7 e0 e1 e2; obtain ⟨b0, b1, b2, b3, b4, b5, b6, b7⟩ := row8 ((HM2.out.block _ (lt_of_heap HB.out) (fun h => h)).trans HB.out); obtain ⟨e0, e1, e2⟩ := row3 HC2.out; clear hm2))
                  have hlo := HT.out.o.ext HM2.out
                  have h1 := fun v : Ext w2 => v.cell (hlo.cell OP.len HXo.out (j := 1) rfl)
                  have h4 := fun v : Ext w2 => v.cell (hlo.cell OP.len HXo.out (j := 4) rfl)
                  have h5 := fun v : Ext w2 => v.cell (hlo.cell OP.len HXo.out (j := 5) rfl)
                  simp only at h1 h4 h5
                  have g4 := fun v : Ext w2 => v.cell b4
                  have j1 := fun v : Ext w2 => v.cell e1
                  have j2 := fun v : Ext w2 => v.cell e2
                  clear hlo
                  clear b0 b1 b2 b3 b4 b5 b6 b7 e0 e1 e2
                  refine wp_region_ext (by kernel_rfl) (by kernel_rfl) ?_
                  repeat (go_big_quiet_step (fail))
                  refine wpQuiet_nil ?_
                  rintro _ ⟨v, rfl⟩
                  clear h1 h4 h5 g4 j1 j2
                  go_wp2_with fail
                  go_roundw
                  case rel => exact ⟨k + 1, by omega, by go_num, by rw [HS.out, HW.out]; rfl, HM2.out.trans v.mod⟩
                  case measure => simp [intOf]; omega
    case pos =>
      as_aux_lemma =>
        obtain ⟨x, hx⟩ : ∃ x, ls[k]? = some x := ⟨_, List.getElem?_eq_getElem hlt⟩
        have HS := hid (all_succ (levelP (gs.map Gd.pl)) hx)
        have hlc := HT.out.l.ext HMr3.out
        have HK := hid (fun v : Ext w3 => rlevel_any (u0 := .slice ha hs.length hc) (u1 := .slice la ls.length lc) (u3 := .slice aa acs.length ac) (u4 := .slice oa os.length oc) (u5 := .int .i64 next) (u6 := .slice ta ts.length tc) (u7 := .slice ia ins.length ic) gc x ((HT.out.g.ext HMr3.out).ext v.mod) n3)
        obtain ⟨g, off, hge⟩ := hlc.some (by omega)
        obtain ⟨xi, xr, xh, xa, xs, xb⟩ := x
        simp only at HK
        have h0 := fun v : Ext w3 => v.cell ((hge ▸ hlc : Lies w3 6 Lv.cs (some ⟨g, off, none⟩) ls).cell Lv.len hx (j := 0) rfl)
        have h1 := fun v : Ext w3 => v.cell ((hge ▸ hlc : Lies w3 6 Lv.cs (some ⟨g, off, none⟩) ls).cell Lv.len hx (j := 1) rfl)
        have h2 := fun v : Ext w3 => v.cell ((hge ▸ hlc : Lies w3 6 Lv.cs (some ⟨g, off, none⟩) ls).cell Lv.len hx (j := 2) rfl)
        have h3 := fun v : Ext w3 => v.cell ((hge ▸ hlc : Lies w3 6 Lv.cs (some ⟨g, off, none⟩) ls).cell Lv.len hx (j := 3) rfl)
        have h4 := fun v : Ext w3 => v.cell ((hge ▸ hlc : Lies w3 6 Lv.cs (some ⟨g, off, none⟩) ls).cell Lv.len hx (j := 4) rfl)
        have h5 := fun v : Ext w3 => v.cell ((hge ▸ hlc : Lies w3 6 Lv.cs (some ⟨g, off, none⟩) ls).cell Lv.len hx (j := 5) rfl)
        rw [Nat.add_zero] at h0
        simp only at h0 h1 h2 h3 h4 h5
        have i1 : (0 : Int) ≤ (k : Int) := by omega
        have i2 : (k : Int) < (ls.length : Int) := by omega
        subst hge
        have g0 := fun v : Ext w3 => v.cell b0
        have g1 := fun v : Ext w3 => v.cell b1
        have g2 := fun v : Ext w3 => v.cell b2
        have g3 := fun v : Ext w3 => v.cell b3
        have g4 := fun v : Ext w3 => v.cell b4
        have g5 := fun v : Ext w3 => v.cell b5
        have g6 := fun v : Ext w3 => v.cell b6
        have g7 := fun v : Ext w3 => v.cell b7
        clear hx hlc
        generalize (ls.take k).all (levelP (gs.map Gd.pl)) = bb at *
        generalize levelP (gs.map Gd.pl) ⟨xi, xr, xh, xa, xs, xb⟩ = bx at *
        go_wp2_with fail
        clear b0 b1 b2 b3 b4 b5 b6 b7
        refine wp_region_ext (by kernel_rfl) (by kernel_rfl) ?_
        repeat (go_big_quiet_step ((go_at_call 17; exact ext_call (HK.out _))))
        refine wpQuiet_nil ?_
        rintro _ ⟨v, rfl⟩
        clear g0 g1 g2 g3 g4 g5 g6 g7 h0 h1 h2 h3 h4 h5
        cases bb with
        | true =>
          go_wp2_with fail
          go_roundw
          case rel => exact ⟨k + 1, by omega, by go_num, by rw [HS.out]; rfl, HMr3.out.trans v.mod⟩
          case measure => simp [intOf]; omega
        | false =>
          go_wp2_with fail
          go_roundw
          case rel => exact ⟨k + 1, by omega, by go_num, by rw [HS.out]; rfl, HMr3.out.trans v.mod⟩
          case measure => simp [intOf]; omega

end Go.Proofs.Ytigoikepcbbhjaa
