/- Flow: what of Go's library is laid; isVerb, the closure of number -/
import Derived.Test.YtmkbbclbkpofoaaDoorShelf
import Derived.Test.YtmkbbclbkpofoaaDoorFlN
namespace Go.Proofs.YtmkbbclbkpofoaaDoor
open Go Go.RowKit

/-- The library's variables that are read. -/
structure Glob (w : World) : Prop where
  ml : ∃ m, w.cell? ⟨0, 0, none⟩ = some (.int .i64 m)
  es : ∃ v, w.cell? ⟨3, 0, none⟩ = some v ∧ (v = .nilIface ∨ ∃ te pe, v = .iface te pe)
  er : ∃ v, w.cell? ⟨4, 0, none⟩ = some v ∧ (v = .nilIface ∨ ∃ te pe, v = .iface te pe)
  tab : Lib.TabIs Tryd.prog w "internal/strconv.uint64pow10" .u64 Lib.pow10Tab
  lt : 8 ≤ w.heap.size

theorem pow_at : Tryd.prog.globalNamed "internal/strconv.uint64pow10" = some 5 := by kernel_rfl

theorem Glob.mod {S : Nat → Prop} {w w' : World} (h : Glob w) (hm : Mod S w w') (hs : ∀ k, S k → 8 ≤ k) : Glob w' := by
  have hl := h.lt
  have ns : ∀ k, k < 8 → ¬ S k := fun k hk h => by have := hs k h; omega
  obtain ⟨m, hm0⟩ := h.ml
  obtain ⟨v, hv, hv2⟩ := h.es
  obtain ⟨u, hu, hu2⟩ := h.er
  refine ⟨⟨m, ?_⟩, ⟨v, ?_, hv2⟩, ⟨u, ?_, hu2⟩, ?_, Nat.le_trans hl hm.size⟩
  · exact (hm.cell (World.block_lt_of_cell? _ _ hm0) (ns _ (by decide))).trans hm0
  · exact (hm.cell (World.block_lt_of_cell? _ _ hv) (ns _ (by decide))).trans hv
  · exact (hm.cell (World.block_lt_of_cell? _ _ hu) (ns _ (by decide))).trans hu
  · have ht := h.tab
    unfold Lib.TabIs World.var? at ht ⊢
    rw [pow_at] at ht ⊢
    simp only [Option.bind_some] at ht ⊢
    rw [hm.block 5 (by omega) (ns _ (by decide))]
    exact ht
theorem Glob.ext {w w' : World} (h : Glob w) (hm : Mod (fun _ => False) w w') : Glob w' := h.mod hm (fun _ h => h.elim)

theorem mod_below {w w' : World} (h : Below w.heap.size w w') : Mod (fun _ => False) w w' := (Mod.of_below h).mono (fun k hk h => by omega)
theorem mod_grow (w : World) (n : Nat) (os : Array Obj) : Mod (fun _ => False) w (Sort.grow (w.drewN n) os) := by
  refine ⟨rfl, rfl, rfl, ?_, fun k hk _ => ?_⟩
  · simp [Sort.grow, World.drewN]
  · have : k < w.heap.size := hk
    simp only [Sort.grow, World.drewN]
    rw [Array.getElem?_append_left this]

theorem cut_le (s sep : List UInt8) : (Lib.cut s sep).1.length ≤ s.length ∧ (Lib.cut s sep).2.1.length ≤ s.length := by
  unfold Lib.cut
  split
  · simp only [List.length_take, List.length_drop]; omega
  · simp

set_option maxRecDepth 100000 in
theorem isverb_any (s : ByteArray) (w : World) (hg : Glob w) (hs : s.size ≤ 4096) : Calls Tryd.prog 47 #[.string s] w fun e w' => e = .returned (.bool (verbS s)) ∧ Mod (fun _ => False) w w' := by
  obtain ⟨m, hm⟩ := hg.ml
  have HC := hid (Tryd.strings_Cut s ⟨#[46]⟩ m w (by omega) hm)
  obtain ⟨l1, l2⟩ := cut_le s.data.toList [46]
  have hl : s.data.toList.length = s.size := by simp
  have HV : Hid (verbS s = ((Lib.cut s.data.toList [46]).2.2 && wordL (Lib.cut s.data.toList [46]).1 && wordL (Lib.cut s.data.toList [46]).2.1)) := hid rfl
  rw [show (⟨#[46]⟩ : ByteArray).data.toList = [46] from rfl] at HC
  generalize Lib.cut s.data.toList [46] = x at *
  obtain ⟨a, b, ok⟩ := x
  simp only at HC HV l1 l2
  have HA := hid (fun V => isword_any (ba a) V (by rw [ba_size]; omega))
  have HB := hid (fun V => isword_any (ba b) V (by rw [ba_size]; omega))
  have ha : wordS (ba a) = wordL a := by unfold wordS; rw [ba_data]
  have hb : wordS (ba b) = wordL b := by unfold wordS; rw [ba_data]
  rw [ha] at HA
  rw [hb] at HB
  rw [show (⟨a.toArray⟩ : ByteArray) = ba a from rfl, show (⟨b.toArray⟩ : ByteArray) = ba b from rfl] at HC
  clear hm hg hs l1 l2 hl ha hb
  generalize wordL a = wa at *
  generalize wordL b = wb at *
  generalize ba a = A at *
  generalize ba b = B at *
  cases ok with
  | false =>
    go_enter Tryd.func47, Tryd.ntmps47
    go_wp2_with (go_at_call 57; refine HC.out.mono ?_; rintro e w1 ⟨rfl, n, rfl⟩)
    go_ret
    rw [HV.out]
    exact ⟨rfl, (Mod.refl _ _).drewN n⟩
  | true =>
    cases wa with
    | false =>
      go_enter Tryd.func47, Tryd.ntmps47
      go_wp2_with (first | (go_at_call 57; refine HC.out.mono ?_; rintro e w1 ⟨rfl, n, rfl⟩) | (go_at_call 14; refine (HA.out _).mono ?_; rintro e w2 ⟨rfl, rfl⟩))
      go_ret
      rw [HV.out]
      exact ⟨rfl, (Mod.refl _ _).drewN n⟩
    | true =>
      go_enter Tryd.func47, Tryd.ntmps47
      go_wp2_with (first | (go_at_call 57; refine HC.out.mono ?_; rintro e w1 ⟨rfl, n, rfl⟩) | (go_at_call 14; refine (HA.out _).mono ?_; rintro e w2 ⟨rfl, rfl⟩; clear HA) | (go_at_call 14; refine (HB.out _).mono ?_; rintro e w3 ⟨rfl, rfl⟩))
      go_ret
      rw [HV.out]
      exact ⟨rfl, (Mod.refl _ _).drewN n⟩

/-- What the closure of number leaves. -/
def NumAns (nb : Nat) (least most : Int) (s : ByteArray) (w : World) (e : Ending) (w' : World) : Prop :=
  ∃ b, e = .returned (.bool b) ∧ Mod (fun k => k = nb) w w' ∧ ∃ v, w'.heap[nb]? = some (.cells #[.int .i64 v] 3 (0, 0)) ∧ ((b = true ∧ numS least most s = some v) ∨ (b = false ∧ numS least most s = none))

set_option maxRecDepth 100000 in
set_option maxHeartbeats 2000000 in
theorem num1_any {w : World} {nb lb mb : Nat} {least most v0 : Int} (s : ByteArray) (hg : Glob w) (hs : s.size ≤ 4096) (hn : w.heap[nb]? = some (.cells #[.int .i64 v0] 3 (0, 0))) (hl : w.heap[lb]? = some (.cells #[.int .i64 least] 3 (0, 0))) (hm : w.heap[mb]? = some (.cells #[.int .i64 most] 3 (0, 0)))
    (hne : lb ≠ nb) (hne2 : mb ≠ nb) (hn8 : 8 ≤ nb) (h0 : 0 ≤ least) (h1 : most ≤ 100) :
    Calls Tryd.prog 48 #[.string s, .pointer (some ⟨nb, 0, none⟩), .pointer (some ⟨lb, 0, none⟩), .pointer (some ⟨mb, 0, none⟩)] w fun e w' => NumAns nb least most s w e w' := by
  have HL := hid (fun (V : World) (h : Mod (fun k => k = nb) w V) => row1 ((h.block lb (lt_of_heap hl) hne).trans hl))
  have HM := hid (fun (V : World) (h : Mod (fun k => k = nb) w V) => row1 ((h.block mb (lt_of_heap hm) hne2).trans hm))
  have HN := hid (fun (V : World) (h : Mod (fun _ => False) w V) => (h.block nb (lt_of_heap hn) (fun h => h)).trans hn)
  have HS : Hid (∀ (V : World) (v : Int), Mod (fun _ => False) w V → Mod (fun k => k = nb) w (V.setCell ⟨nb, 0, none⟩ (.int .i64 v)) ∧ (V.setCell ⟨nb, 0, none⟩ (.int .i64 v)).heap[nb]? = some (.cells #[.int .i64 v] 3 (0, 0))) := hid (fun V v h =>
    ⟨Mod.setCell (S := fun k => k = nb) (h.mono (fun _ _ h => h.elim)) (fun _ => rfl) _, heap_setCell_same V nb 0 _ 3 _ (HN.out V h)⟩)
  have HG := hid hg
  cases hat : Lib.atoiAll s.data.toList with
  | «syntax» =>
    obtain ⟨ev, hv, hev⟩ := hg.es
    have HA := hid (Tryd.strconv_Atoi_syntax s (by omega) hat ev w hv hev)
    have HNo : Hid (numS least most s = none) := hid (by unfold numS; rw [hat])
    clear hg hn hl hm hat hv hev
    go_enter Tryd.func48, Tryd.ntmps48
    go_upto_region 2 with fail
    go_upto_region 3 with (go_at_call 49; refine HA.out.mono ?_; rintro e w1 ⟨N, rfl, _, _, hb⟩; have HM1 := hid (mod_below hb); clear hb; obtain ⟨n0, n1⟩ := row1 (HN.out w1 HM1.out))
    obtain ⟨x1, x2⟩ := HS.out w1 0 HM1.out
    have HX := hid (And.intro x1 x2)
    clear n0 n1 x1 x2
    generalize w1.setCell ⟨nb, 0, none⟩ (.int .i64 0) = V at *
    go_wp2
    go_ret
    exact ⟨false, rfl, HX.out.1, 0, HX.out.2, .inr ⟨rfl, HNo.out⟩⟩
  | range =>
    obtain ⟨ev, hv, hev⟩ := hg.er
    have HA := hid (Tryd.strconv_Atoi_range s (by omega) hat ev w hv hev)
    have HNo : Hid (numS least most s = none) := hid (by unfold numS; rw [hat])
    clear hg hn hl hm hat hv hev
    generalize Lib.atoiSat s.data.toList = sat at *
    go_enter Tryd.func48, Tryd.ntmps48
    go_upto_region 2 with fail
    go_upto_region 3 with (go_at_call 49; refine HA.out.mono ?_; rintro e w1 ⟨N, rfl, _, _, hb⟩; have HM1 := hid (mod_below hb); clear hb; obtain ⟨n0, n1⟩ := row1 (HN.out w1 HM1.out))
    obtain ⟨x1, x2⟩ := HS.out w1 sat HM1.out
    have HX := hid (And.intro x1 x2)
    clear n0 n1 x1 x2
    generalize w1.setCell ⟨nb, 0, none⟩ (.int .i64 sat) = V at *
    go_wp2
    go_ret
    exact ⟨false, rfl, HX.out.1, sat, HX.out.2, .inr ⟨rfl, HNo.out⟩⟩
  | ok v =>
    have HA := hid (Tryd.strconv_Atoi_ok s (by omega) v hat w)
    have HNo : Hid (numS least most s = if least ≤ v ∧ v ≤ most ∧ Lib.itoa v = s.data.toList then some v else none) := hid (by unfold numS; rw [hat])
    clear hg hn hl hm hat
    go_enter Tryd.func48, Tryd.ntmps48
    go_upto_region 2 with fail
    go_upto_region 3 with (go_at_call 49; refine HA.out.mono ?_; rintro e w1 ⟨rfl, hb⟩; have HM1 : Hid (Mod (fun _ => False) w w1) := hid (by rcases hb with rfl | ⟨t, rfl⟩ <;> first | exact Mod.refl _ _ | exact mod_below (Lib.bytesWorld_below _ _ _)); clear hb; obtain ⟨n0, n1⟩ := row1 (HN.out w1 HM1.out))
    obtain ⟨x1, x2⟩ := HS.out w1 v HM1.out
    obtain ⟨l0, _⟩ := HL.out _ x1
    obtain ⟨m0, _⟩ := HM.out _ x1
    have HX := hid (And.intro x1 x2)
    have HG1 := hid (HG.out.mod x1 (fun k hk => by omega))
    clear n0 n1 x1 x2
    generalize w1.setCell ⟨nb, 0, none⟩ (.int .i64 v) = V at *
    obtain ⟨v0', _⟩ := row1 HX.out.2
    by_cases c1 : least ≤ v
    · by_cases c2 : v ≤ most
      · have HI := hid (Tryd.strconv_Itoa v (by omega) (by omega) V HG1.out.tab)
        rw [show (⟨(Lib.itoa v).toArray⟩ : ByteArray) = ba (Lib.itoa v) from rfl] at HI
        have HE : Hid (((ba (Lib.itoa v)).toList == s.toList) = decide (Lib.itoa v = s.data.toList)) := hid (by rw [ByteArray.toList_eq, ByteArray.toList_eq, ba_data, Bool.eq_iff_iff]; simp)
        go_wp2_with (go_at_call 50; refine HI.out.mono ?_; rintro e w2 ⟨rfl, k, os, hw⟩; have HM2 : Hid (Mod (fun _ => False) V w2) := hid (by rw [hw]; exact mod_grow _ _ _); clear hw)
        go_ret
        refine ⟨_, rfl, HX.out.1.trans (HM2.out.mono (fun _ _ h => h.elim)), v, (HM2.out.block _ (lt_of_heap HX.out.2) (fun h => h)).trans HX.out.2, ?_⟩
        rw [HE.out, HNo.out]
        by_cases c3 : Lib.itoa v = s.data.toList
        · rw [decide_eq_true c3, if_pos ⟨c1, c2, c3⟩]
          exact .inl ⟨rfl, rfl⟩
        · rw [decide_eq_false c3, if_neg (fun h => c3 h.2.2)]
          exact .inr ⟨rfl, rfl⟩
      · have HNo' : Hid (numS least most s = none) := hid (by rw [HNo.out, if_neg (fun h => c2 h.2.1)])
        go_wp2
        go_ret
        exact ⟨false, rfl, HX.out.1, v, HX.out.2, .inr ⟨rfl, HNo'.out⟩⟩
    · have HNo' : Hid (numS least most s = none) := hid (by rw [HNo.out, if_neg (fun h => c1 h.1)])
      go_wp2
      go_ret
      exact ⟨false, rfl, HX.out.1, v, HX.out.2, .inr ⟨rfl, HNo'.out⟩⟩

end Go.Proofs.YtmkbbclbkpofoaaDoor
