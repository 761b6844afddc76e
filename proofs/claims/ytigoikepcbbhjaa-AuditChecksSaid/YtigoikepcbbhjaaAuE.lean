/- The document's clear and Check (printed by genrchk.py) -/
import Derived.Test.YtigoikepcbbhjaaAuD
namespace Go.Proofs.Ytigoikepcbbhjaa
open Go Go.RowKit

variable {u0 u1 u2 u3 u4 u5 u6 u7 : Value}

theorem any_none {α : Type} {f : α → Bool} {l : List α} (h : ∀ j y, j < l.length → l[j]? = some y → f y = false) : l.any f = false := by
  rw [List.any_eq_false]
  intro x hx
  obtain ⟨j, hj⟩ := List.getElem?_of_mem hx
  rw [h j x (List.getElem?_eq_some_iff.1 hj).1 hj]
  simp
theorem any_hit {α : Type} {f : α → Bool} {l : List α} {k : Nat} {x : α} (hx : l[k]? = some x) (h : f x = true) : l.any f = true := List.any_eq_true.2 ⟨x, List.mem_of_getElem? hx, h⟩

set_option maxRecDepth 100000 in
set_option maxHeartbeats 8000000 in
theorem rclear_any {w : World} {ha ga aa : Option Addr} {hs : List Hl} {gs : List Gd} {acs : List AP} (hc gc ac : Nat) (x : IP)
    (hh : Lies w 3 Hl.cs ha hs) (hg : Lies w 3 Gd.cs ga gs) (hacs : Lies w 9 AP.cs aa acs) (n1 : hs.length ≤ 140737488351232) (n2 : gs.length ≤ 140737488351232) (n3 : acs.length ≤ 140737488351232) :
    Calls Try.prog 19 #[.agg #[.slice ha hs.length hc, u1, .slice ga gs.length gc, .slice aa acs.length ac, u4, u5, u6, u7], .agg #[.int .i64 x.o, .int .i64 x.s, .bool false, .slice none 0 0, .slice none 0 0, .pointer none]] w fun e w' => e = .returned (.bool (clearP hs (gs.map Gd.pl) acs x)) ∧ Mod (fun _ => False) w w' := by
  have hma : Mod (fun _ => False) w ((w.alloc (.cells #[.slice ha hs.length hc, u1, .slice ga gs.length gc, .slice aa acs.length ac, u4, u5, u6, u7] 44)).alloc (.cells #[.int .i64 x.o, .int .i64 x.s, .bool false, .slice none 0 0, .slice none 0 0, .pointer none] 88)) := ((Mod.refl _ _).alloc _).alloc _
  have hcb : ((w.alloc (.cells #[.slice ha hs.length hc, u1, .slice ga gs.length gc, .slice aa acs.length ac, u4, u5, u6, u7] 44)).alloc (.cells #[.int .i64 x.o, .int .i64 x.s, .bool false, .slice none 0 0, .slice none 0 0, .pointer none] 88)).heap[w.heap.size]? = some (.cells #[.slice ha hs.length hc, u1, .slice ga gs.length gc, .slice aa acs.length ac, u4, u5, u6, u7] 44 (0, 0)) := (((Mod.refl (fun _ => False) (w.alloc (.cells #[.slice ha hs.length hc, u1, .slice ga gs.length gc, .slice aa acs.length ac, u4, u5, u6, u7] 44))).alloc _).block _ (by simp) (fun h => h)).trans (heap_alloc_new _ _)
  have hcl : ((w.alloc (.cells #[.slice ha hs.length hc, u1, .slice ga gs.length gc, .slice aa acs.length ac, u4, u5, u6, u7] 44)).alloc (.cells #[.int .i64 x.o, .int .i64 x.s, .bool false, .slice none 0 0, .slice none 0 0, .pointer none] 88)).heap[w.heap.size + 1]? = some (.cells #[.int .i64 x.o, .int .i64 x.s, .bool false, .slice none 0 0, .slice none 0 0, .pointer none] 88 (0, 0)) := by
    have := heap_alloc_new (w.alloc (.cells #[.slice ha hs.length hc, u1, .slice ga gs.length gc, .slice aa acs.length ac, u4, u5, u6, u7] 44)) (.cells #[.int .i64 x.o, .int .i64 x.s, .bool false, .slice none 0 0, .slice none 0 0, .pointer none] 88)
    rw [World.size_alloc] at this
    exact this
  have HM := hid hma
  have Hhs := hid (hh.ext hma)
  have Hgs := hid (hg.ext hma)
  have Hacs := hid (hacs.ext hma)
  have HB := hid hcb
  have HC := hid hcl
  have HQ : Hid (clearP hs (gs.map Gd.pl) acs x = if x.s = 3 ∧ 0 < x.o then !(hs.any (fun y => y.o == x.o) || (gs.any (fun y => y.o == x.o && (y.s == 1 || y.s == 2)) || acs.any (fun y => y.o == x.o && y.s == 1))) else true) := hid (by
    unfold clearP
    rw [List.any_map]
    rfl)
  obtain ⟨a0, a1, _⟩ := row6 hcl
  clear hma hh hg hacs hcb hcl
  obtain ⟨xo, xs⟩ := x
  simp only at *
  rw [HQ.out]
  clear HQ
  by_cases h1 : xs = 3
  · subst h1
    by_cases h2 : 0 < xo
    · have d1 : decide (xo ≤ 0) = false := decide_eq_false (by omega)
      have d2 : ¬ xo ≤ 0 := by omega
      rw [if_pos ⟨rfl, h2⟩]
      clear h2
      go_enter Try.func19, Try.ntmps19
      go_wp2_with fail
      clear a0 a1
      generalize (w.alloc (.cells #[.slice ha hs.length hc, u1, .slice ga gs.length gc, .slice aa acs.length ac, u4, u5, u6, u7] 44)).alloc (.cells #[.int .i64 xo, .int .i64 3, .bool false, .slice none 0 0, .slice none 0 0, .pointer none] 88) = C at *
      go_loopw [5] (fun c wr => ∃ k : Nat, k ≤ hs.length ∧ c = .int .i64 (k : Int) ∧ (∀ j y, j < k → hs[j]? = some y → (y.o == xo) = false) ∧ Mod (fun _ => False) C wr) (fun c _ => hs.length - (intOf c).toNat)
      case atStart => exact ⟨0, Nat.zero_le _, rfl, (fun j y h => by omega), Mod.refl _ _⟩
      case round =>
        obtain ⟨k, hk, rfl, hno, hm⟩ := hrel
        have HNo5 := hid hno
        have HM5 := hid hm
        clear hno hm
        obtain ⟨w5, rfl⟩ : ∃ y : World, y = wr := ⟨wr, rfl⟩
        have bb := row_at (j := 0) (v := .slice ha hs.length hc) ((HM5.out.block _ (lt_of_heap HB.out) (fun h => h)).trans HB.out) rfl
        by_cases hlt : k < hs.length
        case neg =>
          have hke : k = hs.length := by omega
          subst hke
          have HA5 : Hid (hs.any (fun y => y.o == xo) = false) := hid (any_none HNo5.out)
          go_wp2_with fail
          clear bb
          go_loopw [6] (fun c wr => ∃ k : Nat, k ≤ gs.length ∧ c = .int .i64 (k : Int) ∧ (∀ j y, j < k → gs[j]? = some y → (y.o == xo && (y.s == 1 || y.s == 2)) = false) ∧ Mod (fun _ => False) C wr) (fun c _ => gs.length - (intOf c).toNat)
          case atStart => exact ⟨0, Nat.zero_le _, rfl, (fun j y h => by omega), HM5.out⟩
          case round =>
            obtain ⟨k, hk, rfl, hno, hm⟩ := hrel
            have HNo6 := hid hno
            have HM6 := hid hm
            clear hno hm
            obtain ⟨w6, rfl⟩ : ∃ y : World, y = wr := ⟨wr, rfl⟩
            have bb := row_at (j := 2) (v := .slice ga gs.length gc) ((HM6.out.block _ (lt_of_heap HB.out) (fun h => h)).trans HB.out) rfl
            by_cases hlt : k < gs.length
            case neg =>
              have hke : k = gs.length := by omega
              subst hke
              have HA6 : Hid (gs.any (fun y => y.o == xo && (y.s == 1 || y.s == 2)) = false) := hid (any_none HNo6.out)
              go_wp2_with fail
              clear bb
              go_loopw [7] (fun c wr => ∃ k : Nat, k ≤ acs.length ∧ c = .int .i64 (k : Int) ∧ (∀ j y, j < k → acs[j]? = some y → (y.o == xo && y.s == 1) = false) ∧ Mod (fun _ => False) C wr) (fun c _ => acs.length - (intOf c).toNat)
              case atStart => exact ⟨0, Nat.zero_le _, rfl, (fun j y h => by omega), HM6.out⟩
              case round =>
                obtain ⟨k, hk, rfl, hno, hm⟩ := hrel
                have HNo7 := hid hno
                have HM7 := hid hm
                clear hno hm
                obtain ⟨w7, rfl⟩ : ∃ y : World, y = wr := ⟨wr, rfl⟩
                have bb := row_at (j := 3) (v := .slice aa acs.length ac) ((HM7.out.block _ (lt_of_heap HB.out) (fun h => h)).trans HB.out) rfl
                by_cases hlt : k < acs.length
                case neg =>
                  have hke : k = acs.length := by omega
                  subst hke
                  have HA7 : Hid (acs.any (fun y => y.o == xo && y.s == 1) = false) := hid (any_none HNo7.out)
                  go_wp2_with fail
                  clear bb
                  go_ret
                  exact ⟨by rw [HA5.out, HA6.out, HA7.out]; rfl, HM.out.trans HM7.out⟩
                case pos =>
                  obtain ⟨x, hx⟩ : ∃ x, acs[k]? = some x := ⟨_, List.getElem?_eq_getElem hlt⟩
                  have hlc := Hacs.out.ext HM7.out
                  have HX := hid hx
                  obtain ⟨ho, hcu, hst, hn, ht⟩ := x
                  obtain ⟨g, off, hge⟩ := hlc.some (by omega)
                  subst hge
                  have i1 : (0 : Int) ≤ (k : Int) := by omega
                  have i2 : (k : Int) < (acs.length : Int) := by omega
                  have g0 := fun v : Ext w7 => v.cell (hlc.cell AP.len hx (j := 0) rfl)
                  have g1 := fun v : Ext w7 => v.cell (hlc.cell AP.len hx (j := 2) rfl)
                  rw [Nat.add_zero] at g0
                  simp only at g0 g1
                  have c0 := row_at (j := 0) (v := .int .i64 xo) ((HM7.out.block _ (lt_of_heap HC.out) (fun h => h)).trans HC.out) rfl
                  have g8 := fun v : Ext w7 => v.cell c0
                  have g9 := fun v : Ext w7 => v.cell bb
                  clear hx hlc c0
                  go_upto_region 16 with fail
                  clear bb
                  by_cases h1 : xo = ho
                  · subst h1
                    have e1 : (xo == xo) = true := by simp
                    by_cases s1 : hst = 1
                    · subst s1
                      refine wp_region_ext (by kernel_rfl) (by kernel_rfl) ?_
                      repeat (go_big_quiet_step (fail))
                      refine wpQuiet_nil ?_
                      rintro _ ⟨v, rfl⟩
                      clear g0 g1 g8 g9
                      have HV : Hid (acs.any (fun y => y.o == xo && y.s == 1) = true) := hid (any_hit HX.out (by simp))
                      go_wp2_with fail
                      go_ret
                      exact ⟨by rw [HA5.out, HA6.out, HV.out]; rfl, HM.out.trans (HM7.out.trans v.mod)⟩
                    · have y1 : (hst == 1) = false := by simpa using s1
                      have HE : Hid ((xo == xo && hst == 1) = false) := hid (by rw [y1, Bool.and_false])
                      clear s1
                      refine wp_region_ext (by kernel_rfl) (by kernel_rfl) ?_
                      repeat (go_big_quiet_step (fail))
                      refine wpQuiet_nil ?_
                      rintro _ ⟨v, rfl⟩
                      clear g0 g1 g8 g9
                      go_wp2_with fail
                      go_roundw
                      case rel =>
                        refine ⟨k + 1, by omega, by go_num, fun j y hj hy => ?_, HM7.out.trans v.mod⟩
                        by_cases hjk : j = k
                        · subst hjk
                          rw [HX.out] at hy
                          cases hy
                          exact HE.out
                        · exact HNo7.out j y (by omega) hy
                      case measure => simp [intOf]; omega
                  · have e1 : (ho == xo) = false := beq_eq_false_iff_ne.2 (Ne.symm h1)
                    have HE : Hid ((ho == xo && hst == 1) = false) := hid (by rw [e1, Bool.false_and])
                    clear h1
                    refine wp_region_ext (by kernel_rfl) (by kernel_rfl) ?_
                    repeat (go_big_quiet_step (fail))
                    refine wpQuiet_nil ?_
                    rintro _ ⟨v, rfl⟩
                    clear g0 g1 g8 g9
                    go_wp2_with fail
                    go_roundw
                    case rel =>
                      refine ⟨k + 1, by omega, by go_num, fun j y hj hy => ?_, HM7.out.trans v.mod⟩
                      by_cases hjk : j = k
                      · subst hjk
                        rw [HX.out] at hy
                        cases hy
                        exact HE.out
                      · exact HNo7.out j y (by omega) hy
                    case measure => simp [intOf]; omega
            case pos =>
              obtain ⟨x, hx⟩ : ∃ x, gs[k]? = some x := ⟨_, List.getElem?_eq_getElem hlt⟩
              have hlc := Hgs.out.ext HM6.out
              have HX := hid hx
              obtain ⟨ho, hst, hla, hlc', hls⟩ := x
              obtain ⟨g, off, hge⟩ := hlc.some (by omega)
              subst hge
              have i1 : (0 : Int) ≤ (k : Int) := by omega
              have i2 : (k : Int) < (gs.length : Int) := by omega
              have g0 := fun v : Ext w6 => v.cell (hlc.cell Gd.len hx (j := 0) rfl)
              have g1 := fun v : Ext w6 => v.cell (hlc.cell Gd.len hx (j := 1) rfl)
              rw [Nat.add_zero] at g0
              simp only at g0 g1
              have c0 := row_at (j := 0) (v := .int .i64 xo) ((HM6.out.block _ (lt_of_heap HC.out) (fun h => h)).trans HC.out) rfl
              have g8 := fun v : Ext w6 => v.cell c0
              have g9 := fun v : Ext w6 => v.cell bb
              clear hx hlc c0
              go_upto_region 11 with fail
              clear bb
              by_cases h1 : xo = ho
              · subst h1
                have e1 : (xo == xo) = true := by simp
                by_cases s1 : hst = 1
                · subst s1
                  refine wp_region_ext (by kernel_rfl) (by kernel_rfl) ?_
                  repeat (go_big_quiet_step (fail))
                  refine wpQuiet_nil ?_
                  rintro _ ⟨v, rfl⟩
                  clear g0 g1 g8 g9
                  have HV : Hid (gs.any (fun y => y.o == xo && (y.s == 1 || y.s == 2)) = true) := hid (any_hit HX.out (by simp))
                  go_wp2_with fail
                  go_ret
                  exact ⟨by rw [HA5.out, HV.out]; rfl, HM.out.trans (HM6.out.trans v.mod)⟩
                · have y1 : (hst == 1) = false := by simpa using s1
                  by_cases s2 : hst = 2
                  · subst s2
                    clear s1
                    refine wp_region_ext (by kernel_rfl) (by kernel_rfl) ?_
                    repeat (go_big_quiet_step (fail))
                    refine wpQuiet_nil ?_
                    rintro _ ⟨v, rfl⟩
                    clear g0 g1 g8 g9
                    have HV : Hid (gs.any (fun y => y.o == xo && (y.s == 1 || y.s == 2)) = true) := hid (any_hit HX.out (by simp))
                    go_wp2_with fail
                    go_ret
                    exact ⟨by rw [HA5.out, HV.out]; rfl, HM.out.trans (HM6.out.trans v.mod)⟩
                  · have y2 : (hst == 2) = false := by simpa using s2
                    have HE : Hid ((xo == xo && (hst == 1 || hst == 2)) = false) := hid (by rw [y1, y2, Bool.or_false, Bool.and_false])
                    clear s1 s2
                    refine wp_region_ext (by kernel_rfl) (by kernel_rfl) ?_
                    repeat (go_big_quiet_step (fail))
                    refine wpQuiet_nil ?_
                    rintro _ ⟨v, rfl⟩
                    clear g0 g1 g8 g9
                    go_wp2_with fail
                    go_roundw
                    case rel =>
                      refine ⟨k + 1, by omega, by go_num, fun j y hj hy => ?_, HM6.out.trans v.mod⟩
                      by_cases hjk : j = k
                      · subst hjk
                        rw [HX.out] at hy
                        cases hy
                        exact HE.out
                      · exact HNo6.out j y (by omega) hy
                    case measure => simp [intOf]; omega
              · have e1 : (ho == xo) = false := beq_eq_false_iff_ne.2 (Ne.symm h1)
                have HE : Hid ((ho == xo && (hst == 1 || hst == 2)) = false) := hid (by rw [e1, Bool.false_and])
                clear h1
                refine wp_region_ext (by kernel_rfl) (by kernel_rfl) ?_
                repeat (go_big_quiet_step (fail))
                refine wpQuiet_nil ?_
                rintro _ ⟨v, rfl⟩
                clear g0 g1 g8 g9
                go_wp2_with fail
                go_roundw
                case rel =>
                  refine ⟨k + 1, by omega, by go_num, fun j y hj hy => ?_, HM6.out.trans v.mod⟩
                  by_cases hjk : j = k
                  · subst hjk
                    rw [HX.out] at hy
                    cases hy
                    exact HE.out
                  · exact HNo6.out j y (by omega) hy
                case measure => simp [intOf]; omega
        case pos =>
          obtain ⟨x, hx⟩ : ∃ x, hs[k]? = some x := ⟨_, List.getElem?_eq_getElem hlt⟩
          have hlc := Hhs.out.ext HM5.out
          have HX := hid hx
          obtain ⟨ho, hcu, ham⟩ := x
          obtain ⟨g, off, hge⟩ := hlc.some (by omega)
          subst hge
          have i1 : (0 : Int) ≤ (k : Int) := by omega
          have i2 : (k : Int) < (hs.length : Int) := by omega
          have g0 := fun v : Ext w5 => v.cell (hlc.cell Hl.len hx (j := 0) rfl)
          rw [Nat.add_zero] at g0
          have g1 := True.intro
          simp only at g0
          have c0 := row_at (j := 0) (v := .int .i64 xo) ((HM5.out.block _ (lt_of_heap HC.out) (fun h => h)).trans HC.out) rfl
          have g8 := fun v : Ext w5 => v.cell c0
          have g9 := fun v : Ext w5 => v.cell bb
          clear hx hlc c0
          go_upto_region 6 with fail
          clear bb
          by_cases h1 : xo = ho
          · subst h1
            have e1 : (xo == xo) = true := by simp
            refine wp_region_ext (by kernel_rfl) (by kernel_rfl) ?_
            repeat (go_big_quiet_step (fail))
            refine wpQuiet_nil ?_
            rintro _ ⟨v, rfl⟩
            clear g0 g1 g8 g9
            have HV : Hid (hs.any (fun y => y.o == xo) = true) := hid (any_hit HX.out (by simp))
            go_wp2_with fail
            go_ret
            exact ⟨by rw [HV.out]; rfl, HM.out.trans (HM5.out.trans v.mod)⟩
          · have e1 : (ho == xo) = false := beq_eq_false_iff_ne.2 (Ne.symm h1)
            have HE := hid e1
            clear h1
            refine wp_region_ext (by kernel_rfl) (by kernel_rfl) ?_
            repeat (go_big_quiet_step (fail))
            refine wpQuiet_nil ?_
            rintro _ ⟨v, rfl⟩
            clear g0 g1 g8 g9
            go_wp2_with fail
            go_roundw
            case rel =>
              refine ⟨k + 1, by omega, by go_num, fun j y hj hy => ?_, HM5.out.trans v.mod⟩
              by_cases hjk : j = k
              · subst hjk
                rw [HX.out] at hy
                cases hy
                exact HE.out
              · exact HNo5.out j y (by omega) hy
            case measure => simp [intOf]; omega
    · have d1 : decide (xo ≤ 0) = true := decide_eq_true (by omega)
      have d2 : xo ≤ 0 := by omega
      rw [if_neg (fun h => h2 h.2)]
      clear h2
      go_enter Try.func19, Try.ntmps19
      go_wp2_with fail
      go_ret
      exact ⟨rfl, HM.out⟩
  · have e1 : (xs == 3) = false := by simpa using h1
    have e2 : (xs != 3) = true := by simpa using h1
    rw [if_neg (fun h => h1 h.1)]
    clear h1
    go_enter Try.func19, Try.ntmps19
    go_wp2_with fail
    go_ret
    exact ⟨rfl, HM.out⟩

end Go.Proofs.Ytigoikepcbbhjaa
