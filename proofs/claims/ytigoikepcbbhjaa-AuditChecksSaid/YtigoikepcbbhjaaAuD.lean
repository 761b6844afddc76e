/- The document's find, Live and level -/
import Derived.Test.YtigoikepcbbhjaaAuN
namespace Go.Proofs.Ytigoikepcbbhjaa
open Go Go.RowKit

variable {u0 u1 u2 u3 u4 u5 u6 u7 : Value}

set_option maxRecDepth 100000 in
set_option maxHeartbeats 1000000 in
theorem rfind_any {w : World} {oa : Option Addr} {os : List OP} (oc : Nat) (id : Int) (ho : Lies w 6 OP.cs oa os) (hn : os.length ≤ 140737488351232) :
    Calls Try.prog 18 #[.agg #[u0, u1, u2, u3, .slice oa os.length oc, u5, u6, u7], .int .i64 id] w fun e w' => e = .returned (.int .i64 (idxP (fun o => o.i == id) os)) ∧ Mod (fun _ => False) w w' := by
  have hma : Mod (fun _ => False) w (w.alloc (.cells #[u0, u1, u2, u3, .slice oa os.length oc, u5, u6, u7] 44)) := (Mod.refl _ _).alloc _
  have HM := hid hma
  have HO := hid (ho.ext hma)
  have hcb : (w.alloc (.cells #[u0, u1, u2, u3, .slice oa os.length oc, u5, u6, u7] 44)).heap[w.heap.size]? = some (.cells #[u0, u1, u2, u3, .slice oa os.length oc, u5, u6, u7] 44 (0, 0)) := heap_alloc_new _ _
  have HB := hid hcb
  clear hma ho hcb
  go_enter Try.func18, Try.ntmps18
  go_wp2_with fail
  generalize w.alloc (.cells #[u0, u1, u2, u3, .slice oa os.length oc, u5, u6, u7] 44) = C at *
  go_loopw [5] (fun c wr => ∃ k : Nat, k ≤ os.length ∧ c = .int .i64 (k : Int) ∧ (∀ j y, j < k → os[j]? = some y → (y.i == id) = false) ∧ Mod (fun _ => False) C wr) (fun c _ => os.length - (intOf c).toNat)
  case atStart => exact ⟨0, Nat.zero_le _, rfl, (fun j y h => by omega), Mod.refl _ _⟩
  case round =>
    obtain ⟨k, hk, rfl, hno, hm⟩ := hrel
    have HNo := hid hno
    have HMr := hid hm
    have b4 := row_at (j := 4) (v := .slice oa os.length oc) ((hm.block _ (lt_of_heap HB.out) (fun h => h)).trans HB.out) rfl
    clear hno hm
    by_cases hlt : k < os.length
    · obtain ⟨x, hx⟩ : ∃ x, os[k]? = some x := ⟨_, List.getElem?_eq_getElem hlt⟩
      have hlc := HO.out.ext HMr.out
      obtain ⟨g, off, rfl⟩ := hlc.some (by omega)
      have q0 := hlc.cell OP.len hx (j := 0) rfl
      rw [Nat.add_zero] at q0
      have HX := hid hx
      obtain ⟨xi, xc, xn, xt⟩ := x
      simp only at q0
      clear hx hlc
      cases hp : (xi == id) with
      | true =>
        have HV : Hid (idxP (fun o : OP => o.i == id) os = (k : Int)) := hid (idx_hit HNo.out HX.out hp)
        go_wp2_with fail
        go_ret
        exact ⟨by rw [HV.out]; rfl, HM.out.trans HMr.out⟩
      | false =>
        have HP := hid hp
        go_wp2_with fail
        go_roundw
        case rel =>
          refine ⟨k + 1, by omega, by go_num, fun j y hj hy => ?_, HMr.out⟩
          by_cases hjk : j = k
          · subst hjk
            rw [HX.out] at hy
            cases hy
            exact HP.out
          · exact HNo.out j y (by omega) hy
        case measure => simp [intOf]; omega
    · have hke : k = os.length := by omega
      subst hke
      have HV : Hid (idxP (fun o : OP => o.i == id) os = -1) := hid (idx_miss HNo.out)
      go_wp2_with fail
      go_ret
      exact ⟨by rw [HV.out]; rfl, HM.out.trans HMr.out⟩

set_option maxRecDepth 100000 in
set_option maxHeartbeats 2000000 in
theorem rlive_any {w : World} {ia : Option Addr} {ins : List IP} (ic : Nat) (hi : Lies w 6 IP.cs ia ins) (hn : ins.length ≤ 140737488351232) :
    Calls Try.prog 10 #[.agg #[u0, u1, u2, u3, u4, u5, u6, .slice ia ins.length ic]] w fun e w' => e = .returned (.int .i64 (liveP ins : Int)) ∧ Mod (fun _ => False) w w' := by
  have hma : Mod (fun _ => False) w (w.alloc (.cells #[u0, u1, u2, u3, u4, u5, u6, .slice ia ins.length ic] 44)) := (Mod.refl _ _).alloc _
  have HM := hid hma
  have HI := hid (hi.ext hma)
  have hcb : (w.alloc (.cells #[u0, u1, u2, u3, u4, u5, u6, .slice ia ins.length ic] 44)).heap[w.heap.size]? = some (.cells #[u0, u1, u2, u3, u4, u5, u6, .slice ia ins.length ic] 44 (0, 0)) := heap_alloc_new _ _
  have HB := hid hcb
  clear hma hi hcb
  go_enter Try.func10, Try.ntmps10
  go_wp2_with fail
  generalize w.alloc (.cells #[u0, u1, u2, u3, u4, u5, u6, .slice ia ins.length ic] 44) = C at *
  go_loopw [3, 4] (fun n c wr => ∃ k : Nat, k ≤ ins.length ∧ c = .int .i64 (k : Int) ∧ n = .int .i64 (liveP (ins.take k) : Int) ∧ Mod (fun _ => False) C wr) (fun _ c _ => ins.length - (intOf c).toNat)
  case atStart => exact ⟨0, Nat.zero_le _, rfl, rfl, Mod.refl _ _⟩
  case round =>
    obtain ⟨k, hk, rfl, rfl, hm⟩ := hrel
    have HMr := hid hm
    have b7 := row_at (j := 7) (v := .slice ia ins.length ic) ((hm.block _ (lt_of_heap HB.out) (fun h => h)).trans HB.out) rfl
    clear hm
    by_cases hlt : k < ins.length
    case neg =>
      have hke : k = ins.length := by omega
      subst hke
      have HV : Hid (ins.take ins.length = ins) := hid (List.take_of_length_le (Nat.le_refl _))
      go_wp2_with fail
      go_ret
      exact ⟨by rw [HV.out]; rfl, HM.out.trans HMr.out⟩
    case pos =>
      obtain ⟨x, hx⟩ : ∃ x, ins[k]? = some x := ⟨_, List.getElem?_eq_getElem hlt⟩
      have hlc := HI.out.ext HMr.out
      have HT := hid (live_succ hx)
      have hle := live_le ins k
      obtain ⟨xo, xs⟩ := x
      obtain ⟨g, off, rfl⟩ := hlc.some (by omega)
      have q1 := hlc.cell IP.len hx (j := 1) rfl
      simp only at q1
      generalize liveP (ins.take k) = n at *
      clear hx hlc
      by_cases s0 : xs = 0
      · subst s0
        have HE : Hid (liveP (ins.take (k + 1)) = n + 1) := hid (by rw [HT.out]; rfl)
        go_wp2_with fail
        go_roundw
        case rel => exact ⟨k + 1, by omega, by go_num, by rw [HE.out]; go_num, HMr.out⟩
        case measure => simp [intOf]; omega
      · have y0 : (xs == 0) = false := by simpa using s0
        by_cases s1 : xs = 1
        · subst s1
          have HE : Hid (liveP (ins.take (k + 1)) = n + 1) := hid (by rw [HT.out]; rfl)
          clear s0
          go_wp2_with fail
          go_roundw
          case rel => exact ⟨k + 1, by omega, by go_num, by rw [HE.out]; go_num, HMr.out⟩
          case measure => simp [intOf]; omega
        · have y1 : (xs == 1) = false := by simpa using s1
          have HE : Hid (liveP (ins.take (k + 1)) = n) := hid (by rw [HT.out]; simp [isLive, y0, y1])
          clear s0 s1
          go_wp2_with fail
          go_roundw
          case rel => exact ⟨k + 1, by omega, by go_num, by rw [HE.out], HMr.out⟩
          case measure => simp [intOf]; omega

/-- The step of a tally, by the state. -/
theorem step_no {p : Int → Bool} {item s n : Int} {l : Ln} (h : l.i ≠ item ∨ p s = false) : stepL p item s n l = n := by
  unfold stepL
  rw [if_neg]
  rintro ⟨h1, h2⟩
  rcases h with h | h
  · exact h h1
  · rw [h] at h2; cases h2
theorem step_yes {p : Int → Bool} {s n : Int} {l : Ln} {i : Int} (h0 : l.i = i) (h : p s = true) : stepL p i s n l = wrap64 (n + l.q) := by
  unfold stepL
  rw [if_pos ⟨h0, h⟩]

set_option maxRecDepth 100000 in
set_option maxHeartbeats 8000000 in
theorem rlevel_any {w : World} {ga : Option Addr} {gs : List Gd} (gc : Nat) (x : Lv) (hg : GL w ga gs) (hn : gs.length ≤ 140737488351232) :
    Calls Try.prog 17 #[.agg #[u0, u1, .slice ga gs.length gc, u3, u4, u5, u6, u7], .agg #[.int .i64 x.i, .int .i64 x.r, .int .i64 x.h, .int .i64 x.a, .int .i64 x.s, .int .i64 x.b]] w fun e w' => e = .returned (.bool (levelP (gs.map Gd.pl) x)) ∧ Mod (fun _ => False) w w' := by
  have hma : Mod (fun _ => False) w ((w.alloc (.cells #[u0, u1, .slice ga gs.length gc, u3, u4, u5, u6, u7] 44)).alloc (.cells #[.int .i64 x.i, .int .i64 x.r, .int .i64 x.h, .int .i64 x.a, .int .i64 x.s, .int .i64 x.b] 59)) := ((Mod.refl _ _).alloc _).alloc _
  have hcb : ((w.alloc (.cells #[u0, u1, .slice ga gs.length gc, u3, u4, u5, u6, u7] 44)).alloc (.cells #[.int .i64 x.i, .int .i64 x.r, .int .i64 x.h, .int .i64 x.a, .int .i64 x.s, .int .i64 x.b] 59)).heap[w.heap.size]? = some (.cells #[u0, u1, .slice ga gs.length gc, u3, u4, u5, u6, u7] 44 (0, 0)) := (((Mod.refl (fun _ => False) (w.alloc (.cells #[u0, u1, .slice ga gs.length gc, u3, u4, u5, u6, u7] 44))).alloc _).block _ (by simp) (fun h => h)).trans (heap_alloc_new _ _)
  have hcl : ((w.alloc (.cells #[u0, u1, .slice ga gs.length gc, u3, u4, u5, u6, u7] 44)).alloc (.cells #[.int .i64 x.i, .int .i64 x.r, .int .i64 x.h, .int .i64 x.a, .int .i64 x.s, .int .i64 x.b] 59)).heap[w.heap.size + 1]? = some (.cells #[.int .i64 x.i, .int .i64 x.r, .int .i64 x.h, .int .i64 x.a, .int .i64 x.s, .int .i64 x.b] 59 (0, 0)) := by
    have := heap_alloc_new (w.alloc (.cells #[u0, u1, .slice ga gs.length gc, u3, u4, u5, u6, u7] 44)) (.cells #[.int .i64 x.i, .int .i64 x.r, .int .i64 x.h, .int .i64 x.a, .int .i64 x.s, .int .i64 x.b] 59)
    rw [World.size_alloc] at this
    exact this
  have HM := hid hma
  have HG := hid (hg.ext hma)
  have HB := hid hcb
  have HCl := hid hcl
  clear hma hg hcb hcl
  obtain ⟨i, r, h, a, s, d⟩ := x
  simp only at *
  go_enter Try.func17, Try.ntmps17
  go_wp2_with fail
  generalize (w.alloc (.cells #[u0, u1, .slice ga gs.length gc, u3, u4, u5, u6, u7] 44)).alloc (.cells #[.int .i64 i, .int .i64 r, .int .i64 h, .int .i64 a, .int .i64 s, .int .i64 d] 59) = C at *
  go_loopw [5, 6, 7, 8] (fun t1 t2 t3 c wr => ∃ k : Nat, k ≤ gs.length ∧ c = .int .i64 (k : Int) ∧ t1 = .int .i64 (tally (conP [1]) i ((gs.map Gd.pl).take k)) ∧ t2 = .int .i64 (tally (conP [2, 3]) i ((gs.map Gd.pl).take k)) ∧ t3 = .int .i64 (tally (conP [3]) i ((gs.map Gd.pl).take k)) ∧ Mod (fun _ => False) C wr) (fun _ _ _ c _ => gs.length - (intOf c).toNat)
  case atStart => exact ⟨0, Nat.zero_le _, rfl, rfl, rfl, rfl, Mod.refl _ _⟩
  case round =>
    obtain ⟨k, hk, rfl, rfl, rfl, rfl, hm⟩ := hrel
    have HMr := hid hm
    clear hm
    obtain ⟨wo, rfl⟩ : ∃ y : World, y = wr := ⟨wr, rfl⟩
    have b2 := row_at (j := 2) (v := .slice ga gs.length gc) ((HMr.out.block _ (lt_of_heap HB.out) (fun h => h)).trans HB.out) rfl
    by_cases hlt : k < gs.length
    case neg =>
      have hke : k = gs.length := by omega
      subst hke
      have HV : Hid ((gs.map Gd.pl).take gs.length = gs.map Gd.pl) := hid (List.take_of_length_le (by simp))
      obtain ⟨a0, a1, a2, a3, a4, a5⟩ := row6 ((HMr.out.block _ (lt_of_heap HCl.out) (fun h => h)).trans HCl.out)
      have HLe : Hid (levelP (gs.map Gd.pl) ⟨i, r, h, a, s, d⟩ = (decide (r = wrap64 (wrap64 (wrap64 (h + a) + s) - d)) && (decide (a = tally (conP [1]) i (gs.map Gd.pl)) && (decide (s = tally (conP [2, 3]) i (gs.map Gd.pl)) && decide (d = tally (conP [3]) i (gs.map Gd.pl)))))) := hid rfl
      rw [HV.out]
      generalize tally (conP [1]) i (gs.map Gd.pl) = n1 at *
      generalize tally (conP [2, 3]) i (gs.map Gd.pl) = n2 at *
      generalize tally (conP [3]) i (gs.map Gd.pl) = n3 at *
      by_cases h1 : r = wrap64 (wrap64 (wrap64 (h + a) + s) - d)
      · have e1 : (r == wrap64 (wrap64 (wrap64 (h + a) + s) - d)) = true := by simpa using h1
        by_cases h2 : a = n1
        · have e2 : (a == n1) = true := by simpa using h2
          by_cases h3 : s = n2
          · have e3 : (s == n2) = true := by simpa using h3
            have HW : Hid (levelP (gs.map Gd.pl) ⟨i, r, h, a, s, d⟩ = (d == n3)) := hid (by rw [HLe.out, decide_eq_true h1, decide_eq_true h2, decide_eq_true h3]; by_cases h : d = n3 <;> simp [h])
            clear h1 h2 h3
            go_wp2_with fail
            go_ret
            exact ⟨by rw [HW.out]; rfl, HM.out.trans HMr.out⟩
          · have e3 : (s == n2) = false := by simpa using h3
            have HW : Hid (levelP (gs.map Gd.pl) ⟨i, r, h, a, s, d⟩ = false) := hid (by rw [HLe.out, decide_eq_true h1, decide_eq_true h2, decide_eq_false h3]; rfl)
            clear h1 h2 h3
            go_wp2_with fail
            go_ret
            exact ⟨by rw [HW.out]; rfl, HM.out.trans HMr.out⟩
        · have e2 : (a == n1) = false := by simpa using h2
          have HW : Hid (levelP (gs.map Gd.pl) ⟨i, r, h, a, s, d⟩ = false) := hid (by rw [HLe.out, decide_eq_true h1, decide_eq_false h2]; rfl)
          clear h1 h2
          go_wp2_with fail
          go_ret
          exact ⟨by rw [HW.out]; rfl, HM.out.trans HMr.out⟩
      · have e1 : (r == wrap64 (wrap64 (wrap64 (h + a) + s) - d)) = false := by simpa using h1
        have HW : Hid (levelP (gs.map Gd.pl) ⟨i, r, h, a, s, d⟩ = false) := hid (by rw [HLe.out, decide_eq_false h1]; rfl)
        clear h1
        go_wp2_with fail
        go_ret
        exact ⟨by rw [HW.out]; rfl, HM.out.trans HMr.out⟩
    case pos =>
      obtain ⟨x, hx⟩ : ∃ x, gs[k]? = some x := ⟨_, List.getElem?_eq_getElem hlt⟩
      have hlc := (HG.out.ext HMr.out)
      have HT1 := hid (tally_succ (conP [1]) i (pl_at (f := Gd.pl) hx))
      have HT2 := hid (tally_succ (conP [2, 3]) i (pl_at (f := Gd.pl) hx))
      have HT3 := hid (tally_succ (conP [3]) i (pl_at (f := Gd.pl) hx))
      have hll := hlc.l x (List.mem_of_getElem? hx)
      have hgl := hlc.g
      obtain ⟨xo, xs, la, lc, ls⟩ := x
      obtain ⟨g, off, hge⟩ := hgl.some (by omega)
      subst hge
      have q0 := hgl.cell Gd.len hx (j := 0) rfl
      have q1 := hgl.cell Gd.len hx (j := 1) rfl
      have q2 := hgl.cell Gd.len hx (j := 2) rfl
      rw [Nat.add_zero] at q0
      simp only at q0 q1 q2 hll
      have hmb : Mod (fun _ => False) wo (wo.alloc (.cells #[.int .i64 xo, .int .i64 xs, .slice la ls.length lc] 67)) := (Mod.refl _ _).alloc _
      have hcx : (wo.alloc (.cells #[.int .i64 xo, .int .i64 xs, .slice la ls.length lc] 67)).heap[wo.heap.size]? = some (.cells #[.int .i64 xo, .int .i64 xs, .slice la ls.length lc] 67 (0, 0)) := heap_alloc_new _ _
      have HCx := hid hcx
      have HMb := hid (HMr.out.trans hmb)
      have HL := hid (hll.1.ext hmb)
      have hln := hll.2
      have HCl2 := hid ((HMb.out.block _ (lt_of_heap HCl.out) (fun h => h)).trans HCl.out)
      clear hx hlc hll hgl hmb hcx
      generalize tally (conP [1]) i ((gs.map Gd.pl).take k) = m1 at *
      generalize tally (conP [2, 3]) i ((gs.map Gd.pl).take k) = m2 at *
      generalize tally (conP [3]) i ((gs.map Gd.pl).take k) = m3 at *
      go_wp2_with fail
      clear q0 q1 q2 b2
      generalize wo.alloc (.cells #[.int .i64 xo, .int .i64 xs, .slice la ls.length lc] 67) = D at *
      go_loopw [5, 6, 7, 10] (fun t1 t2 t3 c wr => ∃ j : Nat, j ≤ ls.length ∧ c = .int .i64 (j : Int) ∧ t1 = .int .i64 (tallyL (conP [1]) i xs m1 (ls.take j)) ∧ t2 = .int .i64 (tallyL (conP [2, 3]) i xs m2 (ls.take j)) ∧ t3 = .int .i64 (tallyL (conP [3]) i xs m3 (ls.take j)) ∧ Mod (fun _ => False) D wr) (fun _ _ _ c _ => ls.length - (intOf c).toNat)
      case atStart => exact ⟨0, Nat.zero_le _, rfl, rfl, rfl, rfl, Mod.refl _ _⟩
      case round =>
        obtain ⟨j, hj, rfl, rfl, rfl, rfl, hm⟩ := hrel
        have HMi := hid hm
        clear hm
        obtain ⟨c0, c1, c2⟩ := row3 ((HMi.out.block _ (lt_of_heap HCx.out) (fun h => h)).trans HCx.out)
        by_cases hlj : j < ls.length
        case neg =>
          have hke : j = ls.length := by omega
          subst hke
          have HV : Hid (ls.take ls.length = ls) := hid (List.take_of_length_le (Nat.le_refl _))
          go_wp2_with fail
          go_roundw
          case rel => exact ⟨k + 1, by omega, by go_num, by rw [HT1.out, HV.out]; rfl, by rw [HT2.out, HV.out]; rfl, by rw [HT3.out, HV.out]; rfl, HMb.out.trans HMi.out⟩
          case measure => simp [intOf]; omega
        case pos =>
          obtain ⟨y, hy⟩ : ∃ y, ls[j]? = some y := ⟨_, List.getElem?_eq_getElem hlj⟩
          have HU1 := hid (tallyL_succ (conP [1]) i xs m1 hy)
          have HU2 := hid (tallyL_succ (conP [2, 3]) i xs m2 hy)
          have HU3 := hid (tallyL_succ (conP [3]) i xs m3 hy)
          have hlc := HL.out.ext HMi.out
          obtain ⟨g2, off2, hge⟩ := hlc.some (by omega)
          subst hge
          obtain ⟨yi, yq⟩ := y
          have r0 := hlc.cell Ln.len hy (j := 0) rfl
          have r1 := hlc.cell Ln.len hy (j := 1) rfl
          rw [Nat.add_zero] at r0
          simp only at r0 r1
          have l0 := row_at (j := 0) (v := .int .i64 i) ((HMi.out.block _ (lt_of_heap HCl2.out) (fun h => h)).trans HCl2.out) rfl
          generalize tallyL (conP [1]) i xs m1 (ls.take j) = z1 at *
          generalize tallyL (conP [2, 3]) i xs m2 (ls.take j) = z2 at *
          generalize tallyL (conP [3]) i xs m3 (ls.take j) = z3 at *
          clear hy hlc
          have i1 : (0 : Int) ≤ (j : Int) := by omega
          have i2 : (j : Int) < (ls.length : Int) := by omega
          have HR0 := hid r0
          have HR1 := hid r1
          have HCx2 := hid ((HMi.out.block _ (lt_of_heap HCx.out) (fun h => h)).trans HCx.out)
          have HRest := hid (fun x : Ext wr => And.intro (And.intro (x.cell r1) (row3 (x.heap HCx2.out))) (And.intro (x.cell l0) (x.cell r0)))
          by_cases hit : yi = i
          · subst hit
            have e0 : (yi == yi) = true := by simp
            have e1 : (yi != yi) = false := by simp
            go_upto_region 11 with fail
            have g0 := fun x : Ext wr => x.cell r0
            have g1 := fun x : Ext wr => x.cell l0
            have g2 := fun x : Ext wr => x.cell c2
            clear r0 r1 l0 c0 c1 c2
            refine wp_region_ext (by kernel_rfl) (by kernel_rfl) ?_
            repeat (go_big_quiet_step (fail))
            refine wpQuiet_nil ?_
            rintro _ ⟨v, rfl⟩
            clear g0 g1 g2
            obtain ⟨⟨r1, c0, c1, c2⟩, l0, r0⟩ := HRest.out v
            by_cases s1 : xs = 1
            · subst s1
              have HE1 : Hid (stepL (conP [1]) yi 1 z1 ⟨yi, yq⟩ = wrap64 (z1 + yq)) := hid (step_yes rfl rfl)
              have HE2 : Hid (stepL (conP [2, 3]) yi 1 z2 ⟨yi, yq⟩ = z2) := hid (step_no (.inr rfl))
              have HE3 : Hid (stepL (conP [3]) yi 1 z3 ⟨yi, yq⟩ = z3) := hid (step_no (.inr rfl))
              go_wp2_with fail
              go_roundw
              case rel => exact ⟨j + 1, by omega, by go_num, by rw [HU1.out, HE1.out], by rw [HU2.out, HE2.out], by rw [HU3.out, HE3.out], HMi.out.trans v.mod⟩
              case measure => simp [intOf]; omega
            · by_cases s2 : xs = 2
              · subst s2
                have HE1 : Hid (stepL (conP [1]) yi 2 z1 ⟨yi, yq⟩ = z1) := hid (step_no (.inr rfl))
                have HE2 : Hid (stepL (conP [2, 3]) yi 2 z2 ⟨yi, yq⟩ = wrap64 (z2 + yq)) := hid (step_yes rfl rfl)
                have HE3 : Hid (stepL (conP [3]) yi 2 z3 ⟨yi, yq⟩ = z3) := hid (step_no (.inr rfl))
                clear s1
                go_wp2_with fail
                go_roundw
                case rel => exact ⟨j + 1, by omega, by go_num, by rw [HU1.out, HE1.out], by rw [HU2.out, HE2.out], by rw [HU3.out, HE3.out], HMi.out.trans v.mod⟩
                case measure => simp [intOf]; omega
              · by_cases s3 : xs = 3
                · subst s3
                  have HE1 : Hid (stepL (conP [1]) yi 3 z1 ⟨yi, yq⟩ = z1) := hid (step_no (.inr rfl))
                  have HE2 : Hid (stepL (conP [2, 3]) yi 3 z2 ⟨yi, yq⟩ = wrap64 (z2 + yq)) := hid (step_yes rfl rfl)
                  have HE3 : Hid (stepL (conP [3]) yi 3 z3 ⟨yi, yq⟩ = wrap64 (z3 + yq)) := hid (step_yes rfl rfl)
                  clear s1 s2
                  go_wp2_with fail
                  go_roundw
                  case rel => exact ⟨j + 1, by omega, by go_num, by rw [HU1.out, HE1.out], by rw [HU2.out, HE2.out], by rw [HU3.out, HE3.out], HMi.out.trans v.mod⟩
                  case measure => simp [intOf]; omega
                · have y1 : (xs == 1) = false := by simpa using s1
                  have y2 : (xs == 2) = false := by simpa using s2
                  have y3 : (xs == 3) = false := by simpa using s3
                  have HE1 : Hid (stepL (conP [1]) yi xs z1 ⟨yi, yq⟩ = z1) := hid (step_no (.inr (by simp [conP, y1])))
                  have HE2 : Hid (stepL (conP [2, 3]) yi xs z2 ⟨yi, yq⟩ = z2) := hid (step_no (.inr (by simp [conP, y2, y3])))
                  have HE3 : Hid (stepL (conP [3]) yi xs z3 ⟨yi, yq⟩ = z3) := hid (step_no (.inr (by simp [conP, y3])))
                  clear s1 s2 s3
                  go_wp2_with fail
                  go_roundw
                  case rel => exact ⟨j + 1, by omega, by go_num, by rw [HU1.out, HE1.out], by rw [HU2.out, HE2.out], by rw [HU3.out, HE3.out], HMi.out.trans v.mod⟩
                  case measure => simp [intOf]; omega
          · have e0 : (yi == i) = false := by simpa using hit
            have e1 : (yi != i) = true := by simpa using hit
            have HE1 : Hid (stepL (conP [1]) i xs z1 ⟨yi, yq⟩ = z1) := hid (step_no (.inl hit))
            have HE2 : Hid (stepL (conP [2, 3]) i xs z2 ⟨yi, yq⟩ = z2) := hid (step_no (.inl hit))
            have HE3 : Hid (stepL (conP [3]) i xs z3 ⟨yi, yq⟩ = z3) := hid (step_no (.inl hit))
            go_upto_region 11 with fail
            have g0 := fun x : Ext wr => x.cell r0
            have g1 := fun x : Ext wr => x.cell l0
            have g2 := fun x : Ext wr => x.cell c2
            clear r0 r1 l0 c0 c1 c2 hit
            refine wp_region_ext (by kernel_rfl) (by kernel_rfl) ?_
            repeat (go_big_quiet_step (fail))
            refine wpQuiet_nil ?_
            rintro _ ⟨v, rfl⟩
            clear g0 g1 g2
            go_wp2_with fail
            go_roundw
            case rel => exact ⟨j + 1, by omega, by go_num, by rw [HU1.out, HE1.out], by rw [HU2.out, HE2.out], by rw [HU3.out, HE3.out], HMi.out.trans v.mod⟩
            case measure => simp [intOf]; omega

end Go.Proofs.Ytigoikepcbbhjaa
