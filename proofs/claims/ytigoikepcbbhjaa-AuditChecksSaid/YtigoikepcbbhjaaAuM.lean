/- compensated: law 4 (printed by gencomp.py) -/
import Derived.Test.YtigoikepcbbhjaaAuO
namespace Go.Proofs.Ytigoikepcbbhjaa
open Go Go.RowKit

variable {v0 v1 v2 v3 v4 v5 v6 v7 v8 v9 v10 v11 v12 v13 v14 : Value}

set_option maxRecDepth 100000 in
set_option maxHeartbeats 1000000 in
theorem comp1_any {w : World} {b : Nat} {io : Int} (x : Hl) (hb : w.cell? ⟨b, 0, none⟩ = some (.int .i64 io)) :
    Calls Try.prog 30 #[.agg #[.int .i64 x.o, .int .i64 x.c, .int .i64 x.a], .pointer (some ⟨b, 0, none⟩)] w fun e w' => e = .returned (.bool (x.o == io)) ∧ Mod (fun _ => False) w w' := by
  have hma : Mod (fun _ => False) w (w.alloc (.cells #[.int .i64 x.o, .int .i64 x.c, .int .i64 x.a] 55)) := (Mod.refl _ _).alloc _
  have hcb : (w.alloc (.cells #[.int .i64 x.o, .int .i64 x.c, .int .i64 x.a] 55)).heap[w.heap.size]? = some (.cells #[.int .i64 x.o, .int .i64 x.c, .int .i64 x.a] 55 (0, 0)) := heap_alloc_new _ _
  have HM := hid hma
  have hb2 : (w.alloc (.cells #[.int .i64 x.o, .int .i64 x.c, .int .i64 x.a] 55)).cell? ⟨b, 0, none⟩ = some (.int .i64 io) := (hma.cell (World.block_lt_of_cell? _ _ hb) (fun h => h)).trans hb
  obtain ⟨a0, a1, a2⟩ := row3 hcb
  clear hma hb hcb
  go_enter Try.func30, Try.ntmps30
  go_wp2_with fail
  go_ret
  exact ⟨rfl, HM.out⟩

set_option maxRecDepth 100000 in
set_option maxHeartbeats 1000000 in
theorem comp2_any {w : World} {b : Nat} {io : Int} (x : Gd) (hb : w.cell? ⟨b, 0, none⟩ = some (.int .i64 io)) :
    Calls Try.prog 32 #[.agg #[.int .i64 x.o, .int .i64 x.s, .slice x.la x.ls.length x.lc], .pointer (some ⟨b, 0, none⟩)] w fun e w' => e = .returned (.bool (x.o == io && (x.s == 1 || x.s == 2))) ∧ Mod (fun _ => False) w w' := by
  have hma : Mod (fun _ => False) w (w.alloc (.cells #[.int .i64 x.o, .int .i64 x.s, .slice x.la x.ls.length x.lc] 63)) := (Mod.refl _ _).alloc _
  have hcb : (w.alloc (.cells #[.int .i64 x.o, .int .i64 x.s, .slice x.la x.ls.length x.lc] 63)).heap[w.heap.size]? = some (.cells #[.int .i64 x.o, .int .i64 x.s, .slice x.la x.ls.length x.lc] 63 (0, 0)) := heap_alloc_new _ _
  have HM := hid hma
  have hb2 : (w.alloc (.cells #[.int .i64 x.o, .int .i64 x.s, .slice x.la x.ls.length x.lc] 63)).cell? ⟨b, 0, none⟩ = some (.int .i64 io) := (hma.cell (World.block_lt_of_cell? _ _ hb) (fun h => h)).trans hb
  obtain ⟨a0, a1, a2⟩ := row3 hcb
  clear hma hb hcb
  obtain ⟨xo, xs, xla, xlc, xls⟩ := x
  simp only at *
  by_cases h1 : xo = io
  · subst h1
    have e1 : (xo == xo) = true := by simp
    by_cases h2 : xs = 1
    · subst h2
      have HW : Hid ((xo == xo && ((1 : Int) == 1 || (1 : Int) == 2)) = true) := hid (by simp)
      rw [HW.out]
      go_enter Try.func32, Try.ntmps32
      go_wp2_with fail
      go_ret
      exact ⟨rfl, HM.out⟩
    · have e2 : (xs == 1) = false := by simpa using h2
      have HW : Hid ((xo == xo && (xs == 1 || xs == 2)) = (xs == 2)) := hid (by rw [e2]; simp)
      rw [HW.out]
      clear h2
      go_enter Try.func32, Try.ntmps32
      go_wp2_with fail
      go_ret
      exact ⟨rfl, HM.out⟩
  · have e1 : (xo == io) = false := by simpa using h1
    have HW : Hid ((xo == io && (xs == 1 || xs == 2)) = false) := hid (by rw [e1]; rfl)
    rw [HW.out]
    clear h1
    go_enter Try.func32, Try.ntmps32
    go_wp2_with fail
    go_ret
    exact ⟨rfl, HM.out⟩

set_option maxRecDepth 100000 in
set_option maxHeartbeats 1000000 in
theorem comp3_any {w : World} {b : Nat} {io : Int} (x : Ac) (hb : w.cell? ⟨b, 0, none⟩ = some (.int .i64 io)) :
    Calls Try.prog 33 #[.agg #[.int .i64 x.o, .int .i64 x.c, .int .i64 x.s, .int .i64 x.l, .int .i64 x.n, .int .i64 x.t, .int .i64 x.p, .int .i64 x.w, .int .i64 x.d], .pointer (some ⟨b, 0, none⟩)] w fun e w' => e = .returned (.bool (x.o == io && x.s == 1)) ∧ Mod (fun _ => False) w w' := by
  have hma : Mod (fun _ => False) w (w.alloc (.cells #[.int .i64 x.o, .int .i64 x.c, .int .i64 x.s, .int .i64 x.l, .int .i64 x.n, .int .i64 x.t, .int .i64 x.p, .int .i64 x.w, .int .i64 x.d] 70)) := (Mod.refl _ _).alloc _
  have hcb : (w.alloc (.cells #[.int .i64 x.o, .int .i64 x.c, .int .i64 x.s, .int .i64 x.l, .int .i64 x.n, .int .i64 x.t, .int .i64 x.p, .int .i64 x.w, .int .i64 x.d] 70)).heap[w.heap.size]? = some (.cells #[.int .i64 x.o, .int .i64 x.c, .int .i64 x.s, .int .i64 x.l, .int .i64 x.n, .int .i64 x.t, .int .i64 x.p, .int .i64 x.w, .int .i64 x.d] 70 (0, 0)) := heap_alloc_new _ _
  have HM := hid hma
  have hb2 : (w.alloc (.cells #[.int .i64 x.o, .int .i64 x.c, .int .i64 x.s, .int .i64 x.l, .int .i64 x.n, .int .i64 x.t, .int .i64 x.p, .int .i64 x.w, .int .i64 x.d] 70)).cell? ⟨b, 0, none⟩ = some (.int .i64 io) := (hma.cell (World.block_lt_of_cell? _ _ hb) (fun h => h)).trans hb
  obtain ⟨a0, a1, a2, a3, a4, a5, a6, a7, a8⟩ := row9 hcb
  clear hma hb hcb
  obtain ⟨xo, xc, xs, xl, xn, xt, xp, xw, xd⟩ := x
  simp only at *
  by_cases h1 : xo = io
  · subst h1
    have e1 : (xo == xo) = true := by simp
    have HW : Hid ((xo == xo && xs == 1) = (xs == 1)) := hid (by simp)
    rw [HW.out]
    go_enter Try.func33, Try.ntmps33
    go_wp2_with fail
    go_ret
    exact ⟨rfl, HM.out⟩
  · have e1 : (xo == io) = false := by simpa using h1
    have HW : Hid ((xo == io && xs == 1) = false) := hid (by rw [e1]; rfl)
    rw [HW.out]
    clear h1
    go_enter Try.func33, Try.ntmps33
    go_wp2_with fail
    go_ret
    exact ⟨rfl, HM.out⟩

set_option maxRecDepth 100000 in
set_option maxHeartbeats 4000000 in
theorem compC_any {w : World} {b : Nat} {ha ga aa : Option Addr} {hs : List Hl} {gs : List Gd} {acs : List Ac} (hc gc ac : Nat) (x : In) (hb : w.heap[b]? = some (.cells #[v0, v1, v2, .slice ha hs.length hc, v4, .slice ga gs.length gc, .slice aa acs.length ac, v7, v8, v9, v10, v11, v12, v13, v14] 35 (0, 0)))
    (hh : Lies w 3 Hl.cs ha hs) (hg : Lies w 3 Gd.cs ga gs) (hacs : Lies w 9 Ac.cs aa acs) (n1 : hs.length ≤ 140737488351232) (n2 : gs.length ≤ 140737488351232) (n3 : acs.length ≤ 140737488351232) :
    Calls Try.prog 29 #[.agg #[.int .i64 x.o, .int .i64 x.s, .bool x.p, .slice x.ma x.ml x.mc, .slice x.ta x.tl x.tc, .string x.f], .pointer (some ⟨b, 0, none⟩)] w fun e w' => e = .returned (.bool (!(clearP hs (gs.map Gd.pl) (acs.map Ac.pl) x.pl))) ∧ Mod (fun _ => False) w w' := by
  have hma : Mod (fun _ => False) w (w.alloc (.cells #[.int .i64 x.o, .int .i64 x.s, .bool x.p, .slice x.ma x.ml x.mc, .slice x.ta x.tl x.tc, .string x.f] 85)) := (Mod.refl _ _).alloc _
  have hcb : (w.alloc (.cells #[.int .i64 x.o, .int .i64 x.s, .bool x.p, .slice x.ma x.ml x.mc, .slice x.ta x.tl x.tc, .string x.f] 85)).heap[w.heap.size]? = some (.cells #[.int .i64 x.o, .int .i64 x.s, .bool x.p, .slice x.ma x.ml x.mc, .slice x.ta x.tl x.tc, .string x.f] 85 (0, 0)) := heap_alloc_new _ _
  have HM := hid hma
  have HC := hid hcb
  have HB := hid ((hma.block _ (lt_of_heap hb) (fun h => h)).trans hb)
  have hb2 := HB.out
  have b3 := row_at (j := 3) (v := .slice ha hs.length hc) hb2 rfl
  obtain ⟨a0, a1, _⟩ := row6 hcb
  have HK1 := hid (fun (v : World) (hv : Mod (fun _ => False) (w.alloc (.cells #[.int .i64 x.o, .int .i64 x.s, .bool x.p, .slice x.ma x.ml x.mc, .slice x.ta x.tl x.tc, .string x.f] 85)) v) => conHeldC hc w.heap.size (fun h => h.o == x.o) ((hh.ext hma).ext hv) n1 (fun w1 y hm1 _ => comp1_any y (row_at (j := 0) (((hv.trans hm1).block _ (lt_of_heap hcb) (fun h => h)).trans hcb) rfl)))
  have HK2 := hid (fun (v : World) (hv : Mod (fun _ => False) (w.alloc (.cells #[.int .i64 x.o, .int .i64 x.s, .bool x.p, .slice x.ma x.ml x.mc, .slice x.ta x.tl x.tc, .string x.f] 85)) v) => conGoodsC gc w.heap.size (fun g => g.o == x.o && (g.s == 1 || g.s == 2)) ((hg.ext hma).ext hv) n2 (fun w1 y hm1 _ => comp2_any y (row_at (j := 0) (((hv.trans hm1).block _ (lt_of_heap hcb) (fun h => h)).trans hcb) rfl)))
  have HK3 := hid (fun (v : World) (hv : Mod (fun _ => False) (w.alloc (.cells #[.int .i64 x.o, .int .i64 x.s, .bool x.p, .slice x.ma x.ml x.mc, .slice x.ta x.tl x.tc, .string x.f] 85)) v) => conAccountC ac w.heap.size (fun a => a.o == x.o && a.s == 1) ((hacs.ext hma).ext hv) n3 (fun w1 y hm1 _ => comp3_any y (row_at (j := 0) (((hv.trans hm1).block _ (lt_of_heap hcb) (fun h => h)).trans hcb) rfl)))
  have HBv := hid (fun (v : World) (hv : Mod (fun _ => False) (w.alloc (.cells #[.int .i64 x.o, .int .i64 x.s, .bool x.p, .slice x.ma x.ml x.mc, .slice x.ta x.tl x.tc, .string x.f] 85)) v) => And.intro (row_at (j := 5) (v := .slice ga gs.length gc) ((hv.block _ (lt_of_heap HB.out) (fun h => h)).trans HB.out) rfl) (row_at (j := 6) (v := .slice aa acs.length ac) ((hv.block _ (lt_of_heap HB.out) (fun h => h)).trans HB.out) rfl))
  have HQ : Hid (clearP hs (gs.map Gd.pl) (acs.map Ac.pl) x.pl = if x.s = 3 ∧ 0 < x.o then !(hs.any (fun h => h.o == x.o) || (gs.any (fun g => g.o == x.o && (g.s == 1 || g.s == 2)) || acs.any (fun a => a.o == x.o && a.s == 1))) else true) := hid (by
    unfold clearP
    rw [List.any_map, List.any_map]
    rfl)
  rw [HQ.out]
  clear hma hcb hb hb2 hh hg hacs HQ
  obtain ⟨xo, xs, xp, xma, xml, xmc, xta, xtl, xtc, xf⟩ := x
  simp only at *
  by_cases h1 : xs = 3
  · subst h1
    by_cases h2 : 0 < xo
    · have d1 : decide (xo ≤ 0) = false := decide_eq_false (by omega)
      have d2 : ¬ xo ≤ 0 := by omega
      rw [if_pos ⟨rfl, h2⟩]
      clear h2
      generalize hs.any (fun h => h.o == xo) = A at *
      generalize gs.any (fun g => g.o == xo && (g.s == 1 || g.s == 2)) = B at *
      generalize acs.any (fun a => a.o == xo && a.s == 1) = D at *
      cases A with
      | true =>
        go_enter Try.func29, Try.ntmps29
        go_wp2_with (first | (go_at_call 23; refine (HK1.out _ (Mod.refl _ _)).mono ?_; rintro e w2 ⟨rfl, hm2⟩; have HM2 := hid hm2; obtain ⟨b5, b6⟩ := HBv.out _ HM2.out; clear hm2 b3))
        go_ret
        exact ⟨rfl, HM.out.trans HM2.out⟩
      | false =>
        cases B with
        | true =>
          go_enter Try.func29, Try.ntmps29
          go_wp2_with (first | (go_at_call 23; refine (HK1.out _ (Mod.refl _ _)).mono ?_; rintro e w2 ⟨rfl, hm2⟩; have HM2 := hid hm2; obtain ⟨b5, b6⟩ := HBv.out _ HM2.out; clear hm2 b3) | (go_at_call 31; refine (HK2.out _ HM2.out).mono ?_; rintro e w3 ⟨rfl, hm3⟩; have HM3 := hid (HM2.out.trans hm3); clear b5 b6; obtain ⟨b5, b6⟩ := HBv.out _ HM3.out; clear hm3))
          go_ret
          exact ⟨rfl, HM.out.trans HM3.out⟩
        | false =>
          have HW : Hid ((!(!(false || (false || D)))) = D) := hid (by cases D <;> rfl)
          rw [HW.out]
          go_enter Try.func29, Try.ntmps29
          go_wp2_with (first | (go_at_call 23; refine (HK1.out _ (Mod.refl _ _)).mono ?_; rintro e w2 ⟨rfl, hm2⟩; have HM2 := hid hm2; obtain ⟨b5, b6⟩ := HBv.out _ HM2.out; clear hm2 b3) | (go_at_call 31; refine (HK2.out _ HM2.out).mono ?_; rintro e w3 ⟨rfl, hm3⟩; have HM3 := hid (HM2.out.trans hm3); clear b5 b6; obtain ⟨b5, b6⟩ := HBv.out _ HM3.out; clear hm3) | (go_at_call 26; refine (HK3.out _ HM3.out).mono ?_; rintro e w4 ⟨rfl, hm4⟩; have HM4 := hid (HM3.out.trans hm4); clear hm4 b5 b6))
          go_ret
          exact ⟨rfl, HM.out.trans HM4.out⟩
    · have d1 : decide (xo ≤ 0) = true := decide_eq_true (by omega)
      have d2 : xo ≤ 0 := by omega
      rw [if_neg (fun h => h2 h.2)]
      clear h2
      clear HK1 HK2 HK3 HBv
      go_enter Try.func29, Try.ntmps29
      go_wp2_with fail
      go_ret
      exact ⟨rfl, HM.out⟩
  
  · have e1 : (xs == 3) = false := by simpa using h1
    have e2 : (xs != 3) = true := by simpa using h1
    rw [if_neg (fun h => h1 h.1)]
    clear h1
    clear HK1 HK2 HK3 HBv
    go_enter Try.func29, Try.ntmps29
    go_wp2_with fail
    go_ret
    exact ⟨rfl, HM.out⟩

set_option maxRecDepth 100000 in
theorem comp_any {w : World} {ha ga aa ia : Option Addr} {hs : List Hl} {gs : List Gd} {acs : List Ac} {ins : List In} (hc gc ac ic : Nat)
    (hh : Lies w 3 Hl.cs ha hs) (hg : Lies w 3 Gd.cs ga gs) (hacs : Lies w 9 Ac.cs aa acs) (hi : Lies w 6 In.cs ia ins) (n1 : hs.length ≤ 140737488351232) (n2 : gs.length ≤ 140737488351232) (n3 : acs.length ≤ 140737488351232) (n4 : ins.length ≤ 140737488351232) :
    Calls Try.prog 15 #[.agg #[v0, v1, v2, .slice ha hs.length hc, v4, .slice ga gs.length gc, .slice aa acs.length ac, v7, v8, v9, v10, v11, v12, v13, .slice ia ins.length ic]] w fun e w' => e = .returned (.bool ((ins.map In.pl).all (clearP hs (gs.map Gd.pl) (acs.map Ac.pl)))) ∧ Mod (fun _ => False) w w' := by
  have hma : Mod (fun _ => False) w (w.alloc (.cells #[v0, v1, v2, .slice ha hs.length hc, v4, .slice ga gs.length gc, .slice aa acs.length ac, v7, v8, v9, v10, v11, v12, v13, .slice ia ins.length ic] 35)) := (Mod.refl _ _).alloc _
  have hcb : (w.alloc (.cells #[v0, v1, v2, .slice ha hs.length hc, v4, .slice ga gs.length gc, .slice aa acs.length ac, v7, v8, v9, v10, v11, v12, v13, .slice ia ins.length ic] 35)).heap[w.heap.size]? = some (.cells #[v0, v1, v2, .slice ha hs.length hc, v4, .slice ga gs.length gc, .slice aa acs.length ac, v7, v8, v9, v10, v11, v12, v13, .slice ia ins.length ic] 35 (0, 0)) := heap_alloc_new _ _
  have HM := hid hma
  have bj := row_at (j := 14) (v := .slice ia ins.length ic) hcb rfl
  have HK := hid (conInstance ic w.heap.size (fun x : In => !(clearP hs (gs.map Gd.pl) (acs.map Ac.pl) x.pl)) (hi.ext hma) n4 (fun w1 x hm1 _ => compC_any hc gc ac x ((hm1.block _ (lt_of_heap hcb) (fun h => h)).trans hcb) ((hh.ext hma).ext hm1) ((hg.ext hma).ext hm1) ((hacs.ext hma).ext hm1) n1 n2 n3))
  have HV := hid ((all_not (fun x : In => clearP hs (gs.map Gd.pl) (acs.map Ac.pl) x.pl) ins).trans (List.all_map (f := In.pl) (p := clearP hs (gs.map Gd.pl) (acs.map Ac.pl)) (l := ins)).symm)
  clear hma hcb hh hg hacs hi
  go_enter Try.func15, Try.ntmps15
  go_wp2_with (first | (go_at_call 28; refine HK.out.mono ?_; rintro e w2 ⟨rfl, hm2⟩; have HM2 := hid hm2; clear hm2 bj))
  rw [HV.out]
  go_ret
  exact ⟨rfl, HM.out.trans HM2.out⟩

end Go.Proofs.Ytigoikepcbbhjaa
