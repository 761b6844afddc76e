/- wakes, and the law's walk (printed by genlaw23.py) -/
import Derived.Test.YtigoikepcbbhjaaAuG
namespace Go.Proofs.Ytigoikepcbbhjaa
open Go Go.RowKit

variable {v0 v1 v2 v3 v4 v5 v6 v7 v8 v9 v10 v11 v12 v13 v14 : Value}
variable {ha la ga aa oa ta ia : Option Addr} {hs : List Hl} {ls : List Lv} {gs : List Gd} {acs : List Ac} {os : List Od} {ts : List Lt} {ins : List In}

theorem tl_nil (w : World) : TL w none none none none none none none [] [] [] [] [] [] [] :=
  ⟨lies_nil _ _ _ _, lies_nil _ _ _ _, ⟨lies_nil _ _ _ _, fun x h => by cases h⟩, lies_nil _ _ _ _, lies_nil _ _ _ _, lies_nil _ _ _ _, lies_nil _ _ _ _, by simp, by simp, by simp, by simp, by simp, by simp, by simp, fun x h => by cases h⟩

set_option maxRecDepth 100000 in
set_option maxHeartbeats 4000000 in
theorem wakes_any (w : World) : Calls Try.prog 5 #[] w fun e w' => e = .returned (.bool true) ∧ Mod (fun _ => False) w w' := by
  have hm2 : Mod (fun _ => False) w ((w.alloc (.cells #[.int .i64 1, .int .i64 5, .int .i64 4, .int .i64 0, .int .i64 0, .int .i64 0] 58)).alloc (.cells #[.int .i64 1, .int .i64 0, .int .i64 0] 55)) := ((Mod.refl _ _).alloc _).alloc _
  have hl1 : Lies ((w.alloc (.cells #[.int .i64 1, .int .i64 5, .int .i64 4, .int .i64 0, .int .i64 0, .int .i64 0] 58)).alloc (.cells #[.int .i64 1, .int .i64 0, .int .i64 0] 55)) 6 Lv.cs (some ⟨w.heap.size, 0, none⟩) [⟨1, 5, 4, 0, 0, 0⟩] := (lies_new (ls := [⟨1, 5, 4, 0, 0, 0⟩]) Lv.len (heap_alloc_new w (.cells #[.int .i64 1, .int .i64 5, .int .i64 4, .int .i64 0, .int .i64 0, .int .i64 0] 58))).ext ((Mod.refl _ _).alloc _)
  have hl2 : Lies ((w.alloc (.cells #[.int .i64 1, .int .i64 5, .int .i64 4, .int .i64 0, .int .i64 0, .int .i64 0] 58)).alloc (.cells #[.int .i64 1, .int .i64 0, .int .i64 0] 55)) 3 Hl.cs (some ⟨w.heap.size + 1, 0, none⟩) [⟨1, 0, 0⟩] := lies_new (ls := [⟨1, 0, 0⟩]) Hl.len (by have := heap_alloc_new (w.alloc (.cells #[.int .i64 1, .int .i64 5, .int .i64 4, .int .i64 0, .int .i64 0, .int .i64 0] 58)) (.cells #[.int .i64 1, .int .i64 0, .int .i64 0] 55); rw [World.size_alloc] at this; exact this)
  have ht : TL ((w.alloc (.cells #[.int .i64 1, .int .i64 5, .int .i64 4, .int .i64 0, .int .i64 0, .int .i64 0] 58)).alloc (.cells #[.int .i64 1, .int .i64 0, .int .i64 0] 55)) (some ⟨w.heap.size + 1, 0, none⟩) (some ⟨w.heap.size, 0, none⟩) none none none none none [⟨1, 0, 0⟩] [⟨1, 5, 4, 0, 0, 0⟩] [] [] [] [] [] :=
    ⟨hl2, hl1, ⟨lies_nil _ _ _ _, fun x h => by cases h⟩, lies_nil _ _ _ _, lies_nil _ _ _ _, lies_nil _ _ _ _, lies_nil _ _ _ _, by simp, by simp, by simp, by simp, by simp, by simp, by simp, fun x h => by cases h⟩
  have hw1 : checkP (tdOf [⟨1, 0, 0⟩] [⟨1, 5, 4, 0, 0, 0⟩] [] [] [] 0 [] []) = [1, 2] := wake1
  have hw2 : checkP (tdOf [] [] [] [] [] 0 [] []) = [] := wake2
  have HK1 := hid (check_any (v0 := .int .i64 0) (v1 := .slice none 0 0) (v2 := .slice none 0 0) (v7 := .int .i64 0) (v8 := .slice none 0 0) (v10 := .slice none 0 0) (v13 := .slice none 0 0) 1 1 0 0 0 0 0 0 ht)
  have HK2 := hid (fun v : World => check_any (v0 := .int .i64 0) (v1 := .slice none 0 0) (v2 := .slice none 0 0) (v7 := .int .i64 0) (v8 := .slice none 0 0) (v10 := .slice none 0 0) (v13 := .slice none 0 0) 0 0 0 0 0 0 0 0 (tl_nil v))
  rw [hw1] at HK1
  rw [hw2] at HK2
  have HM := hid hm2
  have HS := hid (fun (v : World) (a b : Option Addr) (c1 c2 : Nat) (h1 : Lies v 1 oneI a [1, 2]) (h2 : Lies v 1 oneI b [1, 2]) => same_true c1 c2 h1 h2 (by simp))
  simp only [List.length_cons, List.length_nil, Nat.zero_add, Nat.reduceAdd] at HK1 HK2 HS
  clear hm2 hl1 hl2 ht hw1 hw2
  go_enter Try.func5, Try.ntmps5
  go_wp2_with (first
    | (go_at_call 7; (with_reducible refine HK1.out.mono ?_); rintro e w3 ⟨sa, cap, rfl, hl3, hm3⟩; have HM3 := hid (HM.out.trans hm3); have hm4 : Mod (fun _ => False) w3 (w3.alloc (.cells #[.int .i64 1, .int .i64 2] 3)) := (Mod.refl _ _).alloc _; have HM4 := hid (HM3.out.trans hm4); have HL3 := hid (hl3.ext hm4); have HL4 : Hid (Lies (w3.alloc (.cells #[.int .i64 1, .int .i64 2] 3)) 1 oneI (some ⟨w3.heap.size, 0, none⟩) [1, 2]) := hid (lies_new (ls := [1, 2]) oneI_len (heap_alloc_new w3 _)); clear hl3 hm3 hm4)
    | (go_at_call 6; refine (HS.out _ _ _ _ _ HL3.out HL4.out).mono ?_; rintro e w5 ⟨rfl, hm5⟩; have HM5 := hid (HM4.out.trans hm5); clear hm5)
    | (go_at_call 7; refine (HK2.out _).mono ?_; rintro e w6 ⟨sb, cap2, rfl, _, hm6⟩; have HM6 := hid (HM5.out.trans hm6); clear hm6))
  go_ret
  exact ⟨rfl, HM6.out⟩

def LawS (b c : Nat) (v0 v1 v2 v3 v4 v5 v6 v7 v8 v9 v10 v11 v12 v13 v14 u0 u1 u2 u3 u4 u5 u6 u7 : Value) (w : World) : Prop :=
  (w.cell? ⟨b, 0, none⟩ = some v0 ∧ w.cell? ⟨b, 1, none⟩ = some v1 ∧ w.cell? ⟨b, 2, none⟩ = some v2 ∧ w.cell? ⟨b, 3, none⟩ = some v3 ∧ w.cell? ⟨b, 4, none⟩ = some v4 ∧ w.cell? ⟨b, 5, none⟩ = some v5 ∧ w.cell? ⟨b, 6, none⟩ = some v6 ∧ w.cell? ⟨b, 7, none⟩ = some v7 ∧ w.cell? ⟨b, 8, none⟩ = some v8 ∧ w.cell? ⟨b, 9, none⟩ = some v9 ∧ w.cell? ⟨b, 10, none⟩ = some v10 ∧ w.cell? ⟨b, 11, none⟩ = some v11 ∧ w.cell? ⟨b, 12, none⟩ = some v12 ∧ w.cell? ⟨b, 13, none⟩ = some v13 ∧ w.cell? ⟨b, 14, none⟩ = some v14) ∧
  (w.cell? ⟨c, 0, none⟩ = some u0 ∧ w.cell? ⟨c, 1, none⟩ = some u1 ∧ w.cell? ⟨c, 2, none⟩ = some u2 ∧ w.cell? ⟨c, 3, none⟩ = some u3 ∧ w.cell? ⟨c, 4, none⟩ = some u4 ∧ w.cell? ⟨c, 5, none⟩ = some u5 ∧ w.cell? ⟨c, 6, none⟩ = some u6 ∧ w.cell? ⟨c, 7, none⟩ = some u7)

theorem rc_at {w : World} {bha bla bga baa boa bta bia : Option Addr} {bhc blc bgc bac boc btc bic : Nat} {next : Int} {yl : List Gd} (t : RL w bha bla bga baa boa bta bia hs ls yl (acs.map Ac.pl) (os.map Od.pl) (ts.map Lt.pl) (ins.map In.pl)) (hy : yl.map Gd.pl = gs.map Gd.pl) (hl : yl.length = gs.length)
    (hn : hs.length * 24 ≤ 140737488351232 ∧ ls.length * 48 ≤ 140737488351232 ∧ gs.length * 40 ≤ 140737488351232 ∧ acs.length * 72 ≤ 140737488351232 ∧ os.length * 72 ≤ 140737488351232 ∧ ts.length * 72 ≤ 140737488351232 ∧ ins.length * 80 ≤ 140737488351232) :
    Calls Try.prog 8 #[.agg #[.slice bha hs.length bhc, .slice bla ls.length blc, .slice bga gs.length bgc, .slice baa acs.length bac, .slice boa os.length boc, .int .i64 next, .slice bta ts.length btc, .slice bia ins.length bic]] w fun e w' => ChkAns w (checkP (tdOf hs ls gs acs os next ts ins)) e w' := by
  obtain ⟨n1, n2, n3, n4, n5, n6, n7⟩ := hn
  have h := rcheck_any bhc blc bgc bac boc btc bic next t (by omega) (by omega) (by omega) (by rw [List.length_map]; omega) (by rw [List.length_map]; omega) (by rw [List.length_map]; omega) (by rw [List.length_map]; omega)
  rw [hy, hl, List.length_map, List.length_map, List.length_map, List.length_map] at h
  exact h

theorem rl_at {w : World} {bha bla bga baa boa bta bia : Option Addr} {bhc blc bgc bac boc btc bic : Nat} {next : Int} {yl : List Gd} (t : RL w bha bla bga baa boa bta bia hs ls yl (acs.map Ac.pl) (os.map Od.pl) (ts.map Lt.pl) (ins.map In.pl)) (_hl : yl.length = gs.length) (hn : ins.length ≤ 140737488351232) :
    Calls Try.prog 10 #[.agg #[.slice bha hs.length bhc, .slice bla ls.length blc, .slice bga gs.length bgc, .slice baa acs.length bac, .slice boa os.length boc, .int .i64 next, .slice bta ts.length btc, .slice bia ins.length bic]] w fun e w' => e = .returned (.int .i64 (liveP (ins.map In.pl) : Int)) ∧ Mod (fun _ => False) w w' := by
  have h := rlive_any (u0 := .slice bha hs.length bhc) (u1 := .slice bla ls.length blc) (u2 := .slice bga gs.length bgc) (u3 := .slice baa acs.length bac) (u4 := .slice boa os.length boc) (u5 := .int .i64 next) (u6 := .slice bta ts.length btc) bic t.i (by rw [List.length_map]; exact hn)
  rw [List.length_map] at h
  exact h

set_option maxRecDepth 100000 in
set_option maxHeartbeats 8000000 in
theorem law_any {w : World} (hc lc gc ac oc tc ic : Nat) (next : Int) (t : TL w ha la ga aa oa ta ia hs ls gs acs os ts ins) :
    Calls Try.prog 3 #[.agg #[v0, v1, v2, .slice ha hs.length hc, .slice la ls.length lc, .slice ga gs.length gc, .slice aa acs.length ac, v7, v8, .slice oa os.length oc, v10, .int .i64 next, .slice ta ts.length tc, v13, .slice ia ins.length ic]] w fun e w' => e = .returned (.bool true) ∧ Mod (fun _ => False) w w' := by
  have hma : Mod (fun _ => False) w (w.alloc (.cells #[v0, v1, v2, .slice ha hs.length hc, .slice la ls.length lc, .slice ga gs.length gc, .slice aa acs.length ac, v7, v8, .slice oa os.length oc, v10, .int .i64 next, .slice ta ts.length tc, v13, .slice ia ins.length ic] 35)) := (Mod.refl _ _).alloc _
  have hcb : (w.alloc (.cells #[v0, v1, v2, .slice ha hs.length hc, .slice la ls.length lc, .slice ga gs.length gc, .slice aa acs.length ac, v7, v8, .slice oa os.length oc, v10, .int .i64 next, .slice ta ts.length tc, v13, .slice ia ins.length ic] 35)).heap[w.heap.size]? = some (.cells #[v0, v1, v2, .slice ha hs.length hc, .slice la ls.length lc, .slice ga gs.length gc, .slice aa acs.length ac, v7, v8, .slice oa os.length oc, v10, .int .i64 next, .slice ta ts.length tc, v13, .slice ia ins.length ic] 35 (0, 0)) := heap_alloc_new _ _
  have HRf := hid (ref_any (v0 := v0) (v1 := v1) (v2 := v2) (v7 := v7) (v8 := v8) (v10 := v10) (v13 := v13) hc lc gc ac oc tc ic next (t.ext hma))
  have HM := hid hma
  have HB := hid hcb
  have HT := hid (t.ext hma)
  obtain ⟨b0, b1, b2, b3, b4, b5, b6, b7, b8, b9, b10, b11, b12, b13, b14⟩ := row15 hcb
  have HNs := hid (And.intro t.nh (And.intro t.nl (And.intro t.ng (And.intro t.na (And.intro t.no (And.intro t.nt t.ni))))))
  clear hma hcb t
  go_enter Try.func3, Try.ntmps3
  go_upto_region 2 with (first | (go_at_call 4; refine HRf.out.mono ?_; rintro e w2 ⟨bha, bla, bga, baa, boa, bta, bia, bhc, blc, bgc, bac, boc, btc, bic, yl, hyp, hyl, rfl, hrl, hm2⟩; have HYp := hid hyp; have HYl := hid hyl; have HRl0 := hid hrl; have HM2 := hid hm2; clear hyp hyl hrl hm2 b0 b1 b2 b3 b4 b5 b6 b7 b8 b9 b10 b11 b12 b13 b14))
  have hmy : Mod (fun _ => False) w2 (w2.alloc (.cells #[.slice bha hs.length bhc, .slice bla ls.length blc, .slice bga gs.length bgc, .slice baa acs.length bac, .slice boa os.length boc, .int .i64 next, .slice bta ts.length btc, .slice bia ins.length bic] 44)) := (Mod.refl _ _).alloc _
  have HMy : Hid (Mod (fun _ => False) w (w2.alloc (.cells #[.slice bha hs.length bhc, .slice bla ls.length blc, .slice bga gs.length bgc, .slice baa acs.length bac, .slice boa os.length boc, .int .i64 next, .slice bta ts.length btc, .slice bia ins.length bic] 44))) := hid (HM.out.trans (HM2.out.trans hmy))
  have HCb : Hid ((w2.alloc (.cells #[.slice bha hs.length bhc, .slice bla ls.length blc, .slice bga gs.length bgc, .slice baa acs.length bac, .slice boa os.length boc, .int .i64 next, .slice bta ts.length btc, .slice bia ins.length bic] 44)).heap[w2.heap.size]? = some (.cells #[.slice bha hs.length bhc, .slice bla ls.length blc, .slice bga gs.length bgc, .slice baa acs.length bac, .slice boa os.length boc, .int .i64 next, .slice bta ts.length btc, .slice bia ins.length bic] 44 (0, 0))) := hid (heap_alloc_new _ _)
  have HBb := hid (((HM2.out.trans hmy).block _ (lt_of_heap HB.out) (fun h => h)).trans HB.out)
  have HTy := hid (HT.out.ext (HM2.out.trans hmy))
  have HRy := hid (HRl0.out.ext hmy)
  clear hmy
  generalize w2.alloc (.cells #[.slice bha hs.length bhc, .slice bla ls.length blc, .slice bga gs.length bgc, .slice baa acs.length bac, .slice boa os.length boc, .int .i64 next, .slice bta ts.length btc, .slice bia ins.length bic] 44) = Y at *
  have HUp0 := hid (fun (v : World) (hv : Mod (fun _ => False) Y v) => (And.intro (row15 ((hv.block _ (lt_of_heap HBb.out) (fun h => h)).trans HBb.out)) (row8 ((hv.block _ (lt_of_heap HCb.out) (fun h => h)).trans HCb.out))))
  refine wp_region_held_drew (S := fun w' => LawS w.heap.size w2.heap.size v0 v1 v2 (.slice ha hs.length hc) (.slice la ls.length lc) (.slice ga gs.length gc) (.slice aa acs.length ac) v7 v8 (.slice oa os.length oc) v10 (.int .i64 next) (.slice ta ts.length tc) v13 (.slice ia ins.length ic) (.slice bha hs.length bhc) (.slice bla ls.length blc) (.slice bga gs.length bgc) (.slice baa acs.length bac) (.slice boa os.length boc) (.int .i64 next) (.slice bta ts.length btc) (.slice bia ins.length bic) w') (by kernel_rfl) (HUp0.out _ (Mod.refl _ _).drew) (fun hHeld => ?_)
  have HMz : Hid (Mod (fun _ => False) w Y.drew) := hid (HMy.out.trans (Mod.refl _ _).drew)
  have HMyz : Hid (Mod (fun _ => False) Y Y.drew) := hid (Mod.refl _ _).drew
  generalize Y.drew = Z at *
  have HUp := hid (fun v (hv : Mod (fun _ => False) Z v) => HUp0.out v (HMyz.out.trans hv))
  have HCh := hid (fun (v : World) (hv : Mod (fun _ => False) Z v) => check_any (v0 := v0) (v1 := v1) (v2 := v2) (v7 := v7) (v8 := v8) (v10 := v10) (v13 := v13) hc lc gc ac oc tc ic next (HTy.out.ext (HMyz.out.trans hv)))
  have HRc : Hid (∀ v : World, Mod (fun _ => False) Z v → Calls Try.prog 8 #[.agg #[.slice bha hs.length bhc, .slice bla ls.length blc, .slice bga gs.length bgc, .slice baa acs.length bac, .slice boa os.length boc, .int .i64 next, .slice bta ts.length btc, .slice bia ins.length bic]] v fun e w' => ChkAns v (checkP (tdOf hs ls gs acs os next ts ins)) e w') := hid (fun v hv => rc_at (HRy.out.ext (HMyz.out.trans hv)) HYp.out HYl.out HNs.out)
  have HSm := hid (fun (v : World) (_ : Mod (fun _ => False) Z v) (a b : Option Addr) (c1 c2 : Nat) (h1 : Lies v 1 oneI a (checkP (tdOf hs ls gs acs os next ts ins))) (h2 : Lies v 1 oneI b (checkP (tdOf hs ls gs acs os next ts ins))) => same_true c1 c2 h1 h2 (by have := outK_len (lawsP (tdOf hs ls gs acs os next ts ins)) 5; unfold checkP; omega))
  have HLv := hid (fun (v : World) (hv : Mod (fun _ => False) Z v) => live_any (v0 := v0) (v1 := v1) (v2 := v2) (v3 := .slice ha hs.length hc) (v4 := .slice la ls.length lc) (v5 := .slice ga gs.length gc) (v6 := .slice aa acs.length ac) (v7 := v7) (v8 := v8) (v9 := .slice oa os.length oc) (v10 := v10) (v11 := .int .i64 next) (v12 := .slice ta ts.length tc) (v13 := v13) ic (HTy.out.ext (HMyz.out.trans hv)).i (by have := HTy.out.ni; omega))
  have HRl : Hid (∀ v : World, Mod (fun _ => False) Z v → Calls Try.prog 10 #[.agg #[.slice bha hs.length bhc, .slice bla ls.length blc, .slice bga gs.length bgc, .slice baa acs.length bac, .slice boa os.length boc, .int .i64 next, .slice bta ts.length btc, .slice bia ins.length bic]] v fun e w' => e = .returned (.int .i64 (liveP (ins.map In.pl) : Int)) ∧ Mod (fun _ => False) v w') := hid (fun v hv => rl_at (HRy.out.ext (HMyz.out.trans hv)) HYl.out (by have := HTy.out.ni; omega))
  generalize checkP (tdOf hs ls gs acs os next ts ins) = LL at *
  generalize liveP (ins.map In.pl) = nn at *
  have ee : ((nn : Int) == (nn : Int)) = true := by simp
  refine wpAnyH_ready (rs := [0]) (by kernel_rfl) (by simp) (AllReadyH.cons rfl (fun K hK => ?_) AllReadyH.nil)
  go_simp
  refine (wakes_any Z).mono ?_
  rintro e w4 ⟨rfl, hm4⟩
  have HM4 : Hid (Mod (fun _ => False) Z w4) := hid (Mod.trans (Mod.refl _ _) hm4)
  clear hm4
  refine hK.out _ _ (HUp.out _ HM4.out) (fun hHeld2 => ?_)
  clear hK K hHeld
  have hHeld := hHeld2
  clear hHeld2
  try simp only [Act.put, List.setIfInBounds_toArray, List.set_cons_zero, List.set_cons_succ]
  refine wpAnyH_take_at (i := 1) (d := 7) (v := .bool true) rfl rfl (by kernel_rfl) (by kernel_rfl) (by kernel_rfl) (fun _ _ _ h => h) (Or.inl ⟨by rfl, fun w' _ => by go_simp⟩) (by assumption) ?_
  simp only [Act.put, List.setIfInBounds_toArray, List.set_cons_zero, List.set_cons_succ]
  refine wpAnyH_take_at (i := 2) (d := 8) (v := .agg #[v0, v1, v2, .slice ha hs.length hc, .slice la ls.length lc, .slice ga gs.length gc, .slice aa acs.length ac, v7, v8, .slice oa os.length oc, v10, .int .i64 next, .slice ta ts.length tc, v13, .slice ia ins.length ic]) rfl rfl (by kernel_rfl) (by kernel_rfl) (by kernel_rfl) (fun _ _ _ h => h) (Or.inl ⟨by simp [Region.wanted, yielded], fun w' hSw => by (obtain ⟨⟨b0, b1, b2, b3, b4, b5, b6, b7, b8, b9, b10, b11, b12, b13, b14⟩, r0, r1, r2, r3, r4, r5, r6, r7⟩ := hSw); go_simp⟩) (by assumption) ?_
  simp only [Act.put, List.setIfInBounds_toArray, List.set_cons_zero, List.set_cons_succ]
  refine wpAnyH_take_at (i := 4) (d := 10) (v := .agg #[.slice bha hs.length bhc, .slice bla ls.length blc, .slice bga gs.length bgc, .slice baa acs.length bac, .slice boa os.length boc, .int .i64 next, .slice bta ts.length btc, .slice bia ins.length bic]) rfl rfl (by kernel_rfl) (by kernel_rfl) (by kernel_rfl) (fun _ _ _ h => h) (Or.inl ⟨by simp [Region.wanted, yielded], fun w' hSw => by (obtain ⟨⟨b0, b1, b2, b3, b4, b5, b6, b7, b8, b9, b10, b11, b12, b13, b14⟩, r0, r1, r2, r3, r4, r5, r6, r7⟩ := hSw); go_simp⟩) (by assumption) ?_
  simp only [Act.put, List.setIfInBounds_toArray, List.set_cons_zero, List.set_cons_succ]
  refine wpAnyH_ready (rs := [3]) (by kernel_rfl) (by simp) (AllReadyH.cons rfl (fun K hK => ?_) AllReadyH.nil)
  go_simp
  refine (HCh.out w4 HM4.out).mono ?_
  rintro e w5 ⟨sa, cap, rfl, hl5, hm5⟩
  have HM5 : Hid (Mod (fun _ => False) Z w5) := hid (Mod.trans HM4.out hm5)
  have HLa := hid hl5
  clear hl5 hm5
  refine hK.out _ _ (HUp.out _ HM5.out) (fun hHeld2 => ?_)
  clear hK K hHeld
  have hHeld := hHeld2
  clear hHeld2
  try simp only [Act.put, List.setIfInBounds_toArray, List.set_cons_zero, List.set_cons_succ]
  refine wpAnyH_ready (rs := [5]) (by kernel_rfl) (by simp) (AllReadyH.cons rfl (fun K hK => ?_) AllReadyH.nil)
  go_simp
  refine (HRc.out w5 HM5.out).mono ?_
  rintro e w6 ⟨sb, cap2, rfl, hl6, hm6⟩
  have HM6 : Hid (Mod (fun _ => False) Z w6) := hid (Mod.trans HM5.out hm6)
  have HLb := hid hl6
  have hm56 := hm6; clear hl6 hm6
  refine hK.out _ _ (HUp.out _ HM6.out) (fun hHeld2 => ?_)
  clear hK K hHeld
  have hHeld := hHeld2
  clear hHeld2
  try simp only [Act.put, List.setIfInBounds_toArray, List.set_cons_zero, List.set_cons_succ]
  have HM56 : Hid (Mod (fun _ => False) w5 w6) := hid hm56
  refine wpAnyH_ready (rs := [6]) (by kernel_rfl) (by simp) (AllReadyH.cons rfl (fun K hK => ?_) AllReadyH.nil)
  go_simp
  refine (HSm.out w6 HM6.out _ _ _ _ (HLa.out.ext HM56.out) HLb.out).mono ?_
  rintro e w7 ⟨rfl, hm7⟩
  have HM7 : Hid (Mod (fun _ => False) Z w7) := hid (Mod.trans HM6.out hm7)
  clear hm7
  refine hK.out _ _ (HUp.out _ HM7.out) (fun hHeld2 => ?_)
  clear hK K hHeld
  have hHeld := hHeld2
  clear hHeld2
  try simp only [Act.put, List.setIfInBounds_toArray, List.set_cons_zero, List.set_cons_succ]
  refine wpAnyH_take_at (i := 7) (d := 13) (v := .bool true) rfl rfl (by kernel_rfl) (by kernel_rfl) (by kernel_rfl) (fun _ _ _ h => h) (Or.inl ⟨by rfl, fun w' _ => by go_simp⟩) (by assumption) ?_
  simp only [Act.put, List.setIfInBounds_toArray, List.set_cons_zero, List.set_cons_succ]
  refine wpAnyH_take_at (i := 8) (d := 14) (v := .bool true) rfl rfl (by kernel_rfl) (by kernel_rfl) (by kernel_rfl) (fun _ _ _ h => h) (Or.inl ⟨by rfl, fun w' _ => by go_simp⟩) (by assumption) ?_
  simp only [Act.put, List.setIfInBounds_toArray, List.set_cons_zero, List.set_cons_succ]
  refine wpAnyH_take_at (i := 9) (d := 15) (v := .agg #[v0, v1, v2, .slice ha hs.length hc, .slice la ls.length lc, .slice ga gs.length gc, .slice aa acs.length ac, v7, v8, .slice oa os.length oc, v10, .int .i64 next, .slice ta ts.length tc, v13, .slice ia ins.length ic]) rfl rfl (by kernel_rfl) (by kernel_rfl) (by kernel_rfl) (fun _ _ _ h => h) (Or.inl ⟨by simp [Region.wanted, yielded], fun w' hSw => by (obtain ⟨⟨b0, b1, b2, b3, b4, b5, b6, b7, b8, b9, b10, b11, b12, b13, b14⟩, r0, r1, r2, r3, r4, r5, r6, r7⟩ := hSw); go_simp⟩) (by assumption) ?_
  simp only [Act.put, List.setIfInBounds_toArray, List.set_cons_zero, List.set_cons_succ]
  refine wpAnyH_take_at (i := 11) (d := 17) (v := .agg #[.slice bha hs.length bhc, .slice bla ls.length blc, .slice bga gs.length bgc, .slice baa acs.length bac, .slice boa os.length boc, .int .i64 next, .slice bta ts.length btc, .slice bia ins.length bic]) rfl rfl (by kernel_rfl) (by kernel_rfl) (by kernel_rfl) (fun _ _ _ h => h) (Or.inl ⟨by simp [Region.wanted, yielded], fun w' hSw => by (obtain ⟨⟨b0, b1, b2, b3, b4, b5, b6, b7, b8, b9, b10, b11, b12, b13, b14⟩, r0, r1, r2, r3, r4, r5, r6, r7⟩ := hSw); go_simp⟩) (by assumption) ?_
  simp only [Act.put, List.setIfInBounds_toArray, List.set_cons_zero, List.set_cons_succ]
  refine wpAnyH_ready (rs := [10]) (by kernel_rfl) (by simp) (AllReadyH.cons rfl (fun K hK => ?_) AllReadyH.nil)
  go_simp
  refine (HLv.out w7 HM7.out).mono ?_
  rintro e w8 ⟨rfl, hm8⟩
  have HM8 : Hid (Mod (fun _ => False) Z w8) := hid (Mod.trans HM7.out hm8)
  clear hm8
  refine hK.out _ _ (HUp.out _ HM8.out) (fun hHeld2 => ?_)
  clear hK K hHeld
  have hHeld := hHeld2
  clear hHeld2
  try simp only [Act.put, List.setIfInBounds_toArray, List.set_cons_zero, List.set_cons_succ]
  refine wpAnyH_ready (rs := [12]) (by kernel_rfl) (by simp) (AllReadyH.cons rfl (fun K hK => ?_) AllReadyH.nil)
  go_simp
  refine (HRl.out w8 HM8.out).mono ?_
  rintro e w9 ⟨rfl, hm9⟩
  have HM9 : Hid (Mod (fun _ => False) Z w9) := hid (Mod.trans HM8.out hm9)
  clear hm9
  refine hK.out _ _ (HUp.out _ HM9.out) (fun hHeld2 => ?_)
  clear hK K hHeld
  have hHeld := hHeld2
  clear hHeld2
  try simp only [Act.put, List.setIfInBounds_toArray, List.set_cons_zero, List.set_cons_succ]
  refine wpAnyH_take_at (i := 13) (d := 19) (v := .bool true) rfl rfl (by kernel_rfl) (by kernel_rfl) (by kernel_rfl) (fun _ _ _ h => h) (Or.inl ⟨by simp [Region.wanted, yielded], fun w' _ => by go_simp⟩) (by assumption) ?_
  simp only [Act.put, List.setIfInBounds_toArray, List.set_cons_zero, List.set_cons_succ]
  refine wpAnyH_take_at (i := 14) (d := 20) (v := .bool true) rfl rfl (by kernel_rfl) (by kernel_rfl) (by kernel_rfl) (fun _ _ _ h => h) (Or.inl ⟨by rfl, fun w' _ => by go_simp⟩) (by assumption) ?_
  simp only [Act.put, List.setIfInBounds_toArray, List.set_cons_zero, List.set_cons_succ]
  refine wpAnyH_take_at (i := 15) (d := 2) (v := .bool true) rfl rfl (by kernel_rfl) (by kernel_rfl) (by kernel_rfl) (fun _ _ _ h => h) (Or.inl ⟨by rfl, fun w' _ => by go_simp⟩) (by assumption) ?_
  simp only [Act.put, List.setIfInBounds_toArray, List.set_cons_zero, List.set_cons_succ]
  refine wpAnyH_done (by kernel_rfl) ?_ _
  go_wp2_with fail
  go_ret
  exact ⟨rfl, HMz.out.trans HM9.out⟩

end Go.Proofs.Ytigoikepcbbhjaa
