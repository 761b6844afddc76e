/- The program's Check (printed by genchk.py) -/
import Derived.Test.YtigoikepcbbhjaaAuB
namespace Go.Proofs.Ytigoikepcbbhjaa
open Go Go.RowKit

variable {v0 v1 v2 v3 v4 v5 v6 v7 v8 v9 v10 v11 v12 v13 v14 : Value}

/-- What is told, as it lies. -/
structure TL (w : World) (ha la ga aa oa ta ia : Option Addr) (hs : List Hl) (ls : List Lv) (gs : List Gd) (acs : List Ac) (os : List Od) (ts : List Lt) (ins : List In) : Prop where
  h : Lies w 3 Hl.cs ha hs
  l : Lies w 6 Lv.cs la ls
  g : GL w ga gs
  a : Lies w 9 Ac.cs aa acs
  o : Lies w 6 Od.cs oa os
  t : Lies w 8 Lt.cs ta ts
  i : Lies w 6 In.cs ia ins
  nh : hs.length * 24 ≤ 140737488351232
  nl : ls.length * 48 ≤ 140737488351232
  ng : gs.length * 40 ≤ 140737488351232
  na : acs.length * 72 ≤ 140737488351232
  no : os.length * 72 ≤ 140737488351232
  nt : ts.length * 72 ≤ 140737488351232
  ni : ins.length * 80 ≤ 140737488351232
  nn : ∀ x ∈ gs, x.ls.length * 16 ≤ 140737488351232

variable {ha la ga aa oa ta ia : Option Addr} {hs : List Hl} {ls : List Lv} {gs : List Gd} {acs : List Ac} {os : List Od} {ts : List Lt} {ins : List In}

theorem TL.ext {w w' : World} (t : TL w ha la ga aa oa ta ia hs ls gs acs os ts ins) (hm : Mod (fun _ => False) w w') : TL w' ha la ga aa oa ta ia hs ls gs acs os ts ins :=
  ⟨t.h.ext hm, t.l.ext hm, t.g.ext hm, t.a.ext hm, t.o.ext hm, t.t.ext hm, t.i.ext hm, t.nh, t.nl, t.ng, t.na, t.no, t.nt, t.ni, t.nn⟩

/-- In plain terms. -/
def tdOf (hs : List Hl) (ls : List Lv) (gs : List Gd) (acs : List Ac) (os : List Od) (next : Int) (ts : List Lt) (ins : List In) : Td := ⟨hs, ls, gs.map Gd.pl, acs.map Ac.pl, os.map Od.pl, next, ts.map Lt.pl, ins.map In.pl⟩

theorem info_parts {P : Program} {t : TypeId} {z : Option Value} {n m : Nat} (h : (P.info? t).map (fun i => (i.zero, i.size, i.bytes)) = some (z, n, m)) : ∃ i, P.info? t = some i ∧ i.zero = z ∧ i.size = n ∧ i.bytes = m := by
  cases hi : P.info? t with
  | none => rw [hi] at h; cases h
  | some i =>
    rw [hi] at h
    simp only [Option.map_some, Option.some.injEq, Prod.mk.injEq] at h
    exact ⟨i, rfl, h.1, h.2.1, h.2.2⟩

theorem infoInt : (Try.prog.info? 3).map (fun i => (i.zero, i.size, i.bytes)) = some (some (.int .i64 0), 1, 8) := by kernel_rfl

/-- What a check answers. -/
def ChkAns (w : World) (L : List Int) (e : Ending) (w' : World) : Prop := ∃ sa cap, e = .returned (.slice sa L.length cap) ∧ Lies w' 1 oneI sa L ∧ Mod (fun _ => False) w w'

theorem out_true {laws : List Bool} {k : Nat} (h : laws[k]? = some true) : outK laws (k + 1) = outK laws k := by rw [outK_succ, h]; rfl
theorem out_false {laws : List Bool} {k : Nat} (h : laws[k]? = some false) : outK laws (k + 1) = outK laws k ++ [((k + 1 : Nat) : Int)] := by rw [outK_succ, h]; rfl

set_option maxRecDepth 100000 in
set_option maxHeartbeats 8000000 in
theorem check_any {w : World} (hc lc gc ac oc tc ic : Nat) (next : Int) (t : TL w ha la ga aa oa ta ia hs ls gs acs os ts ins) :
    Calls Try.prog 7 #[.agg #[v0, v1, v2, .slice ha hs.length hc, .slice la ls.length lc, .slice ga gs.length gc, .slice aa acs.length ac, v7, v8, .slice oa os.length oc, v10, .int .i64 next, .slice ta ts.length tc, v13, .slice ia ins.length ic]] w fun e w' => ChkAns w (checkP (tdOf hs ls gs acs os next ts ins)) e w' := by
  have hdef : checkP (tdOf hs ls gs acs os next ts ins) = outK (lawsP (tdOf hs ls gs acs os next ts ins)) 5 := rfl
  rw [hdef]
  clear hdef
  obtain ⟨laws, hlaws⟩ : ∃ l, l = lawsP (tdOf hs ls gs acs os next ts ins) := ⟨_, rfl⟩
  have HLaws := hid hlaws
  rw [← hlaws]
  clear hlaws
  obtain ⟨i0, hi0, hz0, hz1, hz2⟩ := info_parts infoInt
  have hma : Mod (fun _ => False) w (w.alloc (.cells #[v0, v1, v2, .slice ha hs.length hc, .slice la ls.length lc, .slice ga gs.length gc, .slice aa acs.length ac, v7, v8, .slice oa os.length oc, v10, .int .i64 next, .slice ta ts.length tc, v13, .slice ia ins.length ic] 35)) := (Mod.refl _ _).alloc _
  have hmf : Mod (fun _ => False) w ((w.alloc (.cells #[v0, v1, v2, .slice ha hs.length hc, .slice la ls.length lc, .slice ga gs.length gc, .slice aa acs.length ac, v7, v8, .slice oa os.length oc, v10, .int .i64 next, .slice ta ts.length tc, v13, .slice ia ins.length ic] 35)).alloc (.cells #[.func (.func 12) #[] #[], .func (.func 13) #[] #[], .func (.func 14) #[] #[], .func (.func 15) #[] #[], .func (.func 16) #[] #[]] 53)) := ((Mod.refl _ _).alloc _).alloc _
  have hcb : ((w.alloc (.cells #[v0, v1, v2, .slice ha hs.length hc, .slice la ls.length lc, .slice ga gs.length gc, .slice aa acs.length ac, v7, v8, .slice oa os.length oc, v10, .int .i64 next, .slice ta ts.length tc, v13, .slice ia ins.length ic] 35)).alloc (.cells #[.func (.func 12) #[] #[], .func (.func 13) #[] #[], .func (.func 14) #[] #[], .func (.func 15) #[] #[], .func (.func 16) #[] #[]] 53)).heap[w.heap.size]? = some (.cells #[v0, v1, v2, .slice ha hs.length hc, .slice la ls.length lc, .slice ga gs.length gc, .slice aa acs.length ac, v7, v8, .slice oa os.length oc, v10, .int .i64 next, .slice ta ts.length tc, v13, .slice ia ins.length ic] 35 (0, 0)) := (((Mod.refl (fun _ => False) (w.alloc (.cells #[v0, v1, v2, .slice ha hs.length hc, .slice la ls.length lc, .slice ga gs.length gc, .slice aa acs.length ac, v7, v8, .slice oa os.length oc, v10, .int .i64 next, .slice ta ts.length tc, v13, .slice ia ins.length ic] 35))).alloc _).block _ (by simp) (fun h => h)).trans (heap_alloc_new _ _)
  have hcf : ((w.alloc (.cells #[v0, v1, v2, .slice ha hs.length hc, .slice la ls.length lc, .slice ga gs.length gc, .slice aa acs.length ac, v7, v8, .slice oa os.length oc, v10, .int .i64 next, .slice ta ts.length tc, v13, .slice ia ins.length ic] 35)).alloc (.cells #[.func (.func 12) #[] #[], .func (.func 13) #[] #[], .func (.func 14) #[] #[], .func (.func 15) #[] #[], .func (.func 16) #[] #[]] 53)).heap[w.heap.size + 1]? = some (.cells #[.func (.func 12) #[] #[], .func (.func 13) #[] #[], .func (.func 14) #[] #[], .func (.func 15) #[] #[], .func (.func 16) #[] #[]] 53 (0, 0)) := by
    have := heap_alloc_new (w.alloc (.cells #[v0, v1, v2, .slice ha hs.length hc, .slice la ls.length lc, .slice ga gs.length gc, .slice aa acs.length ac, v7, v8, .slice oa os.length oc, v10, .int .i64 next, .slice ta ts.length tc, v13, .slice ia ins.length ic] 35)) (.cells #[.func (.func 12) #[] #[], .func (.func 13) #[] #[], .func (.func 14) #[] #[], .func (.func 15) #[] #[], .func (.func 16) #[] #[]] 53)
    simpa using this
  have HM := hid hmf
  have HB := hid hcb
  have HF := hid hcf
  have HT := hid (t.ext hmf)
  have hgt : w.heap.size + 2 ≤ ((w.alloc (.cells #[v0, v1, v2, .slice ha hs.length hc, .slice la ls.length lc, .slice ga gs.length gc, .slice aa acs.length ac, v7, v8, .slice oa os.length oc, v10, .int .i64 next, .slice ta ts.length tc, v13, .slice ia ins.length ic] 35)).alloc (.cells #[.func (.func 12) #[] #[], .func (.func 13) #[] #[], .func (.func 14) #[] #[], .func (.func 15) #[] #[], .func (.func 16) #[] #[]] 53)).heap.size := by simp
  have HGt := hid hgt
  clear hma hmf hcb hcf t hgt
  go_enter Try.func7, Try.ntmps7
  go_wp2_with fail
  generalize (w.alloc (.cells #[v0, v1, v2, .slice ha hs.length hc, .slice la ls.length lc, .slice ga gs.length gc, .slice aa acs.length ac, v7, v8, .slice oa os.length oc, v10, .int .i64 next, .slice ta ts.length tc, v13, .slice ia ins.length ic] 35)).alloc (.cells #[.func (.func 12) #[] #[], .func (.func 13) #[] #[], .func (.func 14) #[] #[], .func (.func 15) #[] #[], .func (.func 16) #[] #[]] 53) = C at *
  go_loopw [3, 8] (fun s c wr => ∃ (k : Nat) (sa : Option Addr) (cap : Nat), k ≤ 5 ∧ c = .int .i64 (k : Int) ∧ s = .slice sa (outK laws k).length cap ∧ Own wr 3 1 sa (outK laws k).length cap ((outK laws k).flatMap oneI) ∧ (∀ b, blk sa b → C.heap.size ≤ b) ∧ Mod (fun _ => False) C wr) (fun _ c _ => 5 - (intOf c).toNat)
  case atStart => exact ⟨0, none, 0, Nat.zero_le _, rfl, rfl, Own.nil _ _ _, (fun b hb => (blk_none b hb).elim), Mod.refl _ _⟩
  case round =>
    obtain ⟨k, sa, cap, hk, rfl, rfl, hown, hnew, hm⟩ := hrel
    have HOw := hid hown
    have HNw := hid hnew
    have HMr := hid hm
    have HLen := hid (outK_len laws k)
    clear hown hnew hm
    by_cases hlt : k < 5
    case neg =>
      have hke : k = 5 := by omega
      subst hke
      go_wp2_with fail
      go_ret
      exact ⟨sa, cap, rfl, HOw.out.lies, HM.out.trans HMr.out⟩
    case pos =>
      have hf := (HMr.out.block _ (lt_of_heap HF.out) (fun h => h)).trans HF.out
      obtain ⟨b0, b1, b2, b3, b4, b5, b6, b7, b8, b9, b10, b11, b12, b13, b14⟩ := row15 ((HMr.out.block _ (lt_of_heap HB.out) (fun h => h)).trans HB.out)
      have HTr := hid (HT.out.ext HMr.out)
      have hcase : k = 0 ∨ k = 1 ∨ k = 2 ∨ k = 3 ∨ k = 4 := by omega
      rcases hcase with rfl | rfl | rfl | rfl | rfl
      · have f0 := row_at (j := 0) (v := .func (.func 12) #[] #[]) hf rfl
        obtain ⟨bl, hbl, hat⟩ : ∃ bl : Bool, laws[0]? = some bl ∧ Calls Try.prog 12 #[.agg #[v0, v1, v2, .slice ha hs.length hc, .slice la ls.length lc, .slice ga gs.length gc, .slice aa acs.length ac, v7, v8, .slice oa os.length oc, v10, .int .i64 next, .slice ta ts.length tc, v13, .slice ia ins.length ic]] wr fun e w' => e = .returned (.bool bl) ∧ Mod (fun _ => False) wr w' := ⟨_, by rw [HLaws.out]; rfl, levels_any lc gc HTr.out.l (by have := HTr.out.nl; omega) HTr.out.g (by have := HTr.out.ng; omega)⟩
        have HK := hid hat
        have HBl := hid hbl
        clear hat hbl hf
        cases bl with
        | true =>
          have HE := hid (out_true HBl.out)
          go_wp2_with (first | (go_at_call 12; refine HK.out.mono ?_; rintro e w2 ⟨rfl, hm2⟩; have HM2 := hid (HMr.out.trans hm2); have HO2 := hid (HOw.out.mod hm2 (fun _ _ h => h)); clear hm2 b0 b1 b2 b3 b4 b5 b6 b7 b8 b9 b10 b11 b12 b13 b14 f0))
          go_roundw
          case rel => exact ⟨1, sa, cap, by omega, by go_num, by rw [HE.out], by rw [HE.out]; exact HO2.out, HNw.out, HM2.out⟩
          case measure => simp [intOf]
        | false =>
          have HE := hid (out_false HBl.out)
          go_wp2_with (first | (go_at_call 12; refine HK.out.mono ?_; rintro e w2 ⟨rfl, hm2⟩; have HM2 := hid (HMr.out.trans hm2); have HO2 := hid (HOw.out.mod hm2 (fun _ _ h => h)); clear hm2 b0 b1 b2 b3 b4 b5 b6 b7 b8 b9 b10 b11 b12 b13 b14 f0) | (at_builtin; (have hmn : Mod (fun _ => False) w2 (w2.alloc (.cells #[.int .i64 1] 3)) := (Mod.refl _ _).alloc _); (have HMn := hid (HM2.out.trans hmn)); (have HOn := hid (HO2.out.mod hmn (fun _ _ h => h))); (have HSn : Hid (Src (w2.alloc (.cells #[.int .i64 1] 3)) 1 (some ⟨w2.heap.size, 0, none⟩) 1 [.int .i64 1]) := hid (src_new (heap_alloc_new _ _) rfl)); clear hmn; refine wpList_append_Own rfl (.tmp 17) (.tmp 20) 48 rfl 3 i0 _ 1 8 Try.underlying48 hi0 hz0 hz1 hz2 rfl sa (outK laws 0).length cap _ rfl HOn.out (some ⟨w2.heap.size, 0, none⟩) 1 1 _ rfl HSn.out (by intro u hu; simp at hu; subst hu; rfl) (by have := HLen.out; unfold maxLen; omega) (by have := HLen.out; omega) ?_; intro sa' cap' w6 hown6 hm6 hb6 hn6 hr6; have HO6 := hid hown6; have HM6 := hid hm6; have HB6 := hid hb6; clear hown6 hm6 hb6 hn6 hr6))
          go_roundw
          case rel =>
            refine ⟨1, sa', cap', by omega, by go_num, by rw [HE.out, List.length_append]; rfl, by rw [HE.out, List.length_append, List.flatMap_append]; exact HO6.out, (fun b hb => ?_), HMn.out.then HM6.out (fun i hi h => by have := HNw.out i h; omega)⟩
            rcases HB6.out b hb with h | h
            · exact HNw.out b h
            · have h1 := HM2.out.size
              have h2 : w2.heap.size ≤ (w2.alloc (.cells #[.int .i64 1] 3)).heap.size := by simp
              omega
          case measure => simp [intOf]
      · have f0 := row_at (j := 1) (v := .func (.func 13) #[] #[]) hf rfl
        obtain ⟨bl, hbl, hat⟩ : ∃ bl : Bool, laws[1]? = some bl ∧ Calls Try.prog 13 #[.agg #[v0, v1, v2, .slice ha hs.length hc, .slice la ls.length lc, .slice ga gs.length gc, .slice aa acs.length ac, v7, v8, .slice oa os.length oc, v10, .int .i64 next, .slice ta ts.length tc, v13, .slice ia ins.length ic]] wr fun e w' => e = .returned (.bool bl) ∧ Mod (fun _ => False) wr w' := ⟨_, by rw [HLaws.out]; rfl, holds_any hc oc HTr.out.h (by have := HTr.out.nh; omega) HTr.out.o (by have := HTr.out.no; omega)⟩
        have HK := hid hat
        have HBl := hid hbl
        clear hat hbl hf
        cases bl with
        | true =>
          have HE := hid (out_true HBl.out)
          go_wp2_with (first | (go_at_call 13; refine HK.out.mono ?_; rintro e w2 ⟨rfl, hm2⟩; have HM2 := hid (HMr.out.trans hm2); have HO2 := hid (HOw.out.mod hm2 (fun _ _ h => h)); clear hm2 b0 b1 b2 b3 b4 b5 b6 b7 b8 b9 b10 b11 b12 b13 b14 f0))
          go_roundw
          case rel => exact ⟨2, sa, cap, by omega, by go_num, by rw [HE.out], by rw [HE.out]; exact HO2.out, HNw.out, HM2.out⟩
          case measure => simp [intOf]
        | false =>
          have HE := hid (out_false HBl.out)
          go_wp2_with (first | (go_at_call 13; refine HK.out.mono ?_; rintro e w2 ⟨rfl, hm2⟩; have HM2 := hid (HMr.out.trans hm2); have HO2 := hid (HOw.out.mod hm2 (fun _ _ h => h)); clear hm2 b0 b1 b2 b3 b4 b5 b6 b7 b8 b9 b10 b11 b12 b13 b14 f0) | (at_builtin; (have hmn : Mod (fun _ => False) w2 (w2.alloc (.cells #[.int .i64 2] 3)) := (Mod.refl _ _).alloc _); (have HMn := hid (HM2.out.trans hmn)); (have HOn := hid (HO2.out.mod hmn (fun _ _ h => h))); (have HSn : Hid (Src (w2.alloc (.cells #[.int .i64 2] 3)) 1 (some ⟨w2.heap.size, 0, none⟩) 1 [.int .i64 2]) := hid (src_new (heap_alloc_new _ _) rfl)); clear hmn; refine wpList_append_Own rfl (.tmp 17) (.tmp 20) 48 rfl 3 i0 _ 1 8 Try.underlying48 hi0 hz0 hz1 hz2 rfl sa (outK laws 1).length cap _ rfl HOn.out (some ⟨w2.heap.size, 0, none⟩) 1 1 _ rfl HSn.out (by intro u hu; simp at hu; subst hu; rfl) (by have := HLen.out; unfold maxLen; omega) (by have := HLen.out; omega) ?_; intro sa' cap' w6 hown6 hm6 hb6 hn6 hr6; have HO6 := hid hown6; have HM6 := hid hm6; have HB6 := hid hb6; clear hown6 hm6 hb6 hn6 hr6))
          go_roundw
          case rel =>
            refine ⟨2, sa', cap', by omega, by go_num, by rw [HE.out, List.length_append]; rfl, by rw [HE.out, List.length_append, List.flatMap_append]; exact HO6.out, (fun b hb => ?_), HMn.out.then HM6.out (fun i hi h => by have := HNw.out i h; omega)⟩
            rcases HB6.out b hb with h | h
            · exact HNw.out b h
            · have h1 := HM2.out.size
              have h2 : w2.heap.size ≤ (w2.alloc (.cells #[.int .i64 2] 3)).heap.size := by simp
              omega
          case measure => simp [intOf]
      · have f0 := row_at (j := 2) (v := .func (.func 14) #[] #[]) hf rfl
        obtain ⟨bl, hbl, hat⟩ : ∃ bl : Bool, laws[2]? = some bl ∧ Calls Try.prog 14 #[.agg #[v0, v1, v2, .slice ha hs.length hc, .slice la ls.length lc, .slice ga gs.length gc, .slice aa acs.length ac, v7, v8, .slice oa os.length oc, v10, .int .i64 next, .slice ta ts.length tc, v13, .slice ia ins.length ic]] wr fun e w' => e = .returned (.bool bl) ∧ Mod (fun _ => False) wr w' := ⟨_, by rw [HLaws.out]; rfl, accounts_any ac oc HTr.out.a (by have := HTr.out.na; omega) HTr.out.o (by have := HTr.out.no; omega)⟩
        have HK := hid hat
        have HBl := hid hbl
        clear hat hbl hf
        cases bl with
        | true =>
          have HE := hid (out_true HBl.out)
          go_wp2_with (first | (go_at_call 14; refine HK.out.mono ?_; rintro e w2 ⟨rfl, hm2⟩; have HM2 := hid (HMr.out.trans hm2); have HO2 := hid (HOw.out.mod hm2 (fun _ _ h => h)); clear hm2 b0 b1 b2 b3 b4 b5 b6 b7 b8 b9 b10 b11 b12 b13 b14 f0))
          go_roundw
          case rel => exact ⟨3, sa, cap, by omega, by go_num, by rw [HE.out], by rw [HE.out]; exact HO2.out, HNw.out, HM2.out⟩
          case measure => simp [intOf]
        | false =>
          have HE := hid (out_false HBl.out)
          go_wp2_with (first | (go_at_call 14; refine HK.out.mono ?_; rintro e w2 ⟨rfl, hm2⟩; have HM2 := hid (HMr.out.trans hm2); have HO2 := hid (HOw.out.mod hm2 (fun _ _ h => h)); clear hm2 b0 b1 b2 b3 b4 b5 b6 b7 b8 b9 b10 b11 b12 b13 b14 f0) | (at_builtin; (have hmn : Mod (fun _ => False) w2 (w2.alloc (.cells #[.int .i64 3] 3)) := (Mod.refl _ _).alloc _); (have HMn := hid (HM2.out.trans hmn)); (have HOn := hid (HO2.out.mod hmn (fun _ _ h => h))); (have HSn : Hid (Src (w2.alloc (.cells #[.int .i64 3] 3)) 1 (some ⟨w2.heap.size, 0, none⟩) 1 [.int .i64 3]) := hid (src_new (heap_alloc_new _ _) rfl)); clear hmn; refine wpList_append_Own rfl (.tmp 17) (.tmp 20) 48 rfl 3 i0 _ 1 8 Try.underlying48 hi0 hz0 hz1 hz2 rfl sa (outK laws 2).length cap _ rfl HOn.out (some ⟨w2.heap.size, 0, none⟩) 1 1 _ rfl HSn.out (by intro u hu; simp at hu; subst hu; rfl) (by have := HLen.out; unfold maxLen; omega) (by have := HLen.out; omega) ?_; intro sa' cap' w6 hown6 hm6 hb6 hn6 hr6; have HO6 := hid hown6; have HM6 := hid hm6; have HB6 := hid hb6; clear hown6 hm6 hb6 hn6 hr6))
          go_roundw
          case rel =>
            refine ⟨3, sa', cap', by omega, by go_num, by rw [HE.out, List.length_append]; rfl, by rw [HE.out, List.length_append, List.flatMap_append]; exact HO6.out, (fun b hb => ?_), HMn.out.then HM6.out (fun i hi h => by have := HNw.out i h; omega)⟩
            rcases HB6.out b hb with h | h
            · exact HNw.out b h
            · have h1 := HM2.out.size
              have h2 : w2.heap.size ≤ (w2.alloc (.cells #[.int .i64 3] 3)).heap.size := by simp
              omega
          case measure => simp [intOf]
      · have f0 := row_at (j := 3) (v := .func (.func 15) #[] #[]) hf rfl
        obtain ⟨bl, hbl, hat⟩ : ∃ bl : Bool, laws[3]? = some bl ∧ Calls Try.prog 15 #[.agg #[v0, v1, v2, .slice ha hs.length hc, .slice la ls.length lc, .slice ga gs.length gc, .slice aa acs.length ac, v7, v8, .slice oa os.length oc, v10, .int .i64 next, .slice ta ts.length tc, v13, .slice ia ins.length ic]] wr fun e w' => e = .returned (.bool bl) ∧ Mod (fun _ => False) wr w' := ⟨_, by rw [HLaws.out]; rfl, comp_any hc gc ac ic HTr.out.h HTr.out.g.g HTr.out.a HTr.out.i (by have := HTr.out.nh; omega) (by have := HTr.out.ng; omega) (by have := HTr.out.na; omega) (by have := HTr.out.ni; omega)⟩
        have HK := hid hat
        have HBl := hid hbl
        clear hat hbl hf
        cases bl with
        | true =>
          have HE := hid (out_true HBl.out)
          go_wp2_with (first | (go_at_call 15; refine HK.out.mono ?_; rintro e w2 ⟨rfl, hm2⟩; have HM2 := hid (HMr.out.trans hm2); have HO2 := hid (HOw.out.mod hm2 (fun _ _ h => h)); clear hm2 b0 b1 b2 b3 b4 b5 b6 b7 b8 b9 b10 b11 b12 b13 b14 f0))
          go_roundw
          case rel => exact ⟨4, sa, cap, by omega, by go_num, by rw [HE.out], by rw [HE.out]; exact HO2.out, HNw.out, HM2.out⟩
          case measure => simp [intOf]
        | false =>
          have HE := hid (out_false HBl.out)
          go_wp2_with (first | (go_at_call 15; refine HK.out.mono ?_; rintro e w2 ⟨rfl, hm2⟩; have HM2 := hid (HMr.out.trans hm2); have HO2 := hid (HOw.out.mod hm2 (fun _ _ h => h)); clear hm2 b0 b1 b2 b3 b4 b5 b6 b7 b8 b9 b10 b11 b12 b13 b14 f0) | (at_builtin; (have hmn : Mod (fun _ => False) w2 (w2.alloc (.cells #[.int .i64 4] 3)) := (Mod.refl _ _).alloc _); (have HMn := hid (HM2.out.trans hmn)); (have HOn := hid (HO2.out.mod hmn (fun _ _ h => h))); (have HSn : Hid (Src (w2.alloc (.cells #[.int .i64 4] 3)) 1 (some ⟨w2.heap.size, 0, none⟩) 1 [.int .i64 4]) := hid (src_new (heap_alloc_new _ _) rfl)); clear hmn; refine wpList_append_Own rfl (.tmp 17) (.tmp 20) 48 rfl 3 i0 _ 1 8 Try.underlying48 hi0 hz0 hz1 hz2 rfl sa (outK laws 3).length cap _ rfl HOn.out (some ⟨w2.heap.size, 0, none⟩) 1 1 _ rfl HSn.out (by intro u hu; simp at hu; subst hu; rfl) (by have := HLen.out; unfold maxLen; omega) (by have := HLen.out; omega) ?_; intro sa' cap' w6 hown6 hm6 hb6 hn6 hr6; have HO6 := hid hown6; have HM6 := hid hm6; have HB6 := hid hb6; clear hown6 hm6 hb6 hn6 hr6))
          go_roundw
          case rel =>
            refine ⟨4, sa', cap', by omega, by go_num, by rw [HE.out, List.length_append]; rfl, by rw [HE.out, List.length_append, List.flatMap_append]; exact HO6.out, (fun b hb => ?_), HMn.out.then HM6.out (fun i hi h => by have := HNw.out i h; omega)⟩
            rcases HB6.out b hb with h | h
            · exact HNw.out b h
            · have h1 := HM2.out.size
              have h2 : w2.heap.size ≤ (w2.alloc (.cells #[.int .i64 4] 3)).heap.size := by simp
              omega
          case measure => simp [intOf]
      · have f0 := row_at (j := 4) (v := .func (.func 16) #[] #[]) hf rfl
        obtain ⟨bl, hbl, hat⟩ : ∃ bl : Bool, laws[4]? = some bl ∧ Calls Try.prog 16 #[.agg #[v0, v1, v2, .slice ha hs.length hc, .slice la ls.length lc, .slice ga gs.length gc, .slice aa acs.length ac, v7, v8, .slice oa os.length oc, v10, .int .i64 next, .slice ta ts.length tc, v13, .slice ia ins.length ic]] wr fun e w' => e = .returned (.bool bl) ∧ Mod (fun _ => False) wr w' := ⟨_, by rw [HLaws.out]; rfl, bounds_any tc ic next HTr.out.t HTr.out.i (by have := HTr.out.ni; omega) (by have := HTr.out.nt; omega)⟩
        have HK := hid hat
        have HBl := hid hbl
        clear hat hbl hf
        cases bl with
        | true =>
          have HE := hid (out_true HBl.out)
          go_wp2_with (first | (go_at_call 16; refine HK.out.mono ?_; rintro e w2 ⟨rfl, hm2⟩; have HM2 := hid (HMr.out.trans hm2); have HO2 := hid (HOw.out.mod hm2 (fun _ _ h => h)); clear hm2 b0 b1 b2 b3 b4 b5 b6 b7 b8 b9 b10 b11 b12 b13 b14 f0))
          go_roundw
          case rel => exact ⟨5, sa, cap, by omega, by go_num, by rw [HE.out], by rw [HE.out]; exact HO2.out, HNw.out, HM2.out⟩
          case measure => simp [intOf]
        | false =>
          have HE := hid (out_false HBl.out)
          go_wp2_with (first | (go_at_call 16; refine HK.out.mono ?_; rintro e w2 ⟨rfl, hm2⟩; have HM2 := hid (HMr.out.trans hm2); have HO2 := hid (HOw.out.mod hm2 (fun _ _ h => h)); clear hm2 b0 b1 b2 b3 b4 b5 b6 b7 b8 b9 b10 b11 b12 b13 b14 f0) | (at_builtin; (have hmn : Mod (fun _ => False) w2 (w2.alloc (.cells #[.int .i64 5] 3)) := (Mod.refl _ _).alloc _); (have HMn := hid (HM2.out.trans hmn)); (have HOn := hid (HO2.out.mod hmn (fun _ _ h => h))); (have HSn : Hid (Src (w2.alloc (.cells #[.int .i64 5] 3)) 1 (some ⟨w2.heap.size, 0, none⟩) 1 [.int .i64 5]) := hid (src_new (heap_alloc_new _ _) rfl)); clear hmn; refine wpList_append_Own rfl (.tmp 17) (.tmp 20) 48 rfl 3 i0 _ 1 8 Try.underlying48 hi0 hz0 hz1 hz2 rfl sa (outK laws 4).length cap _ rfl HOn.out (some ⟨w2.heap.size, 0, none⟩) 1 1 _ rfl HSn.out (by intro u hu; simp at hu; subst hu; rfl) (by have := HLen.out; unfold maxLen; omega) (by have := HLen.out; omega) ?_; intro sa' cap' w6 hown6 hm6 hb6 hn6 hr6; have HO6 := hid hown6; have HM6 := hid hm6; have HB6 := hid hb6; clear hown6 hm6 hb6 hn6 hr6))
          go_roundw
          case rel =>
            refine ⟨5, sa', cap', by omega, by go_num, by rw [HE.out, List.length_append]; rfl, by rw [HE.out, List.length_append, List.flatMap_append]; exact HO6.out, (fun b hb => ?_), HMn.out.then HM6.out (fun i hi h => by have := HNw.out i h; omega)⟩
            rcases HB6.out b hb with h | h
            · exact HNw.out b h
            · have h1 := HM2.out.size
              have h2 : w2.heap.size ≤ (w2.alloc (.cells #[.int .i64 5] 3)).heap.size := by simp
              omega
          case measure => simp [intOf]

end Go.Proofs.Ytigoikepcbbhjaa
