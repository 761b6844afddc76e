/- The document's Decode -/
import Derived.Test.YthdopgejikcfbaaDoorDec
import Derived.Test.YthdopgejikcfbaaDoorRdR
import Derived.Test.YthdopgejikcfbaaDoorRef7
namespace Go.Proofs.YthdopgejikcfbaaDoor
open Go Go.RowKit

def RDecAns (w : World) (r : Option (Bool × List Ent)) (e : Ending) (w' : World) : Prop :=
  Mod (fun _ => False) w w' ∧ match r with
    | some (leaf, es) => ∃ sa cap, e = .returned (.tuple #[.agg #[.bool leaf, .slice sa es.length cap], .int .i64 0]) ∧ Lies w' 3 Ent.cs sa es
    | none => e = .returned (.tuple #[.agg #[.bool false, .slice none 0 0], .int .i64 40])

/-- What the loop over the entries keeps. -/
def RRel (V : World) (s : ByteArray) (leaf : Bool) (B cnt a0 : Nat) (sat : Value) (wr : World) : Prop :=
  ∃ (a : Nat) (es : List Ent) (sa : Option Addr) (cp : Nat), sat = .int .i64 (a : Int) ∧ Rg V wr B leaf es sa cp ∧ es.length ≤ cnt ∧ a ≤ s.size ∧ es.length ≤ a ∧ (∀ x ∈ es, x.Ok) ∧ Clean leaf es ∧ pre es (readL leaf s (cnt - es.length) a) = readL leaf s cnt a0

theorem kid_bad {s : ByteArray} {es : List Ent} {x : Ent} {o : Option (List Ent × Nat)} (hx : x.kid = 16384) : decFin false s (pre (es ++ [x]) o) = none := by
  cases o with
  | none => rfl
  | some q =>
    refine fin_no (fun h => ?_)
    have h2 := h.2
    unfold encOk at h2
    rw [Bool.and_eq_true, fitB_iff] at h2
    have h3 := h2.1.2
    unfold restB cn at h3
    simp only [Bool.false_eq_true, if_false, Bool.and_eq_true, Bool.not_eq_true'] at h3
    have := List.any_eq_false.1 h3.2 16384 (List.mem_map.2 ⟨x, by simp, hx⟩)
    exact this (by decide)

theorem rnone_ans {w X : World} (h : Mod (fun _ => False) w X) : RDecAns w none (.returned (.tuple #[.agg #[.bool false, .slice none 0 0], .int .i64 40])) ((X.setCell ⟨w.heap.size, 0, none⟩ (.bool false)).setCell ⟨w.heap.size, 1, none⟩ (.slice none 0 0)) :=
  ⟨(h.setCell (fun h => absurd h (Nat.lt_irrefl _)) _).setCell (fun h => absurd h (Nat.lt_irrefl _)) _, rfl⟩

theorem rset2 {w : World} {b : Nat} {v0 v1 : Value} {t : TypeId} (h : w.heap[b]? = some (.cells #[v0, v1] t (0, 0))) (u0 u1 : Value) : ((w.setCell ⟨b, 0, none⟩ u0).setCell ⟨b, 1, none⟩ u1).heap[b]? = some (.cells #[u0, u1] t (0, 0)) :=
  heap_setCell_same _ b 1 _ t u1 (heap_setCell_same w b 0 _ t u0 h)

theorem rfit_cn {leaf : Bool} {es : List Ent} (hc : Clean leaf es) : rfitB leaf es = encOk (cn leaf es) := by
  have h := fit_good (n := cn leaf es) (by unfold ShapeP cn; cases leaf <;> simp)
  have he : (cn leaf es).ents = es := Has.ents (m := cn leaf es) ⟨rfl, rfl, rfl, rfl⟩ hc
  rw [he] at h
  exact h

/-- The bytes from a place on are zero up to another. -/
theorem allZ_split {s : ByteArray} {a j : Nat} (h : ∀ k b, k < j → (s.data.toList.drop a)[k]? = some b → b = 0) (hj : s.size ≤ a + j) : AllZ (s.data.toList.drop a) := fun b hb => by
  obtain ⟨k, hk⟩ := List.getElem?_of_mem hb
  have h1 := (List.getElem?_eq_some_iff.1 hk).1
  rw [List.length_drop] at h1
  have : s.data.toList.length = s.size := rfl
  exact h k b (by omega) hk

set_option maxRecDepth 100000 in
set_option maxHeartbeats 8000000 in
theorem rdec_true {s : ByteArray} (w : World) (hs : s.size ≤ 1048576) (h0 : 0 < s.size) (hb : s[0].toNat = 1) : Calls Tryd.prog 6 #[.string s] w fun e w' => RDecAns w (decP s) e w' := by
  obtain ⟨i0, hi0, hz0, hz1, hz2⟩ := info_parts infoEnt
  have HU : Hid (∀ v, Calls Tryd.prog 14 #[.string s, .int .i64 1] v fun e w' => e = .returned (ruV 1 (rdU 0 (s.data.toList.drop 1))) ∧ v = w') := hid (fun v => rreadUint_any s 1 v (by omega))
  have HUa : Hid (∀ (a : Nat) v, Calls Tryd.prog 14 #[.string s, .int .i64 (a : Int)] v fun e w' => e = .returned (ruV a (rdU 0 (s.data.toList.drop a))) ∧ v = w') := hid (fun a v => rreadUint_any s a v (by omega))
  have HT : Hid (∀ (a : Nat) v, Calls Tryd.prog 15 #[.string s, .int .i64 (a : Int)] v fun e w' => e = .returned (rtV (rdT s a)) ∧ v = w') := hid (fun a v => rreadText_any s a v (by omega))
  have hl : s.data.toList = s[0] :: (s.extract 1 s.size).data.toList := tail_list h0
  have hdec : decP s = decIn true s := decP_head hl (by rw [hb]; decide) (by rw [hb]; rfl)
  have HDec := hid hdec
  have z1 : ((s[0].toNat : Int) == 1) = true := by rw [hb]; rfl
  have z2 : ((s[0].toNat : Int) == 2) = false := by rw [hb]; rfl
  have z3 : ((s[0].toNat : Int) != 1) = false := by rw [hb]; rfl
  have z4 : ((s[0].toNat : Int) != 2) = true := by rw [hb]; rfl
  have z5 : ((s.size : Int) == 0) = false := by rw [beq_eq_false_iff_ne]; omega
  have hsz : (w.alloc (.cells #[.bool false, .slice none 0 0] 31)).heap.size = w.heap.size + 1 := by simp
  have hm0 : Mod (fun _ => False) w (w.alloc (.cells #[.bool false, .slice none 0 0] 31)) := (Mod.refl _ _).alloc _
  have hR : (w.alloc (.cells #[.bool false, .slice none 0 0] 31)).heap[w.heap.size]? = some (.cells #[.bool false, .slice none 0 0] 31 (0, 0)) := heap_alloc_new _ _
  have hB := heap_alloc_new (w.alloc (.cells #[.bool false, .slice none 0 0] 31)) (.cells #[.bool true, .slice none 0 0] 31)
  rw [hsz] at hB
  have HG0 : Hid (Rg (w.alloc (.cells #[.bool false, .slice none 0 0] 31)) ((w.alloc (.cells #[.bool false, .slice none 0 0] 31)).alloc (.cells #[.bool true, .slice none 0 0] 31)) (w.heap.size + 1) true [] none 0) := hid ⟨hB, Own.nil _ _ _, blk_none _, by rw [hsz]; omega, fun k hk => (blk_none k hk).elim, (Mod.refl _ _).alloc _⟩
  have HM0 := hid hm0
  have HR := hid hR
  have HSz := hid hsz
  clear hb hl hdec hsz hR hB hm0
  go_enter Tryd.func6, Tryd.ntmps6
  go_wp2_with fail
  generalize hVV : ((w.alloc (.cells #[.bool false, .slice none 0 0] 31)).alloc (.cells #[.bool true, .slice none 0 0] 31)) = V at *
  clear hVV
  generalize w.alloc (.cells #[.bool false, .slice none 0 0] 31) = W1 at *
  refine (HU.out V).mono ?_
  rintro e w0 ⟨rfl, rfl⟩
  obtain ⟨cnt, a0, er, hru, hcase⟩ := ru_shape 1 (rdU 0 (s.data.toList.drop 1))
  rw [hru]
  have hin := rdU_in s 1
  have HRV : Hid (V.heap[w.heap.size]? = some (.cells #[.bool false, .slice none 0 0] 31 (0, 0))) := hid ((HG0.out.mod.block _ (lt_of_heap HR.out) (fun h => h)).trans HR.out)
  have HMV := hid (HM0.out.trans HG0.out.mod)
  rcases hcase with ⟨h1, h2, h3, h4⟩ | ⟨h1, h2, _, _⟩
  · obtain ⟨i1, i2, i3⟩ := hin h2
    have HGood : Hid (decP s = decFin true s (readL true s cnt a0)) := hid (by rw [HDec.out, h3, h4]; unfold decIn; rw [if_pos h2])
    have HStart : Hid (RRel W1 s true (w.heap.size + 1) cnt a0 (.int .i64 (a0 : Int)) V) := hid ⟨a0, [], none, 0, rfl, HG0.out, by simp, by omega, by simp, (fun x hx => by cases hx), (fun x hx => by cases hx), by rw [pre_nil]; rfl⟩
    have hcn : cnt < 18446744073709551616 := by omega
    have HCn := hid hcn
    subst h1
    clear hin hru h2 h3 h4 i1 i2 i3 hcn
    go_wp2_with fail
    go_loopw [6] (fun p wr => RRel W1 s true (w.heap.size + 1) cnt a0 p wr) (fun p _ => s.size - (intOf p).toNat)
    case atStart => exact HStart.out
    case round =>
      obtain ⟨a, es, sa, cp, rfl, hg, hle, has, hla, hok, hcl, hpre⟩ := hrel
      have HG := hid hg
      have HOk := hid hok
      have HCl := hid hcl
      have HPre := hid hpre
      have HRr := hid ((hg.mod.block _ (lt_of_heap HR.out) (fun h => h)).trans HR.out)
      have HMr := hid (HM0.out.trans hg.mod)
      obtain ⟨b0, b1⟩ := cells2 hg.box
      have hes : es.length ≤ 1048576 := by omega
      clear hg hok hcl hpre
      by_cases hlt : es.length < cnt
      · have d1 : decide (es.length < cnt) = true := by rw [decide_eq_true_iff]; exact hlt
        have hltB : w.heap.size + 1 < wr.heap.size := lt_of_heap HG.out.box
        have ne1 : wr.heap.size ≠ w.heap.size + 1 := by omega
        go_wp2_with fail
        refine (HT.out a _).mono ?_
        rintro e wx ⟨rfl, rfl⟩
        by_cases hk : (rdT s a).e = 0
        · rw [rt_ok hk]
          have hkin := rdT_in s a hk
          have HK := hid hk
          clear hk
          go_wp2_with fail
          refine (HT.out (rdT s a).n _).mono ?_
          rintro e wx ⟨rfl, rfl⟩
          by_cases hv : (rdT s (rdT s a).n).e = 0
          · rw [rt_ok hv]
            have hvin := rdT_in s _ hv
            have HRead : Hid (readE true s a = some (⟨(rdT s a).t, (rdT s (rdT s a).n).t, 0⟩, (rdT s (rdT s a).n).n)) := hid (by unfold readE; rw [if_pos HK.out]; simp only [if_true]; rw [if_pos hv])
            clear hv
            have hmA : Mod (fun _ => False) wr (wr.alloc (.cells #[.string (rdT s a).t, .string (rdT s (rdT s a).n).t, .int .i64 0] 51)) := (Mod.refl _ _).alloc _
            have hmB : Mod (fun _ => False) wr ((wr.alloc (.cells #[.string (rdT s a).t, .string (rdT s (rdT s a).n).t, .int .i64 0] 51)).alloc (.cells #[.string (rdT s a).t, .string (rdT s (rdT s a).n).t, .int .i64 0] 51)) := hmA.alloc _
            have HO2 : Hid (Own ((wr.alloc (.cells #[.string (rdT s a).t, .string (rdT s (rdT s a).n).t, .int .i64 0] 51)).alloc (.cells #[.string (rdT s a).t, .string (rdT s (rdT s a).n).t, .int .i64 0] 51)) 51 3 sa es.length cp (es.flatMap Ent.cs)) := hid (HG.out.own.mod hmB (fun _ _ h => h))
            have hs2 : ((wr.alloc (.cells #[.string (rdT s a).t, .string (rdT s (rdT s a).n).t, .int .i64 0] 51)).alloc (.cells #[.string (rdT s a).t, .string (rdT s (rdT s a).n).t, .int .i64 0] 51)).heap[wr.heap.size + 1]? = some (.cells #[.string (rdT s a).t, .string (rdT s (rdT s a).n).t, .int .i64 0] 51 (0, 0)) := by have := heap_alloc_new (wr.alloc (.cells #[.string (rdT s a).t, .string (rdT s (rdT s a).n).t, .int .i64 0] 51)) (.cells #[.string (rdT s a).t, .string (rdT s (rdT s a).n).t, .int .i64 0] 51); simpa using this
            have HS2 : Hid (Src ((wr.alloc (.cells #[.string (rdT s a).t, .string (rdT s (rdT s a).n).t, .int .i64 0] 51)).alloc (.cells #[.string (rdT s a).t, .string (rdT s (rdT s a).n).t, .int .i64 0] 51)) 3 (some ⟨wr.heap.size + 1, 0, none⟩) 1 [.string (rdT s a).t, .string (rdT s (rdT s a).n).t, .int .i64 0]) := hid (src_new hs2 rfl)
            have HL2 : Hid (∀ w1, Mod (blk sa) ((wr.alloc (.cells #[.string (rdT s a).t, .string (rdT s (rdT s a).n).t, .int .i64 0] 51)).alloc (.cells #[.string (rdT s a).t, .string (rdT s (rdT s a).n).t, .int .i64 0] 51)) w1 → w1.cell? ⟨w.heap.size + 1, 1, none⟩ = some (.slice sa es.length cp) ∧ w1.frozen? ⟨w.heap.size + 1, 1, none⟩ = false) := hid (fun w1 hm => HG.out.late hmB hm)
            have HmB := hid hmB
            have HOne := hid (Ent.one ⟨(rdT s a).t, (rdT s (rdT s a).n).t, 0⟩)
            clear hmA hmB hs2
            go_wp2_with (at_builtin; refine wpList_append_Own rfl (.tmp 99) (.tmp 101) 29 rfl 51 i0 _ 3 40 Tryd.underlying29 hi0 hz0 hz1 hz2 rfl sa es.length cp _ rfl HO2.out (some ⟨wr.heap.size + 1, 0, none⟩) 1 1 _ rfl HS2.out HOne.out (by unfold maxLen; omega) (by omega) ?_; intro sa' cp' w7 hown7 hm7 hb7 hn7 hr7; obtain ⟨k0, k1⟩ := HL2.out w7 hm7; have Hown7 := hid hown7; have Hm7 := hid hm7; have Hb7 := hid hb7; clear hown7 hm7 hb7 hn7 hr7)
            go_roundw
            case rel =>
              refine ⟨(rdT s (rdT s a).n).n, es ++ [⟨(rdT s a).t, (rdT s (rdT s a).n).t, 0⟩], sa', cp', rfl, HG.out.grown HmB.out Hm7.out (x := ⟨(rdT s a).t, (rdT s (rdT s a).n).t, 0⟩) Hown7.out Hb7.out, by simp; omega, by omega, by simp; omega, fun y hy => ?_, HCl.out.append (fun y hy => ?_), ?_⟩
              · rcases List.mem_append.1 hy with h | h
                · exact HOk.out y h
                · rw [List.mem_singleton.1 h]; exact ⟨by have := hkin.2.2; show (rdT s a).t.size ≤ _; omega, by have := hvin.2.2; show (rdT s (rdT s a).n).t.size ≤ _; omega, by show (-9223372036854775808 : Int) ≤ 0; omega, by show (0 : Int) ≤ 9223372036854775807; omega⟩
              · rw [List.mem_singleton.1 hy]; exact ⟨fun _ => rfl, fun h => by cases h⟩
              · rw [← HPre.out, show cnt - es.length = (cnt - (es.length + 1)) + 1 by omega, pre_step HRead.out, List.length_append]; rfl
            case measure => simp [intOf]; omega
          · rw [rt_bad hv]
            have hne : ((((rdT s (rdT s a).n).e : Nat) : Int) != 0) = true := by rw [bne_iff_ne]; omega
            have HV := hid hv
            clear hv
            have HN : Hid (decP s = none) := hid (by rw [HGood.out, ← HPre.out, show cnt - es.length = (cnt - (es.length + 1)) + 1 by omega, pre_fail (by unfold readE; rw [if_pos HK.out]; simp only [if_true]; rw [if_neg HV.out])]; rfl)
            have hmX : Mod (fun _ => False) wr (wr.alloc (.cells #[.string (rdT s a).t, .string ⟨#[]⟩, .int .i64 0] 51)) := (Mod.refl _ _).alloc _
            have HRX := hid ((hmX.block _ (lt_of_heap HRr.out) (fun h => h)).trans HRr.out)
            have HMX := hid (HMr.out.trans hmX)
            clear hmX b0 b1
            generalize (wr.alloc (.cells #[.string (rdT s a).t, .string ⟨#[]⟩, .int .i64 0] 51)) = X at *
            have hz := rnone_ans HMX.out
            have HZ := hid hz
            have HG2 := hid (rset2 HRX.out (.bool false) (.slice none 0 0))
            clear hz
            obtain ⟨r0, r1⟩ := cells2 HRX.out
            have q0 := frozen_of_row _ _ 0 _ _ HRX.out
            have q1 := frozen_of_row _ _ 1 _ _ HRX.out
            go_wp2_with fail
            obtain ⟨g0, g1⟩ := cells2 HG2.out
            clear r0 r1 q0 q1
            generalize ((X.setCell ⟨w.heap.size, 0, none⟩ (.bool false)).setCell ⟨w.heap.size, 1, none⟩ (.slice none 0 0)) = ZZ at *
            exact bodyPost_ret (v := .tuple #[.agg #[.bool false, .slice none 0 0], .int .i64 40]) (by simp [results, Tryd.results6, go_sem, g0, g1]) rfl (by rw [HN.out]; exact HZ.out)
        · rw [rt_bad hk]
          have hne : ((((rdT s a).e : Nat) : Int) != 0) = true := by rw [bne_iff_ne]; omega
          have HV := hid hk
          clear hk
          have HN : Hid (decP s = none) := hid (by rw [HGood.out, ← HPre.out, show cnt - es.length = (cnt - (es.length + 1)) + 1 by omega, pre_fail (by unfold readE; rw [if_neg HV.out])]; rfl)
          have hmX : Mod (fun _ => False) wr (wr.alloc (.cells #[.string ⟨#[]⟩, .string ⟨#[]⟩, .int .i64 0] 51)) := (Mod.refl _ _).alloc _
          have HRX := hid ((hmX.block _ (lt_of_heap HRr.out) (fun h => h)).trans HRr.out)
          have HMX := hid (HMr.out.trans hmX)
          clear hmX b0 b1
          generalize (wr.alloc (.cells #[.string ⟨#[]⟩, .string ⟨#[]⟩, .int .i64 0] 51)) = X at *
          have hz := rnone_ans HMX.out
          have HZ := hid hz
          have HG2 := hid (rset2 HRX.out (.bool false) (.slice none 0 0))
          clear hz
          obtain ⟨r0, r1⟩ := cells2 HRX.out
          have q0 := frozen_of_row _ _ 0 _ _ HRX.out
          have q1 := frozen_of_row _ _ 1 _ _ HRX.out
          go_wp2_with fail
          obtain ⟨g0, g1⟩ := cells2 HG2.out
          clear r0 r1 q0 q1
          generalize ((X.setCell ⟨w.heap.size, 0, none⟩ (.bool false)).setCell ⟨w.heap.size, 1, none⟩ (.slice none 0 0)) = ZZ at *
          exact bodyPost_ret (v := .tuple #[.agg #[.bool false, .slice none 0 0], .int .i64 40]) (by simp [results, Tryd.results6, go_sem, g0, g1]) rfl (by rw [HN.out]; exact HZ.out)
      · have HI : Hid (es.length = cnt) := hid (by omega)
        have d1 : decide (es.length < cnt) = false := by rw [decide_eq_false_iff_not]; exact hlt
        have HRead : Hid (readL true s cnt a0 = some (es, a)) := hid (by rw [← HPre.out, HI.out, Nat.sub_self]; unfold readL pre; simp)
        obtain ⟨wq, rfl⟩ : ∃ wq, wq = wr := ⟨wr, rfl⟩
        go_wp2_with fail
        go_loopw [6] (fun p w2 => ∃ j : Nat, p = .int .i64 ((a + j : Nat) : Int) ∧ a + j ≤ s.size ∧ (∀ k b, k < j → (s.data.toList.drop a)[k]? = some b → b = 0) ∧ Mod (fun _ => False) wq w2) (fun p _ => s.size - (intOf p).toNat)
        case atStart => exact ⟨0, rfl, by omega, (fun k b hk => by omega), Mod.refl _ _⟩
        case round =>
          obtain ⟨j, rfl, hj, hzs, hm2⟩ := hrel
          obtain ⟨n, hn⟩ : ∃ n, n = a + j := ⟨_, rfl⟩
          rw [← hn] at hj ⊢
          have HN0 := hid hn
          have HZs := hid hzs
          have HG2' := hid (HG.out.ext hm2)
          have HR2 := hid ((hm2.block _ (lt_of_heap HRr.out) (fun h => h)).trans HRr.out)
          have HM2 := hid (HMr.out.trans hm2)
          have HMm := hid hm2
          clear hn hzs hm2 b0 b1
          by_cases hlt2 : n < s.size
          · have d2 : decide (n < s.size) = true := by rw [decide_eq_true_iff]; exact hlt2
            by_cases hz : s[n].toNat = 0
            · have z : ((s[n].toNat : Int) != 0) = false := by rw [hz]; rfl
              have HNx : Hid (∀ k b, k < j + 1 → (s.data.toList.drop a)[k]? = some b → b = 0) := hid (fun k b hk hb => by
                by_cases he : k = j
                · subst he
                  have e := drop_get (s := s) (at' := a) (k := k) (by have := HN0.out; omega)
                  rw [e] at hb
                  injection hb with hb
                  have e2 := HN0.out
                  subst e2
                  rw [← hb]
                  exact UInt8.toNat_inj.1 hz
                · exact HZs.out k b (by omega) hb)
              clear hz
              go_wp2_with fail
              go_roundw
              case rel => exact ⟨j + 1, congrArg (Value.int .i64) (by have := HN0.out; omega), by have := HN0.out; omega, HNx.out, HMm.out⟩
              case measure => simp [intOf]; omega
            · have z : ((s[n].toNat : Int) != 0) = true := by rw [bne_iff_ne]; omega
              have HN : Hid (decP s = none) := hid (by
                rw [HGood.out, HRead.out]
                refine fin_no (fun h => hz ?_)
                have e := drop_get (s := s) (at' := a) (k := j) (by have := HN0.out; omega)
                have e2 := HN0.out
                subst e2
                rw [h.1 _ (List.mem_of_getElem? e)]
                rfl)
              clear hz
              have hz := rnone_ans HM2.out
              have HZ := hid hz
              have HG2 := hid (rset2 HR2.out (.bool false) (.slice none 0 0))
              clear hz
              obtain ⟨r0, r1⟩ := cells2 HR2.out
              have q0 := frozen_of_row _ _ 0 _ _ HR2.out
              have q1 := frozen_of_row _ _ 1 _ _ HR2.out
              go_wp2_with fail
              obtain ⟨g0, g1⟩ := cells2 HG2.out
              clear r0 r1 q0 q1
              generalize ((wr.setCell ⟨w.heap.size, 0, none⟩ (.bool false)).setCell ⟨w.heap.size, 1, none⟩ (.slice none 0 0)) = ZZ at *
              exact bodyPost_ret (v := .tuple #[.agg #[.bool false, .slice none 0 0], .int .i64 40]) (by simp [results, Tryd.results6, go_sem, g0, g1]) rfl (by rw [HN.out]; exact HZ.out)
          · have d2 : decide (n < s.size) = false := by rw [decide_eq_false_iff_not]; exact hlt2
            have HAll := hid (allZ_split HZs.out (by have := HN0.out; omega))
            have HF := hid (rfit_any true cp (lies_own HG2'.out.own) (by omega) HOk.out)
            obtain ⟨b0, b1⟩ := cells2 HG2'.out.box
            go_wp2_with fail
            refine HF.out.mono ?_
            rintro e w3 ⟨rfl, hm3⟩
            have HG3 := hid (HG2'.out.ext hm3)
            have HR3 := hid ((hm3.block _ (lt_of_heap HR2.out) (fun h => h)).trans HR2.out)
            have HM3 := hid (HM2.out.trans hm3)
            clear hm3 b0 b1
            cases hE : rfitB true es with
            | false =>
              have HN : Hid (decP s = none) := hid (by rw [HGood.out, HRead.out]; exact fin_no (fun h => by rw [← rfit_cn HCl.out, hE] at h; cases h.2))
              clear hE
              have hz := rnone_ans HM3.out
              have HZ := hid hz
              have HG2 := hid (rset2 HR3.out (.bool false) (.slice none 0 0))
              clear hz
              obtain ⟨r0, r1⟩ := cells2 HR3.out
              have q0 := frozen_of_row _ _ 0 _ _ HR3.out
              have q1 := frozen_of_row _ _ 1 _ _ HR3.out
              go_wp2_with fail
              obtain ⟨g0, g1⟩ := cells2 HG2.out
              clear r0 r1 q0 q1
              generalize ((w3.setCell ⟨w.heap.size, 0, none⟩ (.bool false)).setCell ⟨w.heap.size, 1, none⟩ (.slice none 0 0)) = ZZ at *
              exact bodyPost_ret (v := .tuple #[.agg #[.bool false, .slice none 0 0], .int .i64 40]) (by simp [results, Tryd.results6, go_sem, g0, g1]) rfl (by rw [HN.out]; exact HZ.out)
            | true =>
              have HN : Hid (decP s = some (true, es)) := hid (by rw [HGood.out, HRead.out]; exact fin_yes HAll.out (by rw [← rfit_cn HCl.out]; exact hE))
              have hMS : Mod (fun k => k = w.heap.size) w3 ((w3.setCell ⟨w.heap.size, 0, none⟩ (.bool true)).setCell ⟨w.heap.size, 1, none⟩ (.slice sa es.length cp)) := Mod.setCell (S := fun k => k = w.heap.size) (Mod.setCell (S := fun k => k = w.heap.size) (Mod.refl _ _) (fun _ => rfl) _) (fun _ => rfl) _
              have HZ : Hid (RDecAns w (some (true, es)) (.returned (.tuple #[.agg #[.bool true, .slice sa es.length cp], .int .i64 0])) ((w3.setCell ⟨w.heap.size, 0, none⟩ (.bool true)).setCell ⟨w.heap.size, 1, none⟩ (.slice sa es.length cp))) := hid ⟨HM3.out.then hMS (fun i hi e => by omega), sa, cp, rfl, lies_own (HG3.out.own.mod hMS (fun k hk e => by have := HG3.out.los k hk; rw [HSz.out] at this; omega))⟩
              have HG4 := hid (rset2 HR3.out (.bool true) (.slice sa es.length cp))
              clear hE hMS
              obtain ⟨b0, b1⟩ := cells2 HG3.out.box
              obtain ⟨r0, r1⟩ := cells2 HR3.out
              have q0 := frozen_of_row _ _ 0 _ _ HR3.out
              have q1 := frozen_of_row _ _ 1 _ _ HR3.out
              go_wp2_with fail
              obtain ⟨g0, g1⟩ := cells2 HG4.out
              clear r0 r1 q0 q1 b0 b1
              generalize ((w3.setCell ⟨w.heap.size, 0, none⟩ (.bool true)).setCell ⟨w.heap.size, 1, none⟩ (.slice sa es.length cp)) = ZZ at *
              exact bodyPost_ret (v := .tuple #[.agg #[.bool true, .slice sa es.length cp], .int .i64 0]) (by simp [results, Tryd.results6, go_sem, g0, g1]) rfl (by rw [HN.out]; exact HZ.out)
  · have HN : Hid (decP s = none) := hid (by rw [HDec.out]; unfold decIn; rw [if_neg (by omega)])
    have hne : ((er : Int) != 0) = true := by rw [bne_iff_ne]; omega
    clear h1 h2 hin hru
    have hz := rnone_ans HMV.out
    have HZ := hid hz
    have HG2 := hid (rset2 HRV.out (.bool false) (.slice none 0 0))
    clear hz
    obtain ⟨r0, r1⟩ := cells2 HRV.out
    have q0 := frozen_of_row _ _ 0 _ _ HRV.out
    have q1 := frozen_of_row _ _ 1 _ _ HRV.out
    go_wp2_with fail
    obtain ⟨g0, g1⟩ := cells2 HG2.out
    clear r0 r1 q0 q1
    generalize ((V.setCell ⟨w.heap.size, 0, none⟩ (.bool false)).setCell ⟨w.heap.size, 1, none⟩ (.slice none 0 0)) = ZZ at *
    exact bodyPost_ret (v := .tuple #[.agg #[.bool false, .slice none 0 0], .int .i64 40]) (by simp [results, Tryd.results6, go_sem, g0, g1]) rfl (by rw [HN.out]; exact HZ.out)

set_option maxRecDepth 100000 in
set_option maxHeartbeats 8000000 in
theorem rdec_false {s : ByteArray} (w : World) (hs : s.size ≤ 1048576) (h0 : 0 < s.size) (hb : s[0].toNat = 2) : Calls Tryd.prog 6 #[.string s] w fun e w' => RDecAns w (decP s) e w' := by
  obtain ⟨i0, hi0, hz0, hz1, hz2⟩ := info_parts infoEnt
  have HU : Hid (∀ v, Calls Tryd.prog 14 #[.string s, .int .i64 1] v fun e w' => e = .returned (ruV 1 (rdU 0 (s.data.toList.drop 1))) ∧ v = w') := hid (fun v => rreadUint_any s 1 v (by omega))
  have HUa : Hid (∀ (a : Nat) v, Calls Tryd.prog 14 #[.string s, .int .i64 (a : Int)] v fun e w' => e = .returned (ruV a (rdU 0 (s.data.toList.drop a))) ∧ v = w') := hid (fun a v => rreadUint_any s a v (by omega))
  have HT : Hid (∀ (a : Nat) v, Calls Tryd.prog 15 #[.string s, .int .i64 (a : Int)] v fun e w' => e = .returned (rtV (rdT s a)) ∧ v = w') := hid (fun a v => rreadText_any s a v (by omega))
  have hl : s.data.toList = s[0] :: (s.extract 1 s.size).data.toList := tail_list h0
  have hdec : decP s = decIn false s := decP_head hl (by rw [hb]; decide) (by rw [hb]; rfl)
  have HDec := hid hdec
  have z1 : ((s[0].toNat : Int) == 1) = false := by rw [hb]; rfl
  have z2 : ((s[0].toNat : Int) == 2) = true := by rw [hb]; rfl
  have z3 : ((s[0].toNat : Int) != 1) = true := by rw [hb]; rfl
  have z4 : ((s[0].toNat : Int) != 2) = false := by rw [hb]; rfl
  have z5 : ((s.size : Int) == 0) = false := by rw [beq_eq_false_iff_ne]; omega
  have hsz : (w.alloc (.cells #[.bool false, .slice none 0 0] 31)).heap.size = w.heap.size + 1 := by simp
  have hm0 : Mod (fun _ => False) w (w.alloc (.cells #[.bool false, .slice none 0 0] 31)) := (Mod.refl _ _).alloc _
  have hR : (w.alloc (.cells #[.bool false, .slice none 0 0] 31)).heap[w.heap.size]? = some (.cells #[.bool false, .slice none 0 0] 31 (0, 0)) := heap_alloc_new _ _
  have hB := heap_alloc_new (w.alloc (.cells #[.bool false, .slice none 0 0] 31)) (.cells #[.bool false, .slice none 0 0] 31)
  rw [hsz] at hB
  have HG0 : Hid (Rg (w.alloc (.cells #[.bool false, .slice none 0 0] 31)) ((w.alloc (.cells #[.bool false, .slice none 0 0] 31)).alloc (.cells #[.bool false, .slice none 0 0] 31)) (w.heap.size + 1) false [] none 0) := hid ⟨hB, Own.nil _ _ _, blk_none _, by rw [hsz]; omega, fun k hk => (blk_none k hk).elim, (Mod.refl _ _).alloc _⟩
  have HM0 := hid hm0
  have HR := hid hR
  have HSz := hid hsz
  clear hb hl hdec hsz hR hB hm0
  go_enter Tryd.func6, Tryd.ntmps6
  go_wp2_with fail
  generalize hVV : ((w.alloc (.cells #[.bool false, .slice none 0 0] 31)).alloc (.cells #[.bool false, .slice none 0 0] 31)) = V at *
  clear hVV
  generalize w.alloc (.cells #[.bool false, .slice none 0 0] 31) = W1 at *
  refine (HU.out V).mono ?_
  rintro e w0 ⟨rfl, rfl⟩
  obtain ⟨cnt, a0, er, hru, hcase⟩ := ru_shape 1 (rdU 0 (s.data.toList.drop 1))
  rw [hru]
  have hin := rdU_in s 1
  have HRV : Hid (V.heap[w.heap.size]? = some (.cells #[.bool false, .slice none 0 0] 31 (0, 0))) := hid ((HG0.out.mod.block _ (lt_of_heap HR.out) (fun h => h)).trans HR.out)
  have HMV := hid (HM0.out.trans HG0.out.mod)
  rcases hcase with ⟨h1, h2, h3, h4⟩ | ⟨h1, h2, _, _⟩
  · obtain ⟨i1, i2, i3⟩ := hin h2
    have HGood : Hid (decP s = decFin false s (readL false s cnt a0)) := hid (by rw [HDec.out, h3, h4]; unfold decIn; rw [if_pos h2])
    have HStart : Hid (RRel W1 s false (w.heap.size + 1) cnt a0 (.int .i64 (a0 : Int)) V) := hid ⟨a0, [], none, 0, rfl, HG0.out, by simp, by omega, by simp, (fun x hx => by cases hx), (fun x hx => by cases hx), by rw [pre_nil]; rfl⟩
    have hcn : cnt < 18446744073709551616 := by omega
    have HCn := hid hcn
    subst h1
    clear hin hru h2 h3 h4 i1 i2 i3 hcn
    go_wp2_with fail
    go_loopw [6] (fun p wr => RRel W1 s false (w.heap.size + 1) cnt a0 p wr) (fun p _ => s.size - (intOf p).toNat)
    case atStart => exact HStart.out
    case round =>
      obtain ⟨a, es, sa, cp, rfl, hg, hle, has, hla, hok, hcl, hpre⟩ := hrel
      have HG := hid hg
      have HOk := hid hok
      have HCl := hid hcl
      have HPre := hid hpre
      have HRr := hid ((hg.mod.block _ (lt_of_heap HR.out) (fun h => h)).trans HR.out)
      have HMr := hid (HM0.out.trans hg.mod)
      obtain ⟨b0, b1⟩ := cells2 hg.box
      have hes : es.length ≤ 1048576 := by omega
      clear hg hok hcl hpre
      by_cases hlt : es.length < cnt
      · have d1 : decide (es.length < cnt) = true := by rw [decide_eq_true_iff]; exact hlt
        have hltB : w.heap.size + 1 < wr.heap.size := lt_of_heap HG.out.box
        have ne1 : wr.heap.size ≠ w.heap.size + 1 := by omega
        go_wp2_with fail
        refine (HT.out a _).mono ?_
        rintro e wx ⟨rfl, rfl⟩
        by_cases hk : (rdT s a).e = 0
        · rw [rt_ok hk]
          have hkin := rdT_in s a hk
          have HK := hid hk
          clear hk
          go_wp2_with fail
          refine (HUa.out (rdT s a).n _).mono ?_
          rintro e wx ⟨rfl, rfl⟩
          by_cases hv : (rdU 0 (s.data.toList.drop (rdT s a).n)).e = 0
          · obtain ⟨u1, u2, u3⟩ := rdU_in s (rdT s a).n hv
            have hru : ruV (rdT s a).n (rdU 0 (s.data.toList.drop (rdT s a).n)) = .tuple #[.int .u64 ((rdU 0 (s.data.toList.drop (rdT s a).n)).v : Int), .int .i64 (((rdT s a).n + (rdU 0 (s.data.toList.drop (rdT s a).n)).n : Nat) : Int), .int .i64 0] := by unfold ruV; rw [if_pos hv, Int.natCast_add]
            rw [hru]
            have hrd : readE false s a = some (⟨(rdT s a).t, emp, ((min (rdU 0 (s.data.toList.drop (rdT s a).n)).v 16384 : Nat) : Int)⟩, (rdT s a).n + (rdU 0 (s.data.toList.drop (rdT s a).n)).n) := by unfold readE; rw [if_pos HK.out]; simp only [Bool.false_eq_true, if_false]; rw [if_pos hv]
            by_cases hbig : 16384 ≤ (rdU 0 (s.data.toList.drop (rdT s a).n)).v
            · have HRd := hid hrd
              have d2 : decide (16384 ≤ ((rdU 0 (s.data.toList.drop (rdT s a).n)).v : Int)) = true := by rw [decide_eq_true_iff]; omega
              have HBig := hid hbig
              clear hv hru hrd hbig
              have HN : Hid (decP s = none) := hid (by rw [HGood.out, ← HPre.out, show cnt - es.length = (cnt - (es.length + 1)) + 1 by omega, pre_step HRd.out]; exact kid_bad (by show ((min (rdU 0 (s.data.toList.drop (rdT s a).n)).v 16384 : Nat) : Int) = 16384; have := HBig.out; omega))
              have hmX : Mod (fun _ => False) wr (wr.alloc (.cells #[.string (rdT s a).t, .string ⟨#[]⟩, .int .i64 0] 51)) := (Mod.refl _ _).alloc _
              have HRX := hid ((hmX.block _ (lt_of_heap HRr.out) (fun h => h)).trans HRr.out)
              have HMX := hid (HMr.out.trans hmX)
              clear hmX b0 b1
              generalize (wr.alloc (.cells #[.string (rdT s a).t, .string ⟨#[]⟩, .int .i64 0] 51)) = X at *
              have hz := rnone_ans HMX.out
              have HZ := hid hz
              have HG2 := hid (rset2 HRX.out (.bool false) (.slice none 0 0))
              clear hz
              obtain ⟨r0, r1⟩ := cells2 HRX.out
              have q0 := frozen_of_row _ _ 0 _ _ HRX.out
              have q1 := frozen_of_row _ _ 1 _ _ HRX.out
              go_wp2_with fail
              obtain ⟨g0, g1⟩ := cells2 HG2.out
              clear r0 r1 q0 q1
              generalize ((X.setCell ⟨w.heap.size, 0, none⟩ (.bool false)).setCell ⟨w.heap.size, 1, none⟩ (.slice none 0 0)) = ZZ at *
              exact bodyPost_ret (v := .tuple #[.agg #[.bool false, .slice none 0 0], .int .i64 40]) (by simp [results, Tryd.results6, go_sem, g0, g1]) rfl (by rw [HN.out]; exact HZ.out)
            · have HRead : Hid (readE false s a = some (⟨(rdT s a).t, emp, ((rdU 0 (s.data.toList.drop (rdT s a).n)).v : Int)⟩, (rdT s a).n + (rdU 0 (s.data.toList.drop (rdT s a).n)).n)) := hid (by rw [hrd, Nat.min_eq_left (by omega)])
              have d2 : decide (16384 ≤ ((rdU 0 (s.data.toList.drop (rdT s a).n)).v : Int)) = false := by rw [decide_eq_false_iff_not]; omega
              clear hv hru hrd
              generalize (rdU 0 (s.data.toList.drop (rdT s a).n)) = uu at *
              have hmA : Mod (fun _ => False) wr (wr.alloc (.cells #[.string (rdT s a).t, .string ⟨#[]⟩, .int .i64 (uu.v : Int)] 51)) := (Mod.refl _ _).alloc _
              have hmB : Mod (fun _ => False) wr ((wr.alloc (.cells #[.string (rdT s a).t, .string ⟨#[]⟩, .int .i64 (uu.v : Int)] 51)).alloc (.cells #[.string (rdT s a).t, .string ⟨#[]⟩, .int .i64 (uu.v : Int)] 51)) := hmA.alloc _
              have HO2 : Hid (Own ((wr.alloc (.cells #[.string (rdT s a).t, .string ⟨#[]⟩, .int .i64 (uu.v : Int)] 51)).alloc (.cells #[.string (rdT s a).t, .string ⟨#[]⟩, .int .i64 (uu.v : Int)] 51)) 51 3 sa es.length cp (es.flatMap Ent.cs)) := hid (HG.out.own.mod hmB (fun _ _ h => h))
              have hs2 : ((wr.alloc (.cells #[.string (rdT s a).t, .string ⟨#[]⟩, .int .i64 (uu.v : Int)] 51)).alloc (.cells #[.string (rdT s a).t, .string ⟨#[]⟩, .int .i64 (uu.v : Int)] 51)).heap[wr.heap.size + 1]? = some (.cells #[.string (rdT s a).t, .string ⟨#[]⟩, .int .i64 (uu.v : Int)] 51 (0, 0)) := by have := heap_alloc_new (wr.alloc (.cells #[.string (rdT s a).t, .string ⟨#[]⟩, .int .i64 (uu.v : Int)] 51)) (.cells #[.string (rdT s a).t, .string ⟨#[]⟩, .int .i64 (uu.v : Int)] 51); simpa using this
              have HS2 : Hid (Src ((wr.alloc (.cells #[.string (rdT s a).t, .string ⟨#[]⟩, .int .i64 (uu.v : Int)] 51)).alloc (.cells #[.string (rdT s a).t, .string ⟨#[]⟩, .int .i64 (uu.v : Int)] 51)) 3 (some ⟨wr.heap.size + 1, 0, none⟩) 1 [.string (rdT s a).t, .string ⟨#[]⟩, .int .i64 (uu.v : Int)]) := hid (src_new hs2 rfl)
              have HL2 : Hid (∀ w1, Mod (blk sa) ((wr.alloc (.cells #[.string (rdT s a).t, .string ⟨#[]⟩, .int .i64 (uu.v : Int)] 51)).alloc (.cells #[.string (rdT s a).t, .string ⟨#[]⟩, .int .i64 (uu.v : Int)] 51)) w1 → w1.cell? ⟨w.heap.size + 1, 1, none⟩ = some (.slice sa es.length cp) ∧ w1.frozen? ⟨w.heap.size + 1, 1, none⟩ = false) := hid (fun w1 hm => HG.out.late hmB hm)
              have HmB := hid hmB
              have HOne := hid (Ent.one ⟨(rdT s a).t, emp, (uu.v : Int)⟩)
              clear hmA hmB hs2
              go_wp2_with (at_builtin; refine wpList_append_Own rfl (.tmp 99) (.tmp 101) 29 rfl 51 i0 _ 3 40 Tryd.underlying29 hi0 hz0 hz1 hz2 rfl sa es.length cp _ rfl HO2.out (some ⟨wr.heap.size + 1, 0, none⟩) 1 1 _ rfl HS2.out HOne.out (by unfold maxLen; omega) (by omega) ?_; intro sa' cp' w7 hown7 hm7 hb7 hn7 hr7; obtain ⟨k0, k1⟩ := HL2.out w7 hm7; have Hown7 := hid hown7; have Hm7 := hid hm7; have Hb7 := hid hb7; clear hown7 hm7 hb7 hn7 hr7)
              go_roundw
              case rel =>
                refine ⟨((rdT s a).n + uu.n), es ++ [⟨(rdT s a).t, emp, (uu.v : Int)⟩], sa', cp', rfl, HG.out.grown HmB.out Hm7.out (x := ⟨(rdT s a).t, emp, (uu.v : Int)⟩) Hown7.out Hb7.out, by simp; omega, by omega, by simp; omega, fun y hy => ?_, HCl.out.append (fun y hy => ?_), ?_⟩
                · rcases List.mem_append.1 hy with h | h
                  · exact HOk.out y h
                  · rw [List.mem_singleton.1 h]; exact ⟨by have := hkin.2.2; show (rdT s a).t.size ≤ _; omega, by show (0 : Nat) ≤ 4194304; omega, by show _ ≤ (uu.v : Int); omega, by show (uu.v : Int) ≤ _; omega⟩
                · rw [List.mem_singleton.1 hy]; exact ⟨fun h => (by cases h), fun _ => rfl⟩
                · rw [← HPre.out, show cnt - es.length = (cnt - (es.length + 1)) + 1 by omega, pre_step HRead.out, List.length_append]; rfl
              case measure => simp [intOf]; omega
          · have hru : ruV (rdT s a).n (rdU 0 (s.data.toList.drop (rdT s a).n)) = .tuple #[.int .u64 0, .int .i64 0, .int .i64 ((rdU 0 (s.data.toList.drop (rdT s a).n)).e : Int)] := by unfold ruV; rw [if_neg hv]
            rw [hru]
            have hne : ((((rdU 0 (s.data.toList.drop (rdT s a).n)).e : Nat) : Int) != 0) = true := by rw [bne_iff_ne]; omega
            have HV := hid hv
            clear hv hru
            have HN : Hid (decP s = none) := hid (by rw [HGood.out, ← HPre.out, show cnt - es.length = (cnt - (es.length + 1)) + 1 by omega, pre_fail (by unfold readE; rw [if_pos HK.out]; simp only [Bool.false_eq_true, if_false]; rw [if_neg HV.out])]; rfl)
            have hmX : Mod (fun _ => False) wr (wr.alloc (.cells #[.string (rdT s a).t, .string ⟨#[]⟩, .int .i64 0] 51)) := (Mod.refl _ _).alloc _
            have HRX := hid ((hmX.block _ (lt_of_heap HRr.out) (fun h => h)).trans HRr.out)
            have HMX := hid (HMr.out.trans hmX)
            clear hmX b0 b1
            generalize (wr.alloc (.cells #[.string (rdT s a).t, .string ⟨#[]⟩, .int .i64 0] 51)) = X at *
            have hz := rnone_ans HMX.out
            have HZ := hid hz
            have HG2 := hid (rset2 HRX.out (.bool false) (.slice none 0 0))
            clear hz
            obtain ⟨r0, r1⟩ := cells2 HRX.out
            have q0 := frozen_of_row _ _ 0 _ _ HRX.out
            have q1 := frozen_of_row _ _ 1 _ _ HRX.out
            go_wp2_with fail
            obtain ⟨g0, g1⟩ := cells2 HG2.out
            clear r0 r1 q0 q1
            generalize ((X.setCell ⟨w.heap.size, 0, none⟩ (.bool false)).setCell ⟨w.heap.size, 1, none⟩ (.slice none 0 0)) = ZZ at *
            exact bodyPost_ret (v := .tuple #[.agg #[.bool false, .slice none 0 0], .int .i64 40]) (by simp [results, Tryd.results6, go_sem, g0, g1]) rfl (by rw [HN.out]; exact HZ.out)
        · rw [rt_bad hk]
          have hne : ((((rdT s a).e : Nat) : Int) != 0) = true := by rw [bne_iff_ne]; omega
          have HV := hid hk
          clear hk
          have HN : Hid (decP s = none) := hid (by rw [HGood.out, ← HPre.out, show cnt - es.length = (cnt - (es.length + 1)) + 1 by omega, pre_fail (by unfold readE; rw [if_neg HV.out])]; rfl)
          have hmX : Mod (fun _ => False) wr (wr.alloc (.cells #[.string ⟨#[]⟩, .string ⟨#[]⟩, .int .i64 0] 51)) := (Mod.refl _ _).alloc _
          have HRX := hid ((hmX.block _ (lt_of_heap HRr.out) (fun h => h)).trans HRr.out)
          have HMX := hid (HMr.out.trans hmX)
          clear hmX b0 b1
          generalize (wr.alloc (.cells #[.string ⟨#[]⟩, .string ⟨#[]⟩, .int .i64 0] 51)) = X at *
          have hz := rnone_ans HMX.out
          have HZ := hid hz
          have HG2 := hid (rset2 HRX.out (.bool false) (.slice none 0 0))
          clear hz
          obtain ⟨r0, r1⟩ := cells2 HRX.out
          have q0 := frozen_of_row _ _ 0 _ _ HRX.out
          have q1 := frozen_of_row _ _ 1 _ _ HRX.out
          go_wp2_with fail
          obtain ⟨g0, g1⟩ := cells2 HG2.out
          clear r0 r1 q0 q1
          generalize ((X.setCell ⟨w.heap.size, 0, none⟩ (.bool false)).setCell ⟨w.heap.size, 1, none⟩ (.slice none 0 0)) = ZZ at *
          exact bodyPost_ret (v := .tuple #[.agg #[.bool false, .slice none 0 0], .int .i64 40]) (by simp [results, Tryd.results6, go_sem, g0, g1]) rfl (by rw [HN.out]; exact HZ.out)
      · have HI : Hid (es.length = cnt) := hid (by omega)
        have d1 : decide (es.length < cnt) = false := by rw [decide_eq_false_iff_not]; exact hlt
        have HRead : Hid (readL false s cnt a0 = some (es, a)) := hid (by rw [← HPre.out, HI.out, Nat.sub_self]; unfold readL pre; simp)
        obtain ⟨wq, rfl⟩ : ∃ wq, wq = wr := ⟨wr, rfl⟩
        go_wp2_with fail
        go_loopw [6] (fun p w2 => ∃ j : Nat, p = .int .i64 ((a + j : Nat) : Int) ∧ a + j ≤ s.size ∧ (∀ k b, k < j → (s.data.toList.drop a)[k]? = some b → b = 0) ∧ Mod (fun _ => False) wq w2) (fun p _ => s.size - (intOf p).toNat)
        case atStart => exact ⟨0, rfl, by omega, (fun k b hk => by omega), Mod.refl _ _⟩
        case round =>
          obtain ⟨j, rfl, hj, hzs, hm2⟩ := hrel
          obtain ⟨n, hn⟩ : ∃ n, n = a + j := ⟨_, rfl⟩
          rw [← hn] at hj ⊢
          have HN0 := hid hn
          have HZs := hid hzs
          have HG2' := hid (HG.out.ext hm2)
          have HR2 := hid ((hm2.block _ (lt_of_heap HRr.out) (fun h => h)).trans HRr.out)
          have HM2 := hid (HMr.out.trans hm2)
          have HMm := hid hm2
          clear hn hzs hm2 b0 b1
          by_cases hlt2 : n < s.size
          · have d2 : decide (n < s.size) = true := by rw [decide_eq_true_iff]; exact hlt2
            by_cases hz : s[n].toNat = 0
            · have z : ((s[n].toNat : Int) != 0) = false := by rw [hz]; rfl
              have HNx : Hid (∀ k b, k < j + 1 → (s.data.toList.drop a)[k]? = some b → b = 0) := hid (fun k b hk hb => by
                by_cases he : k = j
                · subst he
                  have e := drop_get (s := s) (at' := a) (k := k) (by have := HN0.out; omega)
                  rw [e] at hb
                  injection hb with hb
                  have e2 := HN0.out
                  subst e2
                  rw [← hb]
                  exact UInt8.toNat_inj.1 hz
                · exact HZs.out k b (by omega) hb)
              clear hz
              go_wp2_with fail
              go_roundw
              case rel => exact ⟨j + 1, congrArg (Value.int .i64) (by have := HN0.out; omega), by have := HN0.out; omega, HNx.out, HMm.out⟩
              case measure => simp [intOf]; omega
            · have z : ((s[n].toNat : Int) != 0) = true := by rw [bne_iff_ne]; omega
              have HN : Hid (decP s = none) := hid (by
                rw [HGood.out, HRead.out]
                refine fin_no (fun h => hz ?_)
                have e := drop_get (s := s) (at' := a) (k := j) (by have := HN0.out; omega)
                have e2 := HN0.out
                subst e2
                rw [h.1 _ (List.mem_of_getElem? e)]
                rfl)
              clear hz
              have hz := rnone_ans HM2.out
              have HZ := hid hz
              have HG2 := hid (rset2 HR2.out (.bool false) (.slice none 0 0))
              clear hz
              obtain ⟨r0, r1⟩ := cells2 HR2.out
              have q0 := frozen_of_row _ _ 0 _ _ HR2.out
              have q1 := frozen_of_row _ _ 1 _ _ HR2.out
              go_wp2_with fail
              obtain ⟨g0, g1⟩ := cells2 HG2.out
              clear r0 r1 q0 q1
              generalize ((wr.setCell ⟨w.heap.size, 0, none⟩ (.bool false)).setCell ⟨w.heap.size, 1, none⟩ (.slice none 0 0)) = ZZ at *
              exact bodyPost_ret (v := .tuple #[.agg #[.bool false, .slice none 0 0], .int .i64 40]) (by simp [results, Tryd.results6, go_sem, g0, g1]) rfl (by rw [HN.out]; exact HZ.out)
          · have d2 : decide (n < s.size) = false := by rw [decide_eq_false_iff_not]; exact hlt2
            have HAll := hid (allZ_split HZs.out (by have := HN0.out; omega))
            have HF := hid (rfit_any false cp (lies_own HG2'.out.own) (by omega) HOk.out)
            obtain ⟨b0, b1⟩ := cells2 HG2'.out.box
            go_wp2_with fail
            refine HF.out.mono ?_
            rintro e w3 ⟨rfl, hm3⟩
            have HG3 := hid (HG2'.out.ext hm3)
            have HR3 := hid ((hm3.block _ (lt_of_heap HR2.out) (fun h => h)).trans HR2.out)
            have HM3 := hid (HM2.out.trans hm3)
            clear hm3 b0 b1
            cases hE : rfitB false es with
            | false =>
              have HN : Hid (decP s = none) := hid (by rw [HGood.out, HRead.out]; exact fin_no (fun h => by rw [← rfit_cn HCl.out, hE] at h; cases h.2))
              clear hE
              have hz := rnone_ans HM3.out
              have HZ := hid hz
              have HG2 := hid (rset2 HR3.out (.bool false) (.slice none 0 0))
              clear hz
              obtain ⟨r0, r1⟩ := cells2 HR3.out
              have q0 := frozen_of_row _ _ 0 _ _ HR3.out
              have q1 := frozen_of_row _ _ 1 _ _ HR3.out
              go_wp2_with fail
              obtain ⟨g0, g1⟩ := cells2 HG2.out
              clear r0 r1 q0 q1
              generalize ((w3.setCell ⟨w.heap.size, 0, none⟩ (.bool false)).setCell ⟨w.heap.size, 1, none⟩ (.slice none 0 0)) = ZZ at *
              exact bodyPost_ret (v := .tuple #[.agg #[.bool false, .slice none 0 0], .int .i64 40]) (by simp [results, Tryd.results6, go_sem, g0, g1]) rfl (by rw [HN.out]; exact HZ.out)
            | true =>
              have HN : Hid (decP s = some (false, es)) := hid (by rw [HGood.out, HRead.out]; exact fin_yes HAll.out (by rw [← rfit_cn HCl.out]; exact hE))
              have hMS : Mod (fun k => k = w.heap.size) w3 ((w3.setCell ⟨w.heap.size, 0, none⟩ (.bool false)).setCell ⟨w.heap.size, 1, none⟩ (.slice sa es.length cp)) := Mod.setCell (S := fun k => k = w.heap.size) (Mod.setCell (S := fun k => k = w.heap.size) (Mod.refl _ _) (fun _ => rfl) _) (fun _ => rfl) _
              have HZ : Hid (RDecAns w (some (false, es)) (.returned (.tuple #[.agg #[.bool false, .slice sa es.length cp], .int .i64 0])) ((w3.setCell ⟨w.heap.size, 0, none⟩ (.bool false)).setCell ⟨w.heap.size, 1, none⟩ (.slice sa es.length cp))) := hid ⟨HM3.out.then hMS (fun i hi e => by omega), sa, cp, rfl, lies_own (HG3.out.own.mod hMS (fun k hk e => by have := HG3.out.los k hk; rw [HSz.out] at this; omega))⟩
              have HG4 := hid (rset2 HR3.out (.bool false) (.slice sa es.length cp))
              clear hE hMS
              obtain ⟨b0, b1⟩ := cells2 HG3.out.box
              obtain ⟨r0, r1⟩ := cells2 HR3.out
              have q0 := frozen_of_row _ _ 0 _ _ HR3.out
              have q1 := frozen_of_row _ _ 1 _ _ HR3.out
              go_wp2_with fail
              obtain ⟨g0, g1⟩ := cells2 HG4.out
              clear r0 r1 q0 q1 b0 b1
              generalize ((w3.setCell ⟨w.heap.size, 0, none⟩ (.bool false)).setCell ⟨w.heap.size, 1, none⟩ (.slice sa es.length cp)) = ZZ at *
              exact bodyPost_ret (v := .tuple #[.agg #[.bool false, .slice sa es.length cp], .int .i64 0]) (by simp [results, Tryd.results6, go_sem, g0, g1]) rfl (by rw [HN.out]; exact HZ.out)
  · have HN : Hid (decP s = none) := hid (by rw [HDec.out]; unfold decIn; rw [if_neg (by omega)])
    have hne : ((er : Int) != 0) = true := by rw [bne_iff_ne]; omega
    clear h1 h2 hin hru
    have hz := rnone_ans HMV.out
    have HZ := hid hz
    have HG2 := hid (rset2 HRV.out (.bool false) (.slice none 0 0))
    clear hz
    obtain ⟨r0, r1⟩ := cells2 HRV.out
    have q0 := frozen_of_row _ _ 0 _ _ HRV.out
    have q1 := frozen_of_row _ _ 1 _ _ HRV.out
    go_wp2_with fail
    obtain ⟨g0, g1⟩ := cells2 HG2.out
    clear r0 r1 q0 q1
    generalize ((V.setCell ⟨w.heap.size, 0, none⟩ (.bool false)).setCell ⟨w.heap.size, 1, none⟩ (.slice none 0 0)) = ZZ at *
    exact bodyPost_ret (v := .tuple #[.agg #[.bool false, .slice none 0 0], .int .i64 40]) (by simp [results, Tryd.results6, go_sem, g0, g1]) rfl (by rw [HN.out]; exact HZ.out)

set_option maxRecDepth 100000 in
set_option maxHeartbeats 4000000 in
theorem rdec_none {s : ByteArray} (w : World) (hn : decP s = none) (h : s.size = 0 ∨ ∃ h0 : 0 < s.size, s[0].toNat ≠ 1 ∧ s[0].toNat ≠ 2) : Calls Tryd.prog 6 #[.string s] w fun e w' => RDecAns w (decP s) e w' := by
  have HN := hid hn
  have hm : Mod (fun _ => False) w (w.alloc (.cells #[.bool false, .slice none 0 0] 31)) := (Mod.refl _ _).alloc _
  have hr : (w.alloc (.cells #[.bool false, .slice none 0 0] 31)).heap[w.heap.size]? = some (.cells #[.bool false, .slice none 0 0] 31 (0, 0)) := heap_alloc_new _ _
  have HM := hid hm
  have HR := hid hr
  clear hm hr hn
  rcases h with h | ⟨h0, h1, h2⟩
  · have e0 : ((s.size : Int) == 0) = true := by rw [beq_iff_eq]; omega
    clear h
    go_enter Tryd.func6, Tryd.ntmps6
    go_upto_region 1 with fail
    generalize w.alloc (.cells #[.bool false, .slice none 0 0] 31) = X at *
    have HZ := hid (rnone_ans HM.out)
    have HG2 := hid (rset2 HR.out (.bool false) (.slice none 0 0))
    obtain ⟨r0, r1⟩ := cells2 HR.out
    have q0 := frozen_of_row _ _ 0 _ _ HR.out
    have q1 := frozen_of_row _ _ 1 _ _ HR.out
    go_wp2_with fail
    obtain ⟨g0, g1⟩ := cells2 HG2.out
    clear r0 r1 q0 q1
    generalize ((X.setCell ⟨w.heap.size, 0, none⟩ (.bool false)).setCell ⟨w.heap.size, 1, none⟩ (.slice none 0 0)) = ZZ at *
    exact bodyPost_ret (v := .tuple #[.agg #[.bool false, .slice none 0 0], .int .i64 40]) (by simp [results, Tryd.results6, go_sem, g0, g1]) rfl (by rw [HN.out]; exact HZ.out)
  · have e0 : ((s.size : Int) == 0) = false := by rw [beq_eq_false_iff_ne]; omega
    have z1 : ((s[0].toNat : Int) != 1) = true := by rw [bne_iff_ne]; omega
    have z2 : ((s[0].toNat : Int) != 2) = true := by rw [bne_iff_ne]; omega
    clear h1 h2
    go_enter Tryd.func6, Tryd.ntmps6
    go_upto_region 1 with fail
    generalize w.alloc (.cells #[.bool false, .slice none 0 0] 31) = X at *
    have HZ := hid (rnone_ans HM.out)
    have HG2 := hid (rset2 HR.out (.bool false) (.slice none 0 0))
    obtain ⟨r0, r1⟩ := cells2 HR.out
    have q0 := frozen_of_row _ _ 0 _ _ HR.out
    have q1 := frozen_of_row _ _ 1 _ _ HR.out
    go_wp2_with fail
    obtain ⟨g0, g1⟩ := cells2 HG2.out
    clear r0 r1 q0 q1
    generalize ((X.setCell ⟨w.heap.size, 0, none⟩ (.bool false)).setCell ⟨w.heap.size, 1, none⟩ (.slice none 0 0)) = ZZ at *
    exact bodyPost_ret (v := .tuple #[.agg #[.bool false, .slice none 0 0], .int .i64 40]) (by simp [results, Tryd.results6, go_sem, g0, g1]) rfl (by rw [HN.out]; exact HZ.out)

theorem rdec_any {s : ByteArray} (w : World) (hs : s.size ≤ 1048576) : Calls Tryd.prog 6 #[.string s] w fun e w' => RDecAns w (decP s) e w' := by
  by_cases h0 : 0 < s.size
  · by_cases h1 : s[0].toNat = 1
    · exact rdec_true w hs h0 h1
    · by_cases h2 : s[0].toNat = 2
      · exact rdec_false w hs h0 h2
      · refine rdec_none w (decP_none fun b r h => ?_) (.inr ⟨h0, h1, h2⟩)
        rw [tail_list h0] at h
        injection h with h3 _
        rw [← h3]
        omega
  · refine rdec_none w (decP_none fun b r h => ?_) (.inl (by omega))
    have : s.data.toList.length = s.size := rfl
    rw [h] at this
    simp at this
    omega

end Go.Proofs.YthdopgejikcfbaaDoor

