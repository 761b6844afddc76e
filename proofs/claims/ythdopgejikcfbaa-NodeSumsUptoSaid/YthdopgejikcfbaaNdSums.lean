/- A node's weight is that of its head and its entries, and putting two nodes together keeps all entries: for every two nodes of a bulk of 1048576 at the most; the arguments read afterwards as before. -/
import Derived.Test.YthdopgejikcfbaaRows
import Derived.Test.YthdopgejikcfbaaGrown
import Derived.Test.YthdopgejikcfbaaUp
import Derived.OpenShut
import Derived.JoinedCond
namespace Go.Proofs.Ythdopgejikcfbaa
open Go Go.RowKit

namespace NodeSums
open Go.ChangeShapes Go.WideShapes Go.ChangeAt

def mo (a : Nat) : Int := if 127 < a then 1 else 0

def mor (a b k : Nat) : Int := -(if 1 ≤ k then mo a else 0) - (if 2 ≤ k then mo b else 0)

theorem mor1 (a b : Nat) : mor a b 1 = - mo a := by unfold mor; rw [if_pos (by omega), if_neg (by omega)]; omega
theorem mor2 (a b : Nat) : mor a b 2 = - mo a - mo b := by unfold mor; rw [if_pos (by omega), if_pos (by omega)]

theorem cells8a {w : World} {b : Nat} {v0 v1 v2 v3 v4 v5 v6 v7 : Value} {t : TypeId} (h : w.heap[b]? = some (.cells #[v0, v1, v2, v3, v4, v5, v6, v7] t (0, 0))) : w.cell? ⟨b, 0, none⟩ = some v0 ∧ w.cell? ⟨b, 1, none⟩ = some v1 ∧ w.cell? ⟨b, 2, none⟩ = some v2 ∧ w.cell? ⟨b, 3, none⟩ = some v3 := by
  refine ⟨?_, ?_, ?_, ?_⟩ <;> (rw [cell_of_row _ _ _ _ _ _ h]; rfl)
theorem cells8b {w : World} {b : Nat} {v0 v1 v2 v3 v4 v5 v6 v7 : Value} {t : TypeId} (h : w.heap[b]? = some (.cells #[v0, v1, v2, v3, v4, v5, v6, v7] t (0, 0))) : w.cell? ⟨b, 4, none⟩ = some v4 ∧ w.cell? ⟨b, 5, none⟩ = some v5 ∧ w.cell? ⟨b, 6, none⟩ = some v6 ∧ w.cell? ⟨b, 7, none⟩ = some v7 := by
  refine ⟨?_, ?_, ?_, ?_⟩ <;> (rw [cell_of_row _ _ _ _ _ _ h]; rfl)

/-- The weights add up. -/
theorem sums {n p q : Nd} (h1 : encOk n = true) (h2 : encOk p = true) (hl : p.leaf = n.leaf) (hq : q.leaf = n.leaf) (he : q.ents = n.ents ++ p.ents) :
    ((bytesL q.leaf q.ents).length : Int) = (bytesL n.leaf n.ents).length + (bytesL p.leaf p.ents).length - 2 + (-(mo n.keys.length) - mo p.keys.length + mo (n.keys.length + p.keys.length)) := by
  obtain ⟨a1, a2⟩ := enc_small h1
  obtain ⟨b1, b2⟩ := enc_small h2
  rw [hq, hl, he, bytesL_len, bytesL_len, bytesL_len, wt_append, List.length_append, ents_len, ents_len, uvar_two (by omega), uvar_two (by omega), uvar_two (by omega)]
  unfold mo
  split <;> split <;> split <;> omega

def e0 (leaf : Bool) : Nd := ⟨leaf, [], [], [], none, 0, none, 0, none, 0⟩
theorem e0_at (w : World) (leaf : Bool) : NdAt w (e0 leaf) := ⟨Lies.empty, Lies.empty, Lies.empty, by simp [e0], by simp [e0], by simp [e0], by simp [e0], by simp [e0], by simp [e0]⟩
theorem e0_weight (leaf : Bool) : (bytesL (e0 leaf).leaf (e0 leaf).ents).length = 2 := by
  have : (e0 leaf).ents = [] := rfl
  rw [this, bytesL_len]
  simp [wt, uvar_small]

set_option maxRecDepth 100000 in
set_option maxHeartbeats 2000000 in
theorem walk (W : World) (n : Nd) (hn : NdAt W n) (hb : n.keys.length ≤ 1048576) (p : Nd) (hp : NdAt W p) (hbp : p.keys.length ≤ 1048576) :
    Calls Try.prog 6 #[.agg #[.bool n.leaf, .slice n.ka n.keys.length n.kc, .slice n.va n.values.length n.vc, .slice n.ia n.kids.length n.ic], .agg #[.bool p.leaf, .slice p.ka p.keys.length p.kc, .slice p.va p.values.length p.vc, .slice p.ia p.kids.length p.ic]] W fun e w' => e = .returned (.bool true) ∧ Below W.heap.size W w' := by
  have hz1 : (W.alloc (.cells #[.bool n.leaf, .slice n.ka n.keys.length n.kc, .slice n.va n.values.length n.vc, .slice n.ia n.kids.length n.ic] 26)).heap.size = W.heap.size + 1 := by simp
  have hm : Mod (fun _ => False) W ((W.alloc (.cells #[.bool n.leaf, .slice n.ka n.keys.length n.kc, .slice n.va n.values.length n.vc, .slice n.ia n.kids.length n.ic] 26)).alloc (.cells #[.bool p.leaf, .slice p.ka p.keys.length p.kc, .slice p.va p.values.length p.vc, .slice p.ia p.kids.length p.ic] 26)) := ((Mod.refl _ _).alloc _).alloc _
  have hbox : ((W.alloc (.cells #[.bool n.leaf, .slice n.ka n.keys.length n.kc, .slice n.va n.values.length n.vc, .slice n.ia n.kids.length n.ic] 26)).alloc (.cells #[.bool p.leaf, .slice p.ka p.keys.length p.kc, .slice p.va p.values.length p.vc, .slice p.ia p.kids.length p.ic] 26)).heap[W.heap.size]? = some (.cells #[.bool n.leaf, .slice n.ka n.keys.length n.kc, .slice n.va n.values.length n.vc, .slice n.ia n.kids.length n.ic] 26 (0, 0)) := (Below.heap_alloc _ _ _ (by rw [hz1]; omega)).trans (heap_alloc_new _ _)
  have hbxp := heap_alloc_new (W.alloc (.cells #[.bool n.leaf, .slice n.ka n.keys.length n.kc, .slice n.va n.values.length n.vc, .slice n.ia n.kids.length n.ic] 26)) (.cells #[.bool p.leaf, .slice p.ka p.keys.length p.kc, .slice p.va p.values.length p.vc, .slice p.ia p.kids.length p.ic] 26)
  rw [hz1] at hbxp
  have HN := hid hn
  have HP := hid hp
  have HM := hid hm
  have HBox := hid hbox
  have HBxp := hid hbxp
  have HUp : Hid (∀ w', Mod (fun _ => False) ((W.alloc (.cells #[.bool n.leaf, .slice n.ka n.keys.length n.kc, .slice n.va n.values.length n.vc, .slice n.ia n.kids.length n.ic] 26)).alloc (.cells #[.bool p.leaf, .slice p.ka p.keys.length p.kc, .slice p.va p.values.length p.vc, .slice p.ia p.kids.length p.ic] 26)) w' → (w'.heap[W.heap.size]? = some (.cells #[.bool n.leaf, .slice n.ka n.keys.length n.kc, .slice n.va n.values.length n.vc, .slice n.ia n.kids.length n.ic] 26 (0, 0)) ∧ w'.heap[W.heap.size + 1]? = some (.cells #[.bool p.leaf, .slice p.ka p.keys.length p.kc, .slice p.va p.values.length p.vc, .slice p.ia p.kids.length p.ic] 26 (0, 0)))) := fun w' h => ⟨(h.block _ (lt_of_heap hbox) (fun h => h)).trans hbox, (h.block _ (lt_of_heap hbxp) (fun h => h)).trans hbxp⟩
  have HFt := hid (fun (w' : World) (n : Nd) (h : NdAt w' n) => lfit_any h)
  have HFin : Hid (∀ w', Mod (fun _ => False) ((W.alloc (.cells #[.bool n.leaf, .slice n.ka n.keys.length n.kc, .slice n.va n.values.length n.vc, .slice n.ia n.kids.length n.ic] 26)).alloc (.cells #[.bool p.leaf, .slice p.ka p.keys.length p.kc, .slice p.va p.values.length p.vc, .slice p.ia p.kids.length p.ic] 26)) w' → Below W.heap.size W w') := fun w' h => (hm.trans h).below (Nat.le_refl _) (fun _ h => h.elim)
  clear hm hbox hbxp hn hp hz1
  go_enter Try.func6, Try.ntmps6
  go_wp2_with fail
  generalize (W.alloc (.cells #[.bool n.leaf, .slice n.ka n.keys.length n.kc, .slice n.va n.values.length n.vc, .slice n.ia n.kids.length n.ic] 26)).alloc (.cells #[.bool p.leaf, .slice p.ka p.keys.length p.kc, .slice p.va p.values.length p.vc, .slice p.ia p.kids.length p.ic] 26) = V at *
  refine (wakes_yes _).mono ?_
  intro e w1 hA
  obtain ⟨he, hm1⟩ := hA
  subst he
  have HM1 := hid hm1
  obtain ⟨b0, b1, b2, b3⟩ := cells4 (HUp.out w1 hm1).1
  clear hm1
  go_wp2_with fail
  refine (HFt.out w1 n (HN.out.ext (HM.out.trans HM1.out))).mono ?_
  intro e w2 hA
  obtain ⟨he, hm2⟩ := hA
  subst he
  have HM2 := hid (HM1.out.trans hm2)
  clear hm2 b0 b1 b2 b3
  cases hE : encOk n with
  | false =>
    clear hE
    go_wp2_with fail
    refine (wakes_yes _).mono ?_
    intro e w3 hA
    obtain ⟨he, hm3⟩ := hA
    subst he
    have HM3 := hid (HM2.out.trans hm3)
    clear hm3
    go_wp2_with fail
    go_ret
    exact ⟨rfl, HFin.out _ HM3.out⟩
  | true =>
    have HE := hid hE
    clear hE
    obtain ⟨b0, b1, b2, b3⟩ := cells4 (HUp.out w2 HM2.out).2
    go_wp2_with fail
    refine (HFt.out w2 p (HP.out.ext (HM.out.trans HM2.out))).mono ?_
    intro e w3 hA
    obtain ⟨he, hm3⟩ := hA
    subst he
    have HM3 := hid (HM2.out.trans hm3)
    clear hm3 b0 b1 b2 b3
    obtain ⟨b0, b1, b2, b3⟩ := cells4 (HUp.out w3 HM3.out).1
    obtain ⟨c0, c1, c2, c3⟩ := cells4 (HUp.out w3 HM3.out).2
    cases hE : encOk p with
    | false =>
      clear hE
      go_wp2_with fail
      refine (wakes_yes _).mono ?_
      intro e w4 hA
      obtain ⟨he, hm4⟩ := hA
      subst he
      have HM4 := hid (HM3.out.trans hm4)
      clear hm4
      go_wp2_with fail
      go_ret
      exact ⟨rfl, HFin.out _ HM4.out⟩
    | true =>
      have HEp := hid hE
      clear hE
      by_cases hl : n.leaf = p.leaf
      · have d : (n.leaf == p.leaf) = true := by simp [hl]
        have HL := hid hl
        clear hl
        go_wp2_with fail
        refine (join_any (HN.out.ext (HM.out.trans HM3.out)) (HP.out.ext (HM.out.trans HM3.out))).mono ?_
        rintro e w4 ⟨q, hh, rfl, hg, hm4, hbs⟩
        rw [as_same HL.out.symm] at hh
        have hcl : Clean n.leaf (n.ents ++ p.ents) := (clean_ents n).append (by have := clean_ents p; rw [← HL.out] at this; exact this)
        have hqe := hh.ents hcl
        have hql : q.keys.length = n.keys.length + p.keys.length := by rw [hh.len_le.1, List.length_append, ents_len, ents_len]
        obtain ⟨hsn, _⟩ := enc_small HE.out
        obtain ⟨hsp, _⟩ := enc_small HEp.out
        have HQ : Hid (NdAt w4 q) := hh.ok hg (by rw [List.length_append, ents_len, ents_len]; omega) (fun x hx => by
          rcases List.mem_append.1 hx with h | h
          · exact ents_ok HN.out x h
          · exact ents_ok HP.out x h)
        have HS := hid (sums HE.out HEp.out HL.out.symm hh.l hqe)
        have HM4 := hid (HM3.out.trans hm4)
        have d4 : ((q.keys.length : Int) == (n.keys.length : Int) + (p.keys.length : Int)) = true := by rw [beq_iff_eq]; omega
        have HQl := hid hql
        clear b0 b1 b2 b3 c0 c1 c2 c3 hh hcl hqe hg hbs hm4 d
        obtain ⟨b0, b1, b2, b3⟩ := cells4 (HUp.out w4 HM4.out).1
        obtain ⟨c0, c1, c2, c3⟩ := cells4 (HUp.out w4 HM4.out).2
        have l1 := lt_of_heap (HUp.out w4 HM4.out).1
        have l2 := lt_of_heap (HUp.out w4 HM4.out).2
        clear hql
        go_wp2_with fail
        have HM5 := hid (HM4.out.alloc (.cells #[.bool q.leaf, .slice q.ka q.keys.length q.kc, .slice q.va q.values.length q.vc, .slice q.ia q.kids.length q.ic] 26))
        have HXb : Hid ((w4.alloc (.cells #[.bool q.leaf, .slice q.ka q.keys.length q.kc, .slice q.va q.values.length q.vc, .slice q.ia q.kids.length q.ic] 26)).heap[w4.heap.size]? = some (.cells #[.bool q.leaf, .slice q.ka q.keys.length q.kc, .slice q.va q.values.length q.vc, .slice q.ia q.kids.length q.ic] 26 (0, 0))) := heap_alloc_new _ _
        have HQ5 := hid (HQ.out.ext ((Mod.refl _ w4).alloc (.cells #[.bool q.leaf, .slice q.ka q.keys.length q.kc, .slice q.va q.values.length q.vc, .slice q.ia q.kids.length q.ic] 26)))
        generalize w4.alloc (.cells #[.bool q.leaf, .slice q.ka q.keys.length q.kc, .slice q.va q.values.length q.vc, .slice q.ia q.kids.length q.ic] 26) = X at *
        have hw5 := weight_any (e0_at X n.leaf)
        rw [e0_weight] at hw5
        refine hw5.mono ?_
        rintro e w5 ⟨rfl, hm5⟩
        have HM6 := hid (HM5.out.trans hm5)
        have HXb5 := hid ((hm5.block _ (lt_of_heap HXb.out) (fun h => h)).trans HXb.out)
        have HQ6 := hid (HQ5.out.ext hm5)
        clear hm5 hw5 b0 b1 b2 b3 c0 c1 c2 c3
        obtain ⟨b0, b1, b2, b3⟩ := cells4 (HUp.out w5 HM6.out).1
        obtain ⟨c0, c1, c2, c3⟩ := cells4 (HUp.out w5 HM6.out).2
        obtain ⟨x0, x1, x2, x3⟩ := cells4 HXb5.out
        go_wp2_with fail
        have HM7 := hid (HM6.out.alloc (.cells #[.bool n.leaf, .slice n.ka n.keys.length n.kc, .slice n.va n.values.length n.vc, .slice n.ia n.kids.length n.ic, .bool p.leaf, .slice p.ka p.keys.length p.kc, .slice p.va p.values.length p.vc, .slice p.ia p.kids.length p.ic] 26))
        have HSl : Hid ((w5.alloc (.cells #[.bool n.leaf, .slice n.ka n.keys.length n.kc, .slice n.va n.values.length n.vc, .slice n.ia n.kids.length n.ic, .bool p.leaf, .slice p.ka p.keys.length p.kc, .slice p.va p.values.length p.vc, .slice p.ia p.kids.length p.ic] 26)).heap[w5.heap.size]? = some (.cells #[.bool n.leaf, .slice n.ka n.keys.length n.kc, .slice n.va n.values.length n.vc, .slice n.ia n.kids.length n.ic, .bool p.leaf, .slice p.ka p.keys.length p.kc, .slice p.va p.values.length p.vc, .slice p.ia p.kids.length p.ic] 26 (0, 0))) := heap_alloc_new _ _
        have HXb7 : Hid ((w5.alloc (.cells #[.bool n.leaf, .slice n.ka n.keys.length n.kc, .slice n.va n.values.length n.vc, .slice n.ia n.kids.length n.ic, .bool p.leaf, .slice p.ka p.keys.length p.kc, .slice p.va p.values.length p.vc, .slice p.ia p.kids.length p.ic] 26)).heap[w4.heap.size]? = _) := (Below.heap_alloc _ _ _ (lt_of_heap HXb5.out)).trans HXb5.out
        have HQ7 := hid (HQ6.out.ext ((Mod.refl _ w5).alloc (.cells #[.bool n.leaf, .slice n.ka n.keys.length n.kc, .slice n.va n.values.length n.vc, .slice n.ia n.kids.length n.ic, .bool p.leaf, .slice p.ka p.keys.length p.kc, .slice p.va p.values.length p.vc, .slice p.ia p.kids.length p.ic] 26)))
        generalize w5.alloc (.cells #[.bool n.leaf, .slice n.ka n.keys.length n.kc, .slice n.va n.values.length n.vc, .slice n.ia n.kids.length n.ic, .bool p.leaf, .slice p.ka p.keys.length p.kc, .slice p.va p.values.length p.vc, .slice p.ia p.kids.length p.ic] 26) = Y at *
        clear b0 b1 b2 b3 c0 c1 c2 c3 x0 x1 x2 x3
        go_loopw [7, 52] (fun t c wr => ∃ k : Nat, k ≤ 2 ∧ c = .int .i64 k ∧ t = .int .i64 (mor n.keys.length p.keys.length k) ∧ Mod (fun _ => False) Y wr) (fun _ c _ => 2 - (intOf c).toNat)
        case atStart => exact ⟨0, Nat.zero_le _, rfl, rfl, Mod.refl _ _⟩
        case round =>
          obtain ⟨k, hk, rfl, rfl, hmr⟩ := hrel
          have HMr := hid hmr
          have hs8 := (hmr.block _ (lt_of_heap HSl.out) (fun h => h)).trans HSl.out
          clear hmr
          obtain rfl | rfl | rfl : k = 0 ∨ k = 1 ∨ k = 2 := by omega
          · have e0 : mor n.keys.length p.keys.length 0 = 0 := rfl
            obtain ⟨s0, s1, s2, s3⟩ := cells8a hs8
            rw [e0]
            clear hs8 e0
            by_cases hg : 127 < n.keys.length
            · have e1 : Hid (mor n.keys.length p.keys.length 1 = -1) := by unfold mor mo; rw [if_pos hg]; rfl
              go_wp2_with fail
              go_roundw
              case rel => exact ⟨1, by omega, by go_num, by rw [e1.out], HMr.out.alloc _⟩
              case measure => simp [intOf]
            · have e1 : Hid (mor n.keys.length p.keys.length 1 = 0) := by unfold mor mo; rw [if_neg hg]; rfl
              go_wp2_with fail
              go_roundw
              case rel => exact ⟨1, by omega, by go_num, by rw [e1.out], HMr.out.alloc _⟩
              case measure => simp [intOf]
          · obtain ⟨s0, s1, s2, s3⟩ := cells8b hs8
            clear hs8
            have hmo : 0 ≤ mo n.keys.length ∧ mo n.keys.length ≤ 1 := by unfold mo; split <;> omega
            have e0 : mor n.keys.length p.keys.length 1 = - mo n.keys.length := mor1 _ _
            rw [e0]
            clear e0
            by_cases hg : 127 < p.keys.length
            · have e1 : Hid (mor n.keys.length p.keys.length 2 = - mo n.keys.length - 1) := hid (by rw [mor2, show mo p.keys.length = 1 from if_pos hg])
              go_wp2_with fail
              go_roundw
              case rel => exact ⟨2, by omega, by go_num, by rw [e1.out], HMr.out.alloc _⟩
              case measure => simp [intOf]
            · have e1 : Hid (mor n.keys.length p.keys.length 2 = - mo n.keys.length) := hid (by rw [mor2, show mo p.keys.length = 0 from if_neg hg]; omega)
              go_wp2_with fail
              go_roundw
              case rel => exact ⟨2, by omega, by go_num, by rw [e1.out], HMr.out.alloc _⟩
              case measure => simp [intOf]
          · rw [mor2]
            have hmo : 0 ≤ mo n.keys.length ∧ mo n.keys.length ≤ 1 := by unfold mo; split <;> omega
            have hmp : 0 ≤ mo p.keys.length ∧ mo p.keys.length ≤ 1 := by unfold mo; split <;> omega
            have HQr := hid (HQ7.out.ext HMr.out)
            have HXr := hid ((HMr.out.block _ (lt_of_heap HXb7.out) (fun h => h)).trans HXb7.out)
            have HMV := hid (HM7.out.trans HMr.out)
            have HWq := hid (fun y : Ext wr => weight_any (HQr.out.ext y.mod))
            have HWn := hid (fun y : Ext wr => weight_any ((HN.out.ext (HM.out.trans HMV.out)).ext y.mod))
            have HWp := hid (fun y : Ext wr => weight_any ((HP.out.ext (HM.out.trans HMV.out)).ext y.mod))
            obtain ⟨b0, b1, b2, b3⟩ := cells4 (HUp.out wr HMV.out).1
            obtain ⟨c0, c1, c2, c3⟩ := cells4 (HUp.out wr HMV.out).2
            obtain ⟨x0, x1, x2, x3⟩ := cells4 HXr.out
            have hwn := (enc_small HE.out).2
            have hwp := (enc_small HEp.out).2
            clear hs8 hk
            have hql := HQl.out
            by_cases hg : 127 < q.keys.length
            · have HT : Hid (((bytesL q.leaf q.ents).length : Int) = (bytesL n.leaf n.ents).length + (bytesL p.leaf p.ents).length - 2 + (-(mo n.keys.length) - mo p.keys.length + 1)) := hid (by rw [HS.out, show mo (n.keys.length + p.keys.length) = 1 from if_pos (by omega)])
              clear hql
              go_wp2_with fail
              have u0 : ∀ y : Ext wr, y.val.cell? ⟨W.heap.size, 0, none⟩ = _ := fun y => y.cell b0
              have u1 : ∀ y : Ext wr, y.val.cell? ⟨W.heap.size, 1, none⟩ = _ := fun y => y.cell b1
              have u2 : ∀ y : Ext wr, y.val.cell? ⟨W.heap.size, 2, none⟩ = _ := fun y => y.cell b2
              have u3 : ∀ y : Ext wr, y.val.cell? ⟨W.heap.size, 3, none⟩ = _ := fun y => y.cell b3
              have v0 : ∀ y : Ext wr, y.val.cell? ⟨W.heap.size + 1, 0, none⟩ = _ := fun y => y.cell c0
              have v1 : ∀ y : Ext wr, y.val.cell? ⟨W.heap.size + 1, 1, none⟩ = _ := fun y => y.cell c1
              have v2 : ∀ y : Ext wr, y.val.cell? ⟨W.heap.size + 1, 2, none⟩ = _ := fun y => y.cell c2
              have v3 : ∀ y : Ext wr, y.val.cell? ⟨W.heap.size + 1, 3, none⟩ = _ := fun y => y.cell c3
              have z0 : ∀ y : Ext wr, y.val.cell? ⟨w4.heap.size, 0, none⟩ = _ := fun y => y.cell x0
              have z1 : ∀ y : Ext wr, y.val.cell? ⟨w4.heap.size, 1, none⟩ = _ := fun y => y.cell x1
              have z2 : ∀ y : Ext wr, y.val.cell? ⟨w4.heap.size, 2, none⟩ = _ := fun y => y.cell x2
              have z3 : ∀ y : Ext wr, y.val.cell? ⟨w4.heap.size, 3, none⟩ = _ := fun y => y.cell x3
              have wr1 : IntKind.i64.wrap (((bytesL n.leaf n.ents).length : Int) + ((bytesL p.leaf p.ents).length : Int)) = ((bytesL n.leaf n.ents).length : Int) + ((bytesL p.leaf p.ents).length : Int) := IntWalk.i64_in _ (by omega)
              have wr2 : IntKind.i64.wrap (((bytesL n.leaf n.ents).length : Int) + ((bytesL p.leaf p.ents).length : Int) - 2) = ((bytesL n.leaf n.ents).length : Int) + ((bytesL p.leaf p.ents).length : Int) - 2 := IntWalk.i64_in _ (by omega)
              have wr3 : IntKind.i64.wrap (((bytesL n.leaf n.ents).length : Int) + ((bytesL p.leaf p.ents).length : Int) - 2 + (- mo n.keys.length - mo p.keys.length + 1)) = ((bytesL n.leaf n.ents).length : Int) + ((bytesL p.leaf p.ents).length : Int) - 2 + (- mo n.keys.length - mo p.keys.length + 1) := IntWalk.i64_in _ (by omega)
              have wr4 : (((bytesL q.leaf q.ents).length : Int) == ((bytesL n.leaf n.ents).length : Int) + ((bytesL p.leaf p.ents).length : Int) - 2 + (- mo n.keys.length - mo p.keys.length + 1)) = true := by rw [beq_iff_eq, HT.out]
              clear b0 b1 b2 b3 c0 c1 c2 c3 x0 x1 x2 x3 d4
              refine wp_region_ext (by kernel_rfl) (by kernel_rfl) ?_
              repeat (go_big_quiet_step ((first | (go_at_call 16; with_reducible exact ext_call (HWq.out _)) | (go_at_call 16; with_reducible exact ext_call (HWn.out _)) | (go_at_call 16; with_reducible exact ext_call (HWp.out _)))))
              refine wpQuiet_nil ?_
              rintro _ ⟨y, rfl⟩
              go_wp2_with fail
              go_ret
              exact ⟨rfl, HFin.out _ (HMV.out.trans y.mod)⟩
            · have HT : Hid (((bytesL q.leaf q.ents).length : Int) = (bytesL n.leaf n.ents).length + (bytesL p.leaf p.ents).length - 2 + (-(mo n.keys.length) - mo p.keys.length)) := hid (by rw [HS.out, show mo (n.keys.length + p.keys.length) = 0 from if_neg (by omega)]; omega)
              clear hql
              go_wp2_with fail
              have u0 : ∀ y : Ext wr, y.val.cell? ⟨W.heap.size, 0, none⟩ = _ := fun y => y.cell b0
              have u1 : ∀ y : Ext wr, y.val.cell? ⟨W.heap.size, 1, none⟩ = _ := fun y => y.cell b1
              have u2 : ∀ y : Ext wr, y.val.cell? ⟨W.heap.size, 2, none⟩ = _ := fun y => y.cell b2
              have u3 : ∀ y : Ext wr, y.val.cell? ⟨W.heap.size, 3, none⟩ = _ := fun y => y.cell b3
              have v0 : ∀ y : Ext wr, y.val.cell? ⟨W.heap.size + 1, 0, none⟩ = _ := fun y => y.cell c0
              have v1 : ∀ y : Ext wr, y.val.cell? ⟨W.heap.size + 1, 1, none⟩ = _ := fun y => y.cell c1
              have v2 : ∀ y : Ext wr, y.val.cell? ⟨W.heap.size + 1, 2, none⟩ = _ := fun y => y.cell c2
              have v3 : ∀ y : Ext wr, y.val.cell? ⟨W.heap.size + 1, 3, none⟩ = _ := fun y => y.cell c3
              have z0 : ∀ y : Ext wr, y.val.cell? ⟨w4.heap.size, 0, none⟩ = _ := fun y => y.cell x0
              have z1 : ∀ y : Ext wr, y.val.cell? ⟨w4.heap.size, 1, none⟩ = _ := fun y => y.cell x1
              have z2 : ∀ y : Ext wr, y.val.cell? ⟨w4.heap.size, 2, none⟩ = _ := fun y => y.cell x2
              have z3 : ∀ y : Ext wr, y.val.cell? ⟨w4.heap.size, 3, none⟩ = _ := fun y => y.cell x3
              have wr1 : IntKind.i64.wrap (((bytesL n.leaf n.ents).length : Int) + ((bytesL p.leaf p.ents).length : Int)) = ((bytesL n.leaf n.ents).length : Int) + ((bytesL p.leaf p.ents).length : Int) := IntWalk.i64_in _ (by omega)
              have wr2 : IntKind.i64.wrap (((bytesL n.leaf n.ents).length : Int) + ((bytesL p.leaf p.ents).length : Int) - 2) = ((bytesL n.leaf n.ents).length : Int) + ((bytesL p.leaf p.ents).length : Int) - 2 := IntWalk.i64_in _ (by omega)
              have wr3 : IntKind.i64.wrap (((bytesL n.leaf n.ents).length : Int) + ((bytesL p.leaf p.ents).length : Int) - 2 + (- mo n.keys.length - mo p.keys.length)) = ((bytesL n.leaf n.ents).length : Int) + ((bytesL p.leaf p.ents).length : Int) - 2 + (- mo n.keys.length - mo p.keys.length) := IntWalk.i64_in _ (by omega)
              have wr4 : (((bytesL q.leaf q.ents).length : Int) == ((bytesL n.leaf n.ents).length : Int) + ((bytesL p.leaf p.ents).length : Int) - 2 + (- mo n.keys.length - mo p.keys.length)) = true := by rw [beq_iff_eq, HT.out]
              clear b0 b1 b2 b3 c0 c1 c2 c3 x0 x1 x2 x3 d4
              refine wp_region_ext (by kernel_rfl) (by kernel_rfl) ?_
              repeat (go_big_quiet_step ((first | (go_at_call 16; with_reducible exact ext_call (HWq.out _)) | (go_at_call 16; with_reducible exact ext_call (HWn.out _)) | (go_at_call 16; with_reducible exact ext_call (HWp.out _)))))
              refine wpQuiet_nil ?_
              rintro _ ⟨y, rfl⟩
              go_wp2_with fail
              go_ret
              exact ⟨rfl, HFin.out _ (HMV.out.trans y.mod)⟩
      · have d : (n.leaf == p.leaf) = false := by simp [hl]
        clear hl
        go_wp2_with fail
        refine (wakes_yes _).mono ?_
        intro e w4 hA
        obtain ⟨he, hm4⟩ := hA
        subst he
        have HM4 := hid (HM3.out.trans hm4)
        clear hm4
        go_wp2_with fail
        go_ret
        exact ⟨rfl, HFin.out _ HM4.out⟩

theorem own : ownKnob Try.prog.godebug = none := by kernel_rfl
theorem laidOut : laidOutB Try.prog = true := by kernel_rfl

theorem contract (H : Type) (enc : TypeId × Value → H) (W : World) (base : Nat) (args : Array Value) (ds gs : List (DataW H)) (before : List MemPlace)
    (hval0 : ∀ (j : Nat) t v, Try.f6.params[j]? = some t → args[j]? = some v → Value.okWide Try.prog W .any base t v)
    (hW : DataW.Whole enc Try.prog Try.f6.params.toList Rows.nodeSumsSpec.vars false W args.toList ds gs before) (hk : Rows.uptoSmall H (ds ++ gs) = true) :
    Calls Try.prog 6 args W fun e W' => ∃ v, e = .returned v ∧ Rows.nodeSumsSpec.post enc Try.prog Try.f6 false true false false W args v W' := by
  have hbk := bulk_all hk
  have hval : ∀ (j : Nat) t v, Try.f6.params[j]? = some t → args[j]? = some v → Value.okWide Try.prog W .any base t v := hval0
  have hW' := hW
  obtain ⟨p, q, hA0, hV, rfl, hfz, hnd⟩ := hW
  have hA : DataW.TrodAll enc Try.prog W 0 (fun _ => true) true Try.f6.params.toList args.toList ds p := hA0
  rw [Try.params6] at hA hval
  obtain ⟨v0, vs0, d0, ds0, p0, q0, hargs, rfl, rfl, h0, r0⟩ := trodAll_cons hA
  obtain ⟨v1, vs1, d1, ds1, p1, q1, rfl, rfl, rfl, h1, r1⟩ := trodAll_cons r0
  obtain ⟨rfl, rfl, rfl⟩ := trodAll_nil r1
  obtain rfl : args = #[v0, v1] := by cases args; simp_all
  obtain ⟨rfl, rfl⟩ := trodVars_none hV
  have lt0 : ∀ x ∈ p0, x.block < W.heap.size := by obtain ⟨m, hm⟩ := h0; exact DataW.trod_lt m _ _ _ hm
  have lt1 : ∀ x ∈ p1, x.block < W.heap.size := by obtain ⟨m, hm⟩ := h1; exact DataW.trod_lt m _ _ _ hm
  obtain ⟨n0, rfl, at0, bk0⟩ := open_node (hval 0 26 v0 rfl rfl) h0 (hbk d0 (by simp))
  obtain ⟨n1, rfl, at1, bk1⟩ := open_node (hval 1 26 v1 rfl rfl) h1 (hbk d1 (by simp))
  clear hA0 hval0
  refine (walk W n0 at0 bk0 n1 at1 bk1).mono fun e W' ⟨he, bel⟩ => ?_
  subst he
  exact ⟨_, rfl, _, _, _, [], _, [], hW', trodAll_mk1 (shut_bool Try.underlying4 _), (trodAll_cons_mk (Below.trod laidOut (by kernel_rfl) (of_decide_eq_true (by kernel_rfl)) h0 bel lt0) (trodAll_cons_mk (Below.trod laidOut (by kernel_rfl) (of_decide_eq_true (by kernel_rfl)) h1 bel lt1) trodAll_mk0)), rfl, bel.frame _, fun h => by cases h⟩

set_option maxRecDepth 100000 in
theorem lifted (os : Os) (started : os.Started) (H : Type) (enc : TypeId × Value → H) (F : Stop.Interp) :
    ReturnsInHanded {} Try.checked os 6 .any ((Rows.OpenSpec.upto Rows.nodeSumsSpec).pre6 enc Try.prog Try.f6 Rows.nodeSumsUptoRow.domain false) (((Rows.OpenSpec.upto Rows.nodeSumsSpec).at F).post enc Try.prog Try.f6 false true false false) := by
  refine returnsInHanded_of_cond (C := Try.checked) (s := Rows.OpenSpec.upto Rows.nodeSumsSpec) (k := Rows.uptoSmall) rfl own started (by kernel_rfl) Try.func6
    (OpenSpec.witness (enc := enc) (C := Try.checked) (s := Rows.OpenSpec.upto Rows.nodeSumsSpec) (k := Rows.uptoSmall) rfl false ⟨#[], #[.agg #[.bool false, .slice none 0 0, .slice none 0 0, .slice none 0 0], .agg #[.bool false, .slice none 0 0, .slice none 0 0, .slice none 0 0]], []⟩ 8 (by kernel_rfl) (by kernel_rfl) (by kernel_rfl)
      (x := ([.agg [.lit (.bool false), .nil, .nil, .nil], .agg [.lit (.bool false), .nil, .nil, .nil]], [], [])) (by kernel_rfl) rfl (by kernel_rfl)) ?_
  intro W base args ds gs before hval hW _ hk _
  exact contract H enc W base args ds gs before hval hW hk

theorem proved : Rows.NodeSumsUptoSaid :=
  OpenClaim.holds_of_cond 6 Try.f6 rfl rfl rfl rfl rfl rfl rfl ⟨rfl, rfl, rfl, rfl, rfl⟩ rfl rfl rfl rfl rfl (by kernel_rfl) Try.func6 (by kernel_rfl)
    (of_decide_eq_true (by kernel_rfl)) (by unfold Func.isWrapper; first | (rw [if_pos (by decide +kernel)]; kernel_rfl) | (rw [if_neg (by decide +kernel)]; exact ⟨rfl, rfl⟩))
    (fun os started H enc _ F => lifted os started H enc F)
#print axioms proved
end NodeSums

theorem nodeSums_holds : Rows.NodeSumsUptoSaid := NodeSums.proved

end Go.Proofs.Ythdopgejikcfbaa
