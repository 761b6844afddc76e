/- A fit leaf with one fit entry more is cut into fit nodes, each of them with 250 bytes at least if there are two; put together again they are the node: for every node, key and value of a bulk of 1048576 at the most; the arguments read afterwards as before. -/
import Derived.Test.YthdopgejikcfbaaRows
import Derived.Test.YthdopgejikcfbaaHalf
import Derived.Test.YthdopgejikcfbaaUp
import Derived.Test.YthdopgejikcfbaaNdW
import Derived.OpenShut
import Derived.JoinedCond
namespace Go.Proofs.Ythdopgejikcfbaa
open Go Go.RowKit

namespace NodeHalves
open Go.ChangeShapes Go.WideShapes Go.ChangeAt

theorem binOp_string_geq (t : TypeId) (a b : ByteArray) : binOp .geq t (.string a) (.string b) = pure (.bool (!Op.bytesLess a.toList b.toList)) := by simp [binOp, Op.stringOp]
attribute [local go_sem] binOp_string_geq

def n2 (key value : ByteArray) (a b : Nat) : Nd := ⟨true, [key], [value], [], some ⟨a, 0, none⟩, 1, some ⟨b, 0, none⟩, 1, none, 0⟩
theorem n2_at {w : World} {key value : ByteArray} {a b : Nat} {t : TypeId} (hk : key.size ≤ 4194304) (hv : value.size ≤ 4194304) (h1 : w.heap[a]? = some (.cells #[.string key] t (0, 0))) (h2 : w.heap[b]? = some (.cells #[.string value] t (0, 0))) : NdAt w (n2 key value a b) := by
  refine ⟨lies_new (fun _ => rfl) h1, lies_new (fun _ => rfl) h2, lies_nil _ _ _ _, by simp [n2], by simp [n2], by simp [n2], ?_, ?_, by simp [n2]⟩
  · intro x hx; simp [n2] at hx; subst hx; exact hk
  · intro x hx; simp [n2] at hx; subst hx; exact hv
theorem n2_ents (key value : ByteArray) (a b : Nat) : (n2 key value a b).ents = [⟨key, value, 0⟩] := by rfl

def Bx (w : World) (b : Nat) (m : Nd) : Prop := w.heap[b]? = some (.cells #[.bool m.leaf, .slice m.ka m.keys.length m.kc, .slice m.va m.values.length m.vc, .slice m.ia m.kids.length m.ic] 26 (0, 0))

theorem Bx.cells {w : World} {b : Nat} {m : Nd} (h : Bx w b m) : w.cell? ⟨b, 0, none⟩ = some (.bool m.leaf) ∧ w.cell? ⟨b, 1, none⟩ = some (.slice m.ka m.keys.length m.kc) ∧ w.cell? ⟨b, 2, none⟩ = some (.slice m.va m.values.length m.vc) ∧ w.cell? ⟨b, 3, none⟩ = some (.slice m.ia m.kids.length m.ic) := cells4 h
theorem Bx.lt {w : World} {b : Nat} {m : Nd} (h : Bx w b m) : b < w.heap.size := lt_of_heap h
theorem Bx.mod {w w' : World} {b : Nat} {m : Nd} {S : Nat → Prop} (h : Bx w b m) (hm : Mod S w w') (hs : ¬ S b) : Bx w' b m := (hm.block b h.lt hs).trans h
theorem Bx.new (w : World) (m : Nd) : Bx (w.alloc (.cells #[.bool m.leaf, .slice m.ka m.keys.length m.kc, .slice m.va m.values.length m.vc, .slice m.ia m.kids.length m.ic] 26)) w.heap.size m := heap_alloc_new _ _
theorem Bx.set {w : World} {b : Nat} {m m' : Nd} (h : Bx w b m) : Bx ((((w.setCell ⟨b, 0, none⟩ (.bool m'.leaf)).setCell ⟨b, 1, none⟩ (.slice m'.ka m'.keys.length m'.kc)).setCell ⟨b, 2, none⟩ (.slice m'.va m'.values.length m'.vc)).setCell ⟨b, 3, none⟩ (.slice m'.ia m'.kids.length m'.ic)) b m' :=
  (set4 (set4 (set4 (set4 h (.bool m'.leaf)).1 (.slice m'.ka m'.keys.length m'.kc)).2.1 (.slice m'.va m'.values.length m'.vc)).2.2.1 (.slice m'.ia m'.kids.length m'.ic)).2.2.2

theorem cells8a {w : World} {b : Nat} {v0 v1 v2 v3 v4 v5 v6 v7 : Value} {t : TypeId} (h : w.heap[b]? = some (.cells #[v0, v1, v2, v3, v4, v5, v6, v7] t (0, 0))) : w.cell? ⟨b, 0, none⟩ = some v0 ∧ w.cell? ⟨b, 1, none⟩ = some v1 ∧ w.cell? ⟨b, 2, none⟩ = some v2 ∧ w.cell? ⟨b, 3, none⟩ = some v3 := by
  refine ⟨?_, ?_, ?_, ?_⟩ <;> (rw [cell_of_row _ _ _ _ _ _ h]; rfl)
theorem cells8b {w : World} {b : Nat} {v0 v1 v2 v3 v4 v5 v6 v7 : Value} {t : TypeId} (h : w.heap[b]? = some (.cells #[v0, v1, v2, v3, v4, v5, v6, v7] t (0, 0))) : w.cell? ⟨b, 4, none⟩ = some v4 ∧ w.cell? ⟨b, 5, none⟩ = some v5 ∧ w.cell? ⟨b, 6, none⟩ = some v6 ∧ w.cell? ⟨b, 7, none⟩ = some v7 := by
  refine ⟨?_, ?_, ?_, ?_⟩ <;> (rw [cell_of_row _ _ _ _ _ _ h]; rfl)

/-- What the loop over the halves keeps. -/
def HRel (Y : World) (B : Nat) (es : List Ent) (m : Nd) (k : Nat) (wr : World) : Prop :=
  Mod (fun _ => False) Y wr ∧ ∃ j : Nd, Bx wr B j ∧ (k ≤ 1 → j = m) ∧ (k = 2 → Has j true es ∧ NdAt wr j)

theorem store_mod {w6 w : World} (h : Mod (fun _ => False) w6 w) (m' : Nd) : Mod (fun _ => False) w6 ((((w.setCell ⟨w6.heap.size, 0, none⟩ (.bool m'.leaf)).setCell ⟨w6.heap.size, 1, none⟩ (.slice m'.ka m'.keys.length m'.kc)).setCell ⟨w6.heap.size, 2, none⟩ (.slice m'.va m'.values.length m'.vc)).setCell ⟨w6.heap.size, 3, none⟩ (.slice m'.ia m'.kids.length m'.ic)) :=
  (((h.setCell (fun h => absurd h (Nat.lt_irrefl _)) _).setCell (fun h => absurd h (Nat.lt_irrefl _)) _).setCell (fun h => absurd h (Nat.lt_irrefl _)) _).setCell (fun h => absurd h (Nat.lt_irrefl _)) _
theorem store_gd {w : World} {b : Nat} {m' : Nd} (g : Gd w m') (hb : ∀ k, m'.bs k → ¬ k = b) : Gd ((((w.setCell ⟨b, 0, none⟩ (.bool m'.leaf)).setCell ⟨b, 1, none⟩ (.slice m'.ka m'.keys.length m'.kc)).setCell ⟨b, 2, none⟩ (.slice m'.va m'.values.length m'.vc)).setCell ⟨b, 3, none⟩ (.slice m'.ia m'.kids.length m'.ic)) m' :=
  g.ext (S := fun k => k = b) (Mod.setCell (S := fun k => k = b) (Mod.setCell (S := fun k => k = b) (Mod.setCell (S := fun k => k = b) (Mod.setCell (S := fun k => k = b) (Mod.refl _ _) (fun _ => rfl) _) (fun _ => rfl) _) (fun _ => rfl) _) (fun _ => rfl) _) hb
theorem encV_true (L : List UInt8) : encV true L = .tuple #[.string (ba L), .int .i64 0] := rfl

set_option maxRecDepth 100000 in
set_option maxHeartbeats 4000000 in
theorem walk (W : World) (n : Nd) (hn : NdAt W n) (hb : n.keys.length ≤ 1048576) (key : ByteArray) (hs : key.size ≤ 1048576) (value : ByteArray) (hv : value.size ≤ 1048576) :
    Calls Try.prog 7 #[.agg #[.bool n.leaf, .slice n.ka n.keys.length n.kc, .slice n.va n.values.length n.vc, .slice n.ia n.kids.length n.ic], .string key, .string value] W fun e w' => e = .returned (.bool true) ∧ Below W.heap.size W w' := by
  have hm : Mod (fun _ => False) W (W.alloc (.cells #[.bool n.leaf, .slice n.ka n.keys.length n.kc, .slice n.va n.values.length n.vc, .slice n.ia n.kids.length n.ic] 26)) := (Mod.refl _ _).alloc _
  have hbox : (W.alloc (.cells #[.bool n.leaf, .slice n.ka n.keys.length n.kc, .slice n.va n.values.length n.vc, .slice n.ia n.kids.length n.ic] 26)).heap[W.heap.size]? = some (.cells #[.bool n.leaf, .slice n.ka n.keys.length n.kc, .slice n.va n.values.length n.vc, .slice n.ia n.kids.length n.ic] 26 (0, 0)) := heap_alloc_new _ _
  have HN := hid (hn.ext hm)
  have HFt := hid (fun (w' : World) (h : NdAt w' n) => lfit_any h)
  have HM := hid hm
  have HBox := hid hbox
  have HFin : Hid (∀ w', Mod (fun _ => False) W w' → Below W.heap.size W w') := fun w' h => h.below (Nat.le_refl _) (fun _ h => h.elim)
  clear hm hbox hn
  go_enter Try.func7, Try.ntmps7
  go_wp2_with fail
  generalize W.alloc (.cells #[.bool n.leaf, .slice n.ka n.keys.length n.kc, .slice n.va n.values.length n.vc, .slice n.ia n.kids.length n.ic] 26) = V at *
  refine (wakes_yes _).mono ?_
  intro e w1 hA
  obtain ⟨he, hm1⟩ := hA
  subst he
  have HBox1 := hid ((hm1.block _ (lt_of_heap HBox.out) (fun h => h)).trans HBox.out)
  have HN1 := hid (HN.out.ext hm1)
  have HM1 := hid (HM.out.trans hm1)
  obtain ⟨b0, b1, b2, b3⟩ := cells4 HBox1.out
  clear hm1
  go_wp2_with fail
  refine (HFt.out w1 HN1.out).mono ?_
  intro e w2 hA
  obtain ⟨he, hm2⟩ := hA
  subst he
  have HBox2 := hid ((hm2.block _ (lt_of_heap HBox1.out) (fun h => h)).trans HBox1.out)
  have HN2 := hid (HN1.out.ext hm2)
  have HM2 := hid (HM1.out.trans hm2)
  clear b0 b1 b2 b3 hm2
  obtain ⟨b0, b1, b2, b3⟩ := cells4 HBox2.out
  have HW : Hid (∀ w', Mod (fun _ => False) W w' → Calls Try.prog 9 #[] w' fun e w'' => e = .returned (.bool true) ∧ Mod (fun _ => False) W w'') := fun w' h => (wakes_yes w').mono fun e w'' ⟨a, b⟩ => ⟨a, h.trans b⟩
  cases hE : encOk n with
  | false =>
    clear hE
    go_wp2_with fail
    refine (HW.out _ HM2.out).mono ?_
    intro e w3 hA
    obtain ⟨he, hm3⟩ := hA
    subst he
    have HM3 := hid hm3
    clear hm3
    go_wp2_with fail
    go_ret
    exact ⟨rfl, HFin.out _ HM3.out⟩
  | true =>
    have HE := hid hE
    clear hE
    cases hl : n.leaf with
    | false =>
      rw [hl] at b0
      clear hl
      go_wp2_with fail
      refine (HW.out _ HM2.out).mono ?_
      intro e w3 hA
      obtain ⟨he, hm3⟩ := hA
      subst he
      have HM3 := hid hm3
      clear hm3
      go_wp2_with fail
      go_ret
      exact ⟨rfl, HFin.out _ HM3.out⟩
    | true =>
      rw [hl] at b0
      have HL := hid hl
      clear hl
      have HJ : Hid (Calls Try.prog 17 #[.agg #[.bool true, .slice n.ka n.keys.length n.kc, .slice n.va n.values.length n.vc, .slice n.ia n.kids.length n.ic], .agg #[.bool true, .slice (some ⟨w2.heap.size, 0, none⟩) 1 1, .slice (some ⟨w2.heap.size + 1, 0, none⟩) 1 1, .slice none 0 0]] ((w2.alloc (.cells #[.string key] 9)).alloc (.cells #[.string value] 9)) fun e w' => NewNd ((w2.alloc (.cells #[.string key] 9)).alloc (.cells #[.string value] 9)) true (plus n key value) e w') := by
        have hj := join_any (HN2.out.ext (((Mod.refl _ _).alloc (.cells #[.string key] 9)).alloc (.cells #[.string value] 9))) (n2_at (key := key) (value := value) (by omega) (by omega) ((Below.heap_alloc _ _ _ (by simp)).trans (heap_alloc_new w2 (.cells #[.string key] 9))) (show ((w2.alloc (.cells #[.string key] 9)).alloc (.cells #[.string value] 9)).heap[w2.heap.size + 1]? = some (.cells #[.string value] 9 (0, 0)) from by have := heap_alloc_new (w2.alloc (.cells #[.string key] 9)) (.cells #[.string value] 9); simpa using this))
        rw [HL.out] at hj
        exact hj
      have HMj := hid ((HM2.out.alloc (.cells #[.string key] 9)).alloc (.cells #[.string value] 9))
      by_cases hk1 : key.size < 1
      · clear HJ HMj
        go_wp2_with fail
        refine (HW.out _ HM2.out).mono ?_
        intro e w3 hA
        obtain ⟨he, hm3⟩ := hA
        subst he
        have HM3 := hid hm3
        clear hm3
        go_wp2_with fail
        go_ret
        exact ⟨rfl, HFin.out _ HM3.out⟩
      by_cases hk2 : 48 < key.size
      · clear HJ HMj
        go_wp2_with fail
        refine (HW.out _ HM2.out).mono ?_
        intro e w3 hA
        obtain ⟨he, hm3⟩ := hA
        subst he
        have HM3 := hid hm3
        clear hm3
        go_wp2_with fail
        go_ret
        exact ⟨rfl, HFin.out _ HM3.out⟩
      by_cases hk3 : 200 < value.size
      · clear HJ HMj
        go_wp2_with fail
        refine (HW.out _ HM2.out).mono ?_
        intro e w3 hA
        obtain ⟨he, hm3⟩ := hA
        subst he
        have HM3 := hid hm3
        clear hm3
        go_wp2_with fail
        go_ret
        exact ⟨rfl, HFin.out _ HM3.out⟩
      by_cases hbad : 0 < n.keys.length ∧ ∃ x, n.keys[n.keys.length - 1]? = some x ∧ Op.bytesLess x.toList key.toList = false
      · obtain ⟨h0, x, hx, hlt⟩ := hbad
        obtain ⟨g, off, ha, hc⟩ := HN2.out.k.one hx
        clear hx HJ HMj
        rw [ha] at b1
        clear ha
        go_wp2_with fail
        refine (HW.out _ HM2.out).mono ?_
        intro e w3 hA
        obtain ⟨he, hm3⟩ := hA
        subst he
        have HM3 := hid hm3
        clear hm3
        go_wp2_with fail
        go_ret
        exact ⟨rfl, HFin.out _ HM3.out⟩
      have HNe : Hid (key.toList ≠ []) := fun h => by have := congrArg List.length h; rw [ByteArray.toList_eq, Array.length_toList] at this; have : key.size = 0 := this; omega
      have HGo : Hid (∀ y, n.keys[n.keys.length - 1]? = some y → Op.bytesLess y.toList key.toList = true) := fun y hy => by
        cases hb : Op.bytesLess y.toList key.toList with
        | true => rfl
        | false => exact absurd ⟨by have := (List.getElem?_eq_some_iff.1 hy).1; omega, y, hy, hb⟩ hbad
      have HG : Hid (GoodEs (plus n key value)) := plus_good HE.out HL.out HNe.out (by omega) (by omega) HGo.out
      have HSm := hid (plus_small (key := key) (value := value) HE.out HL.out (by omega) (by omega))
      clear hbad
      generalize plus n key value = es at *
      rcases Nat.eq_zero_or_pos n.keys.length with h0 | h0
      case' inl =>
        have HZ : Hid (n.keys = []) := List.eq_nil_of_length_eq_zero h0
        have h0' : ¬ 0 < n.keys.length := by omega
        clear h0
        go_wp2_with fail
      case' inr =>
        obtain ⟨x, hx⟩ : ∃ x, n.keys[n.keys.length - 1]? = some x := ⟨_, List.getElem?_eq_getElem (by omega)⟩
        obtain ⟨g, off, ha, hc⟩ := HN2.out.k.one hx
        have hlt := HGo.out x hx
        rw [ha] at b1 HJ
        clear ha hx
        go_wp2_with fail
      all_goals
        generalize ((w2.alloc (.cells #[.string key] 9)).alloc (.cells #[.string value] 9)) = V2 at *
        (with_reducible refine HJ.out.mono ?_)
        rintro e w4 ⟨q, hh, rfl, hg, hm4, hbs⟩
        have HHq := hid hh
        have HQ := hid (hh.at HG.out (by have := HSm.out.1; omega) hg)
        have HQe := hid (hh.ents HG.out.c)
        have HM4 := hid (HMj.out.trans hm4)
        clear hh hg hm4 hbs b0 b1 b2 b3
        go_wp2_with fail
        have HB5 := hid (Bx.new w4 q)
        have HM5 := hid (HM4.out.alloc (.cells #[.bool q.leaf, .slice q.ka q.keys.length q.kc, .slice q.va q.values.length q.vc, .slice q.ia q.kids.length q.ic] 26))
        have HQ5 := hid (HQ.out.ext ((Mod.refl _ w4).alloc (.cells #[.bool q.leaf, .slice q.ka q.keys.length q.kc, .slice q.va q.values.length q.vc, .slice q.ia q.kids.length q.ic] 26)))
        generalize w4.alloc (.cells #[.bool q.leaf, .slice q.ka q.keys.length q.kc, .slice q.va q.values.length q.vc, .slice q.ia q.kids.length q.ic] 26) = w5 at *
        refine (split_any HQ5.out).mono ?_
        rintro e w6 ⟨hm6, g6, hg6, hsp⟩
        rw [HHq.out.l, HQe.out] at hsp
        have HM6 := hid (HM5.out.trans hm6)
        have HB6 := hid (HB5.out.mod hm6 (fun h => h))
        have HQ6 := hid (HQ5.out.ext hm6)
        clear hm6 hg6
        rcases hsp with ⟨m, ho, hhm, hgm, hbm, hrow, rfl⟩ | ⟨i, m, p, hcut, hhm, hhp, hgm, hgp, hbm, hbp, hrow, rfl⟩
        · have hrow' : Bx w6 g6 m := hrow
          have HEm := hid (enc_of_good hhm HG.out (one_enc HG.out HSm.out.2.1 ho))
          have HJh := hid hhm
          have HAm := hid (hhm.at HG.out (by have := HSm.out.1; omega) hgm)
          obtain ⟨c0, c1, c2, c3⟩ := hrow'.cells
          have HR := hid hrow'
          clear hhm hgm hbm hrow hrow' ho
          go_wp2_with fail
          have hma : Mod (fun _ => False) w6 (w6.alloc (.cells #[.bool m.leaf, .slice m.ka m.keys.length m.kc, .slice m.va m.values.length m.vc, .slice m.ia m.kids.length m.ic] 26)) := (Mod.refl _ w6).alloc _
          have HB9 := hid (Bx.new w6 m)
          have HM7 := hid (HM6.out.trans hma)
          have HB7 := hid (HB6.out.mod hma (fun h => h))
          have HQ7 := hid (HQ6.out.ext hma)
          have HA7 := hid (HAm.out.ext hma)
          have HR7 := hid (HR.out.mod hma (fun h => h))
          clear hma c0 c1 c2 c3
          generalize w6.alloc (.cells #[.bool m.leaf, .slice m.ka m.keys.length m.kc, .slice m.va m.values.length m.vc, .slice m.ia m.kids.length m.ic] 26) = Y at *
          go_loopw [74] (fun c wr => ∃ k : Nat, k ≤ 1 ∧ c = .int .i64 k ∧ Mod (fun _ => False) Y wr) (fun c _ => 1 - (intOf c).toNat)
          case atStart => exact ⟨0, by omega, rfl, Mod.refl _ _⟩
          case round =>
            obtain ⟨k, hk, rfl, hmr⟩ := hrel
            obtain rfl | rfl : k = 0 ∨ k = 1 := by omega
            · obtain ⟨c0, c1, c2, c3⟩ := (HR7.out.mod hmr (fun h => h)).cells
              have HAr := hid (HA7.out.ext (hmr.alloc (.cells #[.bool m.leaf, .slice m.ka m.keys.length m.kc, .slice m.va m.values.length m.vc, .slice m.ia m.kids.length m.ic] 26)))
              have HMr := hid hmr
              clear hmr
              go_wp2_with fail
              refine (encode_any HAr.out).mono ?_
              rintro e w8 ⟨rfl, hm8⟩
              rw [HEm.out, encV_true]
              have HM8 := hid ((HMr.out.alloc _).trans hm8)
              clear hm8
              go_wp2_with fail
              go_roundw
              case rel => exact ⟨1, by omega, by go_num, HM8.out⟩
              case measure => simp [intOf]
            · have HBj := hid (HB9.out.mod hmr (fun h => h))
              have HBq := hid (HB7.out.mod hmr (fun h => h))
              have HJa := hid (HA7.out.ext hmr)
              have HQr := hid (HQ7.out.ext hmr)
              have HMr := hid (HM7.out.trans hmr)
              clear hmr
              have hmd : Mod (fun _ => False) wr wr.drew := (Mod.refl _ _).drew
              have HRf : Hid (Calls Try.prog 12 #[.agg #[.bool q.leaf, .slice q.ka q.keys.length q.kc, .slice q.va q.values.length q.vc, .slice q.ia q.kids.length q.ic]] wr.drew fun e w' => OfAns4 wr.drew true es e w') := hid (by have := ref_any (HQr.out.ext hmd); rw [HQe.out] at this; rw [show OfAns4 wr.drew true es = OfAns4 wr.drew q.leaf es by rw [HHq.out.l]]; exact this)
              have HAl : Hid (∀ (v : World) (sa : Option Addr) (cap : Nat), Mod (fun _ => False) wr.drew v → Lies v 3 Ent.cs sa es → Calls Try.prog 19 #[.agg #[.bool m.leaf, .slice m.ka m.keys.length m.kc, .slice m.va m.values.length m.vc, .slice m.ia m.kids.length m.ic], .agg #[.bool true, .slice sa es.length cap]] v fun e w' => e = .returned (.bool true) ∧ Mod (fun _ => False) v w') := hid (fun v sa cap hv hl => alike_any cap (HJa.out.ext (hmd.trans hv)) HJh.out (HJh.out.ents HG.out.c) hl)
              have HUp : Hid (∀ v, Mod (fun _ => False) wr.drew v → v.cell? ⟨w4.heap.size, 0, none⟩ = some (.bool q.leaf) ∧ v.cell? ⟨w4.heap.size, 1, none⟩ = some (.slice q.ka q.keys.length q.kc) ∧ v.cell? ⟨w4.heap.size, 2, none⟩ = some (.slice q.va q.values.length q.vc) ∧ v.cell? ⟨w4.heap.size, 3, none⟩ = some (.slice q.ia q.kids.length q.ic) ∧ v.cell? ⟨w6.heap.size, 0, none⟩ = some (.bool m.leaf) ∧ v.cell? ⟨w6.heap.size, 1, none⟩ = some (.slice m.ka m.keys.length m.kc) ∧ v.cell? ⟨w6.heap.size, 2, none⟩ = some (.slice m.va m.values.length m.vc) ∧ v.cell? ⟨w6.heap.size, 3, none⟩ = some (.slice m.ia m.kids.length m.ic)) := hid (fun v hv => by
                obtain ⟨a0, a1, a2, a3⟩ := (HBq.out.mod (hmd.trans hv) (fun h => h)).cells
                obtain ⟨a4, a5, a6, a7⟩ := (HBj.out.mod (hmd.trans hv) (fun h => h)).cells
                exact ⟨a0, a1, a2, a3, a4, a5, a6, a7⟩)
              have HMd := hid (HMr.out.trans hmd)
              clear hmd
              go_wp2_with fail
              obtain ⟨z0, z1, z2, z3, z4, z5, z6, z7⟩ := HUp.out wr.drew (Mod.refl _ _)
              go_region_held3 (fun w' => w'.cell? ⟨w4.heap.size, 0, none⟩ = some (.bool q.leaf) ∧ w'.cell? ⟨w4.heap.size, 1, none⟩ = some (.slice q.ka q.keys.length q.kc) ∧ w'.cell? ⟨w4.heap.size, 2, none⟩ = some (.slice q.va q.values.length q.vc) ∧ w'.cell? ⟨w4.heap.size, 3, none⟩ = some (.slice q.ia q.kids.length q.ic) ∧ w'.cell? ⟨w6.heap.size, 0, none⟩ = some (.bool m.leaf) ∧ w'.cell? ⟨w6.heap.size, 1, none⟩ = some (.slice m.ka m.keys.length m.kc) ∧ w'.cell? ⟨w6.heap.size, 2, none⟩ = some (.slice m.va m.values.length m.vc) ∧ w'.cell? ⟨w6.heap.size, 3, none⟩ = some (.slice m.ia m.kids.length m.ic))
                (first | exact ⟨x0, x1, x2, x3, x4, x5, x6, x7⟩ | exact ⟨y0, y1, y2, y3, y4, y5, y6, y7⟩ | exact ⟨z0, z1, z2, z3, z4, z5, z6, z7⟩ | go_keep)
                (first
                  | (go_at_call 12; (with_reducible refine HRf.out.mono ?_); rintro e v1 ⟨sa, cap, rfl, hl, _, hm1⟩; obtain ⟨y0, y1, y2, y3, y4, y5, y6, y7⟩ := HUp.out v1 hm1; have HA1 := hid (And.intro hl hm1); clear hl hm1)
                  | (go_at_call 19; (with_reducible refine (HAl.out v1 sa cap HA1.out.2 HA1.out.1).mono ?_); rintro e v2 ⟨rfl, hm2⟩; obtain ⟨x0, x1, x2, x3, x4, x5, x6, x7⟩ := HUp.out v2 (HA1.out.2.trans hm2); have HA2 := hid (HA1.out.2.trans hm2); clear hm2))
              go_wp2_with fail
              go_ret
              exact ⟨rfl, HFin.out _ (HMd.out.trans HA2.out)⟩
        · have hrow' : w6.heap[g6]? = some (.cells #[.bool m.leaf, .slice m.ka m.keys.length m.kc, .slice m.va m.values.length m.vc, .slice m.ia m.kids.length m.ic, .bool p.leaf, .slice p.ka p.keys.length p.kc, .slice p.va p.values.length p.vc, .slice p.ia p.kids.length p.ic] 26 (0, 0)) := hrow
          obtain ⟨⟨w1m, w2m⟩, ⟨w1p, w2p⟩⟩ := halves hcut HG.out HSm.out.2.1 (by have := HSm.out.1; omega)
          have HEm := hid (enc_of_good hhm (good_take HG.out i) w2m)
          have HEp := hid (enc_of_good hhp (good_drop HG.out i) w2p)
          have HWm := hid (show 250 ≤ (bytesL m.leaf m.ents).length by rw [hhm.l, hhm.ents (good_take HG.out i).c]; exact w1m)
          have HWp := hid (show 250 ≤ (bytesL p.leaf p.ents).length by rw [hhp.l, hhp.ents (good_drop HG.out i).c]; exact w1p)
          have HAm := hid (hhm.at (good_take HG.out i) (by have := HSm.out.1; rw [List.length_take]; omega) hgm)
          have HAp := hid (hhp.at (good_drop HG.out i) (by have := HSm.out.1; rw [List.length_drop]; omega) hgp)
          have HEs : Hid (m.ents ++ (p.as m.leaf).ents = es) := hid (by rw [hhm.ents (good_take HG.out i).c, hhm.l, as_same hhp.l, hhp.ents (good_drop HG.out i).c, List.take_append_drop])
          have HLm := hid hhm.l
          have HLp := hid hhp.l
          obtain ⟨c0, c1, c2, c3⟩ := cells8a hrow'
          have HR := hid hrow'
          clear hhm hhp hgm hgp hbm hbp hrow hrow' hcut w1m w2m w1p w2p
          go_wp2_with fail
          clear c0 c1 c2 c3
          have HB9 := hid (Bx.new w6 m)
          have HM7 : Hid (Mod (fun _ => False) w6 (w6.alloc (.cells #[.bool m.leaf, .slice m.ka m.keys.length m.kc, .slice m.va m.values.length m.vc, .slice m.ia m.kids.length m.ic] 26))) := hid ((Mod.refl _ w6).alloc _)
          generalize w6.alloc (.cells #[.bool m.leaf, .slice m.ka m.keys.length m.kc, .slice m.va m.values.length m.vc, .slice m.ia m.kids.length m.ic] 26) = Y at *
          go_loopw [74] (fun c wr => ∃ k : Nat, k ≤ 2 ∧ c = .int .i64 k ∧ HRel w6 w6.heap.size es m k wr) (fun c _ => 2 - (intOf c).toNat)
          case atStart => exact ⟨0, by omega, rfl, HM7.out, m, HB9.out, fun _ => rfl, fun h => by omega⟩
          case round =>
            obtain ⟨k, hk, rfl, hmr, j, hbj, hj1, hj2⟩ := hrel
            obtain rfl | rfl | rfl : k = 0 ∨ k = 1 ∨ k = 2 := by omega
            · obtain rfl : m = j := (hj1 (by omega)).symm
              obtain ⟨c0, c1, c2, c3⟩ := cells8a ((hmr.block _ (lt_of_heap HR.out) (fun h => h)).trans HR.out)
              have HXr := hid ((HAm.out.ext hmr).ext ((Mod.refl _ wr).alloc (.cells #[.bool m.leaf, .slice m.ka m.keys.length m.kc, .slice m.va m.values.length m.vc, .slice m.ia m.kids.length m.ic] 26)))
              have HB11 := hid (Bx.new wr m)
              have HBj := hid (Bx.mod (S := fun _ => False) hbj ((Mod.refl _ wr).alloc (.cells #[.bool m.leaf, .slice m.ka m.keys.length m.kc, .slice m.va m.values.length m.vc, .slice m.ia m.kids.length m.ic] 26)) (fun h => h))
              have HMr := hid (hmr.alloc (.cells #[.bool m.leaf, .slice m.ka m.keys.length m.kc, .slice m.va m.values.length m.vc, .slice m.ia m.kids.length m.ic] 26))
              have hw := HWm.out
              clear hmr hbj hj1 hj2
              go_wp2_with fail
              generalize wr.alloc (.cells #[.bool m.leaf, .slice m.ka m.keys.length m.kc, .slice m.va m.values.length m.vc, .slice m.ia m.kids.length m.ic] 26) = w7 at *
              refine (encode_any HXr.out).mono ?_
              rintro e w8 ⟨rfl, hm8⟩
              rw [HEm.out, encV_true]
              obtain ⟨d0, d1, d2, d3⟩ := (HB11.out.mod hm8 (fun h => h)).cells
              have HB12 := hid (HB11.out.mod hm8 (fun h => h))
              have HM8 := hid (HMr.out.trans hm8)
              have HBj8 := hid (HBj.out.mod hm8 (fun h => h))
              have HX8 := hid (HXr.out.ext hm8)
              clear hm8 c0 c1 c2 c3
              go_wp2_with fail
              refine (weight_any HX8.out).mono ?_
              rintro e w9 ⟨rfl, hm9⟩
              have HM9 := hid (HM8.out.trans hm9)
              have HBj9 := hid (HBj8.out.mod hm9 (fun h => h))
              have HB13 := hid (HB12.out.mod hm9 (fun h => h))
              clear hm9 d0 d1 d2 d3
              go_wp2_with fail
              go_roundw
              case rel => exact ⟨1, by omega, by go_num, HM9.out, _, HBj9.out, fun _ => rfl, fun h => by omega⟩
              case measure => simp [intOf]
            · obtain rfl : m = j := (hj1 (by omega)).symm
              obtain ⟨c0, c1, c2, c3⟩ := cells8b ((hmr.block _ (lt_of_heap HR.out) (fun h => h)).trans HR.out)
              have HXr := hid ((HAp.out.ext hmr).ext ((Mod.refl _ wr).alloc (.cells #[.bool p.leaf, .slice p.ka p.keys.length p.kc, .slice p.va p.values.length p.vc, .slice p.ia p.kids.length p.ic] 26)))
              have HB11 := hid (Bx.new wr p)
              have HBj := hid (Bx.mod (S := fun _ => False) hbj ((Mod.refl _ wr).alloc (.cells #[.bool p.leaf, .slice p.ka p.keys.length p.kc, .slice p.va p.values.length p.vc, .slice p.ia p.kids.length p.ic] 26)) (fun h => h))
              have HMr := hid (hmr.alloc (.cells #[.bool p.leaf, .slice p.ka p.keys.length p.kc, .slice p.va p.values.length p.vc, .slice p.ia p.kids.length p.ic] 26))
              have hw := HWp.out
              clear hmr hbj hj1 hj2
              go_wp2_with fail
              generalize wr.alloc (.cells #[.bool p.leaf, .slice p.ka p.keys.length p.kc, .slice p.va p.values.length p.vc, .slice p.ia p.kids.length p.ic] 26) = w7 at *
              refine (encode_any HXr.out).mono ?_
              rintro e w8 ⟨rfl, hm8⟩
              rw [HEp.out, encV_true]
              obtain ⟨d0, d1, d2, d3⟩ := (HB11.out.mod hm8 (fun h => h)).cells
              have HB12 := hid (HB11.out.mod hm8 (fun h => h))
              have HM8 := hid (HMr.out.trans hm8)
              have HBj8 := hid (HBj.out.mod hm8 (fun h => h))
              have HX8 := hid (HXr.out.ext hm8)
              clear hm8 c0 c1 c2 c3
              go_wp2_with fail
              refine (weight_any HX8.out).mono ?_
              rintro e w9 ⟨rfl, hm9⟩
              have HM9 := hid (HM8.out.trans hm9)
              have HBj9 := hid (HBj8.out.mod hm9 (fun h => h))
              have HB13 := hid (HB12.out.mod hm9 (fun h => h))
              clear hm9 d0 d1 d2 d3
              obtain ⟨d0, d1, d2, d3⟩ := HB13.out.cells
              obtain ⟨o0, o1, o2, o3⟩ := HBj9.out.cells
              go_wp2_with fail
              refine (join_any (HAm.out.ext HM9.out) (HAp.out.ext HM9.out)).mono ?_
              rintro e w10 ⟨q2, hh, rfl, hg, hm10, hbs⟩
              rw [HEs.out, HLm.out] at hh
              have HM10 := hid (HM9.out.trans hm10)
              have HB10 := hid (HBj9.out.mod hm10 (fun h => h))
              have hlt : w6.heap.size < w9.heap.size := HBj9.out.lt
              have HHas := hid hh
              have HGd := hid hg
              have HBs : Hid (∀ b, q2.bs b → ¬ b = w6.heap.size) := hid (fun b h e => by have := hbs b h; omega)
              clear hh hg hm10 hbs d0 d1 d2 d3 o0 o1 o2 o3 hlt
              obtain ⟨o0, o1, o2, o3⟩ := HB10.out.cells
              have q0 := frozen_of_row _ _ 0 _ _ HB10.out
              have q1 := frozen_of_row _ _ 1 _ _ HB10.out
              have q2' := frozen_of_row _ _ 2 _ _ HB10.out
              have q3 := frozen_of_row _ _ 3 _ _ HB10.out
              go_wp2_with fail
              go_roundw
              case rel =>
                refine ⟨2, by omega, by go_num, store_mod HM10.out q2, q2, HB10.out.set, fun h => by omega, fun _ => ⟨HHas.out, HHas.out.at HG.out (by have := HSm.out.1; omega) (store_gd HGd.out HBs.out)⟩⟩
              case measure => simp [intOf]
            · obtain ⟨hjh, hja⟩ := hj2 rfl
              have HBj := hid hbj
              have HBq := hid (HB6.out.mod hmr (fun h => h))
              have HJh := hid hjh
              have HJa := hid hja
              have HQr := hid (HQ6.out.ext hmr)
              have HMr := hid (HM6.out.trans hmr)
              clear hmr hbj hj1 hj2 hjh hja
              have hmd : Mod (fun _ => False) wr wr.drew := (Mod.refl _ _).drew
              have HRf : Hid (Calls Try.prog 12 #[.agg #[.bool q.leaf, .slice q.ka q.keys.length q.kc, .slice q.va q.values.length q.vc, .slice q.ia q.kids.length q.ic]] wr.drew fun e w' => OfAns4 wr.drew true es e w') := hid (by have := ref_any (HQr.out.ext hmd); rw [HQe.out] at this; rw [show OfAns4 wr.drew true es = OfAns4 wr.drew q.leaf es by rw [HHq.out.l]]; exact this)
              have HAl : Hid (∀ (v : World) (sa : Option Addr) (cap : Nat), Mod (fun _ => False) wr.drew v → Lies v 3 Ent.cs sa es → Calls Try.prog 19 #[.agg #[.bool j.leaf, .slice j.ka j.keys.length j.kc, .slice j.va j.values.length j.vc, .slice j.ia j.kids.length j.ic], .agg #[.bool true, .slice sa es.length cap]] v fun e w' => e = .returned (.bool true) ∧ Mod (fun _ => False) v w') := hid (fun v sa cap hv hl => alike_any cap (HJa.out.ext (hmd.trans hv)) HJh.out (HJh.out.ents HG.out.c) hl)
              have HUp : Hid (∀ v, Mod (fun _ => False) wr.drew v → v.cell? ⟨w4.heap.size, 0, none⟩ = some (.bool q.leaf) ∧ v.cell? ⟨w4.heap.size, 1, none⟩ = some (.slice q.ka q.keys.length q.kc) ∧ v.cell? ⟨w4.heap.size, 2, none⟩ = some (.slice q.va q.values.length q.vc) ∧ v.cell? ⟨w4.heap.size, 3, none⟩ = some (.slice q.ia q.kids.length q.ic) ∧ v.cell? ⟨w6.heap.size, 0, none⟩ = some (.bool j.leaf) ∧ v.cell? ⟨w6.heap.size, 1, none⟩ = some (.slice j.ka j.keys.length j.kc) ∧ v.cell? ⟨w6.heap.size, 2, none⟩ = some (.slice j.va j.values.length j.vc) ∧ v.cell? ⟨w6.heap.size, 3, none⟩ = some (.slice j.ia j.kids.length j.ic)) := hid (fun v hv => by
                obtain ⟨a0, a1, a2, a3⟩ := (HBq.out.mod (hmd.trans hv) (fun h => h)).cells
                obtain ⟨a4, a5, a6, a7⟩ := (HBj.out.mod (hmd.trans hv) (fun h => h)).cells
                exact ⟨a0, a1, a2, a3, a4, a5, a6, a7⟩)
              have HMd := hid (HMr.out.trans hmd)
              clear hmd
              go_wp2_with fail
              obtain ⟨z0, z1, z2, z3, z4, z5, z6, z7⟩ := HUp.out wr.drew (Mod.refl _ _)
              go_region_held3 (fun w' => w'.cell? ⟨w4.heap.size, 0, none⟩ = some (.bool q.leaf) ∧ w'.cell? ⟨w4.heap.size, 1, none⟩ = some (.slice q.ka q.keys.length q.kc) ∧ w'.cell? ⟨w4.heap.size, 2, none⟩ = some (.slice q.va q.values.length q.vc) ∧ w'.cell? ⟨w4.heap.size, 3, none⟩ = some (.slice q.ia q.kids.length q.ic) ∧ w'.cell? ⟨w6.heap.size, 0, none⟩ = some (.bool j.leaf) ∧ w'.cell? ⟨w6.heap.size, 1, none⟩ = some (.slice j.ka j.keys.length j.kc) ∧ w'.cell? ⟨w6.heap.size, 2, none⟩ = some (.slice j.va j.values.length j.vc) ∧ w'.cell? ⟨w6.heap.size, 3, none⟩ = some (.slice j.ia j.kids.length j.ic))
                (first | exact ⟨x0, x1, x2, x3, x4, x5, x6, x7⟩ | exact ⟨y0, y1, y2, y3, y4, y5, y6, y7⟩ | exact ⟨z0, z1, z2, z3, z4, z5, z6, z7⟩ | go_keep)
                (first
                  | (go_at_call 12; (with_reducible refine HRf.out.mono ?_); rintro e v1 ⟨sa, cap, rfl, hl, _, hm1⟩; obtain ⟨y0, y1, y2, y3, y4, y5, y6, y7⟩ := HUp.out v1 hm1; have HA1 := hid (And.intro hl hm1); clear hl hm1)
                  | (go_at_call 19; (with_reducible refine (HAl.out v1 sa cap HA1.out.2 HA1.out.1).mono ?_); rintro e v2 ⟨rfl, hm2⟩; obtain ⟨x0, x1, x2, x3, x4, x5, x6, x7⟩ := HUp.out v2 (HA1.out.2.trans hm2); have HA2 := hid (HA1.out.2.trans hm2); clear hm2))
              go_wp2_with fail
              go_ret
              exact ⟨rfl, HFin.out _ (HMd.out.trans HA2.out)⟩

theorem own : ownKnob Try.prog.godebug = none := by kernel_rfl
theorem laidOut : laidOutB Try.prog = true := by kernel_rfl

theorem contract (H : Type) (enc : TypeId × Value → H) (W : World) (base : Nat) (args : Array Value) (ds gs : List (DataW H)) (before : List MemPlace)
    (hval0 : ∀ (j : Nat) t v, Try.f7.params[j]? = some t → args[j]? = some v → Value.okWide Try.prog W .any base t v)
    (hW : DataW.Whole enc Try.prog Try.f7.params.toList Rows.nodeHalvesSpec.vars false W args.toList ds gs before) (hk : Rows.uptoSmall H (ds ++ gs) = true) :
    Calls Try.prog 7 args W fun e W' => ∃ v, e = .returned v ∧ Rows.nodeHalvesSpec.post enc Try.prog Try.f7 false true false false W args v W' := by
  have hbk := bulk_all hk
  have hval : ∀ (j : Nat) t v, Try.f7.params[j]? = some t → args[j]? = some v → Value.okWide Try.prog W .any base t v := hval0
  have hW' := hW
  obtain ⟨p, q, hA0, hV, rfl, hfz, hnd⟩ := hW
  have hA : DataW.TrodAll enc Try.prog W 0 (fun _ => true) true Try.f7.params.toList args.toList ds p := hA0
  rw [Try.params7] at hA hval
  obtain ⟨v0, vs0, d0, ds0, p0, q0, hargs, rfl, rfl, h0, r0⟩ := trodAll_cons hA
  obtain ⟨v1, vs1, d1, ds1, p1, q1, rfl, rfl, rfl, h1, r1⟩ := trodAll_cons r0
  obtain ⟨v2, vs2, d2, ds2, p2, q2, rfl, rfl, rfl, h2, r2⟩ := trodAll_cons r1
  obtain ⟨rfl, rfl, rfl⟩ := trodAll_nil r2
  obtain rfl : args = #[v0, v1, v2] := by cases args; simp_all
  obtain ⟨rfl, rfl⟩ := trodVars_none hV
  have lt0 : ∀ x ∈ p0, x.block < W.heap.size := by obtain ⟨m, hm⟩ := h0; exact DataW.trod_lt m _ _ _ hm
  have lt1 : ∀ x ∈ p1, x.block < W.heap.size := by obtain ⟨m, hm⟩ := h1; exact DataW.trod_lt m _ _ _ hm
  have lt2 : ∀ x ∈ p2, x.block < W.heap.size := by obtain ⟨m, hm⟩ := h2; exact DataW.trod_lt m _ _ _ hm
  obtain ⟨n0, rfl, at0, bk0⟩ := open_node (hval 0 26 v0 rfl rfl) h0 (hbk d0 (by simp))
  obtain ⟨s1, rfl, ws1⟩ := open_text (hval 1 9 v1 rfl rfl) h1 (hbk d1 (by simp))
  obtain ⟨s2, rfl, ws2⟩ := open_text (hval 2 9 v2 rfl rfl) h2 (hbk d2 (by simp))
  clear hA0 hval0
  refine (walk W n0 at0 bk0 s1 ws1 s2 ws2).mono fun e W' ⟨he, bel⟩ => ?_
  subst he
  exact ⟨_, rfl, _, _, _, [], _, [], hW', trodAll_mk1 (shut_bool Try.underlying4 _), (trodAll_cons_mk (Below.trod laidOut (by kernel_rfl) (of_decide_eq_true (by kernel_rfl)) h0 bel lt0) (trodAll_cons_mk (Below.trod laidOut (by kernel_rfl) (of_decide_eq_true (by kernel_rfl)) h1 bel lt1) (trodAll_cons_mk (Below.trod laidOut (by kernel_rfl) (of_decide_eq_true (by kernel_rfl)) h2 bel lt2) trodAll_mk0))), rfl, bel.frame _, fun h => by cases h⟩

set_option maxRecDepth 100000 in
theorem lifted (os : Os) (started : os.Started) (H : Type) (enc : TypeId × Value → H) (F : Stop.Interp) :
    ReturnsInHanded {} Try.checked os 7 .any ((Rows.OpenSpec.upto Rows.nodeHalvesSpec).pre6 enc Try.prog Try.f7 Rows.nodeHalvesUptoRow.domain false) (((Rows.OpenSpec.upto Rows.nodeHalvesSpec).at F).post enc Try.prog Try.f7 false true false false) := by
  refine returnsInHanded_of_cond (C := Try.checked) (s := Rows.OpenSpec.upto Rows.nodeHalvesSpec) (k := Rows.uptoSmall) rfl own started (by kernel_rfl) Try.func7
    (OpenSpec.witness (enc := enc) (C := Try.checked) (s := Rows.OpenSpec.upto Rows.nodeHalvesSpec) (k := Rows.uptoSmall) rfl false ⟨#[], #[.agg #[.bool false, .slice none 0 0, .slice none 0 0, .slice none 0 0], .string .empty, .string .empty], []⟩ 8 (by kernel_rfl) (by kernel_rfl) (by kernel_rfl)
      (x := ([.agg [.lit (.bool false), .nil, .nil, .nil], .lit (.string []), .lit (.string [])], [], [])) (by kernel_rfl) rfl (by kernel_rfl)) ?_
  intro W base args ds gs before hval hW _ hk _
  exact contract H enc W base args ds gs before hval hW hk

theorem proved : Rows.NodeHalvesUptoSaid :=
  OpenClaim.holds_of_cond 7 Try.f7 rfl rfl rfl rfl rfl rfl rfl ⟨rfl, rfl, rfl, rfl, rfl⟩ rfl rfl rfl rfl rfl (by kernel_rfl) Try.func7 (by kernel_rfl)
    (of_decide_eq_true (by kernel_rfl)) (by unfold Func.isWrapper; first | (rw [if_pos (by decide +kernel)]; kernel_rfl) | (rw [if_neg (by decide +kernel)]; exact ⟨rfl, rfl⟩))
    (fun os started H enc _ F => lifted os started H enc F)

end NodeHalves

theorem nodeHalves_holds : Rows.NodeHalvesUptoSaid := NodeHalves.proved

end Go.Proofs.Ythdopgejikcfbaa
