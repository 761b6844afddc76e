/- What is handed in isn't changed, and what is answered is new memory: for every two nodes of a bulk of 1048576 at the most; the arguments read afterwards as before. -/
import Derived.Test.YthdopgejikcfbaaRows
import Derived.Test.YthdopgejikcfbaaMark
import Derived.Test.YthdopgejikcfbaaUp
import Derived.Test.YthdopgejikcfbaaNdW
import Derived.OpenShut
import Derived.JoinedCond
import Derived.Deep.DeepCutAuto
import Derived.Deep.RegionHeld3
namespace Go.Proofs.Ythdopgejikcfbaa
open Go Go.RowKit

namespace NodeKeeps
open Go.ChangeShapes Go.WideShapes Go.ChangeAt

theorem wpAnyH_take_at {P : Program} {ops : Array Oper} {Q : Exit → Act → World → Prop} {md : Region.Mode} {S : World → Prop} {i : Nat} {d : Tmp} {oi : Oper} {v : Value} {fuel : Nat} {listed : Array Bool} {a : Act} {w : World} (hi : ops[i]? = some oi) (hd : oi.dst = some d)
    (hs : Region.noSelect ops = true) (hf : Region.free md ops listed i = true) (hr : (Region.ready md ops listed).contains i = true)
    (hQ : ∀ c a w, Q (.panic c) (a.put (some d) v) w → Q (.panic c) a w) (hy : YieldsIf P ops S oi v a) (hS : S w)
    (h : wpAnyH P md ops Q S fuel (listed.setIfInBounds i true) (a.put (some d) v) w) : wpAnyH P md ops Q S (fuel + 1) listed a w :=
  wpAnyH_take hi hs hf hr (by rw [hd]; exact hQ) hy hS (by rw [hd]; exact h)

def put4 (w : World) (b : Nat) (u0 u1 u2 u3 : Value) : World := (((w.setCell ⟨b, 0, none⟩ u0).setCell ⟨b, 1, none⟩ u1).setCell ⟨b, 2, none⟩ u2).setCell ⟨b, 3, none⟩ u3
theorem put4_at {w : World} {b : Nat} {T : TypeId} {a0 a1 a2 a3 : Value} (h : w.heap[b]? = some (.cells #[a0, a1, a2, a3] T (0, 0))) (u0 u1 u2 u3 : Value) : (put4 w b u0 u1 u2 u3).heap[b]? = some (.cells #[u0, u1, u2, u3] T (0, 0)) :=
  heap_setCell_same _ b 3 _ T u3 (heap_setCell_same _ b 2 _ T u2 (heap_setCell_same _ b 1 _ T u1 (heap_setCell_same w b 0 _ T u0 h)))
theorem put4_mod (w : World) (b : Nat) (u0 u1 u2 u3 : Value) : Mod (fun j => j = b) w (put4 w b u0 u1 u2 u3) :=
  Mod.setCell (S := fun j => j = b) (Mod.setCell (S := fun j => j = b) (Mod.setCell (S := fun j => j = b) (Mod.setCell (S := fun j => j = b) (Mod.refl _ _) (fun _ => rfl) _) (fun _ => rfl) _) (fun _ => rfl) _) (fun _ => rfl) _

/-- A twin at hand. -/
structure TwA (w : World) (n a : Nd) : Prop where
  l : a.leaf = n.leaf ∧ a.keys = n.keys ∧ a.values = n.values ∧ a.kids = n.kids
  g : Gd w a
theorem TwA.mod {w w' : World} {n a : Nd} {S : Nat → Prop} (h : TwA w n a) (hm : Mod S w w') (hs : ∀ b, a.bs b → ¬ S b) : TwA w' n a := ⟨h.l, h.g.ext hm hs⟩

def KS (b c : Nat) (n p : Nd) (w : World) : Prop := (w.cell? ⟨b, 0, none⟩ = some (.bool n.leaf) ∧ w.cell? ⟨b, 1, none⟩ = some (.slice n.ka n.keys.length n.kc) ∧ w.cell? ⟨b, 2, none⟩ = some (.slice n.va n.values.length n.vc) ∧ w.cell? ⟨b, 3, none⟩ = some (.slice n.ia n.kids.length n.ic)) ∧ (w.cell? ⟨c, 0, none⟩ = some (.bool p.leaf) ∧ w.cell? ⟨c, 1, none⟩ = some (.slice p.ka p.keys.length p.kc) ∧ w.cell? ⟨c, 2, none⟩ = some (.slice p.va p.values.length p.vc) ∧ w.cell? ⟨c, 3, none⟩ = some (.slice p.ia p.kids.length p.ic))

def Bx (w : World) (b : Nat) (m : Nd) : Prop := w.heap[b]? = some (.cells #[.bool m.leaf, .slice m.ka m.keys.length m.kc, .slice m.va m.values.length m.vc, .slice m.ia m.kids.length m.ic] 26 (0, 0))
theorem Bx.cells {w : World} {b : Nat} {m : Nd} (h : Bx w b m) : w.cell? ⟨b, 0, none⟩ = some (.bool m.leaf) ∧ w.cell? ⟨b, 1, none⟩ = some (.slice m.ka m.keys.length m.kc) ∧ w.cell? ⟨b, 2, none⟩ = some (.slice m.va m.values.length m.vc) ∧ w.cell? ⟨b, 3, none⟩ = some (.slice m.ia m.kids.length m.ic) := cells4 h
theorem Bx.lt {w : World} {b : Nat} {m : Nd} (h : Bx w b m) : b < w.heap.size := lt_of_heap h
theorem Bx.mod {w w' : World} {b : Nat} {m : Nd} {S : Nat → Prop} (h : Bx w b m) (hm : Mod S w w') (hs : ¬ S b) : Bx w' b m := (hm.block b h.lt hs).trans h
theorem Bx.new (w : World) (m : Nd) : Bx (w.alloc (.cells #[.bool m.leaf, .slice m.ka m.keys.length m.kc, .slice m.va m.values.length m.vc, .slice m.ia m.kids.length m.ic] 26)) w.heap.size m := heap_alloc_new _ _

theorem zero_top {v wa : World} {o : Obj} (h : Mod (fun _ => False) (v.alloc o) wa) : wa.heap[v.heap.size]? = some o := (h.block _ (by simp) (fun h => h)).trans (heap_alloc_new v o)
theorem zero_two {v wa : World} {o o2 : Obj} (h : Mod (fun _ => False) ((v.alloc o).alloc o2) wa) : wa.heap[v.heap.size]? = some o := (h.block _ (by simp; omega) (fun h => h)).trans ((Below.heap_alloc _ _ _ (by simp)).trans (heap_alloc_new v o))
theorem zero_old {v wa wb : World} {b : Nat} {o : Obj} (h : wa.heap[b]? = some o) (hm : Mod (fun _ => False) v wb) (hv : Mod (fun _ => False) wa v) : wb.heap[b]? = some o := ((hv.trans hm).block _ (lt_of_heap h) (fun h => h)).trans h

/-- Two twins, held by two variables. -/
def Twins (V : World) (n p : Nd) (s6 s7 : Value) (wx : World) : Prop :=
  ∃ (B6 B7 : Nat) (a b : Nd), s6 = .pointer (some ⟨B6, 0, none⟩) ∧ s7 = .pointer (some ⟨B7, 0, none⟩) ∧ Bx wx B6 a ∧ Bx wx B7 b ∧ (a.leaf = n.leaf ∧ a.keys = n.keys ∧ a.values = n.values ∧ a.kids = n.kids) ∧ (b.leaf = p.leaf ∧ b.keys = p.keys ∧ b.values = p.values ∧ b.kids = p.kids) ∧ Gd wx a ∧ Gd wx b ∧ Mod (fun _ => False) V wx

set_option maxRecDepth 100000 in
set_option maxHeartbeats 8000000 in
theorem walk (W : World) (n : Nd) (hn : NdAt W n) (_hb : n.keys.length ≤ 1048576) (p : Nd) (hp : NdAt W p) (_hbp : p.keys.length ≤ 1048576) :
    Calls Try.prog 8 #[.agg #[.bool n.leaf, .slice n.ka n.keys.length n.kc, .slice n.va n.values.length n.vc, .slice n.ia n.kids.length n.ic], .agg #[.bool p.leaf, .slice p.ka p.keys.length p.kc, .slice p.va p.values.length p.vc, .slice p.ia p.kids.length p.ic]] W fun e w' => e = .returned (.bool true) ∧ Below W.heap.size W w' := by
  obtain ⟨i0, hi, hz0, hz1, hz2⟩ := info_parts infoNode
  have hsz : (W.alloc (.cells #[.bool n.leaf, .slice n.ka n.keys.length n.kc, .slice n.va n.values.length n.vc, .slice n.ia n.kids.length n.ic] 26)).heap.size = W.heap.size + 1 := by simp
  have hm : Mod (fun _ => False) W ((W.alloc (.cells #[.bool n.leaf, .slice n.ka n.keys.length n.kc, .slice n.va n.values.length n.vc, .slice n.ia n.kids.length n.ic] 26)).alloc (.cells #[.bool p.leaf, .slice p.ka p.keys.length p.kc, .slice p.va p.values.length p.vc, .slice p.ia p.kids.length p.ic] 26)) := ((Mod.refl _ _).alloc _).alloc _
  have hbox : Bx ((W.alloc (.cells #[.bool n.leaf, .slice n.ka n.keys.length n.kc, .slice n.va n.values.length n.vc, .slice n.ia n.kids.length n.ic] 26)).alloc (.cells #[.bool p.leaf, .slice p.ka p.keys.length p.kc, .slice p.va p.values.length p.vc, .slice p.ia p.kids.length p.ic] 26)) W.heap.size n := (Below.heap_alloc _ _ _ (by rw [hsz]; omega)).trans (heap_alloc_new _ _)
  have hbxp : Bx ((W.alloc (.cells #[.bool n.leaf, .slice n.ka n.keys.length n.kc, .slice n.va n.values.length n.vc, .slice n.ia n.kids.length n.ic] 26)).alloc (.cells #[.bool p.leaf, .slice p.ka p.keys.length p.kc, .slice p.va p.values.length p.vc, .slice p.ia p.kids.length p.ic] 26)) (W.heap.size + 1) p := by have := heap_alloc_new (W.alloc (.cells #[.bool n.leaf, .slice n.ka n.keys.length n.kc, .slice n.va n.values.length n.vc, .slice n.ia n.kids.length n.ic] 26)) (.cells #[.bool p.leaf, .slice p.ka p.keys.length p.kc, .slice p.va p.values.length p.vc, .slice p.ia p.kids.length p.ic] 26); rw [hsz] at this; exact this
  have HN := hid (hn.ext hm)
  have HP := hid (hp.ext hm)
  have HM := hid hm
  have HBn := hid hbox
  have HBp := hid hbxp
  clear hm hbox hbxp hn hp hsz
  go_enter Try.func8, Try.ntmps8
  go_upto_region 2 with fail
  generalize ((W.alloc (.cells #[.bool n.leaf, .slice n.ka n.keys.length n.kc, .slice n.va n.values.length n.vc, .slice n.ia n.kids.length n.ic] 26)).alloc (.cells #[.bool p.leaf, .slice p.ka p.keys.length p.kc, .slice p.va p.values.length p.vc, .slice p.ia p.kids.length p.ic] 26)) = V at *
  have HTw1 : Hid (∀ v, Mod (fun _ => False) V v → Calls Try.prog 20 #[.agg #[.bool n.leaf, .slice n.ka n.keys.length n.kc, .slice n.va n.values.length n.vc, .slice n.ia n.kids.length n.ic]] v fun e w' => TwinAns v n e w') := hid (fun v hv => twin_any (HN.out.ext hv))
  have HTw2 : Hid (∀ v, Mod (fun _ => False) V v → Calls Try.prog 20 #[.agg #[.bool p.leaf, .slice p.ka p.keys.length p.kc, .slice p.va p.values.length p.vc, .slice p.ia p.kids.length p.ic]] v fun e w' => TwinAns v p e w') := hid (fun v hv => twin_any (HP.out.ext hv))
  have HUp : Hid (∀ v, Mod (fun _ => False) V v → KS W.heap.size (W.heap.size + 1) n p v) := hid (fun v hv => ⟨(HBn.out.mod hv (fun h => h)).cells, (HBp.out.mod hv (fun h => h)).cells⟩)
  go_cut [6, 7] (fun s6 s7 wx => Twins V n p s6 s7 wx)
  case first =>
    refine wp_region_held_drew (S := fun w' => KS W.heap.size (W.heap.size + 1) n p w') (by kernel_rfl) (HUp.out _ (Mod.refl _ _).drew) (fun hHeld => ?_)
    have HMX : Hid (Mod (fun _ => False) V V.drew) := hid (Mod.refl _ _).drew
    generalize V.drew = y0 at *
    refine wpAnyH_take_at (i := 0) (d := 14) (v := .func (.func 20) #[] #[]) rfl rfl (by kernel_rfl) (by kernel_rfl) (by kernel_rfl) (fun _ _ _ h => h) (Or.inl ⟨by rfl, fun w' _ => by go_simp⟩) (by assumption) ?_
    simp only [Act.put, List.setIfInBounds_toArray, List.set_cons_zero, List.set_cons_succ]
    refine wpAnyH_take_at (i := 1) (d := 15) (v := .agg #[.bool n.leaf, .slice n.ka n.keys.length n.kc, .slice n.va n.values.length n.vc, .slice n.ia n.kids.length n.ic]) rfl rfl (by kernel_rfl) (by kernel_rfl) (by kernel_rfl) (fun _ _ _ h => h) (Or.inl ⟨by rfl, fun w' hSw => by (obtain ⟨⟨b0, b1, b2, b3⟩, c0, c1, c2, c3⟩ := hSw); go_simp⟩) (by assumption) ?_
    simp only [Act.put, List.setIfInBounds_toArray, List.set_cons_zero, List.set_cons_succ]
    refine wpAnyH_take_at (i := 3) (d := 17) (v := .func (.func 20) #[] #[]) rfl rfl (by kernel_rfl) (by kernel_rfl) (by kernel_rfl) (fun _ _ _ h => h) (Or.inl ⟨by rfl, fun w' _ => by go_simp⟩) (by assumption) ?_
    simp only [Act.put, List.setIfInBounds_toArray, List.set_cons_zero, List.set_cons_succ]
    refine wpAnyH_take_at (i := 4) (d := 18) (v := .agg #[.bool p.leaf, .slice p.ka p.keys.length p.kc, .slice p.va p.values.length p.vc, .slice p.ia p.kids.length p.ic]) rfl rfl (by kernel_rfl) (by kernel_rfl) (by kernel_rfl) (fun _ _ _ h => h) (Or.inl ⟨by rfl, fun w' hSw => by (obtain ⟨⟨b0, b1, b2, b3⟩, c0, c1, c2, c3⟩ := hSw); go_simp⟩) (by assumption) ?_
    simp only [Act.put, List.setIfInBounds_toArray, List.set_cons_zero, List.set_cons_succ]
    refine wpAnyH_ready (rs := [2, 6, 7]) (by kernel_rfl) (by simp) (AllReadyH.cons rfl (fun K hK => ?_) (AllReadyH.cons rfl (fun K hK => ?_) (AllReadyH.cons rfl (fun K hK => ?_) AllReadyH.nil)))
    · go_simp
      refine (HTw1.out y0 HMX.out).mono ?_
      rintro e y1 ⟨a, a1, a2, a3, a4, rfl, hg, hmn, hbn⟩
      have HTa : Hid (TwA y1 n a) := hid ⟨⟨a1, a2, a3, a4⟩, hg⟩
      have HMY : Hid (Mod (fun _ => False) V y1) := hid (HMX.out.trans hmn)
      clear HMX hmn hbn hg a1 a2 a3 a4
      have HMX := HMY
      clear HMY
      refine hK.out _ _ (HUp.out _ HMX.out) (fun hHeld2 => ?_)
      clear hK K hHeld
      have hHeld := hHeld2
      clear hHeld2
      try simp only [Act.put, List.setIfInBounds_toArray, List.set_cons_zero, List.set_cons_succ]
      refine wpAnyH_ready (rs := [5, 6, 7]) (by kernel_rfl) (by simp) (AllReadyH.cons rfl (fun K hK => ?_) (AllReadyH.cons rfl (fun K hK => ?_) (AllReadyH.cons rfl (fun K hK => ?_) AllReadyH.nil)))
      · go_simp
        refine (HTw2.out y1 HMX.out).mono ?_
        rintro e y2 ⟨b, a1, a2, a3, a4, rfl, hg, hmn, hbn⟩
        have HTb : Hid (TwA y2 p b) := hid ⟨⟨a1, a2, a3, a4⟩, hg⟩
        have HTa' := hid (HTa.out.mod hmn (fun _ _ h => h))
        clear HTa
        have HTa := HTa'
        clear HTa'
        have HMY : Hid (Mod (fun _ => False) V y2) := hid (HMX.out.trans hmn)
        clear HMX hmn hbn hg a1 a2 a3 a4
        have HMX := HMY
        clear HMY
        refine hK.out _ _ (HUp.out _ HMX.out) (fun hHeld2 => ?_)
        clear hK K hHeld
        have hHeld := hHeld2
        clear hHeld2
        try simp only [Act.put, List.setIfInBounds_toArray, List.set_cons_zero, List.set_cons_succ]
        refine wpAnyH_ready (rs := [6, 7]) (by kernel_rfl) (by simp) (AllReadyH.cons rfl (fun K hK => ?_) (AllReadyH.cons rfl (fun K hK => ?_) AllReadyH.nil))
        · go_simp
          have hmn : Mod (fun _ => False) y2 (y2.alloc (.cells #[.bool false, .slice none 0 0, .slice none 0 0, .slice none 0 0] 26)) := (Mod.refl _ _).alloc _
          have HMY : Hid (Mod (fun _ => False) V (y2.alloc (.cells #[.bool false, .slice none 0 0, .slice none 0 0, .slice none 0 0] 26))) := hid (HMX.out.trans hmn)
          have HZn6 : Hid ((y2.alloc (.cells #[.bool false, .slice none 0 0, .slice none 0 0, .slice none 0 0] 26)).heap[y2.heap.size]? = some (.cells #[.bool false, .slice none 0 0, .slice none 0 0, .slice none 0 0] 26 (0, 0))) := hid (heap_alloc_new _ _)
          have HTa' := hid (HTa.out.mod hmn (fun _ _ h => h))
          have HDa6 : Hid (∀ z, a.bs z → z ≠ y2.heap.size) := hid (fun z hz h => by have := HTa.out.g.lt hz; omega)
          clear HTa
          have HTa := HTa'
          clear HTa'
          have HTb' := hid (HTb.out.mod hmn (fun _ _ h => h))
          have HDb6 : Hid (∀ z, b.bs z → z ≠ y2.heap.size) := hid (fun z hz h => by have := HTb.out.g.lt hz; omega)
          clear HTb
          have HTb := HTb'
          clear HTb'
          have HV6 : Hid (V.heap.size ≤ y2.heap.size) := hid HMX.out.size
          have HZ6 := HZn6
          clear HZn6 HMX hmn
          have HMX := HMY
          clear HMY
          generalize (y2.alloc (.cells #[.bool false, .slice none 0 0, .slice none 0 0, .slice none 0 0] 26)) = y3 at *
          refine hK.out _ _ (HUp.out _ HMX.out) (fun hHeld2 => ?_)
          clear hK K hHeld
          have hHeld := hHeld2
          clear hHeld2
          try simp only [Act.put, List.setIfInBounds_toArray, List.set_cons_zero, List.set_cons_succ]
          refine wpAnyH_ready (rs := [7]) (by kernel_rfl) (by simp) (AllReadyH.cons rfl (fun K hK => ?_) AllReadyH.nil)
          go_simp
          have hmn : Mod (fun _ => False) y3 (y3.alloc (.cells #[.bool false, .slice none 0 0, .slice none 0 0, .slice none 0 0] 26)) := (Mod.refl _ _).alloc _
          have HMY : Hid (Mod (fun _ => False) V (y3.alloc (.cells #[.bool false, .slice none 0 0, .slice none 0 0, .slice none 0 0] 26))) := hid (HMX.out.trans hmn)
          have HZn7 : Hid ((y3.alloc (.cells #[.bool false, .slice none 0 0, .slice none 0 0, .slice none 0 0] 26)).heap[y3.heap.size]? = some (.cells #[.bool false, .slice none 0 0, .slice none 0 0, .slice none 0 0] 26 (0, 0))) := hid (heap_alloc_new _ _)
          have HZ6' := hid ((hmn.block _ (lt_of_heap HZ6.out) (fun h => h)).trans HZ6.out)
          have HTa' := hid (HTa.out.mod hmn (fun _ _ h => h))
          have HDa7 : Hid (∀ z, a.bs z → z ≠ y3.heap.size) := hid (fun z hz h => by have := HTa.out.g.lt hz; omega)
          clear HTa
          have HTa := HTa'
          clear HTa'
          have HTb' := hid (HTb.out.mod hmn (fun _ _ h => h))
          have HDb7 : Hid (∀ z, b.bs z → z ≠ y3.heap.size) := hid (fun z hz h => by have := HTb.out.g.lt hz; omega)
          clear HTb
          have HTb := HTb'
          clear HTb'
          have HNe : Hid (y2.heap.size ≠ y3.heap.size) := hid (fun h => by have := lt_of_heap HZ6.out; omega)
          clear HZ6
          have HZ6 := HZ6'
          clear HZ6'
          have HV7 : Hid (V.heap.size ≤ y3.heap.size) := hid HMX.out.size
          have HZ7 := HZn7
          clear HZn7 HMX hmn
          have HMX := HMY
          clear HMY
          generalize (y3.alloc (.cells #[.bool false, .slice none 0 0, .slice none 0 0, .slice none 0 0] 26)) = y4 at *
          refine hK.out _ _ (HUp.out _ HMX.out) (fun hHeld2 => ?_)
          clear hK K hHeld
          have hHeld := hHeld2
          clear hHeld2
          try simp only [Act.put, List.setIfInBounds_toArray, List.set_cons_zero, List.set_cons_succ]
          refine wpAnyH_ready (rs := [8]) (by kernel_rfl) (by simp) (AllReadyH.cons rfl (fun K hK => ?_) AllReadyH.nil)
          obtain ⟨c0, c1, c2, c3⟩ := cells4 HZ6.out
          have f0 := frozen_of_row _ _ 0 _ _ HZ6.out
          have f1 := frozen_of_row _ _ 1 _ _ HZ6.out
          have f2 := frozen_of_row _ _ 2 _ _ HZ6.out
          have f3 := frozen_of_row _ _ 3 _ _ HZ6.out
          go_simp
          clear c0 c1 c2 c3 f0 f1 f2 f3
          have h4 : ((((y4.setCell ⟨y2.heap.size, 0, none⟩ (.bool a.leaf)).setCell ⟨y2.heap.size, 1, none⟩ (.slice a.ka a.keys.length a.kc)).setCell ⟨y2.heap.size, 2, none⟩ (.slice a.va a.values.length a.vc)).setCell ⟨y2.heap.size, 3, none⟩ (.slice a.ia a.kids.length a.ic)).heap[y2.heap.size]? = some (.cells #[.bool a.leaf, .slice a.ka a.keys.length a.kc, .slice a.va a.values.length a.vc, .slice a.ia a.kids.length a.ic] 26 (0, 0)) := put4_at HZ6.out (.bool a.leaf) (.slice a.ka a.keys.length a.kc) (.slice a.va a.values.length a.vc) (.slice a.ia a.kids.length a.ic)
          have hm4 : Mod (fun j => j = y2.heap.size) y4 ((((y4.setCell ⟨y2.heap.size, 0, none⟩ (.bool a.leaf)).setCell ⟨y2.heap.size, 1, none⟩ (.slice a.ka a.keys.length a.kc)).setCell ⟨y2.heap.size, 2, none⟩ (.slice a.va a.values.length a.vc)).setCell ⟨y2.heap.size, 3, none⟩ (.slice a.ia a.kids.length a.ic)) := put4_mod y4 (y2.heap.size) (.bool a.leaf) (.slice a.ka a.keys.length a.kc) (.slice a.va a.values.length a.vc) (.slice a.ia a.kids.length a.ic)
          have HZ7' := hid ((hm4.block _ (lt_of_heap HZ7.out) (fun h => HNe.out (by first | exact h | exact h.symm))).trans HZ7.out)
          have HBa : Hid _ := hid h4
          have HTa' := hid (HTa.out.mod hm4 (fun b hb h => HDa6.out b hb h))
          have HTb' := hid (HTb.out.mod hm4 (fun b hb h => HDb6.out b hb h))
          clear HTa HTb
          have HTa := HTa'
          have HTb := HTb'
          clear HTa' HTb'
          have HMY : Hid (Mod (fun _ => False) V ((((y4.setCell ⟨y2.heap.size, 0, none⟩ (.bool a.leaf)).setCell ⟨y2.heap.size, 1, none⟩ (.slice a.ka a.keys.length a.kc)).setCell ⟨y2.heap.size, 2, none⟩ (.slice a.va a.values.length a.vc)).setCell ⟨y2.heap.size, 3, none⟩ (.slice a.ia a.kids.length a.ic))) := hid (HMX.out.then hm4 (fun j hj h => by have := HV6.out; omega))
          clear HMX
          have HMX := HMY
          clear HMY hm4 h4
          clear HZ6
          clear HZ7
          have HZ7 := HZ7'
          clear HZ7'
          generalize (((y4.setCell ⟨y2.heap.size, 0, none⟩ (.bool a.leaf)).setCell ⟨y2.heap.size, 1, none⟩ (.slice a.ka a.keys.length a.kc)).setCell ⟨y2.heap.size, 2, none⟩ (.slice a.va a.values.length a.vc)).setCell ⟨y2.heap.size, 3, none⟩ (.slice a.ia a.kids.length a.ic) = y5 at *
          refine hK.out _ _ (HUp.out _ HMX.out) (fun hHeld2 => ?_)
          clear hK K hHeld
          have hHeld := hHeld2
          clear hHeld2
          try simp only [Act.put, List.setIfInBounds_toArray, List.set_cons_zero, List.set_cons_succ]
          refine wpAnyH_ready (rs := [9]) (by kernel_rfl) (by simp) (AllReadyH.cons rfl (fun K hK => ?_) AllReadyH.nil)
          obtain ⟨c0, c1, c2, c3⟩ := cells4 HZ7.out
          have f0 := frozen_of_row _ _ 0 _ _ HZ7.out
          have f1 := frozen_of_row _ _ 1 _ _ HZ7.out
          have f2 := frozen_of_row _ _ 2 _ _ HZ7.out
          have f3 := frozen_of_row _ _ 3 _ _ HZ7.out
          go_simp
          clear c0 c1 c2 c3 f0 f1 f2 f3
          have h4 : ((((y5.setCell ⟨y3.heap.size, 0, none⟩ (.bool b.leaf)).setCell ⟨y3.heap.size, 1, none⟩ (.slice b.ka b.keys.length b.kc)).setCell ⟨y3.heap.size, 2, none⟩ (.slice b.va b.values.length b.vc)).setCell ⟨y3.heap.size, 3, none⟩ (.slice b.ia b.kids.length b.ic)).heap[y3.heap.size]? = some (.cells #[.bool b.leaf, .slice b.ka b.keys.length b.kc, .slice b.va b.values.length b.vc, .slice b.ia b.kids.length b.ic] 26 (0, 0)) := put4_at HZ7.out (.bool b.leaf) (.slice b.ka b.keys.length b.kc) (.slice b.va b.values.length b.vc) (.slice b.ia b.kids.length b.ic)
          have hm4 : Mod (fun j => j = y3.heap.size) y5 ((((y5.setCell ⟨y3.heap.size, 0, none⟩ (.bool b.leaf)).setCell ⟨y3.heap.size, 1, none⟩ (.slice b.ka b.keys.length b.kc)).setCell ⟨y3.heap.size, 2, none⟩ (.slice b.va b.values.length b.vc)).setCell ⟨y3.heap.size, 3, none⟩ (.slice b.ia b.kids.length b.ic)) := put4_mod y5 (y3.heap.size) (.bool b.leaf) (.slice b.ka b.keys.length b.kc) (.slice b.va b.values.length b.vc) (.slice b.ia b.kids.length b.ic)
          have HBb : Hid _ := hid h4
          have HBa' := hid ((hm4.block _ (lt_of_heap HBa.out) (fun h => HNe.out (by first | exact h | exact h.symm))).trans HBa.out)
          have HTa' := hid (HTa.out.mod hm4 (fun b hb h => HDa7.out b hb h))
          have HTb' := hid (HTb.out.mod hm4 (fun b hb h => HDb7.out b hb h))
          clear HTa HTb
          have HTa := HTa'
          have HTb := HTb'
          clear HTa' HTb'
          have HMY : Hid (Mod (fun _ => False) V ((((y5.setCell ⟨y3.heap.size, 0, none⟩ (.bool b.leaf)).setCell ⟨y3.heap.size, 1, none⟩ (.slice b.ka b.keys.length b.kc)).setCell ⟨y3.heap.size, 2, none⟩ (.slice b.va b.values.length b.vc)).setCell ⟨y3.heap.size, 3, none⟩ (.slice b.ia b.kids.length b.ic))) := hid (HMX.out.then hm4 (fun j hj h => by have := HV7.out; omega))
          clear HMX
          have HMX := HMY
          clear HMY hm4 h4
          clear HZ7
          clear HBa
          have HBa := HBa'
          clear HBa'
          generalize (((y5.setCell ⟨y3.heap.size, 0, none⟩ (.bool b.leaf)).setCell ⟨y3.heap.size, 1, none⟩ (.slice b.ka b.keys.length b.kc)).setCell ⟨y3.heap.size, 2, none⟩ (.slice b.va b.values.length b.vc)).setCell ⟨y3.heap.size, 3, none⟩ (.slice b.ia b.kids.length b.ic) = y6 at *
          refine hK.out _ _ (HUp.out _ HMX.out) (fun hHeld2 => ?_)
          clear hK K hHeld
          have hHeld := hHeld2
          clear hHeld2
          try simp only [Act.put, List.setIfInBounds_toArray, List.set_cons_zero, List.set_cons_succ]
          refine wpAnyH_done (by kernel_rfl) ?_ _
          clear hHeld
          go_wp2_with fail
          go_meet
          case rel => exact ⟨_, _, a, b, rfl, rfl, HBa.out, HBb.out, HTa.out.l, HTb.out.l, HTa.out.g, HTb.out.g, HMX.out⟩
        · go_simp
          have hmn : Mod (fun _ => False) y2 (y2.alloc (.cells #[.bool false, .slice none 0 0, .slice none 0 0, .slice none 0 0] 26)) := (Mod.refl _ _).alloc _
          have HMY : Hid (Mod (fun _ => False) V (y2.alloc (.cells #[.bool false, .slice none 0 0, .slice none 0 0, .slice none 0 0] 26))) := hid (HMX.out.trans hmn)
          have HZn7 : Hid ((y2.alloc (.cells #[.bool false, .slice none 0 0, .slice none 0 0, .slice none 0 0] 26)).heap[y2.heap.size]? = some (.cells #[.bool false, .slice none 0 0, .slice none 0 0, .slice none 0 0] 26 (0, 0))) := hid (heap_alloc_new _ _)
          have HTa' := hid (HTa.out.mod hmn (fun _ _ h => h))
          have HDa7 : Hid (∀ z, a.bs z → z ≠ y2.heap.size) := hid (fun z hz h => by have := HTa.out.g.lt hz; omega)
          clear HTa
          have HTa := HTa'
          clear HTa'
          have HTb' := hid (HTb.out.mod hmn (fun _ _ h => h))
          have HDb7 : Hid (∀ z, b.bs z → z ≠ y2.heap.size) := hid (fun z hz h => by have := HTb.out.g.lt hz; omega)
          clear HTb
          have HTb := HTb'
          clear HTb'
          have HV7 : Hid (V.heap.size ≤ y2.heap.size) := hid HMX.out.size
          have HZ7 := HZn7
          clear HZn7 HMX hmn
          have HMX := HMY
          clear HMY
          generalize (y2.alloc (.cells #[.bool false, .slice none 0 0, .slice none 0 0, .slice none 0 0] 26)) = y3 at *
          refine hK.out _ _ (HUp.out _ HMX.out) (fun hHeld2 => ?_)
          clear hK K hHeld
          have hHeld := hHeld2
          clear hHeld2
          try simp only [Act.put, List.setIfInBounds_toArray, List.set_cons_zero, List.set_cons_succ]
          refine wpAnyH_ready (rs := [6]) (by kernel_rfl) (by simp) (AllReadyH.cons rfl (fun K hK => ?_) AllReadyH.nil)
          go_simp
          have hmn : Mod (fun _ => False) y3 (y3.alloc (.cells #[.bool false, .slice none 0 0, .slice none 0 0, .slice none 0 0] 26)) := (Mod.refl _ _).alloc _
          have HMY : Hid (Mod (fun _ => False) V (y3.alloc (.cells #[.bool false, .slice none 0 0, .slice none 0 0, .slice none 0 0] 26))) := hid (HMX.out.trans hmn)
          have HZn6 : Hid ((y3.alloc (.cells #[.bool false, .slice none 0 0, .slice none 0 0, .slice none 0 0] 26)).heap[y3.heap.size]? = some (.cells #[.bool false, .slice none 0 0, .slice none 0 0, .slice none 0 0] 26 (0, 0))) := hid (heap_alloc_new _ _)
          have HZ7' := hid ((hmn.block _ (lt_of_heap HZ7.out) (fun h => h)).trans HZ7.out)
          have HTa' := hid (HTa.out.mod hmn (fun _ _ h => h))
          have HDa6 : Hid (∀ z, a.bs z → z ≠ y3.heap.size) := hid (fun z hz h => by have := HTa.out.g.lt hz; omega)
          clear HTa
          have HTa := HTa'
          clear HTa'
          have HTb' := hid (HTb.out.mod hmn (fun _ _ h => h))
          have HDb6 : Hid (∀ z, b.bs z → z ≠ y3.heap.size) := hid (fun z hz h => by have := HTb.out.g.lt hz; omega)
          clear HTb
          have HTb := HTb'
          clear HTb'
          have HNe : Hid (y2.heap.size ≠ y3.heap.size) := hid (fun h => by have := lt_of_heap HZ7.out; omega)
          clear HZ7
          have HZ7 := HZ7'
          clear HZ7'
          have HV6 : Hid (V.heap.size ≤ y3.heap.size) := hid HMX.out.size
          have HZ6 := HZn6
          clear HZn6 HMX hmn
          have HMX := HMY
          clear HMY
          generalize (y3.alloc (.cells #[.bool false, .slice none 0 0, .slice none 0 0, .slice none 0 0] 26)) = y4 at *
          refine hK.out _ _ (HUp.out _ HMX.out) (fun hHeld2 => ?_)
          clear hK K hHeld
          have hHeld := hHeld2
          clear hHeld2
          try simp only [Act.put, List.setIfInBounds_toArray, List.set_cons_zero, List.set_cons_succ]
          refine wpAnyH_ready (rs := [8]) (by kernel_rfl) (by simp) (AllReadyH.cons rfl (fun K hK => ?_) AllReadyH.nil)
          obtain ⟨c0, c1, c2, c3⟩ := cells4 HZ6.out
          have f0 := frozen_of_row _ _ 0 _ _ HZ6.out
          have f1 := frozen_of_row _ _ 1 _ _ HZ6.out
          have f2 := frozen_of_row _ _ 2 _ _ HZ6.out
          have f3 := frozen_of_row _ _ 3 _ _ HZ6.out
          go_simp
          clear c0 c1 c2 c3 f0 f1 f2 f3
          have h4 : ((((y4.setCell ⟨y3.heap.size, 0, none⟩ (.bool a.leaf)).setCell ⟨y3.heap.size, 1, none⟩ (.slice a.ka a.keys.length a.kc)).setCell ⟨y3.heap.size, 2, none⟩ (.slice a.va a.values.length a.vc)).setCell ⟨y3.heap.size, 3, none⟩ (.slice a.ia a.kids.length a.ic)).heap[y3.heap.size]? = some (.cells #[.bool a.leaf, .slice a.ka a.keys.length a.kc, .slice a.va a.values.length a.vc, .slice a.ia a.kids.length a.ic] 26 (0, 0)) := put4_at HZ6.out (.bool a.leaf) (.slice a.ka a.keys.length a.kc) (.slice a.va a.values.length a.vc) (.slice a.ia a.kids.length a.ic)
          have hm4 : Mod (fun j => j = y3.heap.size) y4 ((((y4.setCell ⟨y3.heap.size, 0, none⟩ (.bool a.leaf)).setCell ⟨y3.heap.size, 1, none⟩ (.slice a.ka a.keys.length a.kc)).setCell ⟨y3.heap.size, 2, none⟩ (.slice a.va a.values.length a.vc)).setCell ⟨y3.heap.size, 3, none⟩ (.slice a.ia a.kids.length a.ic)) := put4_mod y4 (y3.heap.size) (.bool a.leaf) (.slice a.ka a.keys.length a.kc) (.slice a.va a.values.length a.vc) (.slice a.ia a.kids.length a.ic)
          have HZ7' := hid ((hm4.block _ (lt_of_heap HZ7.out) (fun h => HNe.out (by first | exact h | exact h.symm))).trans HZ7.out)
          have HBa : Hid _ := hid h4
          have HTa' := hid (HTa.out.mod hm4 (fun b hb h => HDa6.out b hb h))
          have HTb' := hid (HTb.out.mod hm4 (fun b hb h => HDb6.out b hb h))
          clear HTa HTb
          have HTa := HTa'
          have HTb := HTb'
          clear HTa' HTb'
          have HMY : Hid (Mod (fun _ => False) V ((((y4.setCell ⟨y3.heap.size, 0, none⟩ (.bool a.leaf)).setCell ⟨y3.heap.size, 1, none⟩ (.slice a.ka a.keys.length a.kc)).setCell ⟨y3.heap.size, 2, none⟩ (.slice a.va a.values.length a.vc)).setCell ⟨y3.heap.size, 3, none⟩ (.slice a.ia a.kids.length a.ic))) := hid (HMX.out.then hm4 (fun j hj h => by have := HV6.out; omega))
          clear HMX
          have HMX := HMY
          clear HMY hm4 h4
          clear HZ6
          clear HZ7
          have HZ7 := HZ7'
          clear HZ7'
          generalize (((y4.setCell ⟨y3.heap.size, 0, none⟩ (.bool a.leaf)).setCell ⟨y3.heap.size, 1, none⟩ (.slice a.ka a.keys.length a.kc)).setCell ⟨y3.heap.size, 2, none⟩ (.slice a.va a.values.length a.vc)).setCell ⟨y3.heap.size, 3, none⟩ (.slice a.ia a.kids.length a.ic) = y5 at *
          refine hK.out _ _ (HUp.out _ HMX.out) (fun hHeld2 => ?_)
          clear hK K hHeld
          have hHeld := hHeld2
          clear hHeld2
          try simp only [Act.put, List.setIfInBounds_toArray, List.set_cons_zero, List.set_cons_succ]
          refine wpAnyH_ready (rs := [9]) (by kernel_rfl) (by simp) (AllReadyH.cons rfl (fun K hK => ?_) AllReadyH.nil)
          obtain ⟨c0, c1, c2, c3⟩ := cells4 HZ7.out
          have f0 := frozen_of_row _ _ 0 _ _ HZ7.out
          have f1 := frozen_of_row _ _ 1 _ _ HZ7.out
          have f2 := frozen_of_row _ _ 2 _ _ HZ7.out
          have f3 := frozen_of_row _ _ 3 _ _ HZ7.out
          go_simp
          clear c0 c1 c2 c3 f0 f1 f2 f3
          have h4 : ((((y5.setCell ⟨y2.heap.size, 0, none⟩ (.bool b.leaf)).setCell ⟨y2.heap.size, 1, none⟩ (.slice b.ka b.keys.length b.kc)).setCell ⟨y2.heap.size, 2, none⟩ (.slice b.va b.values.length b.vc)).setCell ⟨y2.heap.size, 3, none⟩ (.slice b.ia b.kids.length b.ic)).heap[y2.heap.size]? = some (.cells #[.bool b.leaf, .slice b.ka b.keys.length b.kc, .slice b.va b.values.length b.vc, .slice b.ia b.kids.length b.ic] 26 (0, 0)) := put4_at HZ7.out (.bool b.leaf) (.slice b.ka b.keys.length b.kc) (.slice b.va b.values.length b.vc) (.slice b.ia b.kids.length b.ic)
          have hm4 : Mod (fun j => j = y2.heap.size) y5 ((((y5.setCell ⟨y2.heap.size, 0, none⟩ (.bool b.leaf)).setCell ⟨y2.heap.size, 1, none⟩ (.slice b.ka b.keys.length b.kc)).setCell ⟨y2.heap.size, 2, none⟩ (.slice b.va b.values.length b.vc)).setCell ⟨y2.heap.size, 3, none⟩ (.slice b.ia b.kids.length b.ic)) := put4_mod y5 (y2.heap.size) (.bool b.leaf) (.slice b.ka b.keys.length b.kc) (.slice b.va b.values.length b.vc) (.slice b.ia b.kids.length b.ic)
          have HBb : Hid _ := hid h4
          have HBa' := hid ((hm4.block _ (lt_of_heap HBa.out) (fun h => HNe.out (by first | exact h | exact h.symm))).trans HBa.out)
          have HTa' := hid (HTa.out.mod hm4 (fun b hb h => HDa7.out b hb h))
          have HTb' := hid (HTb.out.mod hm4 (fun b hb h => HDb7.out b hb h))
          clear HTa HTb
          have HTa := HTa'
          have HTb := HTb'
          clear HTa' HTb'
          have HMY : Hid (Mod (fun _ => False) V ((((y5.setCell ⟨y2.heap.size, 0, none⟩ (.bool b.leaf)).setCell ⟨y2.heap.size, 1, none⟩ (.slice b.ka b.keys.length b.kc)).setCell ⟨y2.heap.size, 2, none⟩ (.slice b.va b.values.length b.vc)).setCell ⟨y2.heap.size, 3, none⟩ (.slice b.ia b.kids.length b.ic))) := hid (HMX.out.then hm4 (fun j hj h => by have := HV7.out; omega))
          clear HMX
          have HMX := HMY
          clear HMY hm4 h4
          clear HZ7
          clear HBa
          have HBa := HBa'
          clear HBa'
          generalize (((y5.setCell ⟨y2.heap.size, 0, none⟩ (.bool b.leaf)).setCell ⟨y2.heap.size, 1, none⟩ (.slice b.ka b.keys.length b.kc)).setCell ⟨y2.heap.size, 2, none⟩ (.slice b.va b.values.length b.vc)).setCell ⟨y2.heap.size, 3, none⟩ (.slice b.ia b.kids.length b.ic) = y6 at *
          refine hK.out _ _ (HUp.out _ HMX.out) (fun hHeld2 => ?_)
          clear hK K hHeld
          have hHeld := hHeld2
          clear hHeld2
          try simp only [Act.put, List.setIfInBounds_toArray, List.set_cons_zero, List.set_cons_succ]
          refine wpAnyH_done (by kernel_rfl) ?_ _
          clear hHeld
          go_wp2_with fail
          go_meet
          case rel => exact ⟨_, _, a, b, rfl, rfl, HBa.out, HBb.out, HTa.out.l, HTb.out.l, HTa.out.g, HTb.out.g, HMX.out⟩
      · go_simp
        have hmn : Mod (fun _ => False) y1 (y1.alloc (.cells #[.bool false, .slice none 0 0, .slice none 0 0, .slice none 0 0] 26)) := (Mod.refl _ _).alloc _
        have HMY : Hid (Mod (fun _ => False) V (y1.alloc (.cells #[.bool false, .slice none 0 0, .slice none 0 0, .slice none 0 0] 26))) := hid (HMX.out.trans hmn)
        have HZn6 : Hid ((y1.alloc (.cells #[.bool false, .slice none 0 0, .slice none 0 0, .slice none 0 0] 26)).heap[y1.heap.size]? = some (.cells #[.bool false, .slice none 0 0, .slice none 0 0, .slice none 0 0] 26 (0, 0))) := hid (heap_alloc_new _ _)
        have HTa' := hid (HTa.out.mod hmn (fun _ _ h => h))
        have HDa6 : Hid (∀ z, a.bs z → z ≠ y1.heap.size) := hid (fun z hz h => by have := HTa.out.g.lt hz; omega)
        clear HTa
        have HTa := HTa'
        clear HTa'
        have HV6 : Hid (V.heap.size ≤ y1.heap.size) := hid HMX.out.size
        have HZ6 := HZn6
        clear HZn6 HMX hmn
        have HMX := HMY
        clear HMY
        generalize (y1.alloc (.cells #[.bool false, .slice none 0 0, .slice none 0 0, .slice none 0 0] 26)) = y2 at *
        refine hK.out _ _ (HUp.out _ HMX.out) (fun hHeld2 => ?_)
        clear hK K hHeld
        have hHeld := hHeld2
        clear hHeld2
        try simp only [Act.put, List.setIfInBounds_toArray, List.set_cons_zero, List.set_cons_succ]
        refine wpAnyH_ready (rs := [5, 7]) (by kernel_rfl) (by simp) (AllReadyH.cons rfl (fun K hK => ?_) (AllReadyH.cons rfl (fun K hK => ?_) AllReadyH.nil))
        · go_simp
          refine (HTw2.out y2 HMX.out).mono ?_
          rintro e y3 ⟨b, a1, a2, a3, a4, rfl, hg, hmn, hbn⟩
          have HTb : Hid (TwA y3 p b) := hid ⟨⟨a1, a2, a3, a4⟩, hg⟩
          have HZ6' := hid ((hmn.block _ (lt_of_heap HZ6.out) (fun h => h)).trans HZ6.out)
          have HDb6 : Hid (∀ z, b.bs z → z ≠ y1.heap.size) := hid (fun z hz h => by have := hbn z hz; have := lt_of_heap HZ6.out; omega)
          clear HZ6
          have HZ6 := HZ6'
          clear HZ6'
          have HTa' := hid (HTa.out.mod hmn (fun _ _ h => h))
          clear HTa
          have HTa := HTa'
          clear HTa'
          have HMY : Hid (Mod (fun _ => False) V y3) := hid (HMX.out.trans hmn)
          clear HMX hmn hbn hg a1 a2 a3 a4
          have HMX := HMY
          clear HMY
          refine hK.out _ _ (HUp.out _ HMX.out) (fun hHeld2 => ?_)
          clear hK K hHeld
          have hHeld := hHeld2
          clear hHeld2
          try simp only [Act.put, List.setIfInBounds_toArray, List.set_cons_zero, List.set_cons_succ]
          refine wpAnyH_ready (rs := [7]) (by kernel_rfl) (by simp) (AllReadyH.cons rfl (fun K hK => ?_) AllReadyH.nil)
          go_simp
          have hmn : Mod (fun _ => False) y3 (y3.alloc (.cells #[.bool false, .slice none 0 0, .slice none 0 0, .slice none 0 0] 26)) := (Mod.refl _ _).alloc _
          have HMY : Hid (Mod (fun _ => False) V (y3.alloc (.cells #[.bool false, .slice none 0 0, .slice none 0 0, .slice none 0 0] 26))) := hid (HMX.out.trans hmn)
          have HZn7 : Hid ((y3.alloc (.cells #[.bool false, .slice none 0 0, .slice none 0 0, .slice none 0 0] 26)).heap[y3.heap.size]? = some (.cells #[.bool false, .slice none 0 0, .slice none 0 0, .slice none 0 0] 26 (0, 0))) := hid (heap_alloc_new _ _)
          have HZ6' := hid ((hmn.block _ (lt_of_heap HZ6.out) (fun h => h)).trans HZ6.out)
          have HTa' := hid (HTa.out.mod hmn (fun _ _ h => h))
          have HDa7 : Hid (∀ z, a.bs z → z ≠ y3.heap.size) := hid (fun z hz h => by have := HTa.out.g.lt hz; omega)
          clear HTa
          have HTa := HTa'
          clear HTa'
          have HTb' := hid (HTb.out.mod hmn (fun _ _ h => h))
          have HDb7 : Hid (∀ z, b.bs z → z ≠ y3.heap.size) := hid (fun z hz h => by have := HTb.out.g.lt hz; omega)
          clear HTb
          have HTb := HTb'
          clear HTb'
          have HNe : Hid (y1.heap.size ≠ y3.heap.size) := hid (fun h => by have := lt_of_heap HZ6.out; omega)
          clear HZ6
          have HZ6 := HZ6'
          clear HZ6'
          have HV7 : Hid (V.heap.size ≤ y3.heap.size) := hid HMX.out.size
          have HZ7 := HZn7
          clear HZn7 HMX hmn
          have HMX := HMY
          clear HMY
          generalize (y3.alloc (.cells #[.bool false, .slice none 0 0, .slice none 0 0, .slice none 0 0] 26)) = y4 at *
          refine hK.out _ _ (HUp.out _ HMX.out) (fun hHeld2 => ?_)
          clear hK K hHeld
          have hHeld := hHeld2
          clear hHeld2
          try simp only [Act.put, List.setIfInBounds_toArray, List.set_cons_zero, List.set_cons_succ]
          refine wpAnyH_ready (rs := [8]) (by kernel_rfl) (by simp) (AllReadyH.cons rfl (fun K hK => ?_) AllReadyH.nil)
          obtain ⟨c0, c1, c2, c3⟩ := cells4 HZ6.out
          have f0 := frozen_of_row _ _ 0 _ _ HZ6.out
          have f1 := frozen_of_row _ _ 1 _ _ HZ6.out
          have f2 := frozen_of_row _ _ 2 _ _ HZ6.out
          have f3 := frozen_of_row _ _ 3 _ _ HZ6.out
          go_simp
          clear c0 c1 c2 c3 f0 f1 f2 f3
          have h4 : ((((y4.setCell ⟨y1.heap.size, 0, none⟩ (.bool a.leaf)).setCell ⟨y1.heap.size, 1, none⟩ (.slice a.ka a.keys.length a.kc)).setCell ⟨y1.heap.size, 2, none⟩ (.slice a.va a.values.length a.vc)).setCell ⟨y1.heap.size, 3, none⟩ (.slice a.ia a.kids.length a.ic)).heap[y1.heap.size]? = some (.cells #[.bool a.leaf, .slice a.ka a.keys.length a.kc, .slice a.va a.values.length a.vc, .slice a.ia a.kids.length a.ic] 26 (0, 0)) := put4_at HZ6.out (.bool a.leaf) (.slice a.ka a.keys.length a.kc) (.slice a.va a.values.length a.vc) (.slice a.ia a.kids.length a.ic)
          have hm4 : Mod (fun j => j = y1.heap.size) y4 ((((y4.setCell ⟨y1.heap.size, 0, none⟩ (.bool a.leaf)).setCell ⟨y1.heap.size, 1, none⟩ (.slice a.ka a.keys.length a.kc)).setCell ⟨y1.heap.size, 2, none⟩ (.slice a.va a.values.length a.vc)).setCell ⟨y1.heap.size, 3, none⟩ (.slice a.ia a.kids.length a.ic)) := put4_mod y4 (y1.heap.size) (.bool a.leaf) (.slice a.ka a.keys.length a.kc) (.slice a.va a.values.length a.vc) (.slice a.ia a.kids.length a.ic)
          have HZ7' := hid ((hm4.block _ (lt_of_heap HZ7.out) (fun h => HNe.out (by first | exact h | exact h.symm))).trans HZ7.out)
          have HBa : Hid _ := hid h4
          have HTa' := hid (HTa.out.mod hm4 (fun b hb h => HDa6.out b hb h))
          have HTb' := hid (HTb.out.mod hm4 (fun b hb h => HDb6.out b hb h))
          clear HTa HTb
          have HTa := HTa'
          have HTb := HTb'
          clear HTa' HTb'
          have HMY : Hid (Mod (fun _ => False) V ((((y4.setCell ⟨y1.heap.size, 0, none⟩ (.bool a.leaf)).setCell ⟨y1.heap.size, 1, none⟩ (.slice a.ka a.keys.length a.kc)).setCell ⟨y1.heap.size, 2, none⟩ (.slice a.va a.values.length a.vc)).setCell ⟨y1.heap.size, 3, none⟩ (.slice a.ia a.kids.length a.ic))) := hid (HMX.out.then hm4 (fun j hj h => by have := HV6.out; omega))
          clear HMX
          have HMX := HMY
          clear HMY hm4 h4
          clear HZ6
          clear HZ7
          have HZ7 := HZ7'
          clear HZ7'
          generalize (((y4.setCell ⟨y1.heap.size, 0, none⟩ (.bool a.leaf)).setCell ⟨y1.heap.size, 1, none⟩ (.slice a.ka a.keys.length a.kc)).setCell ⟨y1.heap.size, 2, none⟩ (.slice a.va a.values.length a.vc)).setCell ⟨y1.heap.size, 3, none⟩ (.slice a.ia a.kids.length a.ic) = y5 at *
          refine hK.out _ _ (HUp.out _ HMX.out) (fun hHeld2 => ?_)
          clear hK K hHeld
          have hHeld := hHeld2
          clear hHeld2
          try simp only [Act.put, List.setIfInBounds_toArray, List.set_cons_zero, List.set_cons_succ]
          refine wpAnyH_ready (rs := [9]) (by kernel_rfl) (by simp) (AllReadyH.cons rfl (fun K hK => ?_) AllReadyH.nil)
          obtain ⟨c0, c1, c2, c3⟩ := cells4 HZ7.out
          have f0 := frozen_of_row _ _ 0 _ _ HZ7.out
          have f1 := frozen_of_row _ _ 1 _ _ HZ7.out
          have f2 := frozen_of_row _ _ 2 _ _ HZ7.out
          have f3 := frozen_of_row _ _ 3 _ _ HZ7.out
          go_simp
          clear c0 c1 c2 c3 f0 f1 f2 f3
          have h4 : ((((y5.setCell ⟨y3.heap.size, 0, none⟩ (.bool b.leaf)).setCell ⟨y3.heap.size, 1, none⟩ (.slice b.ka b.keys.length b.kc)).setCell ⟨y3.heap.size, 2, none⟩ (.slice b.va b.values.length b.vc)).setCell ⟨y3.heap.size, 3, none⟩ (.slice b.ia b.kids.length b.ic)).heap[y3.heap.size]? = some (.cells #[.bool b.leaf, .slice b.ka b.keys.length b.kc, .slice b.va b.values.length b.vc, .slice b.ia b.kids.length b.ic] 26 (0, 0)) := put4_at HZ7.out (.bool b.leaf) (.slice b.ka b.keys.length b.kc) (.slice b.va b.values.length b.vc) (.slice b.ia b.kids.length b.ic)
          have hm4 : Mod (fun j => j = y3.heap.size) y5 ((((y5.setCell ⟨y3.heap.size, 0, none⟩ (.bool b.leaf)).setCell ⟨y3.heap.size, 1, none⟩ (.slice b.ka b.keys.length b.kc)).setCell ⟨y3.heap.size, 2, none⟩ (.slice b.va b.values.length b.vc)).setCell ⟨y3.heap.size, 3, none⟩ (.slice b.ia b.kids.length b.ic)) := put4_mod y5 (y3.heap.size) (.bool b.leaf) (.slice b.ka b.keys.length b.kc) (.slice b.va b.values.length b.vc) (.slice b.ia b.kids.length b.ic)
          have HBb : Hid _ := hid h4
          have HBa' := hid ((hm4.block _ (lt_of_heap HBa.out) (fun h => HNe.out (by first | exact h | exact h.symm))).trans HBa.out)
          have HTa' := hid (HTa.out.mod hm4 (fun b hb h => HDa7.out b hb h))
          have HTb' := hid (HTb.out.mod hm4 (fun b hb h => HDb7.out b hb h))
          clear HTa HTb
          have HTa := HTa'
          have HTb := HTb'
          clear HTa' HTb'
          have HMY : Hid (Mod (fun _ => False) V ((((y5.setCell ⟨y3.heap.size, 0, none⟩ (.bool b.leaf)).setCell ⟨y3.heap.size, 1, none⟩ (.slice b.ka b.keys.length b.kc)).setCell ⟨y3.heap.size, 2, none⟩ (.slice b.va b.values.length b.vc)).setCell ⟨y3.heap.size, 3, none⟩ (.slice b.ia b.kids.length b.ic))) := hid (HMX.out.then hm4 (fun j hj h => by have := HV7.out; omega))
          clear HMX
          have HMX := HMY
          clear HMY hm4 h4
          clear HZ7
          clear HBa
          have HBa := HBa'
          clear HBa'
          generalize (((y5.setCell ⟨y3.heap.size, 0, none⟩ (.bool b.leaf)).setCell ⟨y3.heap.size, 1, none⟩ (.slice b.ka b.keys.length b.kc)).setCell ⟨y3.heap.size, 2, none⟩ (.slice b.va b.values.length b.vc)).setCell ⟨y3.heap.size, 3, none⟩ (.slice b.ia b.kids.length b.ic) = y6 at *
          refine hK.out _ _ (HUp.out _ HMX.out) (fun hHeld2 => ?_)
          clear hK K hHeld
          have hHeld := hHeld2
          clear hHeld2
          try simp only [Act.put, List.setIfInBounds_toArray, List.set_cons_zero, List.set_cons_succ]
          refine wpAnyH_done (by kernel_rfl) ?_ _
          clear hHeld
          go_wp2_with fail
          go_meet
          case rel => exact ⟨_, _, a, b, rfl, rfl, HBa.out, HBb.out, HTa.out.l, HTb.out.l, HTa.out.g, HTb.out.g, HMX.out⟩
        · go_simp
          have hmn : Mod (fun _ => False) y2 (y2.alloc (.cells #[.bool false, .slice none 0 0, .slice none 0 0, .slice none 0 0] 26)) := (Mod.refl _ _).alloc _
          have HMY : Hid (Mod (fun _ => False) V (y2.alloc (.cells #[.bool false, .slice none 0 0, .slice none 0 0, .slice none 0 0] 26))) := hid (HMX.out.trans hmn)
          have HZn7 : Hid ((y2.alloc (.cells #[.bool false, .slice none 0 0, .slice none 0 0, .slice none 0 0] 26)).heap[y2.heap.size]? = some (.cells #[.bool false, .slice none 0 0, .slice none 0 0, .slice none 0 0] 26 (0, 0))) := hid (heap_alloc_new _ _)
          have HZ6' := hid ((hmn.block _ (lt_of_heap HZ6.out) (fun h => h)).trans HZ6.out)
          have HTa' := hid (HTa.out.mod hmn (fun _ _ h => h))
          have HDa7 : Hid (∀ z, a.bs z → z ≠ y2.heap.size) := hid (fun z hz h => by have := HTa.out.g.lt hz; omega)
          clear HTa
          have HTa := HTa'
          clear HTa'
          have HNe : Hid (y1.heap.size ≠ y2.heap.size) := hid (fun h => by have := lt_of_heap HZ6.out; omega)
          clear HZ6
          have HZ6 := HZ6'
          clear HZ6'
          have HV7 : Hid (V.heap.size ≤ y2.heap.size) := hid HMX.out.size
          have HZ7 := HZn7
          clear HZn7 HMX hmn
          have HMX := HMY
          clear HMY
          generalize (y2.alloc (.cells #[.bool false, .slice none 0 0, .slice none 0 0, .slice none 0 0] 26)) = y3 at *
          refine hK.out _ _ (HUp.out _ HMX.out) (fun hHeld2 => ?_)
          clear hK K hHeld
          have hHeld := hHeld2
          clear hHeld2
          try simp only [Act.put, List.setIfInBounds_toArray, List.set_cons_zero, List.set_cons_succ]
          refine wpAnyH_ready (rs := [5]) (by kernel_rfl) (by simp) (AllReadyH.cons rfl (fun K hK => ?_) AllReadyH.nil)
          go_simp
          refine (HTw2.out y3 HMX.out).mono ?_
          rintro e y4 ⟨b, a1, a2, a3, a4, rfl, hg, hmn, hbn⟩
          have HTb : Hid (TwA y4 p b) := hid ⟨⟨a1, a2, a3, a4⟩, hg⟩
          have HZ6' := hid ((hmn.block _ (lt_of_heap HZ6.out) (fun h => h)).trans HZ6.out)
          have HDb6 : Hid (∀ z, b.bs z → z ≠ y1.heap.size) := hid (fun z hz h => by have := hbn z hz; have := lt_of_heap HZ6.out; omega)
          clear HZ6
          have HZ6 := HZ6'
          clear HZ6'
          have HZ7' := hid ((hmn.block _ (lt_of_heap HZ7.out) (fun h => h)).trans HZ7.out)
          have HDb7 : Hid (∀ z, b.bs z → z ≠ y2.heap.size) := hid (fun z hz h => by have := hbn z hz; have := lt_of_heap HZ7.out; omega)
          clear HZ7
          have HZ7 := HZ7'
          clear HZ7'
          have HTa' := hid (HTa.out.mod hmn (fun _ _ h => h))
          clear HTa
          have HTa := HTa'
          clear HTa'
          have HMY : Hid (Mod (fun _ => False) V y4) := hid (HMX.out.trans hmn)
          clear HMX hmn hbn hg a1 a2 a3 a4
          have HMX := HMY
          clear HMY
          refine hK.out _ _ (HUp.out _ HMX.out) (fun hHeld2 => ?_)
          clear hK K hHeld
          have hHeld := hHeld2
          clear hHeld2
          try simp only [Act.put, List.setIfInBounds_toArray, List.set_cons_zero, List.set_cons_succ]
          refine wpAnyH_ready (rs := [8]) (by kernel_rfl) (by simp) (AllReadyH.cons rfl (fun K hK => ?_) AllReadyH.nil)
          obtain ⟨c0, c1, c2, c3⟩ := cells4 HZ6.out
          have f0 := frozen_of_row _ _ 0 _ _ HZ6.out
          have f1 := frozen_of_row _ _ 1 _ _ HZ6.out
          have f2 := frozen_of_row _ _ 2 _ _ HZ6.out
          have f3 := frozen_of_row _ _ 3 _ _ HZ6.out
          go_simp
          clear c0 c1 c2 c3 f0 f1 f2 f3
          have h4 : ((((y4.setCell ⟨y1.heap.size, 0, none⟩ (.bool a.leaf)).setCell ⟨y1.heap.size, 1, none⟩ (.slice a.ka a.keys.length a.kc)).setCell ⟨y1.heap.size, 2, none⟩ (.slice a.va a.values.length a.vc)).setCell ⟨y1.heap.size, 3, none⟩ (.slice a.ia a.kids.length a.ic)).heap[y1.heap.size]? = some (.cells #[.bool a.leaf, .slice a.ka a.keys.length a.kc, .slice a.va a.values.length a.vc, .slice a.ia a.kids.length a.ic] 26 (0, 0)) := put4_at HZ6.out (.bool a.leaf) (.slice a.ka a.keys.length a.kc) (.slice a.va a.values.length a.vc) (.slice a.ia a.kids.length a.ic)
          have hm4 : Mod (fun j => j = y1.heap.size) y4 ((((y4.setCell ⟨y1.heap.size, 0, none⟩ (.bool a.leaf)).setCell ⟨y1.heap.size, 1, none⟩ (.slice a.ka a.keys.length a.kc)).setCell ⟨y1.heap.size, 2, none⟩ (.slice a.va a.values.length a.vc)).setCell ⟨y1.heap.size, 3, none⟩ (.slice a.ia a.kids.length a.ic)) := put4_mod y4 (y1.heap.size) (.bool a.leaf) (.slice a.ka a.keys.length a.kc) (.slice a.va a.values.length a.vc) (.slice a.ia a.kids.length a.ic)
          have HZ7' := hid ((hm4.block _ (lt_of_heap HZ7.out) (fun h => HNe.out (by first | exact h | exact h.symm))).trans HZ7.out)
          have HBa : Hid _ := hid h4
          have HTa' := hid (HTa.out.mod hm4 (fun b hb h => HDa6.out b hb h))
          have HTb' := hid (HTb.out.mod hm4 (fun b hb h => HDb6.out b hb h))
          clear HTa HTb
          have HTa := HTa'
          have HTb := HTb'
          clear HTa' HTb'
          have HMY : Hid (Mod (fun _ => False) V ((((y4.setCell ⟨y1.heap.size, 0, none⟩ (.bool a.leaf)).setCell ⟨y1.heap.size, 1, none⟩ (.slice a.ka a.keys.length a.kc)).setCell ⟨y1.heap.size, 2, none⟩ (.slice a.va a.values.length a.vc)).setCell ⟨y1.heap.size, 3, none⟩ (.slice a.ia a.kids.length a.ic))) := hid (HMX.out.then hm4 (fun j hj h => by have := HV6.out; omega))
          clear HMX
          have HMX := HMY
          clear HMY hm4 h4
          clear HZ6
          clear HZ7
          have HZ7 := HZ7'
          clear HZ7'
          generalize (((y4.setCell ⟨y1.heap.size, 0, none⟩ (.bool a.leaf)).setCell ⟨y1.heap.size, 1, none⟩ (.slice a.ka a.keys.length a.kc)).setCell ⟨y1.heap.size, 2, none⟩ (.slice a.va a.values.length a.vc)).setCell ⟨y1.heap.size, 3, none⟩ (.slice a.ia a.kids.length a.ic) = y5 at *
          refine hK.out _ _ (HUp.out _ HMX.out) (fun hHeld2 => ?_)
          clear hK K hHeld
          have hHeld := hHeld2
          clear hHeld2
          try simp only [Act.put, List.setIfInBounds_toArray, List.set_cons_zero, List.set_cons_succ]
          refine wpAnyH_ready (rs := [9]) (by kernel_rfl) (by simp) (AllReadyH.cons rfl (fun K hK => ?_) AllReadyH.nil)
          obtain ⟨c0, c1, c2, c3⟩ := cells4 HZ7.out
          have f0 := frozen_of_row _ _ 0 _ _ HZ7.out
          have f1 := frozen_of_row _ _ 1 _ _ HZ7.out
          have f2 := frozen_of_row _ _ 2 _ _ HZ7.out
          have f3 := frozen_of_row _ _ 3 _ _ HZ7.out
          go_simp
          clear c0 c1 c2 c3 f0 f1 f2 f3
          have h4 : ((((y5.setCell ⟨y2.heap.size, 0, none⟩ (.bool b.leaf)).setCell ⟨y2.heap.size, 1, none⟩ (.slice b.ka b.keys.length b.kc)).setCell ⟨y2.heap.size, 2, none⟩ (.slice b.va b.values.length b.vc)).setCell ⟨y2.heap.size, 3, none⟩ (.slice b.ia b.kids.length b.ic)).heap[y2.heap.size]? = some (.cells #[.bool b.leaf, .slice b.ka b.keys.length b.kc, .slice b.va b.values.length b.vc, .slice b.ia b.kids.length b.ic] 26 (0, 0)) := put4_at HZ7.out (.bool b.leaf) (.slice b.ka b.keys.length b.kc) (.slice b.va b.values.length b.vc) (.slice b.ia b.kids.length b.ic)
          have hm4 : Mod (fun j => j = y2.heap.size) y5 ((((y5.setCell ⟨y2.heap.size, 0, none⟩ (.bool b.leaf)).setCell ⟨y2.heap.size, 1, none⟩ (.slice b.ka b.keys.length b.kc)).setCell ⟨y2.heap.size, 2, none⟩ (.slice b.va b.values.length b.vc)).setCell ⟨y2.heap.size, 3, none⟩ (.slice b.ia b.kids.length b.ic)) := put4_mod y5 (y2.heap.size) (.bool b.leaf) (.slice b.ka b.keys.length b.kc) (.slice b.va b.values.length b.vc) (.slice b.ia b.kids.length b.ic)
          have HBb : Hid _ := hid h4
          have HBa' := hid ((hm4.block _ (lt_of_heap HBa.out) (fun h => HNe.out (by first | exact h | exact h.symm))).trans HBa.out)
          have HTa' := hid (HTa.out.mod hm4 (fun b hb h => HDa7.out b hb h))
          have HTb' := hid (HTb.out.mod hm4 (fun b hb h => HDb7.out b hb h))
          clear HTa HTb
          have HTa := HTa'
          have HTb := HTb'
          clear HTa' HTb'
          have HMY : Hid (Mod (fun _ => False) V ((((y5.setCell ⟨y2.heap.size, 0, none⟩ (.bool b.leaf)).setCell ⟨y2.heap.size, 1, none⟩ (.slice b.ka b.keys.length b.kc)).setCell ⟨y2.heap.size, 2, none⟩ (.slice b.va b.values.length b.vc)).setCell ⟨y2.heap.size, 3, none⟩ (.slice b.ia b.kids.length b.ic))) := hid (HMX.out.then hm4 (fun j hj h => by have := HV7.out; omega))
          clear HMX
          have HMX := HMY
          clear HMY hm4 h4
          clear HZ7
          clear HBa
          have HBa := HBa'
          clear HBa'
          generalize (((y5.setCell ⟨y2.heap.size, 0, none⟩ (.bool b.leaf)).setCell ⟨y2.heap.size, 1, none⟩ (.slice b.ka b.keys.length b.kc)).setCell ⟨y2.heap.size, 2, none⟩ (.slice b.va b.values.length b.vc)).setCell ⟨y2.heap.size, 3, none⟩ (.slice b.ia b.kids.length b.ic) = y6 at *
          refine hK.out _ _ (HUp.out _ HMX.out) (fun hHeld2 => ?_)
          clear hK K hHeld
          have hHeld := hHeld2
          clear hHeld2
          try simp only [Act.put, List.setIfInBounds_toArray, List.set_cons_zero, List.set_cons_succ]
          refine wpAnyH_done (by kernel_rfl) ?_ _
          clear hHeld
          go_wp2_with fail
          go_meet
          case rel => exact ⟨_, _, a, b, rfl, rfl, HBa.out, HBb.out, HTa.out.l, HTb.out.l, HTa.out.g, HTb.out.g, HMX.out⟩
      · go_simp
        have hmn : Mod (fun _ => False) y1 (y1.alloc (.cells #[.bool false, .slice none 0 0, .slice none 0 0, .slice none 0 0] 26)) := (Mod.refl _ _).alloc _
        have HMY : Hid (Mod (fun _ => False) V (y1.alloc (.cells #[.bool false, .slice none 0 0, .slice none 0 0, .slice none 0 0] 26))) := hid (HMX.out.trans hmn)
        have HZn7 : Hid ((y1.alloc (.cells #[.bool false, .slice none 0 0, .slice none 0 0, .slice none 0 0] 26)).heap[y1.heap.size]? = some (.cells #[.bool false, .slice none 0 0, .slice none 0 0, .slice none 0 0] 26 (0, 0))) := hid (heap_alloc_new _ _)
        have HTa' := hid (HTa.out.mod hmn (fun _ _ h => h))
        have HDa7 : Hid (∀ z, a.bs z → z ≠ y1.heap.size) := hid (fun z hz h => by have := HTa.out.g.lt hz; omega)
        clear HTa
        have HTa := HTa'
        clear HTa'
        have HV7 : Hid (V.heap.size ≤ y1.heap.size) := hid HMX.out.size
        have HZ7 := HZn7
        clear HZn7 HMX hmn
        have HMX := HMY
        clear HMY
        generalize (y1.alloc (.cells #[.bool false, .slice none 0 0, .slice none 0 0, .slice none 0 0] 26)) = y2 at *
        refine hK.out _ _ (HUp.out _ HMX.out) (fun hHeld2 => ?_)
        clear hK K hHeld
        have hHeld := hHeld2
        clear hHeld2
        try simp only [Act.put, List.setIfInBounds_toArray, List.set_cons_zero, List.set_cons_succ]
        refine wpAnyH_ready (rs := [5, 6]) (by kernel_rfl) (by simp) (AllReadyH.cons rfl (fun K hK => ?_) (AllReadyH.cons rfl (fun K hK => ?_) AllReadyH.nil))
        · go_simp
          refine (HTw2.out y2 HMX.out).mono ?_
          rintro e y3 ⟨b, a1, a2, a3, a4, rfl, hg, hmn, hbn⟩
          have HTb : Hid (TwA y3 p b) := hid ⟨⟨a1, a2, a3, a4⟩, hg⟩
          have HZ7' := hid ((hmn.block _ (lt_of_heap HZ7.out) (fun h => h)).trans HZ7.out)
          have HDb7 : Hid (∀ z, b.bs z → z ≠ y1.heap.size) := hid (fun z hz h => by have := hbn z hz; have := lt_of_heap HZ7.out; omega)
          clear HZ7
          have HZ7 := HZ7'
          clear HZ7'
          have HTa' := hid (HTa.out.mod hmn (fun _ _ h => h))
          clear HTa
          have HTa := HTa'
          clear HTa'
          have HMY : Hid (Mod (fun _ => False) V y3) := hid (HMX.out.trans hmn)
          clear HMX hmn hbn hg a1 a2 a3 a4
          have HMX := HMY
          clear HMY
          refine hK.out _ _ (HUp.out _ HMX.out) (fun hHeld2 => ?_)
          clear hK K hHeld
          have hHeld := hHeld2
          clear hHeld2
          try simp only [Act.put, List.setIfInBounds_toArray, List.set_cons_zero, List.set_cons_succ]
          refine wpAnyH_ready (rs := [6]) (by kernel_rfl) (by simp) (AllReadyH.cons rfl (fun K hK => ?_) AllReadyH.nil)
          go_simp
          have hmn : Mod (fun _ => False) y3 (y3.alloc (.cells #[.bool false, .slice none 0 0, .slice none 0 0, .slice none 0 0] 26)) := (Mod.refl _ _).alloc _
          have HMY : Hid (Mod (fun _ => False) V (y3.alloc (.cells #[.bool false, .slice none 0 0, .slice none 0 0, .slice none 0 0] 26))) := hid (HMX.out.trans hmn)
          have HZn6 : Hid ((y3.alloc (.cells #[.bool false, .slice none 0 0, .slice none 0 0, .slice none 0 0] 26)).heap[y3.heap.size]? = some (.cells #[.bool false, .slice none 0 0, .slice none 0 0, .slice none 0 0] 26 (0, 0))) := hid (heap_alloc_new _ _)
          have HZ7' := hid ((hmn.block _ (lt_of_heap HZ7.out) (fun h => h)).trans HZ7.out)
          have HTa' := hid (HTa.out.mod hmn (fun _ _ h => h))
          have HDa6 : Hid (∀ z, a.bs z → z ≠ y3.heap.size) := hid (fun z hz h => by have := HTa.out.g.lt hz; omega)
          clear HTa
          have HTa := HTa'
          clear HTa'
          have HTb' := hid (HTb.out.mod hmn (fun _ _ h => h))
          have HDb6 : Hid (∀ z, b.bs z → z ≠ y3.heap.size) := hid (fun z hz h => by have := HTb.out.g.lt hz; omega)
          clear HTb
          have HTb := HTb'
          clear HTb'
          have HNe : Hid (y1.heap.size ≠ y3.heap.size) := hid (fun h => by have := lt_of_heap HZ7.out; omega)
          clear HZ7
          have HZ7 := HZ7'
          clear HZ7'
          have HV6 : Hid (V.heap.size ≤ y3.heap.size) := hid HMX.out.size
          have HZ6 := HZn6
          clear HZn6 HMX hmn
          have HMX := HMY
          clear HMY
          generalize (y3.alloc (.cells #[.bool false, .slice none 0 0, .slice none 0 0, .slice none 0 0] 26)) = y4 at *
          refine hK.out _ _ (HUp.out _ HMX.out) (fun hHeld2 => ?_)
          clear hK K hHeld
          have hHeld := hHeld2
          clear hHeld2
          try simp only [Act.put, List.setIfInBounds_toArray, List.set_cons_zero, List.set_cons_succ]
          refine wpAnyH_ready (rs := [8]) (by kernel_rfl) (by simp) (AllReadyH.cons rfl (fun K hK => ?_) AllReadyH.nil)
          obtain ⟨c0, c1, c2, c3⟩ := cells4 HZ6.out
          have f0 := frozen_of_row _ _ 0 _ _ HZ6.out
          have f1 := frozen_of_row _ _ 1 _ _ HZ6.out
          have f2 := frozen_of_row _ _ 2 _ _ HZ6.out
          have f3 := frozen_of_row _ _ 3 _ _ HZ6.out
          go_simp
          clear c0 c1 c2 c3 f0 f1 f2 f3
          have h4 : ((((y4.setCell ⟨y3.heap.size, 0, none⟩ (.bool a.leaf)).setCell ⟨y3.heap.size, 1, none⟩ (.slice a.ka a.keys.length a.kc)).setCell ⟨y3.heap.size, 2, none⟩ (.slice a.va a.values.length a.vc)).setCell ⟨y3.heap.size, 3, none⟩ (.slice a.ia a.kids.length a.ic)).heap[y3.heap.size]? = some (.cells #[.bool a.leaf, .slice a.ka a.keys.length a.kc, .slice a.va a.values.length a.vc, .slice a.ia a.kids.length a.ic] 26 (0, 0)) := put4_at HZ6.out (.bool a.leaf) (.slice a.ka a.keys.length a.kc) (.slice a.va a.values.length a.vc) (.slice a.ia a.kids.length a.ic)
          have hm4 : Mod (fun j => j = y3.heap.size) y4 ((((y4.setCell ⟨y3.heap.size, 0, none⟩ (.bool a.leaf)).setCell ⟨y3.heap.size, 1, none⟩ (.slice a.ka a.keys.length a.kc)).setCell ⟨y3.heap.size, 2, none⟩ (.slice a.va a.values.length a.vc)).setCell ⟨y3.heap.size, 3, none⟩ (.slice a.ia a.kids.length a.ic)) := put4_mod y4 (y3.heap.size) (.bool a.leaf) (.slice a.ka a.keys.length a.kc) (.slice a.va a.values.length a.vc) (.slice a.ia a.kids.length a.ic)
          have HZ7' := hid ((hm4.block _ (lt_of_heap HZ7.out) (fun h => HNe.out (by first | exact h | exact h.symm))).trans HZ7.out)
          have HBa : Hid _ := hid h4
          have HTa' := hid (HTa.out.mod hm4 (fun b hb h => HDa6.out b hb h))
          have HTb' := hid (HTb.out.mod hm4 (fun b hb h => HDb6.out b hb h))
          clear HTa HTb
          have HTa := HTa'
          have HTb := HTb'
          clear HTa' HTb'
          have HMY : Hid (Mod (fun _ => False) V ((((y4.setCell ⟨y3.heap.size, 0, none⟩ (.bool a.leaf)).setCell ⟨y3.heap.size, 1, none⟩ (.slice a.ka a.keys.length a.kc)).setCell ⟨y3.heap.size, 2, none⟩ (.slice a.va a.values.length a.vc)).setCell ⟨y3.heap.size, 3, none⟩ (.slice a.ia a.kids.length a.ic))) := hid (HMX.out.then hm4 (fun j hj h => by have := HV6.out; omega))
          clear HMX
          have HMX := HMY
          clear HMY hm4 h4
          clear HZ6
          clear HZ7
          have HZ7 := HZ7'
          clear HZ7'
          generalize (((y4.setCell ⟨y3.heap.size, 0, none⟩ (.bool a.leaf)).setCell ⟨y3.heap.size, 1, none⟩ (.slice a.ka a.keys.length a.kc)).setCell ⟨y3.heap.size, 2, none⟩ (.slice a.va a.values.length a.vc)).setCell ⟨y3.heap.size, 3, none⟩ (.slice a.ia a.kids.length a.ic) = y5 at *
          refine hK.out _ _ (HUp.out _ HMX.out) (fun hHeld2 => ?_)
          clear hK K hHeld
          have hHeld := hHeld2
          clear hHeld2
          try simp only [Act.put, List.setIfInBounds_toArray, List.set_cons_zero, List.set_cons_succ]
          refine wpAnyH_ready (rs := [9]) (by kernel_rfl) (by simp) (AllReadyH.cons rfl (fun K hK => ?_) AllReadyH.nil)
          obtain ⟨c0, c1, c2, c3⟩ := cells4 HZ7.out
          have f0 := frozen_of_row _ _ 0 _ _ HZ7.out
          have f1 := frozen_of_row _ _ 1 _ _ HZ7.out
          have f2 := frozen_of_row _ _ 2 _ _ HZ7.out
          have f3 := frozen_of_row _ _ 3 _ _ HZ7.out
          go_simp
          clear c0 c1 c2 c3 f0 f1 f2 f3
          have h4 : ((((y5.setCell ⟨y1.heap.size, 0, none⟩ (.bool b.leaf)).setCell ⟨y1.heap.size, 1, none⟩ (.slice b.ka b.keys.length b.kc)).setCell ⟨y1.heap.size, 2, none⟩ (.slice b.va b.values.length b.vc)).setCell ⟨y1.heap.size, 3, none⟩ (.slice b.ia b.kids.length b.ic)).heap[y1.heap.size]? = some (.cells #[.bool b.leaf, .slice b.ka b.keys.length b.kc, .slice b.va b.values.length b.vc, .slice b.ia b.kids.length b.ic] 26 (0, 0)) := put4_at HZ7.out (.bool b.leaf) (.slice b.ka b.keys.length b.kc) (.slice b.va b.values.length b.vc) (.slice b.ia b.kids.length b.ic)
          have hm4 : Mod (fun j => j = y1.heap.size) y5 ((((y5.setCell ⟨y1.heap.size, 0, none⟩ (.bool b.leaf)).setCell ⟨y1.heap.size, 1, none⟩ (.slice b.ka b.keys.length b.kc)).setCell ⟨y1.heap.size, 2, none⟩ (.slice b.va b.values.length b.vc)).setCell ⟨y1.heap.size, 3, none⟩ (.slice b.ia b.kids.length b.ic)) := put4_mod y5 (y1.heap.size) (.bool b.leaf) (.slice b.ka b.keys.length b.kc) (.slice b.va b.values.length b.vc) (.slice b.ia b.kids.length b.ic)
          have HBb : Hid _ := hid h4
          have HBa' := hid ((hm4.block _ (lt_of_heap HBa.out) (fun h => HNe.out (by first | exact h | exact h.symm))).trans HBa.out)
          have HTa' := hid (HTa.out.mod hm4 (fun b hb h => HDa7.out b hb h))
          have HTb' := hid (HTb.out.mod hm4 (fun b hb h => HDb7.out b hb h))
          clear HTa HTb
          have HTa := HTa'
          have HTb := HTb'
          clear HTa' HTb'
          have HMY : Hid (Mod (fun _ => False) V ((((y5.setCell ⟨y1.heap.size, 0, none⟩ (.bool b.leaf)).setCell ⟨y1.heap.size, 1, none⟩ (.slice b.ka b.keys.length b.kc)).setCell ⟨y1.heap.size, 2, none⟩ (.slice b.va b.values.length b.vc)).setCell ⟨y1.heap.size, 3, none⟩ (.slice b.ia b.kids.length b.ic))) := hid (HMX.out.then hm4 (fun j hj h => by have := HV7.out; omega))
          clear HMX
          have HMX := HMY
          clear HMY hm4 h4
          clear HZ7
          clear HBa
          have HBa := HBa'
          clear HBa'
          generalize (((y5.setCell ⟨y1.heap.size, 0, none⟩ (.bool b.leaf)).setCell ⟨y1.heap.size, 1, none⟩ (.slice b.ka b.keys.length b.kc)).setCell ⟨y1.heap.size, 2, none⟩ (.slice b.va b.values.length b.vc)).setCell ⟨y1.heap.size, 3, none⟩ (.slice b.ia b.kids.length b.ic) = y6 at *
          refine hK.out _ _ (HUp.out _ HMX.out) (fun hHeld2 => ?_)
          clear hK K hHeld
          have hHeld := hHeld2
          clear hHeld2
          try simp only [Act.put, List.setIfInBounds_toArray, List.set_cons_zero, List.set_cons_succ]
          refine wpAnyH_done (by kernel_rfl) ?_ _
          clear hHeld
          go_wp2_with fail
          go_meet
          case rel => exact ⟨_, _, a, b, rfl, rfl, HBa.out, HBb.out, HTa.out.l, HTb.out.l, HTa.out.g, HTb.out.g, HMX.out⟩
        · go_simp
          have hmn : Mod (fun _ => False) y2 (y2.alloc (.cells #[.bool false, .slice none 0 0, .slice none 0 0, .slice none 0 0] 26)) := (Mod.refl _ _).alloc _
          have HMY : Hid (Mod (fun _ => False) V (y2.alloc (.cells #[.bool false, .slice none 0 0, .slice none 0 0, .slice none 0 0] 26))) := hid (HMX.out.trans hmn)
          have HZn6 : Hid ((y2.alloc (.cells #[.bool false, .slice none 0 0, .slice none 0 0, .slice none 0 0] 26)).heap[y2.heap.size]? = some (.cells #[.bool false, .slice none 0 0, .slice none 0 0, .slice none 0 0] 26 (0, 0))) := hid (heap_alloc_new _ _)
          have HZ7' := hid ((hmn.block _ (lt_of_heap HZ7.out) (fun h => h)).trans HZ7.out)
          have HTa' := hid (HTa.out.mod hmn (fun _ _ h => h))
          have HDa6 : Hid (∀ z, a.bs z → z ≠ y2.heap.size) := hid (fun z hz h => by have := HTa.out.g.lt hz; omega)
          clear HTa
          have HTa := HTa'
          clear HTa'
          have HNe : Hid (y1.heap.size ≠ y2.heap.size) := hid (fun h => by have := lt_of_heap HZ7.out; omega)
          clear HZ7
          have HZ7 := HZ7'
          clear HZ7'
          have HV6 : Hid (V.heap.size ≤ y2.heap.size) := hid HMX.out.size
          have HZ6 := HZn6
          clear HZn6 HMX hmn
          have HMX := HMY
          clear HMY
          generalize (y2.alloc (.cells #[.bool false, .slice none 0 0, .slice none 0 0, .slice none 0 0] 26)) = y3 at *
          refine hK.out _ _ (HUp.out _ HMX.out) (fun hHeld2 => ?_)
          clear hK K hHeld
          have hHeld := hHeld2
          clear hHeld2
          try simp only [Act.put, List.setIfInBounds_toArray, List.set_cons_zero, List.set_cons_succ]
          refine wpAnyH_ready (rs := [5]) (by kernel_rfl) (by simp) (AllReadyH.cons rfl (fun K hK => ?_) AllReadyH.nil)
          go_simp
          refine (HTw2.out y3 HMX.out).mono ?_
          rintro e y4 ⟨b, a1, a2, a3, a4, rfl, hg, hmn, hbn⟩
          have HTb : Hid (TwA y4 p b) := hid ⟨⟨a1, a2, a3, a4⟩, hg⟩
          have HZ7' := hid ((hmn.block _ (lt_of_heap HZ7.out) (fun h => h)).trans HZ7.out)
          have HDb7 : Hid (∀ z, b.bs z → z ≠ y1.heap.size) := hid (fun z hz h => by have := hbn z hz; have := lt_of_heap HZ7.out; omega)
          clear HZ7
          have HZ7 := HZ7'
          clear HZ7'
          have HZ6' := hid ((hmn.block _ (lt_of_heap HZ6.out) (fun h => h)).trans HZ6.out)
          have HDb6 : Hid (∀ z, b.bs z → z ≠ y2.heap.size) := hid (fun z hz h => by have := hbn z hz; have := lt_of_heap HZ6.out; omega)
          clear HZ6
          have HZ6 := HZ6'
          clear HZ6'
          have HTa' := hid (HTa.out.mod hmn (fun _ _ h => h))
          clear HTa
          have HTa := HTa'
          clear HTa'
          have HMY : Hid (Mod (fun _ => False) V y4) := hid (HMX.out.trans hmn)
          clear HMX hmn hbn hg a1 a2 a3 a4
          have HMX := HMY
          clear HMY
          refine hK.out _ _ (HUp.out _ HMX.out) (fun hHeld2 => ?_)
          clear hK K hHeld
          have hHeld := hHeld2
          clear hHeld2
          try simp only [Act.put, List.setIfInBounds_toArray, List.set_cons_zero, List.set_cons_succ]
          refine wpAnyH_ready (rs := [8]) (by kernel_rfl) (by simp) (AllReadyH.cons rfl (fun K hK => ?_) AllReadyH.nil)
          obtain ⟨c0, c1, c2, c3⟩ := cells4 HZ6.out
          have f0 := frozen_of_row _ _ 0 _ _ HZ6.out
          have f1 := frozen_of_row _ _ 1 _ _ HZ6.out
          have f2 := frozen_of_row _ _ 2 _ _ HZ6.out
          have f3 := frozen_of_row _ _ 3 _ _ HZ6.out
          go_simp
          clear c0 c1 c2 c3 f0 f1 f2 f3
          have h4 : ((((y4.setCell ⟨y2.heap.size, 0, none⟩ (.bool a.leaf)).setCell ⟨y2.heap.size, 1, none⟩ (.slice a.ka a.keys.length a.kc)).setCell ⟨y2.heap.size, 2, none⟩ (.slice a.va a.values.length a.vc)).setCell ⟨y2.heap.size, 3, none⟩ (.slice a.ia a.kids.length a.ic)).heap[y2.heap.size]? = some (.cells #[.bool a.leaf, .slice a.ka a.keys.length a.kc, .slice a.va a.values.length a.vc, .slice a.ia a.kids.length a.ic] 26 (0, 0)) := put4_at HZ6.out (.bool a.leaf) (.slice a.ka a.keys.length a.kc) (.slice a.va a.values.length a.vc) (.slice a.ia a.kids.length a.ic)
          have hm4 : Mod (fun j => j = y2.heap.size) y4 ((((y4.setCell ⟨y2.heap.size, 0, none⟩ (.bool a.leaf)).setCell ⟨y2.heap.size, 1, none⟩ (.slice a.ka a.keys.length a.kc)).setCell ⟨y2.heap.size, 2, none⟩ (.slice a.va a.values.length a.vc)).setCell ⟨y2.heap.size, 3, none⟩ (.slice a.ia a.kids.length a.ic)) := put4_mod y4 (y2.heap.size) (.bool a.leaf) (.slice a.ka a.keys.length a.kc) (.slice a.va a.values.length a.vc) (.slice a.ia a.kids.length a.ic)
          have HZ7' := hid ((hm4.block _ (lt_of_heap HZ7.out) (fun h => HNe.out (by first | exact h | exact h.symm))).trans HZ7.out)
          have HBa : Hid _ := hid h4
          have HTa' := hid (HTa.out.mod hm4 (fun b hb h => HDa6.out b hb h))
          have HTb' := hid (HTb.out.mod hm4 (fun b hb h => HDb6.out b hb h))
          clear HTa HTb
          have HTa := HTa'
          have HTb := HTb'
          clear HTa' HTb'
          have HMY : Hid (Mod (fun _ => False) V ((((y4.setCell ⟨y2.heap.size, 0, none⟩ (.bool a.leaf)).setCell ⟨y2.heap.size, 1, none⟩ (.slice a.ka a.keys.length a.kc)).setCell ⟨y2.heap.size, 2, none⟩ (.slice a.va a.values.length a.vc)).setCell ⟨y2.heap.size, 3, none⟩ (.slice a.ia a.kids.length a.ic))) := hid (HMX.out.then hm4 (fun j hj h => by have := HV6.out; omega))
          clear HMX
          have HMX := HMY
          clear HMY hm4 h4
          clear HZ6
          clear HZ7
          have HZ7 := HZ7'
          clear HZ7'
          generalize (((y4.setCell ⟨y2.heap.size, 0, none⟩ (.bool a.leaf)).setCell ⟨y2.heap.size, 1, none⟩ (.slice a.ka a.keys.length a.kc)).setCell ⟨y2.heap.size, 2, none⟩ (.slice a.va a.values.length a.vc)).setCell ⟨y2.heap.size, 3, none⟩ (.slice a.ia a.kids.length a.ic) = y5 at *
          refine hK.out _ _ (HUp.out _ HMX.out) (fun hHeld2 => ?_)
          clear hK K hHeld
          have hHeld := hHeld2
          clear hHeld2
          try simp only [Act.put, List.setIfInBounds_toArray, List.set_cons_zero, List.set_cons_succ]
          refine wpAnyH_ready (rs := [9]) (by kernel_rfl) (by simp) (AllReadyH.cons rfl (fun K hK => ?_) AllReadyH.nil)
          obtain ⟨c0, c1, c2, c3⟩ := cells4 HZ7.out
          have f0 := frozen_of_row _ _ 0 _ _ HZ7.out
          have f1 := frozen_of_row _ _ 1 _ _ HZ7.out
          have f2 := frozen_of_row _ _ 2 _ _ HZ7.out
          have f3 := frozen_of_row _ _ 3 _ _ HZ7.out
          go_simp
          clear c0 c1 c2 c3 f0 f1 f2 f3
          have h4 : ((((y5.setCell ⟨y1.heap.size, 0, none⟩ (.bool b.leaf)).setCell ⟨y1.heap.size, 1, none⟩ (.slice b.ka b.keys.length b.kc)).setCell ⟨y1.heap.size, 2, none⟩ (.slice b.va b.values.length b.vc)).setCell ⟨y1.heap.size, 3, none⟩ (.slice b.ia b.kids.length b.ic)).heap[y1.heap.size]? = some (.cells #[.bool b.leaf, .slice b.ka b.keys.length b.kc, .slice b.va b.values.length b.vc, .slice b.ia b.kids.length b.ic] 26 (0, 0)) := put4_at HZ7.out (.bool b.leaf) (.slice b.ka b.keys.length b.kc) (.slice b.va b.values.length b.vc) (.slice b.ia b.kids.length b.ic)
          have hm4 : Mod (fun j => j = y1.heap.size) y5 ((((y5.setCell ⟨y1.heap.size, 0, none⟩ (.bool b.leaf)).setCell ⟨y1.heap.size, 1, none⟩ (.slice b.ka b.keys.length b.kc)).setCell ⟨y1.heap.size, 2, none⟩ (.slice b.va b.values.length b.vc)).setCell ⟨y1.heap.size, 3, none⟩ (.slice b.ia b.kids.length b.ic)) := put4_mod y5 (y1.heap.size) (.bool b.leaf) (.slice b.ka b.keys.length b.kc) (.slice b.va b.values.length b.vc) (.slice b.ia b.kids.length b.ic)
          have HBb : Hid _ := hid h4
          have HBa' := hid ((hm4.block _ (lt_of_heap HBa.out) (fun h => HNe.out (by first | exact h | exact h.symm))).trans HBa.out)
          have HTa' := hid (HTa.out.mod hm4 (fun b hb h => HDa7.out b hb h))
          have HTb' := hid (HTb.out.mod hm4 (fun b hb h => HDb7.out b hb h))
          clear HTa HTb
          have HTa := HTa'
          have HTb := HTb'
          clear HTa' HTb'
          have HMY : Hid (Mod (fun _ => False) V ((((y5.setCell ⟨y1.heap.size, 0, none⟩ (.bool b.leaf)).setCell ⟨y1.heap.size, 1, none⟩ (.slice b.ka b.keys.length b.kc)).setCell ⟨y1.heap.size, 2, none⟩ (.slice b.va b.values.length b.vc)).setCell ⟨y1.heap.size, 3, none⟩ (.slice b.ia b.kids.length b.ic))) := hid (HMX.out.then hm4 (fun j hj h => by have := HV7.out; omega))
          clear HMX
          have HMX := HMY
          clear HMY hm4 h4
          clear HZ7
          clear HBa
          have HBa := HBa'
          clear HBa'
          generalize (((y5.setCell ⟨y1.heap.size, 0, none⟩ (.bool b.leaf)).setCell ⟨y1.heap.size, 1, none⟩ (.slice b.ka b.keys.length b.kc)).setCell ⟨y1.heap.size, 2, none⟩ (.slice b.va b.values.length b.vc)).setCell ⟨y1.heap.size, 3, none⟩ (.slice b.ia b.kids.length b.ic) = y6 at *
          refine hK.out _ _ (HUp.out _ HMX.out) (fun hHeld2 => ?_)
          clear hK K hHeld
          have hHeld := hHeld2
          clear hHeld2
          try simp only [Act.put, List.setIfInBounds_toArray, List.set_cons_zero, List.set_cons_succ]
          refine wpAnyH_done (by kernel_rfl) ?_ _
          clear hHeld
          go_wp2_with fail
          go_meet
          case rel => exact ⟨_, _, a, b, rfl, rfl, HBa.out, HBb.out, HTa.out.l, HTb.out.l, HTa.out.g, HTb.out.g, HMX.out⟩
    · go_simp
      have hmn : Mod (fun _ => False) y0 (y0.alloc (.cells #[.bool false, .slice none 0 0, .slice none 0 0, .slice none 0 0] 26)) := (Mod.refl _ _).alloc _
      have HMY : Hid (Mod (fun _ => False) V (y0.alloc (.cells #[.bool false, .slice none 0 0, .slice none 0 0, .slice none 0 0] 26))) := hid (HMX.out.trans hmn)
      have HZn6 : Hid ((y0.alloc (.cells #[.bool false, .slice none 0 0, .slice none 0 0, .slice none 0 0] 26)).heap[y0.heap.size]? = some (.cells #[.bool false, .slice none 0 0, .slice none 0 0, .slice none 0 0] 26 (0, 0))) := hid (heap_alloc_new _ _)
      have HV6 : Hid (V.heap.size ≤ y0.heap.size) := hid HMX.out.size
      have HZ6 := HZn6
      clear HZn6 HMX hmn
      have HMX := HMY
      clear HMY
      generalize (y0.alloc (.cells #[.bool false, .slice none 0 0, .slice none 0 0, .slice none 0 0] 26)) = y1 at *
      refine hK.out _ _ (HUp.out _ HMX.out) (fun hHeld2 => ?_)
      clear hK K hHeld
      have hHeld := hHeld2
      clear hHeld2
      try simp only [Act.put, List.setIfInBounds_toArray, List.set_cons_zero, List.set_cons_succ]
      refine wpAnyH_ready (rs := [2, 7]) (by kernel_rfl) (by simp) (AllReadyH.cons rfl (fun K hK => ?_) (AllReadyH.cons rfl (fun K hK => ?_) AllReadyH.nil))
      · go_simp
        refine (HTw1.out y1 HMX.out).mono ?_
        rintro e y2 ⟨a, a1, a2, a3, a4, rfl, hg, hmn, hbn⟩
        have HTa : Hid (TwA y2 n a) := hid ⟨⟨a1, a2, a3, a4⟩, hg⟩
        have HZ6' := hid ((hmn.block _ (lt_of_heap HZ6.out) (fun h => h)).trans HZ6.out)
        have HDa6 : Hid (∀ z, a.bs z → z ≠ y0.heap.size) := hid (fun z hz h => by have := hbn z hz; have := lt_of_heap HZ6.out; omega)
        clear HZ6
        have HZ6 := HZ6'
        clear HZ6'
        have HMY : Hid (Mod (fun _ => False) V y2) := hid (HMX.out.trans hmn)
        clear HMX hmn hbn hg a1 a2 a3 a4
        have HMX := HMY
        clear HMY
        refine hK.out _ _ (HUp.out _ HMX.out) (fun hHeld2 => ?_)
        clear hK K hHeld
        have hHeld := hHeld2
        clear hHeld2
        try simp only [Act.put, List.setIfInBounds_toArray, List.set_cons_zero, List.set_cons_succ]
        refine wpAnyH_ready (rs := [5, 7]) (by kernel_rfl) (by simp) (AllReadyH.cons rfl (fun K hK => ?_) (AllReadyH.cons rfl (fun K hK => ?_) AllReadyH.nil))
        · go_simp
          refine (HTw2.out y2 HMX.out).mono ?_
          rintro e y3 ⟨b, a1, a2, a3, a4, rfl, hg, hmn, hbn⟩
          have HTb : Hid (TwA y3 p b) := hid ⟨⟨a1, a2, a3, a4⟩, hg⟩
          have HZ6' := hid ((hmn.block _ (lt_of_heap HZ6.out) (fun h => h)).trans HZ6.out)
          have HDb6 : Hid (∀ z, b.bs z → z ≠ y0.heap.size) := hid (fun z hz h => by have := hbn z hz; have := lt_of_heap HZ6.out; omega)
          clear HZ6
          have HZ6 := HZ6'
          clear HZ6'
          have HTa' := hid (HTa.out.mod hmn (fun _ _ h => h))
          clear HTa
          have HTa := HTa'
          clear HTa'
          have HMY : Hid (Mod (fun _ => False) V y3) := hid (HMX.out.trans hmn)
          clear HMX hmn hbn hg a1 a2 a3 a4
          have HMX := HMY
          clear HMY
          refine hK.out _ _ (HUp.out _ HMX.out) (fun hHeld2 => ?_)
          clear hK K hHeld
          have hHeld := hHeld2
          clear hHeld2
          try simp only [Act.put, List.setIfInBounds_toArray, List.set_cons_zero, List.set_cons_succ]
          refine wpAnyH_ready (rs := [7]) (by kernel_rfl) (by simp) (AllReadyH.cons rfl (fun K hK => ?_) AllReadyH.nil)
          go_simp
          have hmn : Mod (fun _ => False) y3 (y3.alloc (.cells #[.bool false, .slice none 0 0, .slice none 0 0, .slice none 0 0] 26)) := (Mod.refl _ _).alloc _
          have HMY : Hid (Mod (fun _ => False) V (y3.alloc (.cells #[.bool false, .slice none 0 0, .slice none 0 0, .slice none 0 0] 26))) := hid (HMX.out.trans hmn)
          have HZn7 : Hid ((y3.alloc (.cells #[.bool false, .slice none 0 0, .slice none 0 0, .slice none 0 0] 26)).heap[y3.heap.size]? = some (.cells #[.bool false, .slice none 0 0, .slice none 0 0, .slice none 0 0] 26 (0, 0))) := hid (heap_alloc_new _ _)
          have HZ6' := hid ((hmn.block _ (lt_of_heap HZ6.out) (fun h => h)).trans HZ6.out)
          have HTa' := hid (HTa.out.mod hmn (fun _ _ h => h))
          have HDa7 : Hid (∀ z, a.bs z → z ≠ y3.heap.size) := hid (fun z hz h => by have := HTa.out.g.lt hz; omega)
          clear HTa
          have HTa := HTa'
          clear HTa'
          have HTb' := hid (HTb.out.mod hmn (fun _ _ h => h))
          have HDb7 : Hid (∀ z, b.bs z → z ≠ y3.heap.size) := hid (fun z hz h => by have := HTb.out.g.lt hz; omega)
          clear HTb
          have HTb := HTb'
          clear HTb'
          have HNe : Hid (y0.heap.size ≠ y3.heap.size) := hid (fun h => by have := lt_of_heap HZ6.out; omega)
          clear HZ6
          have HZ6 := HZ6'
          clear HZ6'
          have HV7 : Hid (V.heap.size ≤ y3.heap.size) := hid HMX.out.size
          have HZ7 := HZn7
          clear HZn7 HMX hmn
          have HMX := HMY
          clear HMY
          generalize (y3.alloc (.cells #[.bool false, .slice none 0 0, .slice none 0 0, .slice none 0 0] 26)) = y4 at *
          refine hK.out _ _ (HUp.out _ HMX.out) (fun hHeld2 => ?_)
          clear hK K hHeld
          have hHeld := hHeld2
          clear hHeld2
          try simp only [Act.put, List.setIfInBounds_toArray, List.set_cons_zero, List.set_cons_succ]
          refine wpAnyH_ready (rs := [8]) (by kernel_rfl) (by simp) (AllReadyH.cons rfl (fun K hK => ?_) AllReadyH.nil)
          obtain ⟨c0, c1, c2, c3⟩ := cells4 HZ6.out
          have f0 := frozen_of_row _ _ 0 _ _ HZ6.out
          have f1 := frozen_of_row _ _ 1 _ _ HZ6.out
          have f2 := frozen_of_row _ _ 2 _ _ HZ6.out
          have f3 := frozen_of_row _ _ 3 _ _ HZ6.out
          go_simp
          clear c0 c1 c2 c3 f0 f1 f2 f3
          have h4 : ((((y4.setCell ⟨y0.heap.size, 0, none⟩ (.bool a.leaf)).setCell ⟨y0.heap.size, 1, none⟩ (.slice a.ka a.keys.length a.kc)).setCell ⟨y0.heap.size, 2, none⟩ (.slice a.va a.values.length a.vc)).setCell ⟨y0.heap.size, 3, none⟩ (.slice a.ia a.kids.length a.ic)).heap[y0.heap.size]? = some (.cells #[.bool a.leaf, .slice a.ka a.keys.length a.kc, .slice a.va a.values.length a.vc, .slice a.ia a.kids.length a.ic] 26 (0, 0)) := put4_at HZ6.out (.bool a.leaf) (.slice a.ka a.keys.length a.kc) (.slice a.va a.values.length a.vc) (.slice a.ia a.kids.length a.ic)
          have hm4 : Mod (fun j => j = y0.heap.size) y4 ((((y4.setCell ⟨y0.heap.size, 0, none⟩ (.bool a.leaf)).setCell ⟨y0.heap.size, 1, none⟩ (.slice a.ka a.keys.length a.kc)).setCell ⟨y0.heap.size, 2, none⟩ (.slice a.va a.values.length a.vc)).setCell ⟨y0.heap.size, 3, none⟩ (.slice a.ia a.kids.length a.ic)) := put4_mod y4 (y0.heap.size) (.bool a.leaf) (.slice a.ka a.keys.length a.kc) (.slice a.va a.values.length a.vc) (.slice a.ia a.kids.length a.ic)
          have HZ7' := hid ((hm4.block _ (lt_of_heap HZ7.out) (fun h => HNe.out (by first | exact h | exact h.symm))).trans HZ7.out)
          have HBa : Hid _ := hid h4
          have HTa' := hid (HTa.out.mod hm4 (fun b hb h => HDa6.out b hb h))
          have HTb' := hid (HTb.out.mod hm4 (fun b hb h => HDb6.out b hb h))
          clear HTa HTb
          have HTa := HTa'
          have HTb := HTb'
          clear HTa' HTb'
          have HMY : Hid (Mod (fun _ => False) V ((((y4.setCell ⟨y0.heap.size, 0, none⟩ (.bool a.leaf)).setCell ⟨y0.heap.size, 1, none⟩ (.slice a.ka a.keys.length a.kc)).setCell ⟨y0.heap.size, 2, none⟩ (.slice a.va a.values.length a.vc)).setCell ⟨y0.heap.size, 3, none⟩ (.slice a.ia a.kids.length a.ic))) := hid (HMX.out.then hm4 (fun j hj h => by have := HV6.out; omega))
          clear HMX
          have HMX := HMY
          clear HMY hm4 h4
          clear HZ6
          clear HZ7
          have HZ7 := HZ7'
          clear HZ7'
          generalize (((y4.setCell ⟨y0.heap.size, 0, none⟩ (.bool a.leaf)).setCell ⟨y0.heap.size, 1, none⟩ (.slice a.ka a.keys.length a.kc)).setCell ⟨y0.heap.size, 2, none⟩ (.slice a.va a.values.length a.vc)).setCell ⟨y0.heap.size, 3, none⟩ (.slice a.ia a.kids.length a.ic) = y5 at *
          refine hK.out _ _ (HUp.out _ HMX.out) (fun hHeld2 => ?_)
          clear hK K hHeld
          have hHeld := hHeld2
          clear hHeld2
          try simp only [Act.put, List.setIfInBounds_toArray, List.set_cons_zero, List.set_cons_succ]
          refine wpAnyH_ready (rs := [9]) (by kernel_rfl) (by simp) (AllReadyH.cons rfl (fun K hK => ?_) AllReadyH.nil)
          obtain ⟨c0, c1, c2, c3⟩ := cells4 HZ7.out
          have f0 := frozen_of_row _ _ 0 _ _ HZ7.out
          have f1 := frozen_of_row _ _ 1 _ _ HZ7.out
          have f2 := frozen_of_row _ _ 2 _ _ HZ7.out
          have f3 := frozen_of_row _ _ 3 _ _ HZ7.out
          go_simp
          clear c0 c1 c2 c3 f0 f1 f2 f3
          have h4 : ((((y5.setCell ⟨y3.heap.size, 0, none⟩ (.bool b.leaf)).setCell ⟨y3.heap.size, 1, none⟩ (.slice b.ka b.keys.length b.kc)).setCell ⟨y3.heap.size, 2, none⟩ (.slice b.va b.values.length b.vc)).setCell ⟨y3.heap.size, 3, none⟩ (.slice b.ia b.kids.length b.ic)).heap[y3.heap.size]? = some (.cells #[.bool b.leaf, .slice b.ka b.keys.length b.kc, .slice b.va b.values.length b.vc, .slice b.ia b.kids.length b.ic] 26 (0, 0)) := put4_at HZ7.out (.bool b.leaf) (.slice b.ka b.keys.length b.kc) (.slice b.va b.values.length b.vc) (.slice b.ia b.kids.length b.ic)
          have hm4 : Mod (fun j => j = y3.heap.size) y5 ((((y5.setCell ⟨y3.heap.size, 0, none⟩ (.bool b.leaf)).setCell ⟨y3.heap.size, 1, none⟩ (.slice b.ka b.keys.length b.kc)).setCell ⟨y3.heap.size, 2, none⟩ (.slice b.va b.values.length b.vc)).setCell ⟨y3.heap.size, 3, none⟩ (.slice b.ia b.kids.length b.ic)) := put4_mod y5 (y3.heap.size) (.bool b.leaf) (.slice b.ka b.keys.length b.kc) (.slice b.va b.values.length b.vc) (.slice b.ia b.kids.length b.ic)
          have HBb : Hid _ := hid h4
          have HBa' := hid ((hm4.block _ (lt_of_heap HBa.out) (fun h => HNe.out (by first | exact h | exact h.symm))).trans HBa.out)
          have HTa' := hid (HTa.out.mod hm4 (fun b hb h => HDa7.out b hb h))
          have HTb' := hid (HTb.out.mod hm4 (fun b hb h => HDb7.out b hb h))
          clear HTa HTb
          have HTa := HTa'
          have HTb := HTb'
          clear HTa' HTb'
          have HMY : Hid (Mod (fun _ => False) V ((((y5.setCell ⟨y3.heap.size, 0, none⟩ (.bool b.leaf)).setCell ⟨y3.heap.size, 1, none⟩ (.slice b.ka b.keys.length b.kc)).setCell ⟨y3.heap.size, 2, none⟩ (.slice b.va b.values.length b.vc)).setCell ⟨y3.heap.size, 3, none⟩ (.slice b.ia b.kids.length b.ic))) := hid (HMX.out.then hm4 (fun j hj h => by have := HV7.out; omega))
          clear HMX
          have HMX := HMY
          clear HMY hm4 h4
          clear HZ7
          clear HBa
          have HBa := HBa'
          clear HBa'
          generalize (((y5.setCell ⟨y3.heap.size, 0, none⟩ (.bool b.leaf)).setCell ⟨y3.heap.size, 1, none⟩ (.slice b.ka b.keys.length b.kc)).setCell ⟨y3.heap.size, 2, none⟩ (.slice b.va b.values.length b.vc)).setCell ⟨y3.heap.size, 3, none⟩ (.slice b.ia b.kids.length b.ic) = y6 at *
          refine hK.out _ _ (HUp.out _ HMX.out) (fun hHeld2 => ?_)
          clear hK K hHeld
          have hHeld := hHeld2
          clear hHeld2
          try simp only [Act.put, List.setIfInBounds_toArray, List.set_cons_zero, List.set_cons_succ]
          refine wpAnyH_done (by kernel_rfl) ?_ _
          clear hHeld
          go_wp2_with fail
          go_meet
          case rel => exact ⟨_, _, a, b, rfl, rfl, HBa.out, HBb.out, HTa.out.l, HTb.out.l, HTa.out.g, HTb.out.g, HMX.out⟩
        · go_simp
          have hmn : Mod (fun _ => False) y2 (y2.alloc (.cells #[.bool false, .slice none 0 0, .slice none 0 0, .slice none 0 0] 26)) := (Mod.refl _ _).alloc _
          have HMY : Hid (Mod (fun _ => False) V (y2.alloc (.cells #[.bool false, .slice none 0 0, .slice none 0 0, .slice none 0 0] 26))) := hid (HMX.out.trans hmn)
          have HZn7 : Hid ((y2.alloc (.cells #[.bool false, .slice none 0 0, .slice none 0 0, .slice none 0 0] 26)).heap[y2.heap.size]? = some (.cells #[.bool false, .slice none 0 0, .slice none 0 0, .slice none 0 0] 26 (0, 0))) := hid (heap_alloc_new _ _)
          have HZ6' := hid ((hmn.block _ (lt_of_heap HZ6.out) (fun h => h)).trans HZ6.out)
          have HTa' := hid (HTa.out.mod hmn (fun _ _ h => h))
          have HDa7 : Hid (∀ z, a.bs z → z ≠ y2.heap.size) := hid (fun z hz h => by have := HTa.out.g.lt hz; omega)
          clear HTa
          have HTa := HTa'
          clear HTa'
          have HNe : Hid (y0.heap.size ≠ y2.heap.size) := hid (fun h => by have := lt_of_heap HZ6.out; omega)
          clear HZ6
          have HZ6 := HZ6'
          clear HZ6'
          have HV7 : Hid (V.heap.size ≤ y2.heap.size) := hid HMX.out.size
          have HZ7 := HZn7
          clear HZn7 HMX hmn
          have HMX := HMY
          clear HMY
          generalize (y2.alloc (.cells #[.bool false, .slice none 0 0, .slice none 0 0, .slice none 0 0] 26)) = y3 at *
          refine hK.out _ _ (HUp.out _ HMX.out) (fun hHeld2 => ?_)
          clear hK K hHeld
          have hHeld := hHeld2
          clear hHeld2
          try simp only [Act.put, List.setIfInBounds_toArray, List.set_cons_zero, List.set_cons_succ]
          refine wpAnyH_ready (rs := [5]) (by kernel_rfl) (by simp) (AllReadyH.cons rfl (fun K hK => ?_) AllReadyH.nil)
          go_simp
          refine (HTw2.out y3 HMX.out).mono ?_
          rintro e y4 ⟨b, a1, a2, a3, a4, rfl, hg, hmn, hbn⟩
          have HTb : Hid (TwA y4 p b) := hid ⟨⟨a1, a2, a3, a4⟩, hg⟩
          have HZ6' := hid ((hmn.block _ (lt_of_heap HZ6.out) (fun h => h)).trans HZ6.out)
          have HDb6 : Hid (∀ z, b.bs z → z ≠ y0.heap.size) := hid (fun z hz h => by have := hbn z hz; have := lt_of_heap HZ6.out; omega)
          clear HZ6
          have HZ6 := HZ6'
          clear HZ6'
          have HZ7' := hid ((hmn.block _ (lt_of_heap HZ7.out) (fun h => h)).trans HZ7.out)
          have HDb7 : Hid (∀ z, b.bs z → z ≠ y2.heap.size) := hid (fun z hz h => by have := hbn z hz; have := lt_of_heap HZ7.out; omega)
          clear HZ7
          have HZ7 := HZ7'
          clear HZ7'
          have HTa' := hid (HTa.out.mod hmn (fun _ _ h => h))
          clear HTa
          have HTa := HTa'
          clear HTa'
          have HMY : Hid (Mod (fun _ => False) V y4) := hid (HMX.out.trans hmn)
          clear HMX hmn hbn hg a1 a2 a3 a4
          have HMX := HMY
          clear HMY
          refine hK.out _ _ (HUp.out _ HMX.out) (fun hHeld2 => ?_)
          clear hK K hHeld
          have hHeld := hHeld2
          clear hHeld2
          try simp only [Act.put, List.setIfInBounds_toArray, List.set_cons_zero, List.set_cons_succ]
          refine wpAnyH_ready (rs := [8]) (by kernel_rfl) (by simp) (AllReadyH.cons rfl (fun K hK => ?_) AllReadyH.nil)
          obtain ⟨c0, c1, c2, c3⟩ := cells4 HZ6.out
          have f0 := frozen_of_row _ _ 0 _ _ HZ6.out
          have f1 := frozen_of_row _ _ 1 _ _ HZ6.out
          have f2 := frozen_of_row _ _ 2 _ _ HZ6.out
          have f3 := frozen_of_row _ _ 3 _ _ HZ6.out
          go_simp
          clear c0 c1 c2 c3 f0 f1 f2 f3
          have h4 : ((((y4.setCell ⟨y0.heap.size, 0, none⟩ (.bool a.leaf)).setCell ⟨y0.heap.size, 1, none⟩ (.slice a.ka a.keys.length a.kc)).setCell ⟨y0.heap.size, 2, none⟩ (.slice a.va a.values.length a.vc)).setCell ⟨y0.heap.size, 3, none⟩ (.slice a.ia a.kids.length a.ic)).heap[y0.heap.size]? = some (.cells #[.bool a.leaf, .slice a.ka a.keys.length a.kc, .slice a.va a.values.length a.vc, .slice a.ia a.kids.length a.ic] 26 (0, 0)) := put4_at HZ6.out (.bool a.leaf) (.slice a.ka a.keys.length a.kc) (.slice a.va a.values.length a.vc) (.slice a.ia a.kids.length a.ic)
          have hm4 : Mod (fun j => j = y0.heap.size) y4 ((((y4.setCell ⟨y0.heap.size, 0, none⟩ (.bool a.leaf)).setCell ⟨y0.heap.size, 1, none⟩ (.slice a.ka a.keys.length a.kc)).setCell ⟨y0.heap.size, 2, none⟩ (.slice a.va a.values.length a.vc)).setCell ⟨y0.heap.size, 3, none⟩ (.slice a.ia a.kids.length a.ic)) := put4_mod y4 (y0.heap.size) (.bool a.leaf) (.slice a.ka a.keys.length a.kc) (.slice a.va a.values.length a.vc) (.slice a.ia a.kids.length a.ic)
          have HZ7' := hid ((hm4.block _ (lt_of_heap HZ7.out) (fun h => HNe.out (by first | exact h | exact h.symm))).trans HZ7.out)
          have HBa : Hid _ := hid h4
          have HTa' := hid (HTa.out.mod hm4 (fun b hb h => HDa6.out b hb h))
          have HTb' := hid (HTb.out.mod hm4 (fun b hb h => HDb6.out b hb h))
          clear HTa HTb
          have HTa := HTa'
          have HTb := HTb'
          clear HTa' HTb'
          have HMY : Hid (Mod (fun _ => False) V ((((y4.setCell ⟨y0.heap.size, 0, none⟩ (.bool a.leaf)).setCell ⟨y0.heap.size, 1, none⟩ (.slice a.ka a.keys.length a.kc)).setCell ⟨y0.heap.size, 2, none⟩ (.slice a.va a.values.length a.vc)).setCell ⟨y0.heap.size, 3, none⟩ (.slice a.ia a.kids.length a.ic))) := hid (HMX.out.then hm4 (fun j hj h => by have := HV6.out; omega))
          clear HMX
          have HMX := HMY
          clear HMY hm4 h4
          clear HZ6
          clear HZ7
          have HZ7 := HZ7'
          clear HZ7'
          generalize (((y4.setCell ⟨y0.heap.size, 0, none⟩ (.bool a.leaf)).setCell ⟨y0.heap.size, 1, none⟩ (.slice a.ka a.keys.length a.kc)).setCell ⟨y0.heap.size, 2, none⟩ (.slice a.va a.values.length a.vc)).setCell ⟨y0.heap.size, 3, none⟩ (.slice a.ia a.kids.length a.ic) = y5 at *
          refine hK.out _ _ (HUp.out _ HMX.out) (fun hHeld2 => ?_)
          clear hK K hHeld
          have hHeld := hHeld2
          clear hHeld2
          try simp only [Act.put, List.setIfInBounds_toArray, List.set_cons_zero, List.set_cons_succ]
          refine wpAnyH_ready (rs := [9]) (by kernel_rfl) (by simp) (AllReadyH.cons rfl (fun K hK => ?_) AllReadyH.nil)
          obtain ⟨c0, c1, c2, c3⟩ := cells4 HZ7.out
          have f0 := frozen_of_row _ _ 0 _ _ HZ7.out
          have f1 := frozen_of_row _ _ 1 _ _ HZ7.out
          have f2 := frozen_of_row _ _ 2 _ _ HZ7.out
          have f3 := frozen_of_row _ _ 3 _ _ HZ7.out
          go_simp
          clear c0 c1 c2 c3 f0 f1 f2 f3
          have h4 : ((((y5.setCell ⟨y2.heap.size, 0, none⟩ (.bool b.leaf)).setCell ⟨y2.heap.size, 1, none⟩ (.slice b.ka b.keys.length b.kc)).setCell ⟨y2.heap.size, 2, none⟩ (.slice b.va b.values.length b.vc)).setCell ⟨y2.heap.size, 3, none⟩ (.slice b.ia b.kids.length b.ic)).heap[y2.heap.size]? = some (.cells #[.bool b.leaf, .slice b.ka b.keys.length b.kc, .slice b.va b.values.length b.vc, .slice b.ia b.kids.length b.ic] 26 (0, 0)) := put4_at HZ7.out (.bool b.leaf) (.slice b.ka b.keys.length b.kc) (.slice b.va b.values.length b.vc) (.slice b.ia b.kids.length b.ic)
          have hm4 : Mod (fun j => j = y2.heap.size) y5 ((((y5.setCell ⟨y2.heap.size, 0, none⟩ (.bool b.leaf)).setCell ⟨y2.heap.size, 1, none⟩ (.slice b.ka b.keys.length b.kc)).setCell ⟨y2.heap.size, 2, none⟩ (.slice b.va b.values.length b.vc)).setCell ⟨y2.heap.size, 3, none⟩ (.slice b.ia b.kids.length b.ic)) := put4_mod y5 (y2.heap.size) (.bool b.leaf) (.slice b.ka b.keys.length b.kc) (.slice b.va b.values.length b.vc) (.slice b.ia b.kids.length b.ic)
          have HBb : Hid _ := hid h4
          have HBa' := hid ((hm4.block _ (lt_of_heap HBa.out) (fun h => HNe.out (by first | exact h | exact h.symm))).trans HBa.out)
          have HTa' := hid (HTa.out.mod hm4 (fun b hb h => HDa7.out b hb h))
          have HTb' := hid (HTb.out.mod hm4 (fun b hb h => HDb7.out b hb h))
          clear HTa HTb
          have HTa := HTa'
          have HTb := HTb'
          clear HTa' HTb'
          have HMY : Hid (Mod (fun _ => False) V ((((y5.setCell ⟨y2.heap.size, 0, none⟩ (.bool b.leaf)).setCell ⟨y2.heap.size, 1, none⟩ (.slice b.ka b.keys.length b.kc)).setCell ⟨y2.heap.size, 2, none⟩ (.slice b.va b.values.length b.vc)).setCell ⟨y2.heap.size, 3, none⟩ (.slice b.ia b.kids.length b.ic))) := hid (HMX.out.then hm4 (fun j hj h => by have := HV7.out; omega))
          clear HMX
          have HMX := HMY
          clear HMY hm4 h4
          clear HZ7
          clear HBa
          have HBa := HBa'
          clear HBa'
          generalize (((y5.setCell ⟨y2.heap.size, 0, none⟩ (.bool b.leaf)).setCell ⟨y2.heap.size, 1, none⟩ (.slice b.ka b.keys.length b.kc)).setCell ⟨y2.heap.size, 2, none⟩ (.slice b.va b.values.length b.vc)).setCell ⟨y2.heap.size, 3, none⟩ (.slice b.ia b.kids.length b.ic) = y6 at *
          refine hK.out _ _ (HUp.out _ HMX.out) (fun hHeld2 => ?_)
          clear hK K hHeld
          have hHeld := hHeld2
          clear hHeld2
          try simp only [Act.put, List.setIfInBounds_toArray, List.set_cons_zero, List.set_cons_succ]
          refine wpAnyH_done (by kernel_rfl) ?_ _
          clear hHeld
          go_wp2_with fail
          go_meet
          case rel => exact ⟨_, _, a, b, rfl, rfl, HBa.out, HBb.out, HTa.out.l, HTb.out.l, HTa.out.g, HTb.out.g, HMX.out⟩
      · go_simp
        have hmn : Mod (fun _ => False) y1 (y1.alloc (.cells #[.bool false, .slice none 0 0, .slice none 0 0, .slice none 0 0] 26)) := (Mod.refl _ _).alloc _
        have HMY : Hid (Mod (fun _ => False) V (y1.alloc (.cells #[.bool false, .slice none 0 0, .slice none 0 0, .slice none 0 0] 26))) := hid (HMX.out.trans hmn)
        have HZn7 : Hid ((y1.alloc (.cells #[.bool false, .slice none 0 0, .slice none 0 0, .slice none 0 0] 26)).heap[y1.heap.size]? = some (.cells #[.bool false, .slice none 0 0, .slice none 0 0, .slice none 0 0] 26 (0, 0))) := hid (heap_alloc_new _ _)
        have HZ6' := hid ((hmn.block _ (lt_of_heap HZ6.out) (fun h => h)).trans HZ6.out)
        have HNe : Hid (y0.heap.size ≠ y1.heap.size) := hid (fun h => by have := lt_of_heap HZ6.out; omega)
        clear HZ6
        have HZ6 := HZ6'
        clear HZ6'
        have HV7 : Hid (V.heap.size ≤ y1.heap.size) := hid HMX.out.size
        have HZ7 := HZn7
        clear HZn7 HMX hmn
        have HMX := HMY
        clear HMY
        generalize (y1.alloc (.cells #[.bool false, .slice none 0 0, .slice none 0 0, .slice none 0 0] 26)) = y2 at *
        refine hK.out _ _ (HUp.out _ HMX.out) (fun hHeld2 => ?_)
        clear hK K hHeld
        have hHeld := hHeld2
        clear hHeld2
        try simp only [Act.put, List.setIfInBounds_toArray, List.set_cons_zero, List.set_cons_succ]
        refine wpAnyH_ready (rs := [2]) (by kernel_rfl) (by simp) (AllReadyH.cons rfl (fun K hK => ?_) AllReadyH.nil)
        go_simp
        refine (HTw1.out y2 HMX.out).mono ?_
        rintro e y3 ⟨a, a1, a2, a3, a4, rfl, hg, hmn, hbn⟩
        have HTa : Hid (TwA y3 n a) := hid ⟨⟨a1, a2, a3, a4⟩, hg⟩
        have HZ6' := hid ((hmn.block _ (lt_of_heap HZ6.out) (fun h => h)).trans HZ6.out)
        have HDa6 : Hid (∀ z, a.bs z → z ≠ y0.heap.size) := hid (fun z hz h => by have := hbn z hz; have := lt_of_heap HZ6.out; omega)
        clear HZ6
        have HZ6 := HZ6'
        clear HZ6'
        have HZ7' := hid ((hmn.block _ (lt_of_heap HZ7.out) (fun h => h)).trans HZ7.out)
        have HDa7 : Hid (∀ z, a.bs z → z ≠ y1.heap.size) := hid (fun z hz h => by have := hbn z hz; have := lt_of_heap HZ7.out; omega)
        clear HZ7
        have HZ7 := HZ7'
        clear HZ7'
        have HMY : Hid (Mod (fun _ => False) V y3) := hid (HMX.out.trans hmn)
        clear HMX hmn hbn hg a1 a2 a3 a4
        have HMX := HMY
        clear HMY
        refine hK.out _ _ (HUp.out _ HMX.out) (fun hHeld2 => ?_)
        clear hK K hHeld
        have hHeld := hHeld2
        clear hHeld2
        try simp only [Act.put, List.setIfInBounds_toArray, List.set_cons_zero, List.set_cons_succ]
        refine wpAnyH_ready (rs := [5]) (by kernel_rfl) (by simp) (AllReadyH.cons rfl (fun K hK => ?_) AllReadyH.nil)
        go_simp
        refine (HTw2.out y3 HMX.out).mono ?_
        rintro e y4 ⟨b, a1, a2, a3, a4, rfl, hg, hmn, hbn⟩
        have HTb : Hid (TwA y4 p b) := hid ⟨⟨a1, a2, a3, a4⟩, hg⟩
        have HZ6' := hid ((hmn.block _ (lt_of_heap HZ6.out) (fun h => h)).trans HZ6.out)
        have HDb6 : Hid (∀ z, b.bs z → z ≠ y0.heap.size) := hid (fun z hz h => by have := hbn z hz; have := lt_of_heap HZ6.out; omega)
        clear HZ6
        have HZ6 := HZ6'
        clear HZ6'
        have HZ7' := hid ((hmn.block _ (lt_of_heap HZ7.out) (fun h => h)).trans HZ7.out)
        have HDb7 : Hid (∀ z, b.bs z → z ≠ y1.heap.size) := hid (fun z hz h => by have := hbn z hz; have := lt_of_heap HZ7.out; omega)
        clear HZ7
        have HZ7 := HZ7'
        clear HZ7'
        have HTa' := hid (HTa.out.mod hmn (fun _ _ h => h))
        clear HTa
        have HTa := HTa'
        clear HTa'
        have HMY : Hid (Mod (fun _ => False) V y4) := hid (HMX.out.trans hmn)
        clear HMX hmn hbn hg a1 a2 a3 a4
        have HMX := HMY
        clear HMY
        refine hK.out _ _ (HUp.out _ HMX.out) (fun hHeld2 => ?_)
        clear hK K hHeld
        have hHeld := hHeld2
        clear hHeld2
        try simp only [Act.put, List.setIfInBounds_toArray, List.set_cons_zero, List.set_cons_succ]
        refine wpAnyH_ready (rs := [8]) (by kernel_rfl) (by simp) (AllReadyH.cons rfl (fun K hK => ?_) AllReadyH.nil)
        obtain ⟨c0, c1, c2, c3⟩ := cells4 HZ6.out
        have f0 := frozen_of_row _ _ 0 _ _ HZ6.out
        have f1 := frozen_of_row _ _ 1 _ _ HZ6.out
        have f2 := frozen_of_row _ _ 2 _ _ HZ6.out
        have f3 := frozen_of_row _ _ 3 _ _ HZ6.out
        go_simp
        clear c0 c1 c2 c3 f0 f1 f2 f3
        have h4 : ((((y4.setCell ⟨y0.heap.size, 0, none⟩ (.bool a.leaf)).setCell ⟨y0.heap.size, 1, none⟩ (.slice a.ka a.keys.length a.kc)).setCell ⟨y0.heap.size, 2, none⟩ (.slice a.va a.values.length a.vc)).setCell ⟨y0.heap.size, 3, none⟩ (.slice a.ia a.kids.length a.ic)).heap[y0.heap.size]? = some (.cells #[.bool a.leaf, .slice a.ka a.keys.length a.kc, .slice a.va a.values.length a.vc, .slice a.ia a.kids.length a.ic] 26 (0, 0)) := put4_at HZ6.out (.bool a.leaf) (.slice a.ka a.keys.length a.kc) (.slice a.va a.values.length a.vc) (.slice a.ia a.kids.length a.ic)
        have hm4 : Mod (fun j => j = y0.heap.size) y4 ((((y4.setCell ⟨y0.heap.size, 0, none⟩ (.bool a.leaf)).setCell ⟨y0.heap.size, 1, none⟩ (.slice a.ka a.keys.length a.kc)).setCell ⟨y0.heap.size, 2, none⟩ (.slice a.va a.values.length a.vc)).setCell ⟨y0.heap.size, 3, none⟩ (.slice a.ia a.kids.length a.ic)) := put4_mod y4 (y0.heap.size) (.bool a.leaf) (.slice a.ka a.keys.length a.kc) (.slice a.va a.values.length a.vc) (.slice a.ia a.kids.length a.ic)
        have HZ7' := hid ((hm4.block _ (lt_of_heap HZ7.out) (fun h => HNe.out (by first | exact h | exact h.symm))).trans HZ7.out)
        have HBa : Hid _ := hid h4
        have HTa' := hid (HTa.out.mod hm4 (fun b hb h => HDa6.out b hb h))
        have HTb' := hid (HTb.out.mod hm4 (fun b hb h => HDb6.out b hb h))
        clear HTa HTb
        have HTa := HTa'
        have HTb := HTb'
        clear HTa' HTb'
        have HMY : Hid (Mod (fun _ => False) V ((((y4.setCell ⟨y0.heap.size, 0, none⟩ (.bool a.leaf)).setCell ⟨y0.heap.size, 1, none⟩ (.slice a.ka a.keys.length a.kc)).setCell ⟨y0.heap.size, 2, none⟩ (.slice a.va a.values.length a.vc)).setCell ⟨y0.heap.size, 3, none⟩ (.slice a.ia a.kids.length a.ic))) := hid (HMX.out.then hm4 (fun j hj h => by have := HV6.out; omega))
        clear HMX
        have HMX := HMY
        clear HMY hm4 h4
        clear HZ6
        clear HZ7
        have HZ7 := HZ7'
        clear HZ7'
        generalize (((y4.setCell ⟨y0.heap.size, 0, none⟩ (.bool a.leaf)).setCell ⟨y0.heap.size, 1, none⟩ (.slice a.ka a.keys.length a.kc)).setCell ⟨y0.heap.size, 2, none⟩ (.slice a.va a.values.length a.vc)).setCell ⟨y0.heap.size, 3, none⟩ (.slice a.ia a.kids.length a.ic) = y5 at *
        refine hK.out _ _ (HUp.out _ HMX.out) (fun hHeld2 => ?_)
        clear hK K hHeld
        have hHeld := hHeld2
        clear hHeld2
        try simp only [Act.put, List.setIfInBounds_toArray, List.set_cons_zero, List.set_cons_succ]
        refine wpAnyH_ready (rs := [9]) (by kernel_rfl) (by simp) (AllReadyH.cons rfl (fun K hK => ?_) AllReadyH.nil)
        obtain ⟨c0, c1, c2, c3⟩ := cells4 HZ7.out
        have f0 := frozen_of_row _ _ 0 _ _ HZ7.out
        have f1 := frozen_of_row _ _ 1 _ _ HZ7.out
        have f2 := frozen_of_row _ _ 2 _ _ HZ7.out
        have f3 := frozen_of_row _ _ 3 _ _ HZ7.out
        go_simp
        clear c0 c1 c2 c3 f0 f1 f2 f3
        have h4 : ((((y5.setCell ⟨y1.heap.size, 0, none⟩ (.bool b.leaf)).setCell ⟨y1.heap.size, 1, none⟩ (.slice b.ka b.keys.length b.kc)).setCell ⟨y1.heap.size, 2, none⟩ (.slice b.va b.values.length b.vc)).setCell ⟨y1.heap.size, 3, none⟩ (.slice b.ia b.kids.length b.ic)).heap[y1.heap.size]? = some (.cells #[.bool b.leaf, .slice b.ka b.keys.length b.kc, .slice b.va b.values.length b.vc, .slice b.ia b.kids.length b.ic] 26 (0, 0)) := put4_at HZ7.out (.bool b.leaf) (.slice b.ka b.keys.length b.kc) (.slice b.va b.values.length b.vc) (.slice b.ia b.kids.length b.ic)
        have hm4 : Mod (fun j => j = y1.heap.size) y5 ((((y5.setCell ⟨y1.heap.size, 0, none⟩ (.bool b.leaf)).setCell ⟨y1.heap.size, 1, none⟩ (.slice b.ka b.keys.length b.kc)).setCell ⟨y1.heap.size, 2, none⟩ (.slice b.va b.values.length b.vc)).setCell ⟨y1.heap.size, 3, none⟩ (.slice b.ia b.kids.length b.ic)) := put4_mod y5 (y1.heap.size) (.bool b.leaf) (.slice b.ka b.keys.length b.kc) (.slice b.va b.values.length b.vc) (.slice b.ia b.kids.length b.ic)
        have HBb : Hid _ := hid h4
        have HBa' := hid ((hm4.block _ (lt_of_heap HBa.out) (fun h => HNe.out (by first | exact h | exact h.symm))).trans HBa.out)
        have HTa' := hid (HTa.out.mod hm4 (fun b hb h => HDa7.out b hb h))
        have HTb' := hid (HTb.out.mod hm4 (fun b hb h => HDb7.out b hb h))
        clear HTa HTb
        have HTa := HTa'
        have HTb := HTb'
        clear HTa' HTb'
        have HMY : Hid (Mod (fun _ => False) V ((((y5.setCell ⟨y1.heap.size, 0, none⟩ (.bool b.leaf)).setCell ⟨y1.heap.size, 1, none⟩ (.slice b.ka b.keys.length b.kc)).setCell ⟨y1.heap.size, 2, none⟩ (.slice b.va b.values.length b.vc)).setCell ⟨y1.heap.size, 3, none⟩ (.slice b.ia b.kids.length b.ic))) := hid (HMX.out.then hm4 (fun j hj h => by have := HV7.out; omega))
        clear HMX
        have HMX := HMY
        clear HMY hm4 h4
        clear HZ7
        clear HBa
        have HBa := HBa'
        clear HBa'
        generalize (((y5.setCell ⟨y1.heap.size, 0, none⟩ (.bool b.leaf)).setCell ⟨y1.heap.size, 1, none⟩ (.slice b.ka b.keys.length b.kc)).setCell ⟨y1.heap.size, 2, none⟩ (.slice b.va b.values.length b.vc)).setCell ⟨y1.heap.size, 3, none⟩ (.slice b.ia b.kids.length b.ic) = y6 at *
        refine hK.out _ _ (HUp.out _ HMX.out) (fun hHeld2 => ?_)
        clear hK K hHeld
        have hHeld := hHeld2
        clear hHeld2
        try simp only [Act.put, List.setIfInBounds_toArray, List.set_cons_zero, List.set_cons_succ]
        refine wpAnyH_done (by kernel_rfl) ?_ _
        clear hHeld
        go_wp2_with fail
        go_meet
        case rel => exact ⟨_, _, a, b, rfl, rfl, HBa.out, HBb.out, HTa.out.l, HTb.out.l, HTa.out.g, HTb.out.g, HMX.out⟩
    · go_simp
      have hmn : Mod (fun _ => False) y0 (y0.alloc (.cells #[.bool false, .slice none 0 0, .slice none 0 0, .slice none 0 0] 26)) := (Mod.refl _ _).alloc _
      have HMY : Hid (Mod (fun _ => False) V (y0.alloc (.cells #[.bool false, .slice none 0 0, .slice none 0 0, .slice none 0 0] 26))) := hid (HMX.out.trans hmn)
      have HZn7 : Hid ((y0.alloc (.cells #[.bool false, .slice none 0 0, .slice none 0 0, .slice none 0 0] 26)).heap[y0.heap.size]? = some (.cells #[.bool false, .slice none 0 0, .slice none 0 0, .slice none 0 0] 26 (0, 0))) := hid (heap_alloc_new _ _)
      have HV7 : Hid (V.heap.size ≤ y0.heap.size) := hid HMX.out.size
      have HZ7 := HZn7
      clear HZn7 HMX hmn
      have HMX := HMY
      clear HMY
      generalize (y0.alloc (.cells #[.bool false, .slice none 0 0, .slice none 0 0, .slice none 0 0] 26)) = y1 at *
      refine hK.out _ _ (HUp.out _ HMX.out) (fun hHeld2 => ?_)
      clear hK K hHeld
      have hHeld := hHeld2
      clear hHeld2
      try simp only [Act.put, List.setIfInBounds_toArray, List.set_cons_zero, List.set_cons_succ]
      refine wpAnyH_ready (rs := [2, 6]) (by kernel_rfl) (by simp) (AllReadyH.cons rfl (fun K hK => ?_) (AllReadyH.cons rfl (fun K hK => ?_) AllReadyH.nil))
      · go_simp
        refine (HTw1.out y1 HMX.out).mono ?_
        rintro e y2 ⟨a, a1, a2, a3, a4, rfl, hg, hmn, hbn⟩
        have HTa : Hid (TwA y2 n a) := hid ⟨⟨a1, a2, a3, a4⟩, hg⟩
        have HZ7' := hid ((hmn.block _ (lt_of_heap HZ7.out) (fun h => h)).trans HZ7.out)
        have HDa7 : Hid (∀ z, a.bs z → z ≠ y0.heap.size) := hid (fun z hz h => by have := hbn z hz; have := lt_of_heap HZ7.out; omega)
        clear HZ7
        have HZ7 := HZ7'
        clear HZ7'
        have HMY : Hid (Mod (fun _ => False) V y2) := hid (HMX.out.trans hmn)
        clear HMX hmn hbn hg a1 a2 a3 a4
        have HMX := HMY
        clear HMY
        refine hK.out _ _ (HUp.out _ HMX.out) (fun hHeld2 => ?_)
        clear hK K hHeld
        have hHeld := hHeld2
        clear hHeld2
        try simp only [Act.put, List.setIfInBounds_toArray, List.set_cons_zero, List.set_cons_succ]
        refine wpAnyH_ready (rs := [5, 6]) (by kernel_rfl) (by simp) (AllReadyH.cons rfl (fun K hK => ?_) (AllReadyH.cons rfl (fun K hK => ?_) AllReadyH.nil))
        · go_simp
          refine (HTw2.out y2 HMX.out).mono ?_
          rintro e y3 ⟨b, a1, a2, a3, a4, rfl, hg, hmn, hbn⟩
          have HTb : Hid (TwA y3 p b) := hid ⟨⟨a1, a2, a3, a4⟩, hg⟩
          have HZ7' := hid ((hmn.block _ (lt_of_heap HZ7.out) (fun h => h)).trans HZ7.out)
          have HDb7 : Hid (∀ z, b.bs z → z ≠ y0.heap.size) := hid (fun z hz h => by have := hbn z hz; have := lt_of_heap HZ7.out; omega)
          clear HZ7
          have HZ7 := HZ7'
          clear HZ7'
          have HTa' := hid (HTa.out.mod hmn (fun _ _ h => h))
          clear HTa
          have HTa := HTa'
          clear HTa'
          have HMY : Hid (Mod (fun _ => False) V y3) := hid (HMX.out.trans hmn)
          clear HMX hmn hbn hg a1 a2 a3 a4
          have HMX := HMY
          clear HMY
          refine hK.out _ _ (HUp.out _ HMX.out) (fun hHeld2 => ?_)
          clear hK K hHeld
          have hHeld := hHeld2
          clear hHeld2
          try simp only [Act.put, List.setIfInBounds_toArray, List.set_cons_zero, List.set_cons_succ]
          refine wpAnyH_ready (rs := [6]) (by kernel_rfl) (by simp) (AllReadyH.cons rfl (fun K hK => ?_) AllReadyH.nil)
          go_simp
          have hmn : Mod (fun _ => False) y3 (y3.alloc (.cells #[.bool false, .slice none 0 0, .slice none 0 0, .slice none 0 0] 26)) := (Mod.refl _ _).alloc _
          have HMY : Hid (Mod (fun _ => False) V (y3.alloc (.cells #[.bool false, .slice none 0 0, .slice none 0 0, .slice none 0 0] 26))) := hid (HMX.out.trans hmn)
          have HZn6 : Hid ((y3.alloc (.cells #[.bool false, .slice none 0 0, .slice none 0 0, .slice none 0 0] 26)).heap[y3.heap.size]? = some (.cells #[.bool false, .slice none 0 0, .slice none 0 0, .slice none 0 0] 26 (0, 0))) := hid (heap_alloc_new _ _)
          have HZ7' := hid ((hmn.block _ (lt_of_heap HZ7.out) (fun h => h)).trans HZ7.out)
          have HTa' := hid (HTa.out.mod hmn (fun _ _ h => h))
          have HDa6 : Hid (∀ z, a.bs z → z ≠ y3.heap.size) := hid (fun z hz h => by have := HTa.out.g.lt hz; omega)
          clear HTa
          have HTa := HTa'
          clear HTa'
          have HTb' := hid (HTb.out.mod hmn (fun _ _ h => h))
          have HDb6 : Hid (∀ z, b.bs z → z ≠ y3.heap.size) := hid (fun z hz h => by have := HTb.out.g.lt hz; omega)
          clear HTb
          have HTb := HTb'
          clear HTb'
          have HNe : Hid (y0.heap.size ≠ y3.heap.size) := hid (fun h => by have := lt_of_heap HZ7.out; omega)
          clear HZ7
          have HZ7 := HZ7'
          clear HZ7'
          have HV6 : Hid (V.heap.size ≤ y3.heap.size) := hid HMX.out.size
          have HZ6 := HZn6
          clear HZn6 HMX hmn
          have HMX := HMY
          clear HMY
          generalize (y3.alloc (.cells #[.bool false, .slice none 0 0, .slice none 0 0, .slice none 0 0] 26)) = y4 at *
          refine hK.out _ _ (HUp.out _ HMX.out) (fun hHeld2 => ?_)
          clear hK K hHeld
          have hHeld := hHeld2
          clear hHeld2
          try simp only [Act.put, List.setIfInBounds_toArray, List.set_cons_zero, List.set_cons_succ]
          refine wpAnyH_ready (rs := [8]) (by kernel_rfl) (by simp) (AllReadyH.cons rfl (fun K hK => ?_) AllReadyH.nil)
          obtain ⟨c0, c1, c2, c3⟩ := cells4 HZ6.out
          have f0 := frozen_of_row _ _ 0 _ _ HZ6.out
          have f1 := frozen_of_row _ _ 1 _ _ HZ6.out
          have f2 := frozen_of_row _ _ 2 _ _ HZ6.out
          have f3 := frozen_of_row _ _ 3 _ _ HZ6.out
          go_simp
          clear c0 c1 c2 c3 f0 f1 f2 f3
          have h4 : ((((y4.setCell ⟨y3.heap.size, 0, none⟩ (.bool a.leaf)).setCell ⟨y3.heap.size, 1, none⟩ (.slice a.ka a.keys.length a.kc)).setCell ⟨y3.heap.size, 2, none⟩ (.slice a.va a.values.length a.vc)).setCell ⟨y3.heap.size, 3, none⟩ (.slice a.ia a.kids.length a.ic)).heap[y3.heap.size]? = some (.cells #[.bool a.leaf, .slice a.ka a.keys.length a.kc, .slice a.va a.values.length a.vc, .slice a.ia a.kids.length a.ic] 26 (0, 0)) := put4_at HZ6.out (.bool a.leaf) (.slice a.ka a.keys.length a.kc) (.slice a.va a.values.length a.vc) (.slice a.ia a.kids.length a.ic)
          have hm4 : Mod (fun j => j = y3.heap.size) y4 ((((y4.setCell ⟨y3.heap.size, 0, none⟩ (.bool a.leaf)).setCell ⟨y3.heap.size, 1, none⟩ (.slice a.ka a.keys.length a.kc)).setCell ⟨y3.heap.size, 2, none⟩ (.slice a.va a.values.length a.vc)).setCell ⟨y3.heap.size, 3, none⟩ (.slice a.ia a.kids.length a.ic)) := put4_mod y4 (y3.heap.size) (.bool a.leaf) (.slice a.ka a.keys.length a.kc) (.slice a.va a.values.length a.vc) (.slice a.ia a.kids.length a.ic)
          have HZ7' := hid ((hm4.block _ (lt_of_heap HZ7.out) (fun h => HNe.out (by first | exact h | exact h.symm))).trans HZ7.out)
          have HBa : Hid _ := hid h4
          have HTa' := hid (HTa.out.mod hm4 (fun b hb h => HDa6.out b hb h))
          have HTb' := hid (HTb.out.mod hm4 (fun b hb h => HDb6.out b hb h))
          clear HTa HTb
          have HTa := HTa'
          have HTb := HTb'
          clear HTa' HTb'
          have HMY : Hid (Mod (fun _ => False) V ((((y4.setCell ⟨y3.heap.size, 0, none⟩ (.bool a.leaf)).setCell ⟨y3.heap.size, 1, none⟩ (.slice a.ka a.keys.length a.kc)).setCell ⟨y3.heap.size, 2, none⟩ (.slice a.va a.values.length a.vc)).setCell ⟨y3.heap.size, 3, none⟩ (.slice a.ia a.kids.length a.ic))) := hid (HMX.out.then hm4 (fun j hj h => by have := HV6.out; omega))
          clear HMX
          have HMX := HMY
          clear HMY hm4 h4
          clear HZ6
          clear HZ7
          have HZ7 := HZ7'
          clear HZ7'
          generalize (((y4.setCell ⟨y3.heap.size, 0, none⟩ (.bool a.leaf)).setCell ⟨y3.heap.size, 1, none⟩ (.slice a.ka a.keys.length a.kc)).setCell ⟨y3.heap.size, 2, none⟩ (.slice a.va a.values.length a.vc)).setCell ⟨y3.heap.size, 3, none⟩ (.slice a.ia a.kids.length a.ic) = y5 at *
          refine hK.out _ _ (HUp.out _ HMX.out) (fun hHeld2 => ?_)
          clear hK K hHeld
          have hHeld := hHeld2
          clear hHeld2
          try simp only [Act.put, List.setIfInBounds_toArray, List.set_cons_zero, List.set_cons_succ]
          refine wpAnyH_ready (rs := [9]) (by kernel_rfl) (by simp) (AllReadyH.cons rfl (fun K hK => ?_) AllReadyH.nil)
          obtain ⟨c0, c1, c2, c3⟩ := cells4 HZ7.out
          have f0 := frozen_of_row _ _ 0 _ _ HZ7.out
          have f1 := frozen_of_row _ _ 1 _ _ HZ7.out
          have f2 := frozen_of_row _ _ 2 _ _ HZ7.out
          have f3 := frozen_of_row _ _ 3 _ _ HZ7.out
          go_simp
          clear c0 c1 c2 c3 f0 f1 f2 f3
          have h4 : ((((y5.setCell ⟨y0.heap.size, 0, none⟩ (.bool b.leaf)).setCell ⟨y0.heap.size, 1, none⟩ (.slice b.ka b.keys.length b.kc)).setCell ⟨y0.heap.size, 2, none⟩ (.slice b.va b.values.length b.vc)).setCell ⟨y0.heap.size, 3, none⟩ (.slice b.ia b.kids.length b.ic)).heap[y0.heap.size]? = some (.cells #[.bool b.leaf, .slice b.ka b.keys.length b.kc, .slice b.va b.values.length b.vc, .slice b.ia b.kids.length b.ic] 26 (0, 0)) := put4_at HZ7.out (.bool b.leaf) (.slice b.ka b.keys.length b.kc) (.slice b.va b.values.length b.vc) (.slice b.ia b.kids.length b.ic)
          have hm4 : Mod (fun j => j = y0.heap.size) y5 ((((y5.setCell ⟨y0.heap.size, 0, none⟩ (.bool b.leaf)).setCell ⟨y0.heap.size, 1, none⟩ (.slice b.ka b.keys.length b.kc)).setCell ⟨y0.heap.size, 2, none⟩ (.slice b.va b.values.length b.vc)).setCell ⟨y0.heap.size, 3, none⟩ (.slice b.ia b.kids.length b.ic)) := put4_mod y5 (y0.heap.size) (.bool b.leaf) (.slice b.ka b.keys.length b.kc) (.slice b.va b.values.length b.vc) (.slice b.ia b.kids.length b.ic)
          have HBb : Hid _ := hid h4
          have HBa' := hid ((hm4.block _ (lt_of_heap HBa.out) (fun h => HNe.out (by first | exact h | exact h.symm))).trans HBa.out)
          have HTa' := hid (HTa.out.mod hm4 (fun b hb h => HDa7.out b hb h))
          have HTb' := hid (HTb.out.mod hm4 (fun b hb h => HDb7.out b hb h))
          clear HTa HTb
          have HTa := HTa'
          have HTb := HTb'
          clear HTa' HTb'
          have HMY : Hid (Mod (fun _ => False) V ((((y5.setCell ⟨y0.heap.size, 0, none⟩ (.bool b.leaf)).setCell ⟨y0.heap.size, 1, none⟩ (.slice b.ka b.keys.length b.kc)).setCell ⟨y0.heap.size, 2, none⟩ (.slice b.va b.values.length b.vc)).setCell ⟨y0.heap.size, 3, none⟩ (.slice b.ia b.kids.length b.ic))) := hid (HMX.out.then hm4 (fun j hj h => by have := HV7.out; omega))
          clear HMX
          have HMX := HMY
          clear HMY hm4 h4
          clear HZ7
          clear HBa
          have HBa := HBa'
          clear HBa'
          generalize (((y5.setCell ⟨y0.heap.size, 0, none⟩ (.bool b.leaf)).setCell ⟨y0.heap.size, 1, none⟩ (.slice b.ka b.keys.length b.kc)).setCell ⟨y0.heap.size, 2, none⟩ (.slice b.va b.values.length b.vc)).setCell ⟨y0.heap.size, 3, none⟩ (.slice b.ia b.kids.length b.ic) = y6 at *
          refine hK.out _ _ (HUp.out _ HMX.out) (fun hHeld2 => ?_)
          clear hK K hHeld
          have hHeld := hHeld2
          clear hHeld2
          try simp only [Act.put, List.setIfInBounds_toArray, List.set_cons_zero, List.set_cons_succ]
          refine wpAnyH_done (by kernel_rfl) ?_ _
          clear hHeld
          go_wp2_with fail
          go_meet
          case rel => exact ⟨_, _, a, b, rfl, rfl, HBa.out, HBb.out, HTa.out.l, HTb.out.l, HTa.out.g, HTb.out.g, HMX.out⟩
        · go_simp
          have hmn : Mod (fun _ => False) y2 (y2.alloc (.cells #[.bool false, .slice none 0 0, .slice none 0 0, .slice none 0 0] 26)) := (Mod.refl _ _).alloc _
          have HMY : Hid (Mod (fun _ => False) V (y2.alloc (.cells #[.bool false, .slice none 0 0, .slice none 0 0, .slice none 0 0] 26))) := hid (HMX.out.trans hmn)
          have HZn6 : Hid ((y2.alloc (.cells #[.bool false, .slice none 0 0, .slice none 0 0, .slice none 0 0] 26)).heap[y2.heap.size]? = some (.cells #[.bool false, .slice none 0 0, .slice none 0 0, .slice none 0 0] 26 (0, 0))) := hid (heap_alloc_new _ _)
          have HZ7' := hid ((hmn.block _ (lt_of_heap HZ7.out) (fun h => h)).trans HZ7.out)
          have HTa' := hid (HTa.out.mod hmn (fun _ _ h => h))
          have HDa6 : Hid (∀ z, a.bs z → z ≠ y2.heap.size) := hid (fun z hz h => by have := HTa.out.g.lt hz; omega)
          clear HTa
          have HTa := HTa'
          clear HTa'
          have HNe : Hid (y0.heap.size ≠ y2.heap.size) := hid (fun h => by have := lt_of_heap HZ7.out; omega)
          clear HZ7
          have HZ7 := HZ7'
          clear HZ7'
          have HV6 : Hid (V.heap.size ≤ y2.heap.size) := hid HMX.out.size
          have HZ6 := HZn6
          clear HZn6 HMX hmn
          have HMX := HMY
          clear HMY
          generalize (y2.alloc (.cells #[.bool false, .slice none 0 0, .slice none 0 0, .slice none 0 0] 26)) = y3 at *
          refine hK.out _ _ (HUp.out _ HMX.out) (fun hHeld2 => ?_)
          clear hK K hHeld
          have hHeld := hHeld2
          clear hHeld2
          try simp only [Act.put, List.setIfInBounds_toArray, List.set_cons_zero, List.set_cons_succ]
          refine wpAnyH_ready (rs := [5]) (by kernel_rfl) (by simp) (AllReadyH.cons rfl (fun K hK => ?_) AllReadyH.nil)
          go_simp
          refine (HTw2.out y3 HMX.out).mono ?_
          rintro e y4 ⟨b, a1, a2, a3, a4, rfl, hg, hmn, hbn⟩
          have HTb : Hid (TwA y4 p b) := hid ⟨⟨a1, a2, a3, a4⟩, hg⟩
          have HZ7' := hid ((hmn.block _ (lt_of_heap HZ7.out) (fun h => h)).trans HZ7.out)
          have HDb7 : Hid (∀ z, b.bs z → z ≠ y0.heap.size) := hid (fun z hz h => by have := hbn z hz; have := lt_of_heap HZ7.out; omega)
          clear HZ7
          have HZ7 := HZ7'
          clear HZ7'
          have HZ6' := hid ((hmn.block _ (lt_of_heap HZ6.out) (fun h => h)).trans HZ6.out)
          have HDb6 : Hid (∀ z, b.bs z → z ≠ y2.heap.size) := hid (fun z hz h => by have := hbn z hz; have := lt_of_heap HZ6.out; omega)
          clear HZ6
          have HZ6 := HZ6'
          clear HZ6'
          have HTa' := hid (HTa.out.mod hmn (fun _ _ h => h))
          clear HTa
          have HTa := HTa'
          clear HTa'
          have HMY : Hid (Mod (fun _ => False) V y4) := hid (HMX.out.trans hmn)
          clear HMX hmn hbn hg a1 a2 a3 a4
          have HMX := HMY
          clear HMY
          refine hK.out _ _ (HUp.out _ HMX.out) (fun hHeld2 => ?_)
          clear hK K hHeld
          have hHeld := hHeld2
          clear hHeld2
          try simp only [Act.put, List.setIfInBounds_toArray, List.set_cons_zero, List.set_cons_succ]
          refine wpAnyH_ready (rs := [8]) (by kernel_rfl) (by simp) (AllReadyH.cons rfl (fun K hK => ?_) AllReadyH.nil)
          obtain ⟨c0, c1, c2, c3⟩ := cells4 HZ6.out
          have f0 := frozen_of_row _ _ 0 _ _ HZ6.out
          have f1 := frozen_of_row _ _ 1 _ _ HZ6.out
          have f2 := frozen_of_row _ _ 2 _ _ HZ6.out
          have f3 := frozen_of_row _ _ 3 _ _ HZ6.out
          go_simp
          clear c0 c1 c2 c3 f0 f1 f2 f3
          have h4 : ((((y4.setCell ⟨y2.heap.size, 0, none⟩ (.bool a.leaf)).setCell ⟨y2.heap.size, 1, none⟩ (.slice a.ka a.keys.length a.kc)).setCell ⟨y2.heap.size, 2, none⟩ (.slice a.va a.values.length a.vc)).setCell ⟨y2.heap.size, 3, none⟩ (.slice a.ia a.kids.length a.ic)).heap[y2.heap.size]? = some (.cells #[.bool a.leaf, .slice a.ka a.keys.length a.kc, .slice a.va a.values.length a.vc, .slice a.ia a.kids.length a.ic] 26 (0, 0)) := put4_at HZ6.out (.bool a.leaf) (.slice a.ka a.keys.length a.kc) (.slice a.va a.values.length a.vc) (.slice a.ia a.kids.length a.ic)
          have hm4 : Mod (fun j => j = y2.heap.size) y4 ((((y4.setCell ⟨y2.heap.size, 0, none⟩ (.bool a.leaf)).setCell ⟨y2.heap.size, 1, none⟩ (.slice a.ka a.keys.length a.kc)).setCell ⟨y2.heap.size, 2, none⟩ (.slice a.va a.values.length a.vc)).setCell ⟨y2.heap.size, 3, none⟩ (.slice a.ia a.kids.length a.ic)) := put4_mod y4 (y2.heap.size) (.bool a.leaf) (.slice a.ka a.keys.length a.kc) (.slice a.va a.values.length a.vc) (.slice a.ia a.kids.length a.ic)
          have HZ7' := hid ((hm4.block _ (lt_of_heap HZ7.out) (fun h => HNe.out (by first | exact h | exact h.symm))).trans HZ7.out)
          have HBa : Hid _ := hid h4
          have HTa' := hid (HTa.out.mod hm4 (fun b hb h => HDa6.out b hb h))
          have HTb' := hid (HTb.out.mod hm4 (fun b hb h => HDb6.out b hb h))
          clear HTa HTb
          have HTa := HTa'
          have HTb := HTb'
          clear HTa' HTb'
          have HMY : Hid (Mod (fun _ => False) V ((((y4.setCell ⟨y2.heap.size, 0, none⟩ (.bool a.leaf)).setCell ⟨y2.heap.size, 1, none⟩ (.slice a.ka a.keys.length a.kc)).setCell ⟨y2.heap.size, 2, none⟩ (.slice a.va a.values.length a.vc)).setCell ⟨y2.heap.size, 3, none⟩ (.slice a.ia a.kids.length a.ic))) := hid (HMX.out.then hm4 (fun j hj h => by have := HV6.out; omega))
          clear HMX
          have HMX := HMY
          clear HMY hm4 h4
          clear HZ6
          clear HZ7
          have HZ7 := HZ7'
          clear HZ7'
          generalize (((y4.setCell ⟨y2.heap.size, 0, none⟩ (.bool a.leaf)).setCell ⟨y2.heap.size, 1, none⟩ (.slice a.ka a.keys.length a.kc)).setCell ⟨y2.heap.size, 2, none⟩ (.slice a.va a.values.length a.vc)).setCell ⟨y2.heap.size, 3, none⟩ (.slice a.ia a.kids.length a.ic) = y5 at *
          refine hK.out _ _ (HUp.out _ HMX.out) (fun hHeld2 => ?_)
          clear hK K hHeld
          have hHeld := hHeld2
          clear hHeld2
          try simp only [Act.put, List.setIfInBounds_toArray, List.set_cons_zero, List.set_cons_succ]
          refine wpAnyH_ready (rs := [9]) (by kernel_rfl) (by simp) (AllReadyH.cons rfl (fun K hK => ?_) AllReadyH.nil)
          obtain ⟨c0, c1, c2, c3⟩ := cells4 HZ7.out
          have f0 := frozen_of_row _ _ 0 _ _ HZ7.out
          have f1 := frozen_of_row _ _ 1 _ _ HZ7.out
          have f2 := frozen_of_row _ _ 2 _ _ HZ7.out
          have f3 := frozen_of_row _ _ 3 _ _ HZ7.out
          go_simp
          clear c0 c1 c2 c3 f0 f1 f2 f3
          have h4 : ((((y5.setCell ⟨y0.heap.size, 0, none⟩ (.bool b.leaf)).setCell ⟨y0.heap.size, 1, none⟩ (.slice b.ka b.keys.length b.kc)).setCell ⟨y0.heap.size, 2, none⟩ (.slice b.va b.values.length b.vc)).setCell ⟨y0.heap.size, 3, none⟩ (.slice b.ia b.kids.length b.ic)).heap[y0.heap.size]? = some (.cells #[.bool b.leaf, .slice b.ka b.keys.length b.kc, .slice b.va b.values.length b.vc, .slice b.ia b.kids.length b.ic] 26 (0, 0)) := put4_at HZ7.out (.bool b.leaf) (.slice b.ka b.keys.length b.kc) (.slice b.va b.values.length b.vc) (.slice b.ia b.kids.length b.ic)
          have hm4 : Mod (fun j => j = y0.heap.size) y5 ((((y5.setCell ⟨y0.heap.size, 0, none⟩ (.bool b.leaf)).setCell ⟨y0.heap.size, 1, none⟩ (.slice b.ka b.keys.length b.kc)).setCell ⟨y0.heap.size, 2, none⟩ (.slice b.va b.values.length b.vc)).setCell ⟨y0.heap.size, 3, none⟩ (.slice b.ia b.kids.length b.ic)) := put4_mod y5 (y0.heap.size) (.bool b.leaf) (.slice b.ka b.keys.length b.kc) (.slice b.va b.values.length b.vc) (.slice b.ia b.kids.length b.ic)
          have HBb : Hid _ := hid h4
          have HBa' := hid ((hm4.block _ (lt_of_heap HBa.out) (fun h => HNe.out (by first | exact h | exact h.symm))).trans HBa.out)
          have HTa' := hid (HTa.out.mod hm4 (fun b hb h => HDa7.out b hb h))
          have HTb' := hid (HTb.out.mod hm4 (fun b hb h => HDb7.out b hb h))
          clear HTa HTb
          have HTa := HTa'
          have HTb := HTb'
          clear HTa' HTb'
          have HMY : Hid (Mod (fun _ => False) V ((((y5.setCell ⟨y0.heap.size, 0, none⟩ (.bool b.leaf)).setCell ⟨y0.heap.size, 1, none⟩ (.slice b.ka b.keys.length b.kc)).setCell ⟨y0.heap.size, 2, none⟩ (.slice b.va b.values.length b.vc)).setCell ⟨y0.heap.size, 3, none⟩ (.slice b.ia b.kids.length b.ic))) := hid (HMX.out.then hm4 (fun j hj h => by have := HV7.out; omega))
          clear HMX
          have HMX := HMY
          clear HMY hm4 h4
          clear HZ7
          clear HBa
          have HBa := HBa'
          clear HBa'
          generalize (((y5.setCell ⟨y0.heap.size, 0, none⟩ (.bool b.leaf)).setCell ⟨y0.heap.size, 1, none⟩ (.slice b.ka b.keys.length b.kc)).setCell ⟨y0.heap.size, 2, none⟩ (.slice b.va b.values.length b.vc)).setCell ⟨y0.heap.size, 3, none⟩ (.slice b.ia b.kids.length b.ic) = y6 at *
          refine hK.out _ _ (HUp.out _ HMX.out) (fun hHeld2 => ?_)
          clear hK K hHeld
          have hHeld := hHeld2
          clear hHeld2
          try simp only [Act.put, List.setIfInBounds_toArray, List.set_cons_zero, List.set_cons_succ]
          refine wpAnyH_done (by kernel_rfl) ?_ _
          clear hHeld
          go_wp2_with fail
          go_meet
          case rel => exact ⟨_, _, a, b, rfl, rfl, HBa.out, HBb.out, HTa.out.l, HTb.out.l, HTa.out.g, HTb.out.g, HMX.out⟩
      · go_simp
        have hmn : Mod (fun _ => False) y1 (y1.alloc (.cells #[.bool false, .slice none 0 0, .slice none 0 0, .slice none 0 0] 26)) := (Mod.refl _ _).alloc _
        have HMY : Hid (Mod (fun _ => False) V (y1.alloc (.cells #[.bool false, .slice none 0 0, .slice none 0 0, .slice none 0 0] 26))) := hid (HMX.out.trans hmn)
        have HZn6 : Hid ((y1.alloc (.cells #[.bool false, .slice none 0 0, .slice none 0 0, .slice none 0 0] 26)).heap[y1.heap.size]? = some (.cells #[.bool false, .slice none 0 0, .slice none 0 0, .slice none 0 0] 26 (0, 0))) := hid (heap_alloc_new _ _)
        have HZ7' := hid ((hmn.block _ (lt_of_heap HZ7.out) (fun h => h)).trans HZ7.out)
        have HNe : Hid (y0.heap.size ≠ y1.heap.size) := hid (fun h => by have := lt_of_heap HZ7.out; omega)
        clear HZ7
        have HZ7 := HZ7'
        clear HZ7'
        have HV6 : Hid (V.heap.size ≤ y1.heap.size) := hid HMX.out.size
        have HZ6 := HZn6
        clear HZn6 HMX hmn
        have HMX := HMY
        clear HMY
        generalize (y1.alloc (.cells #[.bool false, .slice none 0 0, .slice none 0 0, .slice none 0 0] 26)) = y2 at *
        refine hK.out _ _ (HUp.out _ HMX.out) (fun hHeld2 => ?_)
        clear hK K hHeld
        have hHeld := hHeld2
        clear hHeld2
        try simp only [Act.put, List.setIfInBounds_toArray, List.set_cons_zero, List.set_cons_succ]
        refine wpAnyH_ready (rs := [2]) (by kernel_rfl) (by simp) (AllReadyH.cons rfl (fun K hK => ?_) AllReadyH.nil)
        go_simp
        refine (HTw1.out y2 HMX.out).mono ?_
        rintro e y3 ⟨a, a1, a2, a3, a4, rfl, hg, hmn, hbn⟩
        have HTa : Hid (TwA y3 n a) := hid ⟨⟨a1, a2, a3, a4⟩, hg⟩
        have HZ7' := hid ((hmn.block _ (lt_of_heap HZ7.out) (fun h => h)).trans HZ7.out)
        have HDa7 : Hid (∀ z, a.bs z → z ≠ y0.heap.size) := hid (fun z hz h => by have := hbn z hz; have := lt_of_heap HZ7.out; omega)
        clear HZ7
        have HZ7 := HZ7'
        clear HZ7'
        have HZ6' := hid ((hmn.block _ (lt_of_heap HZ6.out) (fun h => h)).trans HZ6.out)
        have HDa6 : Hid (∀ z, a.bs z → z ≠ y1.heap.size) := hid (fun z hz h => by have := hbn z hz; have := lt_of_heap HZ6.out; omega)
        clear HZ6
        have HZ6 := HZ6'
        clear HZ6'
        have HMY : Hid (Mod (fun _ => False) V y3) := hid (HMX.out.trans hmn)
        clear HMX hmn hbn hg a1 a2 a3 a4
        have HMX := HMY
        clear HMY
        refine hK.out _ _ (HUp.out _ HMX.out) (fun hHeld2 => ?_)
        clear hK K hHeld
        have hHeld := hHeld2
        clear hHeld2
        try simp only [Act.put, List.setIfInBounds_toArray, List.set_cons_zero, List.set_cons_succ]
        refine wpAnyH_ready (rs := [5]) (by kernel_rfl) (by simp) (AllReadyH.cons rfl (fun K hK => ?_) AllReadyH.nil)
        go_simp
        refine (HTw2.out y3 HMX.out).mono ?_
        rintro e y4 ⟨b, a1, a2, a3, a4, rfl, hg, hmn, hbn⟩
        have HTb : Hid (TwA y4 p b) := hid ⟨⟨a1, a2, a3, a4⟩, hg⟩
        have HZ7' := hid ((hmn.block _ (lt_of_heap HZ7.out) (fun h => h)).trans HZ7.out)
        have HDb7 : Hid (∀ z, b.bs z → z ≠ y0.heap.size) := hid (fun z hz h => by have := hbn z hz; have := lt_of_heap HZ7.out; omega)
        clear HZ7
        have HZ7 := HZ7'
        clear HZ7'
        have HZ6' := hid ((hmn.block _ (lt_of_heap HZ6.out) (fun h => h)).trans HZ6.out)
        have HDb6 : Hid (∀ z, b.bs z → z ≠ y1.heap.size) := hid (fun z hz h => by have := hbn z hz; have := lt_of_heap HZ6.out; omega)
        clear HZ6
        have HZ6 := HZ6'
        clear HZ6'
        have HTa' := hid (HTa.out.mod hmn (fun _ _ h => h))
        clear HTa
        have HTa := HTa'
        clear HTa'
        have HMY : Hid (Mod (fun _ => False) V y4) := hid (HMX.out.trans hmn)
        clear HMX hmn hbn hg a1 a2 a3 a4
        have HMX := HMY
        clear HMY
        refine hK.out _ _ (HUp.out _ HMX.out) (fun hHeld2 => ?_)
        clear hK K hHeld
        have hHeld := hHeld2
        clear hHeld2
        try simp only [Act.put, List.setIfInBounds_toArray, List.set_cons_zero, List.set_cons_succ]
        refine wpAnyH_ready (rs := [8]) (by kernel_rfl) (by simp) (AllReadyH.cons rfl (fun K hK => ?_) AllReadyH.nil)
        obtain ⟨c0, c1, c2, c3⟩ := cells4 HZ6.out
        have f0 := frozen_of_row _ _ 0 _ _ HZ6.out
        have f1 := frozen_of_row _ _ 1 _ _ HZ6.out
        have f2 := frozen_of_row _ _ 2 _ _ HZ6.out
        have f3 := frozen_of_row _ _ 3 _ _ HZ6.out
        go_simp
        clear c0 c1 c2 c3 f0 f1 f2 f3
        have h4 : ((((y4.setCell ⟨y1.heap.size, 0, none⟩ (.bool a.leaf)).setCell ⟨y1.heap.size, 1, none⟩ (.slice a.ka a.keys.length a.kc)).setCell ⟨y1.heap.size, 2, none⟩ (.slice a.va a.values.length a.vc)).setCell ⟨y1.heap.size, 3, none⟩ (.slice a.ia a.kids.length a.ic)).heap[y1.heap.size]? = some (.cells #[.bool a.leaf, .slice a.ka a.keys.length a.kc, .slice a.va a.values.length a.vc, .slice a.ia a.kids.length a.ic] 26 (0, 0)) := put4_at HZ6.out (.bool a.leaf) (.slice a.ka a.keys.length a.kc) (.slice a.va a.values.length a.vc) (.slice a.ia a.kids.length a.ic)
        have hm4 : Mod (fun j => j = y1.heap.size) y4 ((((y4.setCell ⟨y1.heap.size, 0, none⟩ (.bool a.leaf)).setCell ⟨y1.heap.size, 1, none⟩ (.slice a.ka a.keys.length a.kc)).setCell ⟨y1.heap.size, 2, none⟩ (.slice a.va a.values.length a.vc)).setCell ⟨y1.heap.size, 3, none⟩ (.slice a.ia a.kids.length a.ic)) := put4_mod y4 (y1.heap.size) (.bool a.leaf) (.slice a.ka a.keys.length a.kc) (.slice a.va a.values.length a.vc) (.slice a.ia a.kids.length a.ic)
        have HZ7' := hid ((hm4.block _ (lt_of_heap HZ7.out) (fun h => HNe.out (by first | exact h | exact h.symm))).trans HZ7.out)
        have HBa : Hid _ := hid h4
        have HTa' := hid (HTa.out.mod hm4 (fun b hb h => HDa6.out b hb h))
        have HTb' := hid (HTb.out.mod hm4 (fun b hb h => HDb6.out b hb h))
        clear HTa HTb
        have HTa := HTa'
        have HTb := HTb'
        clear HTa' HTb'
        have HMY : Hid (Mod (fun _ => False) V ((((y4.setCell ⟨y1.heap.size, 0, none⟩ (.bool a.leaf)).setCell ⟨y1.heap.size, 1, none⟩ (.slice a.ka a.keys.length a.kc)).setCell ⟨y1.heap.size, 2, none⟩ (.slice a.va a.values.length a.vc)).setCell ⟨y1.heap.size, 3, none⟩ (.slice a.ia a.kids.length a.ic))) := hid (HMX.out.then hm4 (fun j hj h => by have := HV6.out; omega))
        clear HMX
        have HMX := HMY
        clear HMY hm4 h4
        clear HZ6
        clear HZ7
        have HZ7 := HZ7'
        clear HZ7'
        generalize (((y4.setCell ⟨y1.heap.size, 0, none⟩ (.bool a.leaf)).setCell ⟨y1.heap.size, 1, none⟩ (.slice a.ka a.keys.length a.kc)).setCell ⟨y1.heap.size, 2, none⟩ (.slice a.va a.values.length a.vc)).setCell ⟨y1.heap.size, 3, none⟩ (.slice a.ia a.kids.length a.ic) = y5 at *
        refine hK.out _ _ (HUp.out _ HMX.out) (fun hHeld2 => ?_)
        clear hK K hHeld
        have hHeld := hHeld2
        clear hHeld2
        try simp only [Act.put, List.setIfInBounds_toArray, List.set_cons_zero, List.set_cons_succ]
        refine wpAnyH_ready (rs := [9]) (by kernel_rfl) (by simp) (AllReadyH.cons rfl (fun K hK => ?_) AllReadyH.nil)
        obtain ⟨c0, c1, c2, c3⟩ := cells4 HZ7.out
        have f0 := frozen_of_row _ _ 0 _ _ HZ7.out
        have f1 := frozen_of_row _ _ 1 _ _ HZ7.out
        have f2 := frozen_of_row _ _ 2 _ _ HZ7.out
        have f3 := frozen_of_row _ _ 3 _ _ HZ7.out
        go_simp
        clear c0 c1 c2 c3 f0 f1 f2 f3
        have h4 : ((((y5.setCell ⟨y0.heap.size, 0, none⟩ (.bool b.leaf)).setCell ⟨y0.heap.size, 1, none⟩ (.slice b.ka b.keys.length b.kc)).setCell ⟨y0.heap.size, 2, none⟩ (.slice b.va b.values.length b.vc)).setCell ⟨y0.heap.size, 3, none⟩ (.slice b.ia b.kids.length b.ic)).heap[y0.heap.size]? = some (.cells #[.bool b.leaf, .slice b.ka b.keys.length b.kc, .slice b.va b.values.length b.vc, .slice b.ia b.kids.length b.ic] 26 (0, 0)) := put4_at HZ7.out (.bool b.leaf) (.slice b.ka b.keys.length b.kc) (.slice b.va b.values.length b.vc) (.slice b.ia b.kids.length b.ic)
        have hm4 : Mod (fun j => j = y0.heap.size) y5 ((((y5.setCell ⟨y0.heap.size, 0, none⟩ (.bool b.leaf)).setCell ⟨y0.heap.size, 1, none⟩ (.slice b.ka b.keys.length b.kc)).setCell ⟨y0.heap.size, 2, none⟩ (.slice b.va b.values.length b.vc)).setCell ⟨y0.heap.size, 3, none⟩ (.slice b.ia b.kids.length b.ic)) := put4_mod y5 (y0.heap.size) (.bool b.leaf) (.slice b.ka b.keys.length b.kc) (.slice b.va b.values.length b.vc) (.slice b.ia b.kids.length b.ic)
        have HBb : Hid _ := hid h4
        have HBa' := hid ((hm4.block _ (lt_of_heap HBa.out) (fun h => HNe.out (by first | exact h | exact h.symm))).trans HBa.out)
        have HTa' := hid (HTa.out.mod hm4 (fun b hb h => HDa7.out b hb h))
        have HTb' := hid (HTb.out.mod hm4 (fun b hb h => HDb7.out b hb h))
        clear HTa HTb
        have HTa := HTa'
        have HTb := HTb'
        clear HTa' HTb'
        have HMY : Hid (Mod (fun _ => False) V ((((y5.setCell ⟨y0.heap.size, 0, none⟩ (.bool b.leaf)).setCell ⟨y0.heap.size, 1, none⟩ (.slice b.ka b.keys.length b.kc)).setCell ⟨y0.heap.size, 2, none⟩ (.slice b.va b.values.length b.vc)).setCell ⟨y0.heap.size, 3, none⟩ (.slice b.ia b.kids.length b.ic))) := hid (HMX.out.then hm4 (fun j hj h => by have := HV7.out; omega))
        clear HMX
        have HMX := HMY
        clear HMY hm4 h4
        clear HZ7
        clear HBa
        have HBa := HBa'
        clear HBa'
        generalize (((y5.setCell ⟨y0.heap.size, 0, none⟩ (.bool b.leaf)).setCell ⟨y0.heap.size, 1, none⟩ (.slice b.ka b.keys.length b.kc)).setCell ⟨y0.heap.size, 2, none⟩ (.slice b.va b.values.length b.vc)).setCell ⟨y0.heap.size, 3, none⟩ (.slice b.ia b.kids.length b.ic) = y6 at *
        refine hK.out _ _ (HUp.out _ HMX.out) (fun hHeld2 => ?_)
        clear hK K hHeld
        have hHeld := hHeld2
        clear hHeld2
        try simp only [Act.put, List.setIfInBounds_toArray, List.set_cons_zero, List.set_cons_succ]
        refine wpAnyH_done (by kernel_rfl) ?_ _
        clear hHeld
        go_wp2_with fail
        go_meet
        case rel => exact ⟨_, _, a, b, rfl, rfl, HBa.out, HBb.out, HTa.out.l, HTb.out.l, HTa.out.g, HTb.out.g, HMX.out⟩
  case rest =>
    obtain ⟨B6, B7, a, b, rfl, rfl, hb6, hb7, la, lb, ga, gb, hm⟩ := hcut
    obtain ⟨U, rfl⟩ : ∃ y : World, y = wc := ⟨wc, rfl⟩
    have HB6 := hid hb6
    have HB7 := hid hb7
    have HLa := hid la
    have HLb := hid lb
    have HMu := hid (HM.out.trans hm)
    have HNa := hid (ga.node HN.out la.2.1 la.2.2.1 la.2.2.2)
    have HNb := hid (gb.node HP.out lb.2.1 lb.2.2.1 lb.2.2.2)
    have HNn := hid (HN.out.ext hm)
    have HNp := hid (HP.out.ext hm)
    have HBn2 := hid (HBn.out.mod hm (fun h => h))
    have HBp2 := hid (HBp.out.mod hm (fun h => h))
    have HLta : Hid (∀ z, a.bs z → z < U.heap.size) := hid (fun z hz => ga.lt hz)
    have HLtb : Hid (∀ z, b.bs z → z < U.heap.size) := hid (fun z hz => gb.lt hz)
    have HSp : Hid (Calls Try.prog 18 #[.agg #[.bool a.leaf, .slice a.ka a.keys.length a.kc, .slice a.va a.values.length a.vc, .slice a.ia a.kids.length a.ic]] U fun e w' => SplitA U e w') := hid ((split_any HNa.out).mono fun e w' h => split_list (by rw [ents_len]; have := HNa.out.bk; omega) h)
    obtain ⟨a0, a1, a2, a3⟩ := hb6.cells
    clear hb6 hb7 la lb hm ga gb
    clear HN HP HBn HBp HUp HTw1 HTw2
    go_upto_region 4 with (first | (go_at_call 18; refine HSp.out.mono ?_; rintro e w1 ⟨g, xs, rfl, hsp⟩; have HSl := hid hsp; clear hsp a0 a1 a2 a3))
    have HM1 := hid HSl.out.mod
    obtain ⟨a0, a1, a2, a3⟩ := (HB6.out.mod HM1.out (fun h => h)).cells
    obtain ⟨b0, b1, b2, b3⟩ := (HB7.out.mod HM1.out (fun h => h)).cells
    have HJn := hid (join_any (HNa.out.ext HM1.out) (HNb.out.ext HM1.out))
    have HLen := hid (And.intro HSl.out.lo HSl.out.hi)
    have HSm := hid (by have h1 := HNa.out.bk; have h2 := HNb.out.bk; exact (by rw [List.length_append, ents_len, ents_len]; show a.keys.length + b.keys.length ≤ 8388608; omega : (a.ents ++ (b.as a.leaf).ents).length ≤ 8388608))
    go_upto_region 5 with (first
      | (go_at_call 17; refine HJn.out.mono ?_; rintro e w2 ⟨m, hh, rfl, hgm, hm2, hbm⟩; have HHm := hid hh; have HGm := hid hgm; have HM2 := hid hm2; have HBm := hid hbm; have hm3 : Mod (fun _ => False) w2 (w2.alloc (.cells #[.bool m.leaf, .slice m.ka m.keys.length m.kc, .slice m.va m.values.length m.vc, .slice m.ia m.kids.length m.ic] 26)) := (Mod.refl _ _).alloc _; have HM3 := hid (HM1.out.trans (hm2.trans hm3)); have HMx3 := hid (hm2.trans hm3); have HO3 := hid (HSl.out.own.mod (hm2.trans hm3) (fun _ _ h => h)); have HS3 : Hid (Src (w2.alloc (.cells #[.bool m.leaf, .slice m.ka m.keys.length m.kc, .slice m.va m.values.length m.vc, .slice m.ia m.kids.length m.ic] 26)) 4 (some ⟨w2.heap.size, 0, none⟩) 1 m.cs) := hid (src_new (heap_alloc_new w2 _) rfl); have HG3 := hid (hgm.ext hm3 (fun _ _ h => h)); clear hh hgm hm2 hbm hm3 a0 a1 a2 a3 b0 b1 b2 b3)
      | (at_builtin; refine wpList_append_Own rfl (.tmp 22) (.tmp 26) 43 rfl 26 i0 _ 4 80 Try.underlying43 hi hz0 hz1 hz2 rfl (some ⟨g, 0, none⟩) xs.length xs.length _ rfl HO3.out (some ⟨w2.heap.size, 0, none⟩) 1 1 _ rfl HS3.out (cs_one _) (by have := HLen.out.2; unfold maxLen; omega) (by have := HLen.out.2; omega) ?_; intro sa cap w4 hown4 hm4 hb4 hn4 hr4; have HO4 := hid hown4; have HM4 := hid hm4; have HB4 := hid hb4; clear hown4 hm4 hb4 hn4 hr4))
    obtain ⟨ys, hys⟩ : ∃ ys, ys = xs ++ [m] := ⟨_, rfl⟩
    have HYl : Hid (ys.length = xs.length + 1) := hid (by rw [hys]; simp)
    have HYo : Hid (Own w4 26 4 sa ys.length cap (ys.flatMap Nd.cs)) := hid (by rw [HYl.out, hys, List.flatMap_append, List.flatMap_singleton]; exact HO4.out)
    rw [← HYl.out]
    obtain ⟨G, go, hsa⟩ := own_some HYo.out (by rw [HYl.out]; omega)
    subst hsa
    have HGG : Hid (G = g ∨ (w2.alloc (.cells #[.bool m.leaf, .slice m.ka m.keys.length m.kc, .slice m.va m.values.length m.vc, .slice m.ia m.kids.length m.ic] 26)).heap.size ≤ G) := hid ((HB4.out G (by rw [blk_some])).elim (fun h => .inl (by rw [blk_some] at h; exact h.symm)) .inr)
    have HUg : Hid (U.heap.size ≤ g) := hid HSl.out.gl
    have HM4U : Hid (Mod (fun j => U.heap.size ≤ j) U w4) := hid ((HM3.out.mono (fun _ _ h => h.elim)).trans ((HM4.out.mono (fun j hj h => by rw [blk_some] at h; have := HUg.out; omega)))) 
    have HMk4 : Hid (∀ x ∈ ys, Mk w4 U.heap.size w4.heap.size G x) := hid (fun x hx => by
      rw [hys] at hx
      have hz3 := HMx3.out.size
      have hz4 := HM4.out.size
      have hz1 := HM1.out.size
      have hz2 := HM2.out.size
      have hz5 : (w2.alloc (.cells #[.bool m.leaf, .slice m.ka m.keys.length m.kc, .slice m.va m.values.length m.vc, .slice m.ia m.kids.length m.ic] 26)).heap.size = w2.heap.size + 1 := by simp
      have hg1 : g < (w1).heap.size := HSl.out.own.lt g (by rw [blk_some])
      rcases List.mem_append.1 hx with h | h
      · have hgd : Gd w4 x := (((HSl.out.gd x h).ext HMx3.out (fun _ _ h => h))).ext HM4.out (fun z hz hb => by rw [blk_some] at hb; exact (HSl.out.bs x h z hz).2 hb.symm)
        refine hgd.mark (fun z hz => ?_) (HSl.out.sz x h)
        have h1 := HSl.out.bs x h z hz
        have h2 := (HSl.out.gd x h).lt hz
        refine ⟨h1.1, by omega, fun he => ?_⟩
        rcases HGG.out with e | e
        · exact h1.2 (he.trans e)
        · omega
      · rw [List.mem_singleton] at h
        subst h
        have hgd : Gd w4 x := HG3.out.ext HM4.out (fun z hz hb => by rw [blk_some] at hb; have := HBm.out z hz; omega)
        refine hgd.mark (fun z hz => ?_) (has_sz HHm.out HSm.out)
        have h1 := HBm.out z hz
        have h2 := HGm.out.lt hz
        refine ⟨by omega, by omega, fun he => ?_⟩
        rcases HGG.out with e | e <;> omega)
    have HB6' := hid (HB6.out.mod HM4U.out (fun h => by have := HB6.out.lt; omega))
    have HNa4 : Hid (NdAt w4 a) := hid (HNa.out.mod2 HM4U.out (fun k hk h => by omega))
    obtain ⟨a0, a1, a2, a3⟩ := HB6'.out.cells
    have HEn := hid (encode_any HNa4.out)
    clear hys HO3 HS3 HG3
    go_upto_region 6 with (first | (go_at_call 14; refine HEn.out.mono ?_; rintro e w5 ⟨rfl, hm5⟩; have HM5 := hid hm5; clear hm5 a0 a1 a2 a3))
    obtain ⟨X, rfl⟩ : ∃ y : World, y = w5 := ⟨w5, rfl⟩
    have HYx := hid (HYo.out.mod HM5.out (fun _ _ h => h))
    have HMUX : Hid (Mod (fun j => U.heap.size ≤ j) U X) := hid (HM4U.out.trans (HM5.out.mono (fun _ _ h => h.elim)))
    have HMkX : Hid (∀ x ∈ ys, Mk X U.heap.size X.heap.size G x) := hid (fun x hx => by
      have h := (HMk4.out x hx)
      have hs := HM5.out.size
      have h2 := h.mrk (Mrk.ext (Mrk.refl U.heap.size w4.heap.size G w4) HM5.out)
      exact ⟨h2.k, h2.v, h2.i, fun z hz => ⟨(h.b z hz).1, by have := (h.b z hz).2.1; omega, (h.b z hz).2.2⟩, h.lk, h.lv, h.li⟩)
    have HYs : Hid (ys.length ≤ 3) := hid (by have := HLen.out.2; rw [HYl.out]; omega)
    clear HM4 HB4 HO4 HMk4 HYo HM4U HNa4 HB6' HEn HSl HM1 HM2 HM3 HMx3 HBm HGm HHm HSm HJn HSp HGG HLen HYl
    go_wp2_with fail
    go_loopw [32] (fun c wr => ∃ k : Nat, k ≤ ys.length ∧ c = .int .i64 (k : Int) ∧ Mrk U.heap.size X.heap.size G X wr) (fun c _ => ys.length - (intOf c).toNat)
    case atStart => exact ⟨0, Nat.zero_le _, rfl, Mrk.refl _ _ _ _⟩
    case round =>
      obtain ⟨k, hk, rfl, hmr⟩ := hrel
      have HMr := hid hmr
      have HYs2 := HYs.out
      clear hmr
      obtain ⟨wo, rfl⟩ : ∃ y : World, y = wr := ⟨wr, rfl⟩
      by_cases hlt : k < ys.length
      case neg =>
        have hke : k = ys.length := by omega
        subst hke
        have HMf : Hid (Mod (fun j => U.heap.size ≤ j) U wo) := hid (HMUX.out.trans (HMr.out.m.mono (fun j hj h => h.1)))
        have HWk := hid (wakes_yes wo)
        have HRest : Hid (∀ v, Mod (fun _ => False) wo v → ((v.cell? ⟨B6, 0, none⟩ = some (.bool a.leaf) ∧ v.cell? ⟨B6, 1, none⟩ = some (.slice a.ka a.keys.length a.kc) ∧ v.cell? ⟨B6, 2, none⟩ = some (.slice a.va a.values.length a.vc) ∧ v.cell? ⟨B6, 3, none⟩ = some (.slice a.ia a.kids.length a.ic)) ∧ (v.cell? ⟨B7, 0, none⟩ = some (.bool b.leaf) ∧ v.cell? ⟨B7, 1, none⟩ = some (.slice b.ka b.keys.length b.kc) ∧ v.cell? ⟨B7, 2, none⟩ = some (.slice b.va b.values.length b.vc) ∧ v.cell? ⟨B7, 3, none⟩ = some (.slice b.ia b.kids.length b.ic))) ∧ KS W.heap.size (W.heap.size + 1) n p v) := hid (fun v hv => by
          have hmv : Mod (fun j => U.heap.size ≤ j) U v := HMf.out.trans (hv.mono (fun _ _ h => h.elim))
          exact ⟨⟨(HB6.out.mod hmv (fun h => by have := HB6.out.lt; omega)).cells, (HB7.out.mod hmv (fun h => by have := HB7.out.lt; omega)).cells⟩, (HBn2.out.mod hmv (fun h => by have := HBn2.out.lt; omega)).cells, (HBp2.out.mod hmv (fun h => by have := HBp2.out.lt; omega)).cells⟩)
        have HE1 : Hid (∀ v, Mod (fun _ => False) wo v → Calls Try.prog 21 #[.agg #[.bool a.leaf, .slice a.ka a.keys.length a.kc, .slice a.va a.values.length a.vc, .slice a.ia a.kids.length a.ic], .agg #[.bool n.leaf, .slice n.ka n.keys.length n.kc, .slice n.va n.values.length n.vc, .slice n.ia n.kids.length n.ic]] v fun e w' => e = .returned (.bool true) ∧ Mod (fun _ => False) v w') := hid (fun v hv =>
          equal_same ((HNa.out.mod2 HMf.out (fun k hk h => by omega)).ext hv) ((HNn.out.mod2 HMf.out (fun k hk h => by omega)).ext hv) HLa.out.1 HLa.out.2.1 HLa.out.2.2.1 HLa.out.2.2.2)
        have HE2 : Hid (∀ v, Mod (fun _ => False) wo v → Calls Try.prog 21 #[.agg #[.bool b.leaf, .slice b.ka b.keys.length b.kc, .slice b.va b.values.length b.vc, .slice b.ia b.kids.length b.ic], .agg #[.bool p.leaf, .slice p.ka p.keys.length p.kc, .slice p.va p.values.length p.vc, .slice p.ia p.kids.length p.ic]] v fun e w' => e = .returned (.bool true) ∧ Mod (fun _ => False) v w') := hid (fun v hv =>
          equal_same ((HNb.out.mod2 HMf.out (fun k hk h => by omega)).ext hv) ((HNp.out.mod2 HMf.out (fun k hk h => by omega)).ext hv) HLb.out.1 HLb.out.2.1 HLb.out.2.2.1 HLb.out.2.2.2)
        go_wp2_with (first
          | (go_at_call 9; refine HWk.out.mono ?_; rintro e v1 ⟨rfl, hv1⟩; have HV1 := hid hv1; clear hv1; obtain ⟨⟨⟨a0, a1, a2, a3⟩, b0, b1, b2, b3⟩, ⟨c0, c1, c2, c3⟩, d0, d1, d2, d3⟩ := HRest.out v1 HV1.out)
          | (go_at_call 21; (with_reducible refine (HE1.out _ HV1.out).mono ?_); rintro e v2 ⟨rfl, hv2⟩; have HV2 := hid (HV1.out.trans hv2); clear hv2 a0 a1 a2 a3 b0 b1 b2 b3 c0 c1 c2 c3 d0 d1 d2 d3; obtain ⟨⟨⟨a0, a1, a2, a3⟩, b0, b1, b2, b3⟩, ⟨c0, c1, c2, c3⟩, d0, d1, d2, d3⟩ := HRest.out v2 HV2.out)
          | (go_at_call 21; (with_reducible refine (HE2.out _ HV2.out).mono ?_); rintro e v3 ⟨rfl, hv3⟩; have HV3 := hid (HV2.out.trans hv3); clear hv3 a0 a1 a2 a3 b0 b1 b2 b3 c0 c1 c2 c3 d0 d1 d2 d3))
        go_ret
        refine ⟨rfl, Mod.below (S := fun j => W.heap.size ≤ j) ?_ (Nat.le_refl _) (fun _ h => h)⟩
        have hs := HMu.out.size
        exact (HMu.out.mono (fun _ _ h => h.elim)).trans ((HMf.out.trans (HV3.out.mono (fun _ _ h => h.elim))).mono (fun j _ h => by omega))
      case pos =>
        obtain ⟨x, hx⟩ : ∃ x, ys[k]? = some x := ⟨_, List.getElem?_eq_getElem hlt⟩
        have HYr := hid (HYx.out.mod HMr.out.m (fun z hz h => h.2.2 (by rw [blk_some] at hz; exact hz.symm)))
        have q0 := HYr.out.elem cs_len hx (j := 0) rfl
        have q1 := HYr.out.elem cs_len hx (j := 1) rfl
        have q2 := HYr.out.elem cs_len hx (j := 2) rfl
        have q3 := HYr.out.elem cs_len hx (j := 3) rfl
        rw [Nat.add_zero] at q0
        have hma : Mod (fun _ => False) wo (wo.alloc (.cells #[.bool x.leaf, .slice x.ka x.keys.length x.kc, .slice x.va x.values.length x.vc, .slice x.ia x.kids.length x.ic] 26)) := (Mod.refl _ _).alloc _
        have hcx : (wo.alloc (.cells #[.bool x.leaf, .slice x.ka x.keys.length x.kc, .slice x.va x.values.length x.vc, .slice x.ia x.kids.length x.ic] 26)).heap[wo.heap.size]? = some (.cells #[.bool x.leaf, .slice x.ka x.keys.length x.kc, .slice x.va x.values.length x.vc, .slice x.ia x.kids.length x.ic] 26 (0, 0)) := heap_alloc_new _ _
        have HXb := hid (Nat.le_trans HMr.out.m.size (Nat.le_refl wo.heap.size))
        have HCx := hid hcx
        have HMa := hid (HMr.out.ext hma)
        have HMk := hid ((HMkX.out x (List.mem_of_getElem? hx)).mrk HMa.out)
        have hlk := HMk.out.lk
        have hlv := HMk.out.lv
        have hli := HMk.out.li
        have c1 := (cells4 hcx).2.1
        clear hma hcx hx
        go_wp2_with fail
        clear q0 q1 q2 q3 c1
        generalize wo.alloc (.cells #[.bool x.leaf, .slice x.ka x.keys.length x.kc, .slice x.va x.values.length x.vc, .slice x.ia x.kids.length x.ic] 26) = A at *
        go_loopw [39] (fun c wr => ∃ j : Nat, j ≤ x.keys.length ∧ c = .int .i64 (j : Int) ∧ Mrk U.heap.size X.heap.size G X wr ∧ Mrk U.heap.size X.heap.size G A wr) (fun c _ => x.keys.length - (intOf c).toNat)
        case atStart => exact ⟨0, Nat.zero_le _, rfl, HMa.out, Mrk.refl _ _ _ _⟩
        case round =>
          obtain ⟨j, hj, rfl, hmi, hms⟩ := hrel
          have HMi := hid hmi
          have HMs := hid hms
          clear hmi hms
          by_cases hlj : j < x.keys.length
          case neg =>
            have hje : j = x.keys.length := by omega
            subst hje
            obtain ⟨A1, rfl⟩ : ∃ y : World, y = wr := ⟨wr, rfl⟩
            have HCx1 := hid ((HMs.out.m.block wo.heap.size (lt_of_heap HCx.out) (fun h => by have h1 := h.2.1; have := HXb.out; omega)).trans HCx.out)
            have HMa1 := HMi
            have HMk1 := hid (HMk.out.mrk HMs.out)
            have c2 := (cells4 HCx1.out).2.2.1
            clear HMi HMs
            go_wp2_with fail
            clear c2
            go_loopw [50] (fun c wr => ∃ j : Nat, j ≤ x.values.length ∧ c = .int .i64 (j : Int) ∧ Mrk U.heap.size X.heap.size G X wr ∧ Mrk U.heap.size X.heap.size G A1 wr) (fun c _ => x.values.length - (intOf c).toNat)
            case atStart => exact ⟨0, Nat.zero_le _, rfl, HMa1.out, Mrk.refl _ _ _ _⟩
            case round =>
              obtain ⟨j, hj, rfl, hmi, hms⟩ := hrel
              have HMi := hid hmi
              have HMs := hid hms
              clear hmi hms
              by_cases hlj : j < x.values.length
              case neg =>
                have hje : j = x.values.length := by omega
                subst hje
                obtain ⟨A2, rfl⟩ : ∃ y : World, y = wr := ⟨wr, rfl⟩
                have HCx2 := hid ((HMs.out.m.block wo.heap.size (lt_of_heap HCx1.out) (fun h => by have h1 := h.2.1; have := HXb.out; omega)).trans HCx1.out)
                have HMa2 := HMi
                have HMk2 := hid (HMk1.out.mrk HMs.out)
                have c3 := (cells4 HCx2.out).2.2.2
                clear HMi HMs
                go_wp2_with fail
                clear c3
                go_loopw [61] (fun c wr => ∃ j : Nat, j ≤ x.kids.length ∧ c = .int .i64 (j : Int) ∧ Mrk U.heap.size X.heap.size G X wr ∧ Mrk U.heap.size X.heap.size G A2 wr) (fun c _ => x.kids.length - (intOf c).toNat)
                case atStart => exact ⟨0, Nat.zero_le _, rfl, HMa2.out, Mrk.refl _ _ _ _⟩
                case round =>
                  obtain ⟨j, hj, rfl, hmi, hms⟩ := hrel
                  have HMi := hid hmi
                  have HMs := hid hms
                  clear hmi hms
                  by_cases hlj : j < x.kids.length
                  case neg =>
                    have hje : j = x.kids.length := by omega
                    subst hje
                    go_wp2_with fail
                    go_roundw
                    case rel => exact ⟨k + 1, by omega, by go_num, HMi.out⟩
                    case measure => simp [intOf]; omega
                  case pos =>
                    have hcx := (HMs.out.m.block wo.heap.size (lt_of_heap HCx2.out) (fun h => by have h1 := h.2.1; have := HXb.out; omega)).trans HCx2.out
                    obtain ⟨v0, v1, v2, v3⟩ := cells4 hcx
                    have hmk := HMk2.out.mrk HMs.out
                    obtain ⟨g2, off2, vv, hsa, hcell, hfr⟩ := hmk.i.spot hlj
                    have HBk := hid (fun z (hz : blk x.ia z) => hmk.b z (.inr (.inr hz)))
                    rw [hsa] at HBk
                    have HBg := hid (HBk.out g2 (by rw [blk_some]))
                    rw [hsa] at v3
                    clear hcx hmk HBk hsa
                    go_wp2_with fail
                    go_roundw
                    case rel => exact ⟨j + 1, by omega, by go_num, HMi.out.set HBg.out _ _, HMs.out.set HBg.out _ _⟩
                    case measure => simp [intOf]; omega
              case pos =>
                have hcx := (HMs.out.m.block wo.heap.size (lt_of_heap HCx1.out) (fun h => by have h1 := h.2.1; have := HXb.out; omega)).trans HCx1.out
                obtain ⟨v0, v1, v2, v3⟩ := cells4 hcx
                have hmk := HMk1.out.mrk HMs.out
                obtain ⟨g2, off2, vv, hsa, hcell, hfr⟩ := hmk.v.spot hlj
                have HBk := hid (fun z (hz : blk x.va z) => hmk.b z (.inr (.inl hz)))
                rw [hsa] at HBk
                have HBg := hid (HBk.out g2 (by rw [blk_some]))
                rw [hsa] at v2
                clear hcx hmk HBk hsa
                go_wp2_with fail
                go_roundw
                case rel => exact ⟨j + 1, by omega, by go_num, HMi.out.set HBg.out _ _, HMs.out.set HBg.out _ _⟩
                case measure => simp [intOf]; omega
          case pos =>
            have hcx := (HMs.out.m.block wo.heap.size (lt_of_heap HCx.out) (fun h => by have h1 := h.2.1; have := HXb.out; omega)).trans HCx.out
            obtain ⟨v0, v1, v2, v3⟩ := cells4 hcx
            have hmk := HMk.out.mrk HMs.out
            obtain ⟨g2, off2, vv, hsa, hcell, hfr⟩ := hmk.k.spot hlj
            have HBk := hid (fun z (hz : blk x.ka z) => hmk.b z (.inl hz))
            rw [hsa] at HBk
            have HBg := hid (HBk.out g2 (by rw [blk_some]))
            rw [hsa] at v1
            clear hcx hmk HBk hsa
            go_wp2_with fail
            go_roundw
            case rel => exact ⟨j + 1, by omega, by go_num, HMi.out.set HBg.out _ _, HMs.out.set HBg.out _ _⟩
            case measure => simp [intOf]; omega

theorem own : ownKnob Try.prog.godebug = none := by kernel_rfl
theorem laidOut : laidOutB Try.prog = true := by kernel_rfl

set_option maxRecDepth 100000 in
theorem contract (H : Type) (enc : TypeId × Value → H) (W : World) (base : Nat) (args : Array Value) (ds gs : List (DataW H)) (before : List MemPlace)
    (hval0 : ∀ (j : Nat) t v, Try.f8.params[j]? = some t → args[j]? = some v → Value.okWide Try.prog W .any base t v)
    (hW : DataW.Whole enc Try.prog Try.f8.params.toList Rows.nodeKeepsSpec.vars false W args.toList ds gs before) (hk : Rows.uptoSmall H (ds ++ gs) = true) :
    Calls Try.prog 8 args W fun e W' => ∃ v, e = .returned v ∧ Rows.nodeKeepsSpec.post enc Try.prog Try.f8 false true false false W args v W' := by
  have hbk := bulk_all hk
  have hval : ∀ (j : Nat) t v, Try.f8.params[j]? = some t → args[j]? = some v → Value.okWide Try.prog W .any base t v := hval0
  have hW' := hW
  obtain ⟨p, q, hA0, hV, rfl, hfz, hnd⟩ := hW
  have hA : DataW.TrodAll enc Try.prog W 0 (fun _ => true) true Try.f8.params.toList args.toList ds p := hA0
  rw [Try.params8] at hA hval
  obtain ⟨v0, vs0, d0, ds0, p0, q0, hargs, rfl, rfl, h0, r0⟩ := trodAll_cons hA
  obtain ⟨v1, vs1, d1, ds1, p1, q1, rfl, rfl, rfl, h1, r1⟩ := trodAll_cons r0
  obtain ⟨rfl, rfl, rfl⟩ := trodAll_nil r1
  obtain rfl : args = #[v0, v1] := by cases args; simp_all
  obtain ⟨rfl, rfl⟩ := trodVars_none hV
  have lt0 : ∀ x ∈ p0, x.block < W.heap.size := by obtain ⟨m, hm⟩ := h0; exact DataW.trod_lt m _ _ _ hm
  have lt1 : ∀ x ∈ p1, x.block < W.heap.size := by obtain ⟨m, hm⟩ := h1; exact DataW.trod_lt m _ _ _ hm
  obtain ⟨n0, rfl, at0, bk0⟩ := open_node (hval 0 26 v0 rfl rfl) h0 (hbk d0 (by simp))
  obtain ⟨n1, rfl, at1, bk1⟩ := open_node (hval 1 26 v1 rfl rfl) h1 (hbk d1 (by simp))
  clear hA0 hval0
  refine (walk W n0 at0 bk0 n1 at1 bk1).mono fun e W' ⟨he, bel⟩ => ?_
  subst he
  exact ⟨_, rfl, _, _, _, [], _, [], hW', trodAll_mk1 (shut_bool Try.underlying4 _), (trodAll_cons_mk (Below.trod laidOut (by kernel_rfl) (of_decide_eq_true (by kernel_rfl)) h0 bel lt0) (trodAll_cons_mk (Below.trod laidOut (by kernel_rfl) (of_decide_eq_true (by kernel_rfl)) h1 bel lt1) trodAll_mk0)), rfl, bel.frame _, fun h => by cases h⟩

set_option maxRecDepth 100000 in
theorem lifted (os : Os) (started : os.Started) (H : Type) (enc : TypeId × Value → H) (F : Stop.Interp) :
    ReturnsInHanded {} Try.checked os 8 .any ((Rows.OpenSpec.upto Rows.nodeKeepsSpec).pre6 enc Try.prog Try.f8 Rows.nodeKeepsUptoRow.domain false) (((Rows.OpenSpec.upto Rows.nodeKeepsSpec).at F).post enc Try.prog Try.f8 false true false false) := by
  refine returnsInHanded_of_cond (C := Try.checked) (s := Rows.OpenSpec.upto Rows.nodeKeepsSpec) (k := Rows.uptoSmall) rfl own started (by kernel_rfl) Try.func8
    (OpenSpec.witness (enc := enc) (C := Try.checked) (s := Rows.OpenSpec.upto Rows.nodeKeepsSpec) (k := Rows.uptoSmall) rfl false ⟨#[], #[.agg #[.bool false, .slice none 0 0, .slice none 0 0, .slice none 0 0], .agg #[.bool false, .slice none 0 0, .slice none 0 0, .slice none 0 0]], []⟩ 8 (by kernel_rfl) (by kernel_rfl) (by kernel_rfl)
      (x := ([.agg [.lit (.bool false), .nil, .nil, .nil], .agg [.lit (.bool false), .nil, .nil, .nil]], [], [])) (by kernel_rfl) rfl (by kernel_rfl)) ?_
  intro W base args ds gs before hval hW _ hk _
  exact contract H enc W base args ds gs before hval hW hk

theorem proved : Rows.NodeKeepsUptoSaid :=
  OpenClaim.holds_of_cond 8 Try.f8 rfl rfl rfl rfl rfl rfl rfl ⟨rfl, rfl, rfl, rfl, rfl⟩ rfl rfl rfl rfl rfl (by kernel_rfl) Try.func8 (by kernel_rfl)
    (of_decide_eq_true (by kernel_rfl)) (by unfold Func.isWrapper; first | (rw [if_pos (by decide +kernel)]; kernel_rfl) | (rw [if_neg (by decide +kernel)]; exact ⟨rfl, rfl⟩))
    (fun os started H enc _ F => lifted os started H enc F)
#print axioms proved
end NodeKeeps

theorem nodeKeeps_holds : Rows.NodeKeepsUptoSaid := NodeKeeps.proved
end Go.Proofs.Ythdopgejikcfbaa
