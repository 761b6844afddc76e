/- merged: RwC2 RwCh RoR -/
import Derived.Test.YtkinkgbmlhiakaaGreatDoorNa30
import Derived.Test.YtkinkgbmlhiakaaGreatDoorNa28
import Derived.Test.YtkinkgbmlhiakaaGreatDoorNa26
import Derived.Test.YtkinkgbmlhiakaaGreatDoorNa29
import Derived.Test.YtkinkgbmlhiakaaGreatDoorNa23
namespace Go.Proofs.YtkinkgbmlhiakaaGreatDoor
section
open Go Go.RowKit
theorem row2 {V : World} {b : Nat} {v0 v1 : Value} {T : TypeId} (h : V.heap[b]? = some (.cells #[v0, v1] T (0, 0))) : V.cell? ⟨b, 0, none⟩ = some v0 /\ V.cell? ⟨b, 1, none⟩ = some v1 /\ V.frozen? ⟨b, 0, none⟩ = false /\ V.frozen? ⟨b, 1, none⟩ = false :=
 ⟨by rw [cell_of_row _ _ _ _ _ _ h]; rfl, by rw [cell_of_row _ _ _ _ _ _ h]; rfl, frozen_of_row _ _ 0 _ _ h, frozen_of_row _ _ 1 _ _ h⟩
theorem val2 {w W : World} (hm : Mod (fun _ => False) w W) {b : Nat} (hb : w.heap.size <= b) {v0 v1 : Value} {T : TypeId} (h : W.heap[b]? = some (.cells #[v0, v1] T (0, 0))) (a c : Value) :
  ((W.setCell ⟨b, 0, none⟩ a).setCell ⟨b, 1, none⟩ c).cell? ⟨b, 0, none⟩ = some a /\ ((W.setCell ⟨b, 0, none⟩ a).setCell ⟨b, 1, none⟩ c).cell? ⟨b, 1, none⟩ = some c /\ Mod (fun _ => False) w ((W.setCell ⟨b, 0, none⟩ a).setCell ⟨b, 1, none⟩ c) := by
 have r := row2 (set2 (set2 h a).1 c).2; exact ⟨r.1, r.2.1, (hm.setCell (fun h => by simp only at h; omega) _).setCell (fun h => by simp only at h; omega) _⟩
end
section
open Go Go.RowKit
theorem jHg : (Tryz.prog.info? 113).map (fun i => (i.zero, i.size, i.bytes)) = some (some (.agg #[.string ⟨#[]⟩, .string ⟨#[]⟩, .bool false]), 3, 40) := by kernel_rfl
structure Rg where
 k : ByteArray
 v : ByteArray
 g : Bool
def Rg.cs (c : Rg) : List Value := [.string c.k, .string c.v, .bool c.g]
structure PB where
 k : ByteArray
 v : ByteArray
 x : ByteArray
def PX.b (p : PX) : PB := ⟨ba p.k, ba p.v, ba p.x⟩
def chgL : Option PB -> Option PB -> List Rg
 | none, none => []
 | none, some q => ⟨q.k, q.v, false⟩ :: (if q.x.toList.isEmpty = true then [] else [⟨q.x, ⟨#[]⟩, false⟩])
 | some p, none => ⟨p.k, ⟨#[]⟩, true⟩ :: (if p.x.toList.isEmpty = true then [] else [⟨p.x, ⟨#[]⟩, true⟩])
 | some p, some q => ⟨q.k, q.v, false⟩ :: (if q.x.toList.isEmpty = true \/ p.x.toList = q.x.toList then [] else [⟨q.x, ⟨#[]⟩, false⟩, ⟨p.x, ⟨#[]⟩, true⟩])
def qNt (P Q : Option PB) (n m : Nat) : Prop := (P = none /\ 0 < n) \/ (Q = none /\ 0 < m) \/ ∃ p q, P = some p /\ Q = some q /\ p.k.toList ≠ q.k.toList
def qVh (w : World) (P Q : Option PB) (n m : Nat) (e : Ending) (w' : World) : Prop :=
 Mod (fun _ => False) w w' /\ ((qNt P Q n m /\ e = .returned (.tuple #[.slice none 0 0, .int .i64 60])) \/ (¬ qNt P Q n m /\ ∃ la cap, e = .returned (.tuple #[.slice la (chgL P Q).length cap, .int .i64 0]) /\ Lies w' 3 Rg.cs la (chgL P Q)))
theorem qRa {w w' : World} {P Q : Option PB} {n m : Nat} (hm : Mod (fun _ => False) w w') (h : qNt P Q n m) : qVh w P Q n m (.returned (.tuple #[.slice none 0 0, .int .i64 60])) w' := ⟨hm, .inl ⟨h, rfl⟩⟩
theorem qGm {w w' : World} {P Q : Option PB} {n m : Nat} {la : Option Addr} {cap k : Nat} {l : List Rg} {t : TypeId} (hm : Mod (fun _ => False) w w') (h : ¬ qNt P Q n m) (hl : chgL P Q = l) (hk : l.length = k) (ho : Own w' t 3 la k cap (l.flatMap Rg.cs)) : qVh w P Q n m (.returned (.tuple #[.slice la k cap, .int .i64 0])) w' := by
 subst hk; subst hl; exact ⟨hm, .inr ⟨h, la, cap, rfl, ho.lies⟩⟩
theorem jGb (w : World) (A B : Obj) : ((w.alloc A).alloc B).heap[w.heap.size]? = some A /\ ((w.alloc A).alloc B).heap[w.heap.size + 1]? = some B := by
 have h : (w.alloc A).heap.size = w.heap.size + 1 := by simp
 refine ⟨?_, ?_⟩
 ·rw [Below.heap_alloc _ _ _ (by omega)]
  exact heap_alloc_new _ _
 ·rw [<- h]; exact heap_alloc_new _ _
theorem qNe (O : Option PX) : ∃ (k v x : ByteArray) (ok : Bool), qCz O = .tuple #[.agg #[.string k, .string v], .agg #[.string x, .string ⟨#[]⟩], .bool ok] /\ ((ok = true /\ O.map PX.b = some ⟨k, v, x⟩) \/ (ok = false /\ O.map PX.b = none /\ x.toList.isEmpty = true)) := by
 cases O with
 | none => exact ⟨_, _, _, _, rfl, .inr ⟨rfl, rfl, by rw [ByteArray.toList_eq]; rfl⟩⟩
 | some p => exact ⟨_, _, _, _, rfl, .inl ⟨rfl, rfl⟩⟩
theorem qTy {name : Int} {cols : List Int} {keys idx : Int} {r : List Vl} {b : PB} (h : (qBu name cols keys idx r).map PX.b = some b) : b.x.toList.isEmpty = decide (idx < 0) := by
 rw [Option.map_eq_some_iff] at h; obtain ⟨p, hp, rfl⟩ := h; obtain ⟨_, _, rfl⟩ := qGd hp; rw [Bool.eq_iff_iff, List.isEmpty_iff, decide_eq_true_iff]; unfold PX.b pxOf pxL; simp only; rw [ByteArray.toList_eq, qDd]; split
 ·next h => exact ⟨fun h' => by simp [qBg] at h', fun h' => by omega⟩
 ·next h => exact ⟨fun _ => by omega, fun _ => rfl⟩
set_option maxRecDepth 100000
set_option maxHeartbeats 8000000 in
theorem qSt {w : World} {ca ra fa : Option Addr} {cols : List Int} {r f : List Vl} (name keys idx : Int) (cc rc fc : Nat) (hl : Lies w 1 oneI ca cols) (hr : Lies w 2 Vl.cs ra r) (hf : Lies w 2 Vl.cs fa f) (hn : cols.length <= 140737488351232) (hrn : r.length <= 140737488351232) (hv : ∀ v ∈ r, v.Ok) (hsz : (∀ k, (qDq cols r k).length <= 1152921504606846976) /\ ∀ j k, (valL cols r j k).length <= 1152921504606846976) (hfn : f.length <= 140737488351232) (hvf : ∀ v ∈ f, v.Ok) (hszf : (∀ k, (qDq cols f k).length <= 1152921504606846976) /\ ∀ j k, (valL cols f j k).length <= 1152921504606846976) :
  Calls Tryz.prog 10 #[.agg #[.int .u8 name, .slice ca cols.length cc, .int .i64 keys, .int .i64 idx], .slice ra r.length rc, .slice fa f.length fc] w fun e w' => qVh w ((qBu name cols keys idx r).map PX.b) ((qBu name cols keys idx f).map PX.b) r.length f.length e w' := by
 obtain ⟨i0, hi0, hz0, hz1, hz2⟩ := info_parts jHg; have hma : Mod (fun _ => False) w (w.alloc (.cells #[.int .u8 name, .slice ca cols.length cc, .int .i64 keys, .int .i64 idx] 24)) := (Mod.refl _ _).alloc _
 have ha : (w.alloc (.cells #[.int .u8 name, .slice ca cols.length cc, .int .i64 keys, .int .i64 idx] 24)).heap[w.heap.size]? = some (.cells #[.int .u8 name, .slice ca cols.length cc, .int .i64 keys, .int .i64 idx] 24 (0, 0)) := heap_alloc_new _ _; have HM := hid hma; have HP1 := hid (fun (V : World) (hm : Mod (fun _ => False) (w.alloc (.cells #[.int .u8 name, .slice ca cols.length cc, .int .i64 keys, .int .i64 idx] 24)) V) => qJj (w := V) name keys idx cc rc ((hl.ext hma).ext hm) ((hr.ext hma).ext hm) hn hrn hv hsz.1 hsz.2)
 have HP2 := hid (fun (V : World) (hm : Mod (fun _ => False) (w.alloc (.cells #[.int .u8 name, .slice ca cols.length cc, .int .i64 keys, .int .i64 idx] 24)) V) => qJj (w := V) name keys idx cc fc ((hl.ext hma).ext hm) ((hf.ext hma).ext hm) hn hfn hvf hszf.1 hszf.2)
 have HTab := hid (fun (V : World) (hm : Mod (fun _ => False) (w.alloc (.cells #[.int .u8 name, .slice ca cols.length cc, .int .i64 keys, .int .i64 idx] 24)) V) => row4 ((hm.block _ (lth ha) (fun h => h)).trans ha))
 obtain ⟨ka, va, xa, oa, e1, q1⟩ := qNe (qBu name cols keys idx r); obtain ⟨kb, vb, xb, ob, e2, q2⟩ := qNe (qBu name cols keys idx f); have hxa : ∀ p, (qBu name cols keys idx r).map PX.b = some p -> p.x.toList.isEmpty = decide (idx < 0) := fun p h => qTy h
 have hxb : ∀ p, (qBu name cols keys idx f).map PX.b = some p -> p.x.toList.isEmpty = decide (idx < 0) := fun p h => qTy h
 rw [e1] at HP1; rw [e2] at HP2; generalize (qBu name cols keys idx r).map PX.b = PA at *; generalize (qBu name cols keys idx f).map PX.b = PB' at *; have HQ1 := hid q1; have HQ2 := hid q2; have HXa := hid hxa; have HXb := hid hxb; clear hma ha hl hr hf hn hrn hv hsz hfn hvf hszf e1 e2 q1 q2 hxa hxb; obtain ⟨b0, b1, b2, b3⟩ := HTab.out _ (Mod.refl _ _); go_enter Tryz.func10, Tryz.ntmps10
 go_upto_region 1 with fail
 generalize hC : (w.alloc (.cells #[.int .u8 name, .slice ca cols.length cc, .int .i64 keys, .int .i64 idx] 24)) = C at *; clear hC; go_upto_region 2 with (go_at_call 31; refine (HP1.out _ (Mod.refl _ _)).mono ?_; rintro e w1 ⟨rfl, hm⟩; have HM1 := hid hm; clear hm)
 clear b0 b1 b2 b3; have HA := hid (jGb w1 (.cells #[.string ka, .string va] 41) (.cells #[.string xa, .string ⟨#[]⟩] 41)); have HM2 := hid ((HM1.out.alloc (.cells #[.string ka, .string va] 41)).alloc (.cells #[.string xa, .string ⟨#[]⟩] 41)); generalize ((w1.alloc (.cells #[.string ka, .string va] 41)).alloc (.cells #[.string xa, .string ⟨#[]⟩] 41)) = V1 at *; obtain ⟨b0, b1, b2, b3⟩ := HTab.out _ HM2.out; go_upto_region 3 with (go_at_call 31; refine (HP2.out _ HM2.out).mono ?_; rintro e w2 ⟨rfl, hm⟩; have HM3 := hid hm; clear hm)
 clear b0 b1 b2 b3; have HB := hid (jGb w2 (.cells #[.string kb, .string vb] 41) (.cells #[.string xb, .string ⟨#[]⟩] 41)); have HM4 := hid ((HM3.out.alloc (.cells #[.string kb, .string vb] 41)).alloc (.cells #[.string xb, .string ⟨#[]⟩] 41)); generalize ((w2.alloc (.cells #[.string kb, .string vb] 41)).alloc (.cells #[.string xb, .string ⟨#[]⟩] 41)) = V at *; have HA1 := hid ((HM4.out.block _ (lth HA.out.1) (fun h => h)).trans HA.out.1)
 have HA2 := hid ((HM4.out.block _ (lth HA.out.2) (fun h => h)).trans HA.out.2)
 have HMC := hid (HM2.out.trans HM4.out); have HRow := hid (fun (W : World) (hm : Mod (fun _ => False) V W) => (fun x y z u => And.intro x (And.intro y (And.intro z u))) (row2 ((hm.block _ (lth HA1.out) (fun h => h)).trans HA1.out)) (row2 ((hm.block _ (lth HB.out.1) (fun h => h)).trans HB.out.1)) (row2 ((hm.block _ (lth HA2.out) (fun h => h)).trans HA2.out)) (row2 ((hm.block _ (lth HB.out.2) (fun h => h)).trans HB.out.2)))
 have HMV := hid (HM.out.trans HMC.out); rcases HQ1.out with ⟨rfl, rfl⟩ | ⟨rfl, rfl, ea⟩
 ·have ea : xa.toList.isEmpty = decide (idx < 0) := HXa.out _ rfl; rcases HQ2.out with ⟨rfl, rfl⟩ | ⟨rfl, rfl, eb⟩
  ·have eb : xb.toList.isEmpty = decide (idx < 0) := HXb.out _ rfl; by_cases ek : ka.toList = kb.toList
   case neg =>
    have ek' : (ka.toList == kb.toList) = false := beq_eq_false_iff_ne.2 ek; obtain ⟨⟨c0, c1, _, _⟩, ⟨d0, d1, _, _⟩, ⟨f0, _, _, _⟩, g0, _, _, _⟩ := HRow.out V (Mod.refl _ _); go_wp2_with fail
    go_ret2; exact qRa HMV.out (.inr (.inr ⟨_, _, rfl, rfl, ek⟩))
   case pos =>
    by_cases ei : idx < 0
    case pos =>
     rw [decide_eq_true ei] at ea eb; have ex : xa.toList = xb.toList := by rw [List.isEmpty_iff.1 ea, List.isEmpty_iff.1 eb]
     have ek' : (ka.toList == kb.toList) = true := beq_iff_eq.2 ek; have ex1 : (xa.toList == xb.toList) = true := beq_iff_eq.2 ex; have ex2 : (xb.toList == xa.toList) = true := beq_iff_eq.2 ex.symm; obtain ⟨⟨c0, c1, _, _⟩, ⟨d0, d1, _, _⟩, ⟨f0, _, _, _⟩, g0, _, _, _⟩ := HRow.out V (Mod.refl _ _); go_upto_region 7 with fail
     obtain ⟨la0, cap0, hX, HO0, HN0⟩ : ∃ la cap, Value.slice none 0 0 = Value.slice la 0 cap /\ Hid (Own V 113 3 la 0 cap []) /\ Hid (∀ b, blk la b -> V.heap.size <= b) := ⟨none, 0, rfl, Own.nil _ _ _, fun b hb => (qAj b hb).elim⟩
     rw [hX]; clear hX; have HOa1 := hid (HO0.out.mod (S := fun _ => False) ((Mod.refl _ V).alloc (.cells #[.string kb, .string vb, .bool false] 113)) (fun _ _ h => h))
     have HSa1 : Hid (Src (V.alloc (.cells #[.string kb, .string vb, .bool false] 113)) 3 (some ⟨V.heap.size, 0, none⟩) 1 [.string kb, .string vb, .bool false]) := hid (qAs (heap_alloc_new _ _) rfl); have HMa1 := hid (Mod.alloc (S := fun _ => False) (a := V) (Mod.refl _ _) (.cells #[.string kb, .string vb, .bool false] 113))
     go_upto_region 8 with (at_builtin; refine qAc rfl (.tmp 59) (.tmp 65) 34 rfl 113 i0 _ 3 40 Tryz.underlying34 hi0 hz0 hz1 hz2 rfl la0 0 cap0 _ rfl HOa1.out (some ⟨V.heap.size, 0, none⟩) 1 1 _ rfl HSa1.out (by intro u hu; simp at hu; rcases hu with rfl | rfl | rfl <;> rfl) (by unfold maxLen; omega) (by omega) ?_; intro la1 cap1 Z1 hown hm hb hn hr; have HO1 := hid hown; have HMx1 := hid hm; have HBx1 := hid hb; clear hown hm hb hn hr; clear c0 c1 d0 d1 f0 g0; have HMz1 := hid (HMa1.out.then HMx1.out (fun i hi h => by have := HN0.out i h; omega)); obtain ⟨⟨c0, c1, _, _⟩, ⟨d0, d1, _, _⟩, ⟨f0, _, _, _⟩, g0, _, _, _⟩ := HRow.out Z1 HMz1.out)
     go_wp2_with fail
     go_ret2; exact qGm (l := [⟨kb, vb, false⟩]) (t := 113) (HMV.out.trans HMz1.out) (by rintro (⟨h, _⟩ | ⟨h, _⟩ | ⟨p, q, h, h', h''⟩) <;> cases h; cases h'; exact h'' ek) (by simp only [chgL]; rw [if_pos (.inl eb)]) rfl HO1.out
    case neg =>
     rw [decide_eq_false ei] at ea eb; have ek' : (ka.toList == kb.toList) = true := beq_iff_eq.2 ek; by_cases ex : xa.toList = xb.toList
     case pos =>
      obtain ⟨⟨c0, c1, _, _⟩, ⟨d0, d1, _, _⟩, ⟨f0, _, _, _⟩, g0, _, _, _⟩ := HRow.out V (Mod.refl _ _); have ex1 : (xa.toList == xb.toList) = true := beq_iff_eq.2 ex; have ex2 : (xb.toList == xa.toList) = true := beq_iff_eq.2 ex.symm; go_upto_region 7 with fail
      obtain ⟨la0, cap0, hX, HO0, HN0⟩ : ∃ la cap, Value.slice none 0 0 = Value.slice la 0 cap /\ Hid (Own V 113 3 la 0 cap []) /\ Hid (∀ b, blk la b -> V.heap.size <= b) := ⟨none, 0, rfl, Own.nil _ _ _, fun b hb => (qAj b hb).elim⟩
      rw [hX]; clear hX; have HOa1 := hid (HO0.out.mod (S := fun _ => False) ((Mod.refl _ V).alloc (.cells #[.string kb, .string vb, .bool false] 113)) (fun _ _ h => h))
      have HSa1 : Hid (Src (V.alloc (.cells #[.string kb, .string vb, .bool false] 113)) 3 (some ⟨V.heap.size, 0, none⟩) 1 [.string kb, .string vb, .bool false]) := hid (qAs (heap_alloc_new _ _) rfl); have HMa1 := hid (Mod.alloc (S := fun _ => False) (a := V) (Mod.refl _ _) (.cells #[.string kb, .string vb, .bool false] 113))
      go_upto_region 8 with (at_builtin; refine qAc rfl (.tmp 59) (.tmp 65) 34 rfl 113 i0 _ 3 40 Tryz.underlying34 hi0 hz0 hz1 hz2 rfl la0 0 cap0 _ rfl HOa1.out (some ⟨V.heap.size, 0, none⟩) 1 1 _ rfl HSa1.out (by intro u hu; simp at hu; rcases hu with rfl | rfl | rfl <;> rfl) (by unfold maxLen; omega) (by omega) ?_; intro la1 cap1 Z1 hown hm hb hn hr; have HO1 := hid hown; have HMx1 := hid hm; have HBx1 := hid hb; clear hown hm hb hn hr; clear c0 c1 d0 d1 f0 g0; have HMz1 := hid (HMa1.out.then HMx1.out (fun i hi h => by have := HN0.out i h; omega)); obtain ⟨⟨c0, c1, _, _⟩, ⟨d0, d1, _, _⟩, ⟨f0, _, _, _⟩, g0, _, _, _⟩ := HRow.out Z1 HMz1.out)
      go_wp2_with fail
      go_ret2; exact qGm (l := [⟨kb, vb, false⟩]) (t := 113) (HMV.out.trans HMz1.out) (by rintro (⟨h, _⟩ | ⟨h, _⟩ | ⟨p, q, h, h', h''⟩) <;> cases h; cases h'; exact h'' ek) (by simp only [chgL]; rw [if_pos (.inr ex)]) rfl HO1.out
     case neg =>
      obtain ⟨⟨c0, c1, _, _⟩, ⟨d0, d1, _, _⟩, ⟨f0, _, _, _⟩, g0, _, _, _⟩ := HRow.out V (Mod.refl _ _); have ex1 : (xa.toList == xb.toList) = false := beq_eq_false_iff_ne.2 ex; have ex2 : (xb.toList == xa.toList) = false := beq_eq_false_iff_ne.2 (fun h => ex h.symm)
      go_upto_region 7 with fail
      obtain ⟨la0, cap0, hX, HO0, HN0⟩ : ∃ la cap, Value.slice none 0 0 = Value.slice la 0 cap /\ Hid (Own V 113 3 la 0 cap []) /\ Hid (∀ b, blk la b -> V.heap.size <= b) := ⟨none, 0, rfl, Own.nil _ _ _, fun b hb => (qAj b hb).elim⟩
      rw [hX]; clear hX; have HOa1 := hid (HO0.out.mod (S := fun _ => False) ((Mod.refl _ V).alloc (.cells #[.string kb, .string vb, .bool false] 113)) (fun _ _ h => h))
      have HSa1 : Hid (Src (V.alloc (.cells #[.string kb, .string vb, .bool false] 113)) 3 (some ⟨V.heap.size, 0, none⟩) 1 [.string kb, .string vb, .bool false]) := hid (qAs (heap_alloc_new _ _) rfl); have HMa1 := hid (Mod.alloc (S := fun _ => False) (a := V) (Mod.refl _ _) (.cells #[.string kb, .string vb, .bool false] 113))
      go_upto_region 8 with (at_builtin; refine qAc rfl (.tmp 59) (.tmp 65) 34 rfl 113 i0 _ 3 40 Tryz.underlying34 hi0 hz0 hz1 hz2 rfl la0 0 cap0 _ rfl HOa1.out (some ⟨V.heap.size, 0, none⟩) 1 1 _ rfl HSa1.out (by intro u hu; simp at hu; rcases hu with rfl | rfl | rfl <;> rfl) (by unfold maxLen; omega) (by omega) ?_; intro la1 cap1 Z1 hown hm hb hn hr; have HO1 := hid hown; have HMx1 := hid hm; have HBx1 := hid hb; clear hown hm hb hn hr; clear c0 c1 d0 d1 f0 g0; have HMz1 := hid (HMa1.out.then HMx1.out (fun i hi h => by have := HN0.out i h; omega)); obtain ⟨⟨c0, c1, _, _⟩, ⟨d0, d1, _, _⟩, ⟨f0, _, _, _⟩, g0, _, _, _⟩ := HRow.out Z1 HMz1.out)
      have HN1 : Hid (∀ b, blk la1 b -> V.heap.size <= b) := hid (fun j hj => by
       rcases HBx1.out j hj with h | h
       ·exact HN0.out j h
       ·have := HMa1.out.size; omega)
      clear c0 c1 d0 d1 f0 g0; obtain ⟨⟨c0, c1, _, _⟩, ⟨d0, d1, _, _⟩, ⟨f0, _, _, _⟩, g0, _, _, _⟩ := HRow.out Z1 HMz1.out; go_upto_region 9 with fail
      have HOa2 := hid (HO1.out.mod (S := fun _ => False) ((Mod.refl _ Z1).alloc (.cells #[.string xb, .string ⟨#[]⟩, .bool false] 113)) (fun _ _ h => h))
      have HSa2 : Hid (Src (Z1.alloc (.cells #[.string xb, .string ⟨#[]⟩, .bool false] 113)) 3 (some ⟨Z1.heap.size, 0, none⟩) 1 [.string xb, .string ⟨#[]⟩, .bool false]) := hid (qAs (heap_alloc_new _ _) rfl); have HMa2 := hid (Mod.alloc (S := fun _ => False) (a := V) HMz1.out (.cells #[.string xb, .string ⟨#[]⟩, .bool false] 113))
      go_upto_region 10 with (at_builtin; refine qAc rfl (.tmp 77) (.tmp 81) 34 rfl 113 i0 _ 3 40 Tryz.underlying34 hi0 hz0 hz1 hz2 rfl la1 1 cap1 _ rfl HOa2.out (some ⟨Z1.heap.size, 0, none⟩) 1 1 _ rfl HSa2.out (by intro u hu; simp at hu; rcases hu with rfl | rfl | rfl <;> rfl) (by unfold maxLen; omega) (by omega) ?_; intro la2 cap2 Z2 hown hm hb hn hr; have HO2 := hid hown; have HMx2 := hid hm; have HBx2 := hid hb; clear hown hm hb hn hr; clear c0 c1 d0 d1 f0 g0; have HMz2 := hid (HMa2.out.then HMx2.out (fun i hi h => by have := HN1.out i h; omega)); obtain ⟨⟨c0, c1, _, _⟩, ⟨d0, d1, _, _⟩, ⟨f0, _, _, _⟩, g0, _, _, _⟩ := HRow.out Z2 HMz2.out)
      have HN2 : Hid (∀ b, blk la2 b -> V.heap.size <= b) := hid (fun j hj => by
       rcases HBx2.out j hj with h | h
       ·exact HN1.out j h
       ·have := HMa2.out.size; have := HMz1.out.size; omega)
      clear c0 c1 d0 d1 f0 g0; obtain ⟨⟨c0, c1, _, _⟩, ⟨d0, d1, _, _⟩, ⟨f0, _, _, _⟩, g0, _, _, _⟩ := HRow.out Z2 HMz2.out; go_upto_region 13 with fail
      have HOa3 := hid (HO2.out.mod (S := fun _ => False) ((Mod.refl _ Z2).alloc (.cells #[.string xa, .string ⟨#[]⟩, .bool true] 113)) (fun _ _ h => h))
      have HSa3 : Hid (Src (Z2.alloc (.cells #[.string xa, .string ⟨#[]⟩, .bool true] 113)) 3 (some ⟨Z2.heap.size, 0, none⟩) 1 [.string xa, .string ⟨#[]⟩, .bool true]) := hid (qAs (heap_alloc_new _ _) rfl); have HMa3 := hid (Mod.alloc (S := fun _ => False) (a := V) HMz2.out (.cells #[.string xa, .string ⟨#[]⟩, .bool true] 113))
      go_upto_region 14 with (at_builtin; refine qAc rfl (.tmp 104) (.tmp 108) 34 rfl 113 i0 _ 3 40 Tryz.underlying34 hi0 hz0 hz1 hz2 rfl la2 2 cap2 _ rfl HOa3.out (some ⟨Z2.heap.size, 0, none⟩) 1 1 _ rfl HSa3.out (by intro u hu; simp at hu; rcases hu with rfl | rfl | rfl <;> rfl) (by unfold maxLen; omega) (by omega) ?_; intro la3 cap3 Z3 hown hm hb hn hr; have HO3 := hid hown; have HMx3 := hid hm; have HBx3 := hid hb; clear hown hm hb hn hr; clear c0 c1 d0 d1 f0 g0; have HMz3 := hid (HMa3.out.then HMx3.out (fun i hi h => by have := HN2.out i h; omega)); obtain ⟨⟨c0, c1, _, _⟩, ⟨d0, d1, _, _⟩, ⟨f0, _, _, _⟩, g0, _, _, _⟩ := HRow.out Z3 HMz3.out)
      go_wp2_with fail
      go_ret2; exact qGm (l := [⟨kb, vb, false⟩, ⟨xb, ⟨#[]⟩, false⟩, ⟨xa, ⟨#[]⟩, true⟩]) (t := 113) (HMV.out.trans HMz3.out) (by rintro (⟨h, _⟩ | ⟨h, _⟩ | ⟨p, q, h, h', h''⟩) <;> cases h; cases h'; exact h'' ek) (by simp only [chgL]; rw [if_neg (by rw [eb]; exact fun h => h.elim (fun h => by cases h) ex)]) rfl HO3.out
  ·by_cases hf0 : 0 < f.length
   case pos =>
    obtain ⟨⟨c0, c1, _, _⟩, ⟨d0, d1, _, _⟩, ⟨f0, _, _, _⟩, g0, _, _, _⟩ := HRow.out V (Mod.refl _ _); go_wp2_with fail
    go_ret2; exact qRa HMV.out (.inr (.inl ⟨rfl, hf0⟩))
   case neg =>
    by_cases ei : idx < 0
    case pos =>
     rw [decide_eq_true ei] at ea; obtain ⟨⟨c0, c1, _, _⟩, ⟨d0, d1, _, _⟩, ⟨f0, _, _, _⟩, g0, _, _, _⟩ := HRow.out V (Mod.refl _ _); go_upto_region 11 with fail
     obtain ⟨la0, cap0, hX, HO0, HN0⟩ : ∃ la cap, Value.slice none 0 0 = Value.slice la 0 cap /\ Hid (Own V 113 3 la 0 cap []) /\ Hid (∀ b, blk la b -> V.heap.size <= b) := ⟨none, 0, rfl, Own.nil _ _ _, fun b hb => (qAj b hb).elim⟩
     rw [hX]; clear hX; have HOa1 := hid (HO0.out.mod (S := fun _ => False) ((Mod.refl _ V).alloc (.cells #[.string ka, .string ⟨#[]⟩, .bool true] 113)) (fun _ _ h => h))
     have HSa1 : Hid (Src (V.alloc (.cells #[.string ka, .string ⟨#[]⟩, .bool true] 113)) 3 (some ⟨V.heap.size, 0, none⟩) 1 [.string ka, .string ⟨#[]⟩, .bool true]) := hid (qAs (heap_alloc_new _ _) rfl); have HMa1 := hid (Mod.alloc (S := fun _ => False) (a := V) (Mod.refl _ _) (.cells #[.string ka, .string ⟨#[]⟩, .bool true] 113))
     go_upto_region 12 with (at_builtin; refine qAc rfl (.tmp 88) (.tmp 92) 34 rfl 113 i0 _ 3 40 Tryz.underlying34 hi0 hz0 hz1 hz2 rfl la0 0 cap0 _ rfl HOa1.out (some ⟨V.heap.size, 0, none⟩) 1 1 _ rfl HSa1.out (by intro u hu; simp at hu; rcases hu with rfl | rfl | rfl <;> rfl) (by unfold maxLen; omega) (by omega) ?_; intro la1 cap1 Z1 hown hm hb hn hr; have HO1 := hid hown; have HMx1 := hid hm; have HBx1 := hid hb; clear hown hm hb hn hr; clear c0 c1 d0 d1 f0 g0; have HMz1 := hid (HMa1.out.then HMx1.out (fun i hi h => by have := HN0.out i h; omega)); obtain ⟨⟨c0, c1, _, _⟩, ⟨d0, d1, _, _⟩, ⟨f0, _, _, _⟩, g0, _, _, _⟩ := HRow.out Z1 HMz1.out)
     go_wp2_with fail
     go_ret2; exact qGm (l := [⟨ka, ⟨#[]⟩, true⟩]) (t := 113) (HMV.out.trans HMz1.out) (by rintro (⟨h, _⟩ | ⟨_, h⟩ | ⟨p, q, h, h', h''⟩); (cases h); (exact hf0 h); (cases h')) (by simp only [chgL]; rw [if_pos ea]) rfl HO1.out
    case neg =>
     rw [decide_eq_false ei] at ea; have ex : (xa.toList == xb.toList) = false := beq_eq_false_iff_ne.2 (fun h => by rw [h, eb] at ea; cases ea)
     obtain ⟨⟨c0, c1, _, _⟩, ⟨d0, d1, _, _⟩, ⟨f0, _, _, _⟩, g0, _, _, _⟩ := HRow.out V (Mod.refl _ _); go_upto_region 11 with fail
     obtain ⟨la0, cap0, hX, HO0, HN0⟩ : ∃ la cap, Value.slice none 0 0 = Value.slice la 0 cap /\ Hid (Own V 113 3 la 0 cap []) /\ Hid (∀ b, blk la b -> V.heap.size <= b) := ⟨none, 0, rfl, Own.nil _ _ _, fun b hb => (qAj b hb).elim⟩
     rw [hX]; clear hX; have HOa1 := hid (HO0.out.mod (S := fun _ => False) ((Mod.refl _ V).alloc (.cells #[.string ka, .string ⟨#[]⟩, .bool true] 113)) (fun _ _ h => h))
     have HSa1 : Hid (Src (V.alloc (.cells #[.string ka, .string ⟨#[]⟩, .bool true] 113)) 3 (some ⟨V.heap.size, 0, none⟩) 1 [.string ka, .string ⟨#[]⟩, .bool true]) := hid (qAs (heap_alloc_new _ _) rfl); have HMa1 := hid (Mod.alloc (S := fun _ => False) (a := V) (Mod.refl _ _) (.cells #[.string ka, .string ⟨#[]⟩, .bool true] 113))
     go_upto_region 12 with (at_builtin; refine qAc rfl (.tmp 88) (.tmp 92) 34 rfl 113 i0 _ 3 40 Tryz.underlying34 hi0 hz0 hz1 hz2 rfl la0 0 cap0 _ rfl HOa1.out (some ⟨V.heap.size, 0, none⟩) 1 1 _ rfl HSa1.out (by intro u hu; simp at hu; rcases hu with rfl | rfl | rfl <;> rfl) (by unfold maxLen; omega) (by omega) ?_; intro la1 cap1 Z1 hown hm hb hn hr; have HO1 := hid hown; have HMx1 := hid hm; have HBx1 := hid hb; clear hown hm hb hn hr; clear c0 c1 d0 d1 f0 g0; have HMz1 := hid (HMa1.out.then HMx1.out (fun i hi h => by have := HN0.out i h; omega)); obtain ⟨⟨c0, c1, _, _⟩, ⟨d0, d1, _, _⟩, ⟨f0, _, _, _⟩, g0, _, _, _⟩ := HRow.out Z1 HMz1.out)
     have HN1 : Hid (∀ b, blk la1 b -> V.heap.size <= b) := hid (fun j hj => by
      rcases HBx1.out j hj with h | h
      ·exact HN0.out j h
      ·have := HMa1.out.size; omega)
     clear c0 c1 d0 d1 f0 g0; obtain ⟨⟨c0, c1, _, _⟩, ⟨d0, d1, _, _⟩, ⟨f0, _, _, _⟩, g0, _, _, _⟩ := HRow.out Z1 HMz1.out; go_upto_region 13 with fail
     have HOa2 := hid (HO1.out.mod (S := fun _ => False) ((Mod.refl _ Z1).alloc (.cells #[.string xa, .string ⟨#[]⟩, .bool true] 113)) (fun _ _ h => h))
     have HSa2 : Hid (Src (Z1.alloc (.cells #[.string xa, .string ⟨#[]⟩, .bool true] 113)) 3 (some ⟨Z1.heap.size, 0, none⟩) 1 [.string xa, .string ⟨#[]⟩, .bool true]) := hid (qAs (heap_alloc_new _ _) rfl); have HMa2 := hid (Mod.alloc (S := fun _ => False) (a := V) HMz1.out (.cells #[.string xa, .string ⟨#[]⟩, .bool true] 113))
     go_upto_region 14 with (at_builtin; refine qAc rfl (.tmp 104) (.tmp 108) 34 rfl 113 i0 _ 3 40 Tryz.underlying34 hi0 hz0 hz1 hz2 rfl la1 1 cap1 _ rfl HOa2.out (some ⟨Z1.heap.size, 0, none⟩) 1 1 _ rfl HSa2.out (by intro u hu; simp at hu; rcases hu with rfl | rfl | rfl <;> rfl) (by unfold maxLen; omega) (by omega) ?_; intro la2 cap2 Z2 hown hm hb hn hr; have HO2 := hid hown; have HMx2 := hid hm; have HBx2 := hid hb; clear hown hm hb hn hr; clear c0 c1 d0 d1 f0 g0; have HMz2 := hid (HMa2.out.then HMx2.out (fun i hi h => by have := HN1.out i h; omega)); obtain ⟨⟨c0, c1, _, _⟩, ⟨d0, d1, _, _⟩, ⟨f0, _, _, _⟩, g0, _, _, _⟩ := HRow.out Z2 HMz2.out)
     go_wp2_with fail
     go_ret2; exact qGm (l := [⟨ka, ⟨#[]⟩, true⟩, ⟨xa, ⟨#[]⟩, true⟩]) (t := 113) (HMV.out.trans HMz2.out) (by rintro (⟨h, _⟩ | ⟨_, h⟩ | ⟨p, q, h, h', h''⟩); (cases h); (exact hf0 h); (cases h')) (by simp only [chgL]; rw [if_neg (by rw [ea]; exact Bool.false_ne_true)]) rfl HO2.out
 ·by_cases hr0 : 0 < r.length
  case pos =>
   rcases HQ2.out with ⟨rfl, rfl⟩ | ⟨rfl, rfl, eb⟩
   ·
    obtain ⟨⟨c0, c1, _, _⟩, ⟨d0, d1, _, _⟩, ⟨f0, _, _, _⟩, g0, _, _, _⟩ := HRow.out V (Mod.refl _ _); go_wp2_with fail
    go_ret2; exact qRa HMV.out (.inl ⟨rfl, hr0⟩)
   ·
    obtain ⟨⟨c0, c1, _, _⟩, ⟨d0, d1, _, _⟩, ⟨f0, _, _, _⟩, g0, _, _, _⟩ := HRow.out V (Mod.refl _ _); go_wp2_with fail
    go_ret2; exact qRa HMV.out (.inl ⟨rfl, hr0⟩)
  case neg =>
   rcases HQ2.out with ⟨rfl, rfl⟩ | ⟨rfl, rfl, eb⟩
   ·have eb : xb.toList.isEmpty = decide (idx < 0) := HXb.out _ rfl; by_cases ei : idx < 0
    case pos =>
     rw [decide_eq_true ei] at eb; obtain ⟨⟨c0, c1, _, _⟩, ⟨d0, d1, _, _⟩, ⟨f0, _, _, _⟩, g0, _, _, _⟩ := HRow.out V (Mod.refl _ _); go_upto_region 7 with fail
     obtain ⟨la0, cap0, hX, HO0, HN0⟩ : ∃ la cap, Value.slice none 0 0 = Value.slice la 0 cap /\ Hid (Own V 113 3 la 0 cap []) /\ Hid (∀ b, blk la b -> V.heap.size <= b) := ⟨none, 0, rfl, Own.nil _ _ _, fun b hb => (qAj b hb).elim⟩
     rw [hX]; clear hX; have HOa1 := hid (HO0.out.mod (S := fun _ => False) ((Mod.refl _ V).alloc (.cells #[.string kb, .string vb, .bool false] 113)) (fun _ _ h => h))
     have HSa1 : Hid (Src (V.alloc (.cells #[.string kb, .string vb, .bool false] 113)) 3 (some ⟨V.heap.size, 0, none⟩) 1 [.string kb, .string vb, .bool false]) := hid (qAs (heap_alloc_new _ _) rfl); have HMa1 := hid (Mod.alloc (S := fun _ => False) (a := V) (Mod.refl _ _) (.cells #[.string kb, .string vb, .bool false] 113))
     go_upto_region 8 with (at_builtin; refine qAc rfl (.tmp 59) (.tmp 65) 34 rfl 113 i0 _ 3 40 Tryz.underlying34 hi0 hz0 hz1 hz2 rfl la0 0 cap0 _ rfl HOa1.out (some ⟨V.heap.size, 0, none⟩) 1 1 _ rfl HSa1.out (by intro u hu; simp at hu; rcases hu with rfl | rfl | rfl <;> rfl) (by unfold maxLen; omega) (by omega) ?_; intro la1 cap1 Z1 hown hm hb hn hr; have HO1 := hid hown; have HMx1 := hid hm; have HBx1 := hid hb; clear hown hm hb hn hr; clear c0 c1 d0 d1 f0 g0; have HMz1 := hid (HMa1.out.then HMx1.out (fun i hi h => by have := HN0.out i h; omega)); obtain ⟨⟨c0, c1, _, _⟩, ⟨d0, d1, _, _⟩, ⟨f0, _, _, _⟩, g0, _, _, _⟩ := HRow.out Z1 HMz1.out)
     go_wp2_with fail
     go_ret2; exact qGm (l := [⟨kb, vb, false⟩]) (t := 113) (HMV.out.trans HMz1.out) (by rintro (⟨_, h⟩ | ⟨h, _⟩ | ⟨p, q, h, h', h''⟩); (exact hr0 h); (cases h); (cases h)) (by simp only [chgL]; rw [if_pos eb]) rfl HO1.out
    case neg =>
     rw [decide_eq_false ei] at eb; have ex : (xb.toList == xa.toList) = false := beq_eq_false_iff_ne.2 (fun h => by rw [h, ea] at eb; cases eb)
     obtain ⟨⟨c0, c1, _, _⟩, ⟨d0, d1, _, _⟩, ⟨f0, _, _, _⟩, g0, _, _, _⟩ := HRow.out V (Mod.refl _ _); go_upto_region 7 with fail
     obtain ⟨la0, cap0, hX, HO0, HN0⟩ : ∃ la cap, Value.slice none 0 0 = Value.slice la 0 cap /\ Hid (Own V 113 3 la 0 cap []) /\ Hid (∀ b, blk la b -> V.heap.size <= b) := ⟨none, 0, rfl, Own.nil _ _ _, fun b hb => (qAj b hb).elim⟩
     rw [hX]; clear hX; have HOa1 := hid (HO0.out.mod (S := fun _ => False) ((Mod.refl _ V).alloc (.cells #[.string kb, .string vb, .bool false] 113)) (fun _ _ h => h))
     have HSa1 : Hid (Src (V.alloc (.cells #[.string kb, .string vb, .bool false] 113)) 3 (some ⟨V.heap.size, 0, none⟩) 1 [.string kb, .string vb, .bool false]) := hid (qAs (heap_alloc_new _ _) rfl); have HMa1 := hid (Mod.alloc (S := fun _ => False) (a := V) (Mod.refl _ _) (.cells #[.string kb, .string vb, .bool false] 113))
     go_upto_region 8 with (at_builtin; refine qAc rfl (.tmp 59) (.tmp 65) 34 rfl 113 i0 _ 3 40 Tryz.underlying34 hi0 hz0 hz1 hz2 rfl la0 0 cap0 _ rfl HOa1.out (some ⟨V.heap.size, 0, none⟩) 1 1 _ rfl HSa1.out (by intro u hu; simp at hu; rcases hu with rfl | rfl | rfl <;> rfl) (by unfold maxLen; omega) (by omega) ?_; intro la1 cap1 Z1 hown hm hb hn hr; have HO1 := hid hown; have HMx1 := hid hm; have HBx1 := hid hb; clear hown hm hb hn hr; clear c0 c1 d0 d1 f0 g0; have HMz1 := hid (HMa1.out.then HMx1.out (fun i hi h => by have := HN0.out i h; omega)); obtain ⟨⟨c0, c1, _, _⟩, ⟨d0, d1, _, _⟩, ⟨f0, _, _, _⟩, g0, _, _, _⟩ := HRow.out Z1 HMz1.out)
     have HN1 : Hid (∀ b, blk la1 b -> V.heap.size <= b) := hid (fun j hj => by
      rcases HBx1.out j hj with h | h
      ·exact HN0.out j h
      ·have := HMa1.out.size; omega)
     clear c0 c1 d0 d1 f0 g0; obtain ⟨⟨c0, c1, _, _⟩, ⟨d0, d1, _, _⟩, ⟨f0, _, _, _⟩, g0, _, _, _⟩ := HRow.out Z1 HMz1.out; go_upto_region 9 with fail
     have HOa2 := hid (HO1.out.mod (S := fun _ => False) ((Mod.refl _ Z1).alloc (.cells #[.string xb, .string ⟨#[]⟩, .bool false] 113)) (fun _ _ h => h))
     have HSa2 : Hid (Src (Z1.alloc (.cells #[.string xb, .string ⟨#[]⟩, .bool false] 113)) 3 (some ⟨Z1.heap.size, 0, none⟩) 1 [.string xb, .string ⟨#[]⟩, .bool false]) := hid (qAs (heap_alloc_new _ _) rfl); have HMa2 := hid (Mod.alloc (S := fun _ => False) (a := V) HMz1.out (.cells #[.string xb, .string ⟨#[]⟩, .bool false] 113))
     go_upto_region 10 with (at_builtin; refine qAc rfl (.tmp 77) (.tmp 81) 34 rfl 113 i0 _ 3 40 Tryz.underlying34 hi0 hz0 hz1 hz2 rfl la1 1 cap1 _ rfl HOa2.out (some ⟨Z1.heap.size, 0, none⟩) 1 1 _ rfl HSa2.out (by intro u hu; simp at hu; rcases hu with rfl | rfl | rfl <;> rfl) (by unfold maxLen; omega) (by omega) ?_; intro la2 cap2 Z2 hown hm hb hn hr; have HO2 := hid hown; have HMx2 := hid hm; have HBx2 := hid hb; clear hown hm hb hn hr; clear c0 c1 d0 d1 f0 g0; have HMz2 := hid (HMa2.out.then HMx2.out (fun i hi h => by have := HN1.out i h; omega)); obtain ⟨⟨c0, c1, _, _⟩, ⟨d0, d1, _, _⟩, ⟨f0, _, _, _⟩, g0, _, _, _⟩ := HRow.out Z2 HMz2.out)
     go_wp2_with fail
     go_ret2; exact qGm (l := [⟨kb, vb, false⟩, ⟨xb, ⟨#[]⟩, false⟩]) (t := 113) (HMV.out.trans HMz2.out) (by rintro (⟨_, h⟩ | ⟨h, _⟩ | ⟨p, q, h, h', h''⟩); (exact hr0 h); (cases h); (cases h)) (by simp only [chgL]; rw [if_neg (by rw [eb]; exact Bool.false_ne_true)]) rfl HO2.out
   ·by_cases hf0 : 0 < f.length
    case pos =>
     obtain ⟨⟨c0, c1, _, _⟩, ⟨d0, d1, _, _⟩, ⟨f0, _, _, _⟩, g0, _, _, _⟩ := HRow.out V (Mod.refl _ _); go_wp2_with fail
     go_ret2; exact qRa HMV.out (.inr (.inl ⟨rfl, hf0⟩))
    case neg =>
     obtain ⟨⟨c0, c1, _, _⟩, ⟨d0, d1, _, _⟩, ⟨f0, _, _, _⟩, g0, _, _, _⟩ := HRow.out V (Mod.refl _ _); go_wp2_with fail
     go_ret2; exact qGm (l := []) (t := 113) HMV.out (by rintro (⟨_, h⟩ | ⟨_, h⟩ | ⟨p, q, h, h', h''⟩); (exact hr0 h); (exact hf0 h); (cases h)) (rfl) rfl (Own.nil _ _ _)
end
section
open Go Go.RowKit
def Rg.c (g : Rg) : Cg := ⟨g.k, g.v, g.g⟩
def PB.pk (b : PB) : PK := ⟨b.k, b.v, b.x⟩
theorem jGz {w : World} {a : Option Addr} {l : List Rg} (h : Lies w 3 Rg.cs a l) : Lies w 3 ccs a (l.map Rg.c) := by
 have e : (l.map Rg.c).flatMap ccs = l.flatMap Rg.cs := by rw [List.flatMap_map]; rfl
 obtain ⟨h1, h2, h3⟩ := h; refine ⟨by rw [List.length_map, e]; exact h1, fun hl x hx => h2 (by rwa [List.length_map] at hl) x hx, fun k hl hk => h3 k (by rwa [List.length_map] at hl) hk⟩
theorem jBj (P Q : Option PB) : (chgL P Q).map Rg.c = qFy (P.map PB.pk) (Q.map PB.pk) := by
 cases P with
 | none =>
  cases Q with
  | none => rfl
  | some q =>
   show List.map Rg.c (_ :: ite _ _ _) = _ :: ite _ _ _; rw [List.map_cons]; by_cases h : q.x.toList.isEmpty = true
   ·rw [if_pos h]; exact (congrArg (List.cons _) (if_pos h)).symm
   ·rw [if_neg h]; exact (congrArg (List.cons _) (if_neg h)).symm
 | some p =>
  cases Q with
  | none =>
   show List.map Rg.c (_ :: ite _ _ _) = _ :: ite _ _ _; rw [List.map_cons]; by_cases h : p.x.toList.isEmpty = true
   ·rw [if_pos h]; exact (congrArg (List.cons _) (if_pos h)).symm
   ·rw [if_neg h]; exact (congrArg (List.cons _) (if_neg h)).symm
  | some q =>
   show List.map Rg.c (_ :: ite _ _ _) = _ :: ite _ _ _; rw [List.map_cons]; by_cases h : q.x.toList.isEmpty = true \/ p.x.toList = q.x.toList
   ·rw [if_pos h]; exact (congrArg (List.cons _) (if_pos h)).symm
   ·rw [if_neg h]; exact (congrArg (List.cons _) (if_neg h)).symm
noncomputable def rowK (name : Int) (cols : List Int) (keys idx : Int) (r : List Vl) : Option PK := ((qBu name cols keys idx r).map PX.b).map PB.pk
theorem qKq {name : Int} {cols : List Int} {keys idx : Int} {r : List Vl} {q : PK} (h : rowK name cols keys idx r = some q) :
  ∃ p, qBu name cols keys idx r = some p /\ q = ⟨ba p.k, ba p.v, ba p.x⟩ /\ qEx p /\ p = pxOf name cols keys idx r := by
 unfold rowK at h; obtain ⟨b, hb, rfl⟩ := Option.map_eq_some_iff.1 h; obtain ⟨p, hp, rfl⟩ := Option.map_eq_some_iff.1 hb; obtain ⟨_, h2, h3⟩ := qGd hp; exact ⟨p, hp, rfl, h2, h3⟩
theorem ba_ne {a b : List UInt8} (h : a ≠ b) : ba a ≠ ba b := fun e => h (by rw [<- qDd a, <- qDd b, e])
theorem qHj {name : Int} {cols : List Int} {keys idx : Int} {r r' : List Vl} {q q' : PK} (h : rowK name cols keys idx r = some q) (h' : rowK name cols keys idx r' = some q') (hx : q'.x.toList.isEmpty = false) : q.k ≠ q'.x := by
 obtain ⟨p, _, rfl, _, rfl⟩ := qKq h; obtain ⟨p', _, rfl, _, rfl⟩ := qKq h'; refine ba_ne ?_; have hx' : (pxOf name cols keys idx r').x ≠ [] := fun e => by
  simp only at hx; rw [e, ByteArray.toList_eq, qDd] at hx; cases hx
 unfold pxOf qFz pxL qBg at *; simp only at *; split
 ·simp
 ·rename_i hn
  rw [if_neg hn] at hx'; exact absurd rfl hx'
theorem qLe {name : Int} {cols : List Int} {keys idx : Int} {r : List Vl} {q : PK} (h : rowK name cols keys idx r = some q) : PKok q (decide (0 <= idx)) := by
 refine ⟨fun hx => qHj h h hx, ?_⟩
 obtain ⟨p, _, rfl, _, rfl⟩ := qKq h; unfold pxOf pxL qBg; simp only; rw [ByteArray.toList_eq, qDd]; by_cases hi : 0 <= idx
 ·rw [if_pos hi]; simp [hi]
 ·rw [if_neg hi]; simp [hi]
theorem qYv {name : Int} {cols : List Int} {keys idx : Int} {r : List Vl} {q : PK} (h : rowK name cols keys idx r = some q) : (q.k.toList ≠ [] /\ q.k.size <= 48) /\ q.x.size <= 48 /\ q.v.size <= 200 := by
 obtain ⟨p, _, rfl, ⟨s1, s2, s3⟩, e⟩ := qKq h; simp only; rw [qAd, qAd, qAd]; refine ⟨⟨?_, s1⟩, s2, s3⟩; rw [ByteArray.toList_eq, qDd, e]; unfold pxOf qFz qBg; simp
theorem qHr : ∀ (cs : List Cg) (met : List ByteArray), (∀ c ∈ cs, CgOk c) -> (cs.map (·.key)).Nodup -> (∀ c ∈ cs, c.key ∉ met) -> chkF met cs = 0
 | [], _, _, _, _ => rfl
 | c :: r, met, h1, h2, h3 => by
  obtain ⟨n1, n2⟩ := List.nodup_cons.1 h2; have hc := h1 c List.mem_cons_self; rw [jBh, if_neg (fun e => e.elim hc.ne (fun e => by have := hc.key; omega)), if_neg (by have := hc.value; omega), if_neg (h3 c List.mem_cons_self)]
  refine qHr r _ (fun x hx => h1 x (List.mem_cons_of_mem _ hx)) n2 (fun x hx hm => ?_)
  rcases List.mem_append.1 hm with hm | hm
  ·exact h3 x (List.mem_cons_of_mem _ hx) hm
  ·rw [List.mem_singleton] at hm; exact n1 (List.mem_map.2 ⟨x, hx, hm⟩)
theorem qOc {name : Int} {cols : List Int} {keys idx : Int} {r r' : List Vl} (hk : ∀ p q, rowK name cols keys idx r = some p -> rowK name cols keys idx r' = some q -> p.k = q.k) :
  chkF [] (qFy (rowK name cols keys idx r) (rowK name cols keys idx r')) = 0 /\ (qFy (rowK name cols keys idx r) (rowK name cols keys idx r')).length <= 3 := by
 have hcg : ∀ (q : PK) (s : List Vl) (g : Bool), rowK name cols keys idx s = some q -> CgOk ⟨q.k, q.v, g⟩ /\ CgOk ⟨q.k, ⟨#[]⟩, g⟩ /\ (q.x.toList.isEmpty = false -> CgOk ⟨q.x, ⟨#[]⟩, g⟩) := fun q s g hq => by
  obtain ⟨⟨s0, s1⟩, s2, s3⟩ := qYv hq; refine ⟨⟨s0, s1, s3⟩, ⟨s0, s1, Nat.zero_le _⟩, fun hx => ⟨fun e => ?_, s2, Nat.zero_le _⟩⟩
  have e : q.x.toList = [] := e; rw [e] at hx; cases hx
 cases hP : rowK name cols keys idx r with
 | none =>
  cases hQ : rowK name cols keys idx r' with
  | none => exact ⟨rfl, Nat.zero_le _⟩
  | some q =>
   obtain ⟨g1, _, g3⟩ := hcg q r' false hQ; unfold qFy; simp only; cases hx : q.x.toList.isEmpty with
   | true =>
    rw [if_pos rfl]; exact ⟨qHr _ _ (fun c hc => by rw [List.mem_singleton] at hc; subst hc; exact g1) (by simp) (fun c hc hm => by cases hm), by simp⟩
   | false =>
    rw [if_neg (by decide)]
    refine ⟨qHr _ _ (fun c hc => ?_) ?_ (fun c hc hm => by cases hm), by simp⟩
    ·rcases List.mem_cons.1 hc with rfl | hc
     ·exact g1
     ·rw [List.mem_singleton] at hc; subst hc; exact g3 hx
    ·have := qHj hQ hQ hx; simp [this]
 | some p =>
  cases hQ : rowK name cols keys idx r' with
  | none =>
   obtain ⟨_, g2, g3⟩ := hcg p r true hP; unfold qFy; simp only; cases hx : p.x.toList.isEmpty with
   | true =>
    rw [if_pos rfl]; exact ⟨qHr _ _ (fun c hc => by rw [List.mem_singleton] at hc; subst hc; exact g2) (by simp) (fun c hc hm => by cases hm), by simp⟩
   | false =>
    rw [if_neg (by decide)]
    refine ⟨qHr _ _ (fun c hc => ?_) ?_ (fun c hc hm => by cases hm), by simp⟩
    ·rcases List.mem_cons.1 hc with rfl | hc
     ·exact g2
     ·rw [List.mem_singleton] at hc; subst hc; exact g3 hx
    ·have := qHj hP hP hx; simp [this]
  | some q =>
   obtain ⟨g1, _, g3⟩ := hcg q r' false hQ; obtain ⟨_, _, g4⟩ := hcg p r true hP; have hpq := hk p q hP hQ; have hi : p.x.toList.isEmpty = q.x.toList.isEmpty := by rw [(qLe hP).idx, (qLe hQ).idx]
   unfold qFy; simp only; by_cases hx : q.x.toList.isEmpty = true \/ p.x.toList = q.x.toList
   ·rw [if_pos hx]; exact ⟨qHr _ _ (fun c hc => by rw [List.mem_singleton] at hc; subst hc; exact g1) (by simp) (fun c hc hm => by cases hm), by simp⟩
   ·rw [if_neg hx]; rw [not_or] at hx; have hx1 : q.x.toList.isEmpty = false := by simpa using hx.1
    refine ⟨qHr _ _ (fun c hc => ?_) ?_ (fun c hc hm => by cases hm), by simp⟩
    ·rcases List.mem_cons.1 hc with rfl | hc
     ·exact g1
     ·rcases List.mem_cons.1 hc with rfl | hc
      ·exact g3 hx1
      ·rw [List.mem_singleton] at hc; subst hc; exact g4 (by rw [hi]; exact hx1)
    ·have h1 := qHj hQ hQ hx1; have h2 := qHj hQ hP (by rw [hi]; exact hx1)
     have h3 : q.x ≠ p.x := fun e => hx.2 (by rw [e])
     simp [h1, h2, h3]
theorem qYc {name : Int} {cols : List Int} {keys idx : Int} {r r' : List Vl} (hk : ∀ p q, rowK name cols keys idx r = some p -> rowK name cols keys idx r' = some q -> p.k = q.k) :
  chgs (qFy (rowK name cols keys idx r') (rowK name cols keys idx r)) (chgs (qFy (rowK name cols keys idx r) (rowK name cols keys idx r')) (chgs (qFy none (rowK name cols keys idx r)) [])) = chgs (qFy none (rowK name cols keys idx r)) [] := by
 have h0 : ∀ p, p ∈ chgs (qFy none (rowK name cols keys idx r)) [] ↔ jCt (rowK name cols keys idx r) p :=
  qJh (idx := decide (0 <= idx)) (P := none) (fun p e => by cases e) (fun q e => qLe e) (fun p q e => by cases e) (fun p q e => by cases e) (fun p => ⟨(fun e => by cases e), fun e => e.elim⟩)
 exact qYd (idx := decide (0 <= idx)) (fun p e => qLe e) (fun q e => qLe e) hk (fun p q e1 e2 hx => qHj e1 e2 hx) (fun p q e1 e2 hx => qHj e2 e1 hx) (qKx _ List.Pairwise.nil) h0
end
end Go.Proofs.YtkinkgbmlhiakaaGreatDoor
