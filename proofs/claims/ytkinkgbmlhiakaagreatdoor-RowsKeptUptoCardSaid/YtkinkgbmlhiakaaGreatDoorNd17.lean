/- merged: RwC2 RwCh JrF -/
import Derived.Test.YtkinkgbmlhiakaaGreatDoorNd16
import Derived.Test.YtkinkgbmlhiakaaGreatDoorNd04
namespace Go.Proofs.YtkinkgbmlhiakaaGreatDoor
section
open Go Go.RowKit
theorem row2 {V : World} {b : Nat} {v0 v1 : Value} {T : TypeId} (h : V.heap[b]? = some (.cells #[v0, v1] T (0, 0))) : V.cell? ⟨b, 0, none⟩ = some v0 /\ V.cell? ⟨b, 1, none⟩ = some v1 /\ V.frozen? ⟨b, 0, none⟩ = false /\ V.frozen? ⟨b, 1, none⟩ = false :=
 ⟨by rw [cell_of_row _ _ _ _ _ _ h]; rfl, by rw [cell_of_row _ _ _ _ _ _ h]; rfl, frozen_of_row _ _ 0 _ _ h, frozen_of_row _ _ 1 _ _ h⟩
theorem val2 {w W : World} (hm : Mod (fun _ => False) w W) {b : Nat} (hb : w.heap.size <= b) {v0 v1 : Value} {T : TypeId} (h : W.heap[b]? = some (.cells #[v0, v1] T (0, 0))) (a c : Value) :
  ((W.setCell ⟨b, 0, none⟩ a).setCell ⟨b, 1, none⟩ c).cell? ⟨b, 0, none⟩ = some a /\ ((W.setCell ⟨b, 0, none⟩ a).setCell ⟨b, 1, none⟩ c).cell? ⟨b, 1, none⟩ = some c /\ Mod (fun _ => False) w ((W.setCell ⟨b, 0, none⟩ a).setCell ⟨b, 1, none⟩ c) := by
 have r := row2 (set2 (set2 h a).1 c).2; exact ⟨r.1, r.2.1, (hm.setCell (fun h => by simp only at h; omega) _).setCell (fun h => by simp only at h; omega) _⟩
end
section
open Go Go.RowKit
theorem jJr : (Tryz.prog.info? 113).map (fun i => (i.zero, i.size, i.bytes)) = some (some (.agg #[.string ⟨#[]⟩, .string ⟨#[]⟩, .bool false]), 3, 40) := by kernel_rfl
structure Rg where
 k : ByteArray
 v : ByteArray
 g : Bool
def Rg.cs (c : Rg) : List Value := [.string c.k, .string c.v, .bool c.g]
structure PB where
 k : ByteArray
 v : ByteArray
 x : ByteArray
def PX.b (p : PX) : PB := ⟨ba p.k, ba p.v, ba p.x⟩
def chgL : Option PB -> Option PB -> List Rg
 | none, none => []
 | none, some q => ⟨q.k, q.v, false⟩ :: (if q.x.toList.isEmpty = true then [] else [⟨q.x, ⟨#[]⟩, false⟩])
 | some p, none => ⟨p.k, ⟨#[]⟩, true⟩ :: (if p.x.toList.isEmpty = true then [] else [⟨p.x, ⟨#[]⟩, true⟩])
 | some p, some q => ⟨q.k, q.v, false⟩ :: (if q.x.toList.isEmpty = true \/ p.x.toList = q.x.toList then [] else [⟨q.x, ⟨#[]⟩, false⟩, ⟨p.x, ⟨#[]⟩, true⟩])
def qOk (P Q : Option PB) (n m : Nat) : Prop := (P = none /\ 0 < n) \/ (Q = none /\ 0 < m) \/ ∃ p q, P = some p /\ Q = some q /\ p.k.toList ≠ q.k.toList
def qWz (w : World) (P Q : Option PB) (n m : Nat) (e : Ending) (w' : World) : Prop :=
 Mod (fun _ => False) w w' /\ ((qOk P Q n m /\ e = .returned (.tuple #[.slice none 0 0, .int .i64 60])) \/ (¬ qOk P Q n m /\ ∃ la cap, e = .returned (.tuple #[.slice la (chgL P Q).length cap, .int .i64 0]) /\ Lies w' 3 Rg.cs la (chgL P Q)))
theorem qSf {w w' : World} {P Q : Option PB} {n m : Nat} (hm : Mod (fun _ => False) w w') (h : qOk P Q n m) : qWz w P Q n m (.returned (.tuple #[.slice none 0 0, .int .i64 60])) w' := ⟨hm, .inl ⟨h, rfl⟩⟩
theorem qHb {w w' : World} {P Q : Option PB} {n m : Nat} {la : Option Addr} {cap k : Nat} {l : List Rg} {t : TypeId} (hm : Mod (fun _ => False) w w') (h : ¬ qOk P Q n m) (hl : chgL P Q = l) (hk : l.length = k) (ho : Own w' t 3 la k cap (l.flatMap Rg.cs)) : qWz w P Q n m (.returned (.tuple #[.slice la k cap, .int .i64 0])) w' := by
 subst hk; subst hl; exact ⟨hm, .inr ⟨h, la, cap, rfl, ho.lies⟩⟩
theorem jIi (w : World) (A B : Obj) : ((w.alloc A).alloc B).heap[w.heap.size]? = some A /\ ((w.alloc A).alloc B).heap[w.heap.size + 1]? = some B := by
 have h : (w.alloc A).heap.size = w.heap.size + 1 := by simp
 refine ⟨?_, ?_⟩
 ·rw [Below.heap_alloc _ _ _ (by omega)]
  exact heap_alloc_new _ _
 ·rw [<- h]; exact heap_alloc_new _ _
theorem qNx (O : Option PX) : ∃ (k v x : ByteArray) (ok : Bool), qDc O = .tuple #[.agg #[.string k, .string v], .agg #[.string x, .string ⟨#[]⟩], .bool ok] /\ ((ok = true /\ O.map PX.b = some ⟨k, v, x⟩) \/ (ok = false /\ O.map PX.b = none /\ x.toList.isEmpty = true)) := by
 cases O with
 | none => exact ⟨_, _, _, _, rfl, .inr ⟨rfl, rfl, by rw [ByteArray.toList_eq]; rfl⟩⟩
 | some p => exact ⟨_, _, _, _, rfl, .inl ⟨rfl, rfl⟩⟩
theorem qVi {name : Int} {cols : List Int} {keys idx : Int} {r : List Vl} {b : PB} (h : (qBt name cols keys idx r).map PX.b = some b) : b.x.toList.isEmpty = decide (idx < 0) := by
 rw [Option.map_eq_some_iff] at h; obtain ⟨p, hp, rfl⟩ := h; obtain ⟨_, _, rfl⟩ := qGr hp; rw [Bool.eq_iff_iff, List.isEmpty_iff, decide_eq_true_iff]; unfold PX.b pxOf pxL; simp only; rw [ByteArray.toList_eq, qBk]; split
 ·next h => exact ⟨fun h' => by simp [qAe] at h', fun h' => by omega⟩
 ·next h => exact ⟨fun _ => by omega, fun _ => rfl⟩
set_option maxRecDepth 100000
set_option maxHeartbeats 8000000 in
theorem qUb {w : World} {ca ra fa : Option Addr} {cols : List Int} {r f : List Vl} (name keys idx : Int) (cc rc fc : Nat) (hl : Lies w 1 oneI ca cols) (hr : Lies w 2 Vl.cs ra r) (hf : Lies w 2 Vl.cs fa f) (hn : cols.length <= 140737488351232) (hrn : r.length <= 140737488351232) (hv : ∀ v ∈ r, v.Ok) (hsz : (∀ k, (qEb cols r k).length <= 1152921504606846976) /\ ∀ j k, (valL cols r j k).length <= 1152921504606846976) (hfn : f.length <= 140737488351232) (hvf : ∀ v ∈ f, v.Ok) (hszf : (∀ k, (qEb cols f k).length <= 1152921504606846976) /\ ∀ j k, (valL cols f j k).length <= 1152921504606846976) :
  Calls Tryz.prog 10 #[.agg #[.int .u8 name, .slice ca cols.length cc, .int .i64 keys, .int .i64 idx], .slice ra r.length rc, .slice fa f.length fc] w fun e w' => qWz w ((qBt name cols keys idx r).map PX.b) ((qBt name cols keys idx f).map PX.b) r.length f.length e w' := by
 obtain ⟨i0, hi0, hz0, hz1, hz2⟩ := info_parts jJr; have hma : Mod (fun _ => False) w (w.alloc (.cells #[.int .u8 name, .slice ca cols.length cc, .int .i64 keys, .int .i64 idx] 24)) := (Mod.refl _ _).alloc _
 have ha : (w.alloc (.cells #[.int .u8 name, .slice ca cols.length cc, .int .i64 keys, .int .i64 idx] 24)).heap[w.heap.size]? = some (.cells #[.int .u8 name, .slice ca cols.length cc, .int .i64 keys, .int .i64 idx] 24 (0, 0)) := heap_alloc_new _ _; have HM := hid hma; have HP1 := hid (fun (V : World) (hm : Mod (fun _ => False) (w.alloc (.cells #[.int .u8 name, .slice ca cols.length cc, .int .i64 keys, .int .i64 idx] 24)) V) => qHj (w := V) name keys idx cc rc ((hl.ext hma).ext hm) ((hr.ext hma).ext hm) hn hrn hv hsz.1 hsz.2)
 have HP2 := hid (fun (V : World) (hm : Mod (fun _ => False) (w.alloc (.cells #[.int .u8 name, .slice ca cols.length cc, .int .i64 keys, .int .i64 idx] 24)) V) => qHj (w := V) name keys idx cc fc ((hl.ext hma).ext hm) ((hf.ext hma).ext hm) hn hfn hvf hszf.1 hszf.2)
 have HTab := hid (fun (V : World) (hm : Mod (fun _ => False) (w.alloc (.cells #[.int .u8 name, .slice ca cols.length cc, .int .i64 keys, .int .i64 idx] 24)) V) => row4 ((hm.block _ (lth ha) (fun h => h)).trans ha))
 obtain ⟨ka, va, xa, oa, e1, q1⟩ := qNx (qBt name cols keys idx r); obtain ⟨kb, vb, xb, ob, e2, q2⟩ := qNx (qBt name cols keys idx f); have hxa : ∀ p, (qBt name cols keys idx r).map PX.b = some p -> p.x.toList.isEmpty = decide (idx < 0) := fun p h => qVi h
 have hxb : ∀ p, (qBt name cols keys idx f).map PX.b = some p -> p.x.toList.isEmpty = decide (idx < 0) := fun p h => qVi h
 rw [e1] at HP1; rw [e2] at HP2; generalize (qBt name cols keys idx r).map PX.b = PA at *; generalize (qBt name cols keys idx f).map PX.b = PB' at *; have HQ1 := hid q1; have HQ2 := hid q2; have HXa := hid hxa; have HXb := hid hxb; clear hma ha hl hr hf hn hrn hv hsz hfn hvf hszf e1 e2 q1 q2 hxa hxb; obtain ⟨b0, b1, b2, b3⟩ := HTab.out _ (Mod.refl _ _); go_enter Tryz.func10, Tryz.ntmps10
 go_upto_region 1 with fail
 generalize hC : (w.alloc (.cells #[.int .u8 name, .slice ca cols.length cc, .int .i64 keys, .int .i64 idx] 24)) = C at *; clear hC; go_upto_region 2 with (go_at_call 31; refine (HP1.out _ (Mod.refl _ _)).mono ?_; rintro e w1 ⟨rfl, hm⟩; have HM1 := hid hm; clear hm)
 clear b0 b1 b2 b3; have HA := hid (jIi w1 (.cells #[.string ka, .string va] 41) (.cells #[.string xa, .string ⟨#[]⟩] 41)); have HM2 := hid ((HM1.out.alloc (.cells #[.string ka, .string va] 41)).alloc (.cells #[.string xa, .string ⟨#[]⟩] 41)); generalize ((w1.alloc (.cells #[.string ka, .string va] 41)).alloc (.cells #[.string xa, .string ⟨#[]⟩] 41)) = V1 at *; obtain ⟨b0, b1, b2, b3⟩ := HTab.out _ HM2.out; go_upto_region 3 with (go_at_call 31; refine (HP2.out _ HM2.out).mono ?_; rintro e w2 ⟨rfl, hm⟩; have HM3 := hid hm; clear hm)
 clear b0 b1 b2 b3; have HB := hid (jIi w2 (.cells #[.string kb, .string vb] 41) (.cells #[.string xb, .string ⟨#[]⟩] 41)); have HM4 := hid ((HM3.out.alloc (.cells #[.string kb, .string vb] 41)).alloc (.cells #[.string xb, .string ⟨#[]⟩] 41)); generalize ((w2.alloc (.cells #[.string kb, .string vb] 41)).alloc (.cells #[.string xb, .string ⟨#[]⟩] 41)) = V at *; have HA1 := hid ((HM4.out.block _ (lth HA.out.1) (fun h => h)).trans HA.out.1)
 have HA2 := hid ((HM4.out.block _ (lth HA.out.2) (fun h => h)).trans HA.out.2)
 have HMC := hid (HM2.out.trans HM4.out); have HRow := hid (fun (W : World) (hm : Mod (fun _ => False) V W) => (fun x y z u => And.intro x (And.intro y (And.intro z u))) (row2 ((hm.block _ (lth HA1.out) (fun h => h)).trans HA1.out)) (row2 ((hm.block _ (lth HB.out.1) (fun h => h)).trans HB.out.1)) (row2 ((hm.block _ (lth HA2.out) (fun h => h)).trans HA2.out)) (row2 ((hm.block _ (lth HB.out.2) (fun h => h)).trans HB.out.2)))
 have HMV := hid (HM.out.trans HMC.out); rcases HQ1.out with ⟨rfl, rfl⟩ | ⟨rfl, rfl, ea⟩
 ·have ea : xa.toList.isEmpty = decide (idx < 0) := HXa.out _ rfl; rcases HQ2.out with ⟨rfl, rfl⟩ | ⟨rfl, rfl, eb⟩
  ·have eb : xb.toList.isEmpty = decide (idx < 0) := HXb.out _ rfl; by_cases ek : ka.toList = kb.toList
   case neg =>
    have ek' : (ka.toList == kb.toList) = false := beq_eq_false_iff_ne.2 ek; obtain ⟨⟨c0, c1, _, _⟩, ⟨d0, d1, _, _⟩, ⟨f0, _, _, _⟩, g0, _, _, _⟩ := HRow.out V (Mod.refl _ _); go_wp2_with fail
    go_ret2; exact qSf HMV.out (.inr (.inr ⟨_, _, rfl, rfl, ek⟩))
   case pos =>
    by_cases ei : idx < 0
    case pos =>
     rw [decide_eq_true ei] at ea eb; have ex : xa.toList = xb.toList := by rw [List.isEmpty_iff.1 ea, List.isEmpty_iff.1 eb]
     have ek' : (ka.toList == kb.toList) = true := beq_iff_eq.2 ek; have ex1 : (xa.toList == xb.toList) = true := beq_iff_eq.2 ex; have ex2 : (xb.toList == xa.toList) = true := beq_iff_eq.2 ex.symm; obtain ⟨⟨c0, c1, _, _⟩, ⟨d0, d1, _, _⟩, ⟨f0, _, _, _⟩, g0, _, _, _⟩ := HRow.out V (Mod.refl _ _); go_upto_region 7 with fail
     obtain ⟨la0, cap0, hX, HO0, HN0⟩ : ∃ la cap, Value.slice none 0 0 = Value.slice la 0 cap /\ Hid (Own V 113 3 la 0 cap []) /\ Hid (∀ b, blk la b -> V.heap.size <= b) := ⟨none, 0, rfl, Own.nil _ _ _, fun b hb => (qAj b hb).elim⟩
     rw [hX]; clear hX; have HOa1 := hid (HO0.out.mod (S := fun _ => False) ((Mod.refl _ V).alloc (.cells #[.string kb, .string vb, .bool false] 113)) (fun _ _ h => h))
     have HSa1 : Hid (Src (V.alloc (.cells #[.string kb, .string vb, .bool false] 113)) 3 (some ⟨V.heap.size, 0, none⟩) 1 [.string kb, .string vb, .bool false]) := hid (qAw (heap_alloc_new _ _) rfl); have HMa1 := hid (Mod.alloc (S := fun _ => False) (a := V) (Mod.refl _ _) (.cells #[.string kb, .string vb, .bool false] 113))
     go_upto_region 8 with (at_builtin; refine qAd rfl (.tmp 59) (.tmp 65) 34 rfl 113 i0 _ 3 40 Tryz.underlying34 hi0 hz0 hz1 hz2 rfl la0 0 cap0 _ rfl HOa1.out (some ⟨V.heap.size, 0, none⟩) 1 1 _ rfl HSa1.out (by intro u hu; simp at hu; rcases hu with rfl | rfl | rfl <;> rfl) (by unfold maxLen; omega) (by omega) ?_; intro la1 cap1 Z1 hown hm hb hn hr; have HO1 := hid hown; have HMx1 := hid hm; have HBx1 := hid hb; clear hown hm hb hn hr; clear c0 c1 d0 d1 f0 g0; have HMz1 := hid (HMa1.out.then HMx1.out (fun i hi h => by have := HN0.out i h; omega)); obtain ⟨⟨c0, c1, _, _⟩, ⟨d0, d1, _, _⟩, ⟨f0, _, _, _⟩, g0, _, _, _⟩ := HRow.out Z1 HMz1.out)
     go_wp2_with fail
     go_ret2; exact qHb (l := [⟨kb, vb, false⟩]) (t := 113) (HMV.out.trans HMz1.out) (by rintro (⟨h, _⟩ | ⟨h, _⟩ | ⟨p, q, h, h', h''⟩) <;> cases h; cases h'; exact h'' ek) (by simp only [chgL]; rw [if_pos (.inl eb)]) rfl HO1.out
    case neg =>
     rw [decide_eq_false ei] at ea eb; have ek' : (ka.toList == kb.toList) = true := beq_iff_eq.2 ek; by_cases ex : xa.toList = xb.toList
     case pos =>
      obtain ⟨⟨c0, c1, _, _⟩, ⟨d0, d1, _, _⟩, ⟨f0, _, _, _⟩, g0, _, _, _⟩ := HRow.out V (Mod.refl _ _); have ex1 : (xa.toList == xb.toList) = true := beq_iff_eq.2 ex; have ex2 : (xb.toList == xa.toList) = true := beq_iff_eq.2 ex.symm; go_upto_region 7 with fail
      obtain ⟨la0, cap0, hX, HO0, HN0⟩ : ∃ la cap, Value.slice none 0 0 = Value.slice la 0 cap /\ Hid (Own V 113 3 la 0 cap []) /\ Hid (∀ b, blk la b -> V.heap.size <= b) := ⟨none, 0, rfl, Own.nil _ _ _, fun b hb => (qAj b hb).elim⟩
      rw [hX]; clear hX; have HOa1 := hid (HO0.out.mod (S := fun _ => False) ((Mod.refl _ V).alloc (.cells #[.string kb, .string vb, .bool false] 113)) (fun _ _ h => h))
      have HSa1 : Hid (Src (V.alloc (.cells #[.string kb, .string vb, .bool false] 113)) 3 (some ⟨V.heap.size, 0, none⟩) 1 [.string kb, .string vb, .bool false]) := hid (qAw (heap_alloc_new _ _) rfl); have HMa1 := hid (Mod.alloc (S := fun _ => False) (a := V) (Mod.refl _ _) (.cells #[.string kb, .string vb, .bool false] 113))
      go_upto_region 8 with (at_builtin; refine qAd rfl (.tmp 59) (.tmp 65) 34 rfl 113 i0 _ 3 40 Tryz.underlying34 hi0 hz0 hz1 hz2 rfl la0 0 cap0 _ rfl HOa1.out (some ⟨V.heap.size, 0, none⟩) 1 1 _ rfl HSa1.out (by intro u hu; simp at hu; rcases hu with rfl | rfl | rfl <;> rfl) (by unfold maxLen; omega) (by omega) ?_; intro la1 cap1 Z1 hown hm hb hn hr; have HO1 := hid hown; have HMx1 := hid hm; have HBx1 := hid hb; clear hown hm hb hn hr; clear c0 c1 d0 d1 f0 g0; have HMz1 := hid (HMa1.out.then HMx1.out (fun i hi h => by have := HN0.out i h; omega)); obtain ⟨⟨c0, c1, _, _⟩, ⟨d0, d1, _, _⟩, ⟨f0, _, _, _⟩, g0, _, _, _⟩ := HRow.out Z1 HMz1.out)
      go_wp2_with fail
      go_ret2; exact qHb (l := [⟨kb, vb, false⟩]) (t := 113) (HMV.out.trans HMz1.out) (by rintro (⟨h, _⟩ | ⟨h, _⟩ | ⟨p, q, h, h', h''⟩) <;> cases h; cases h'; exact h'' ek) (by simp only [chgL]; rw [if_pos (.inr ex)]) rfl HO1.out
     case neg =>
      obtain ⟨⟨c0, c1, _, _⟩, ⟨d0, d1, _, _⟩, ⟨f0, _, _, _⟩, g0, _, _, _⟩ := HRow.out V (Mod.refl _ _); have ex1 : (xa.toList == xb.toList) = false := beq_eq_false_iff_ne.2 ex; have ex2 : (xb.toList == xa.toList) = false := beq_eq_false_iff_ne.2 (fun h => ex h.symm)
      go_upto_region 7 with fail
      obtain ⟨la0, cap0, hX, HO0, HN0⟩ : ∃ la cap, Value.slice none 0 0 = Value.slice la 0 cap /\ Hid (Own V 113 3 la 0 cap []) /\ Hid (∀ b, blk la b -> V.heap.size <= b) := ⟨none, 0, rfl, Own.nil _ _ _, fun b hb => (qAj b hb).elim⟩
      rw [hX]; clear hX; have HOa1 := hid (HO0.out.mod (S := fun _ => False) ((Mod.refl _ V).alloc (.cells #[.string kb, .string vb, .bool false] 113)) (fun _ _ h => h))
      have HSa1 : Hid (Src (V.alloc (.cells #[.string kb, .string vb, .bool false] 113)) 3 (some ⟨V.heap.size, 0, none⟩) 1 [.string kb, .string vb, .bool false]) := hid (qAw (heap_alloc_new _ _) rfl); have HMa1 := hid (Mod.alloc (S := fun _ => False) (a := V) (Mod.refl _ _) (.cells #[.string kb, .string vb, .bool false] 113))
      go_upto_region 8 with (at_builtin; refine qAd rfl (.tmp 59) (.tmp 65) 34 rfl 113 i0 _ 3 40 Tryz.underlying34 hi0 hz0 hz1 hz2 rfl la0 0 cap0 _ rfl HOa1.out (some ⟨V.heap.size, 0, none⟩) 1 1 _ rfl HSa1.out (by intro u hu; simp at hu; rcases hu with rfl | rfl | rfl <;> rfl) (by unfold maxLen; omega) (by omega) ?_; intro la1 cap1 Z1 hown hm hb hn hr; have HO1 := hid hown; have HMx1 := hid hm; have HBx1 := hid hb; clear hown hm hb hn hr; clear c0 c1 d0 d1 f0 g0; have HMz1 := hid (HMa1.out.then HMx1.out (fun i hi h => by have := HN0.out i h; omega)); obtain ⟨⟨c0, c1, _, _⟩, ⟨d0, d1, _, _⟩, ⟨f0, _, _, _⟩, g0, _, _, _⟩ := HRow.out Z1 HMz1.out)
      have HN1 : Hid (∀ b, blk la1 b -> V.heap.size <= b) := hid (fun j hj => by
       rcases HBx1.out j hj with h | h
       ·exact HN0.out j h
       ·have := HMa1.out.size; omega)
      clear c0 c1 d0 d1 f0 g0; obtain ⟨⟨c0, c1, _, _⟩, ⟨d0, d1, _, _⟩, ⟨f0, _, _, _⟩, g0, _, _, _⟩ := HRow.out Z1 HMz1.out; go_upto_region 9 with fail
      have HOa2 := hid (HO1.out.mod (S := fun _ => False) ((Mod.refl _ Z1).alloc (.cells #[.string xb, .string ⟨#[]⟩, .bool false] 113)) (fun _ _ h => h))
      have HSa2 : Hid (Src (Z1.alloc (.cells #[.string xb, .string ⟨#[]⟩, .bool false] 113)) 3 (some ⟨Z1.heap.size, 0, none⟩) 1 [.string xb, .string ⟨#[]⟩, .bool false]) := hid (qAw (heap_alloc_new _ _) rfl); have HMa2 := hid (Mod.alloc (S := fun _ => False) (a := V) HMz1.out (.cells #[.string xb, .string ⟨#[]⟩, .bool false] 113))
      go_upto_region 10 with (at_builtin; refine qAd rfl (.tmp 77) (.tmp 81) 34 rfl 113 i0 _ 3 40 Tryz.underlying34 hi0 hz0 hz1 hz2 rfl la1 1 cap1 _ rfl HOa2.out (some ⟨Z1.heap.size, 0, none⟩) 1 1 _ rfl HSa2.out (by intro u hu; simp at hu; rcases hu with rfl | rfl | rfl <;> rfl) (by unfold maxLen; omega) (by omega) ?_; intro la2 cap2 Z2 hown hm hb hn hr; have HO2 := hid hown; have HMx2 := hid hm; have HBx2 := hid hb; clear hown hm hb hn hr; clear c0 c1 d0 d1 f0 g0; have HMz2 := hid (HMa2.out.then HMx2.out (fun i hi h => by have := HN1.out i h; omega)); obtain ⟨⟨c0, c1, _, _⟩, ⟨d0, d1, _, _⟩, ⟨f0, _, _, _⟩, g0, _, _, _⟩ := HRow.out Z2 HMz2.out)
      have HN2 : Hid (∀ b, blk la2 b -> V.heap.size <= b) := hid (fun j hj => by
       rcases HBx2.out j hj with h | h
       ·exact HN1.out j h
       ·have := HMa2.out.size; have := HMz1.out.size; omega)
      clear c0 c1 d0 d1 f0 g0; obtain ⟨⟨c0, c1, _, _⟩, ⟨d0, d1, _, _⟩, ⟨f0, _, _, _⟩, g0, _, _, _⟩ := HRow.out Z2 HMz2.out; go_upto_region 13 with fail
      have HOa3 := hid (HO2.out.mod (S := fun _ => False) ((Mod.refl _ Z2).alloc (.cells #[.string xa, .string ⟨#[]⟩, .bool true] 113)) (fun _ _ h => h))
      have HSa3 : Hid (Src (Z2.alloc (.cells #[.string xa, .string ⟨#[]⟩, .bool true] 113)) 3 (some ⟨Z2.heap.size, 0, none⟩) 1 [.string xa, .string ⟨#[]⟩, .bool true]) := hid (qAw (heap_alloc_new _ _) rfl); have HMa3 := hid (Mod.alloc (S := fun _ => False) (a := V) HMz2.out (.cells #[.string xa, .string ⟨#[]⟩, .bool true] 113))
      go_upto_region 14 with (at_builtin; refine qAd rfl (.tmp 104) (.tmp 108) 34 rfl 113 i0 _ 3 40 Tryz.underlying34 hi0 hz0 hz1 hz2 rfl la2 2 cap2 _ rfl HOa3.out (some ⟨Z2.heap.size, 0, none⟩) 1 1 _ rfl HSa3.out (by intro u hu; simp at hu; rcases hu with rfl | rfl | rfl <;> rfl) (by unfold maxLen; omega) (by omega) ?_; intro la3 cap3 Z3 hown hm hb hn hr; have HO3 := hid hown; have HMx3 := hid hm; have HBx3 := hid hb; clear hown hm hb hn hr; clear c0 c1 d0 d1 f0 g0; have HMz3 := hid (HMa3.out.then HMx3.out (fun i hi h => by have := HN2.out i h; omega)); obtain ⟨⟨c0, c1, _, _⟩, ⟨d0, d1, _, _⟩, ⟨f0, _, _, _⟩, g0, _, _, _⟩ := HRow.out Z3 HMz3.out)
      go_wp2_with fail
      go_ret2; exact qHb (l := [⟨kb, vb, false⟩, ⟨xb, ⟨#[]⟩, false⟩, ⟨xa, ⟨#[]⟩, true⟩]) (t := 113) (HMV.out.trans HMz3.out) (by rintro (⟨h, _⟩ | ⟨h, _⟩ | ⟨p, q, h, h', h''⟩) <;> cases h; cases h'; exact h'' ek) (by simp only [chgL]; rw [if_neg (by rw [eb]; exact fun h => h.elim (fun h => by cases h) ex)]) rfl HO3.out
  ·by_cases hf0 : 0 < f.length
   case pos =>
    obtain ⟨⟨c0, c1, _, _⟩, ⟨d0, d1, _, _⟩, ⟨f0, _, _, _⟩, g0, _, _, _⟩ := HRow.out V (Mod.refl _ _); go_wp2_with fail
    go_ret2; exact qSf HMV.out (.inr (.inl ⟨rfl, hf0⟩))
   case neg =>
    by_cases ei : idx < 0
    case pos =>
     rw [decide_eq_true ei] at ea; obtain ⟨⟨c0, c1, _, _⟩, ⟨d0, d1, _, _⟩, ⟨f0, _, _, _⟩, g0, _, _, _⟩ := HRow.out V (Mod.refl _ _); go_upto_region 11 with fail
     obtain ⟨la0, cap0, hX, HO0, HN0⟩ : ∃ la cap, Value.slice none 0 0 = Value.slice la 0 cap /\ Hid (Own V 113 3 la 0 cap []) /\ Hid (∀ b, blk la b -> V.heap.size <= b) := ⟨none, 0, rfl, Own.nil _ _ _, fun b hb => (qAj b hb).elim⟩
     rw [hX]; clear hX; have HOa1 := hid (HO0.out.mod (S := fun _ => False) ((Mod.refl _ V).alloc (.cells #[.string ka, .string ⟨#[]⟩, .bool true] 113)) (fun _ _ h => h))
     have HSa1 : Hid (Src (V.alloc (.cells #[.string ka, .string ⟨#[]⟩, .bool true] 113)) 3 (some ⟨V.heap.size, 0, none⟩) 1 [.string ka, .string ⟨#[]⟩, .bool true]) := hid (qAw (heap_alloc_new _ _) rfl); have HMa1 := hid (Mod.alloc (S := fun _ => False) (a := V) (Mod.refl _ _) (.cells #[.string ka, .string ⟨#[]⟩, .bool true] 113))
     go_upto_region 12 with (at_builtin; refine qAd rfl (.tmp 88) (.tmp 92) 34 rfl 113 i0 _ 3 40 Tryz.underlying34 hi0 hz0 hz1 hz2 rfl la0 0 cap0 _ rfl HOa1.out (some ⟨V.heap.size, 0, none⟩) 1 1 _ rfl HSa1.out (by intro u hu; simp at hu; rcases hu with rfl | rfl | rfl <;> rfl) (by unfold maxLen; omega) (by omega) ?_; intro la1 cap1 Z1 hown hm hb hn hr; have HO1 := hid hown; have HMx1 := hid hm; have HBx1 := hid hb; clear hown hm hb hn hr; clear c0 c1 d0 d1 f0 g0; have HMz1 := hid (HMa1.out.then HMx1.out (fun i hi h => by have := HN0.out i h; omega)); obtain ⟨⟨c0, c1, _, _⟩, ⟨d0, d1, _, _⟩, ⟨f0, _, _, _⟩, g0, _, _, _⟩ := HRow.out Z1 HMz1.out)
     go_wp2_with fail
     go_ret2; exact qHb (l := [⟨ka, ⟨#[]⟩, true⟩]) (t := 113) (HMV.out.trans HMz1.out) (by rintro (⟨h, _⟩ | ⟨_, h⟩ | ⟨p, q, h, h', h''⟩); (cases h); (exact hf0 h); (cases h')) (by simp only [chgL]; rw [if_pos ea]) rfl HO1.out
    case neg =>
     rw [decide_eq_false ei] at ea; have ex : (xa.toList == xb.toList) = false := beq_eq_false_iff_ne.2 (fun h => by rw [h, eb] at ea; cases ea)
     obtain ⟨⟨c0, c1, _, _⟩, ⟨d0, d1, _, _⟩, ⟨f0, _, _, _⟩, g0, _, _, _⟩ := HRow.out V (Mod.refl _ _); go_upto_region 11 with fail
     obtain ⟨la0, cap0, hX, HO0, HN0⟩ : ∃ la cap, Value.slice none 0 0 = Value.slice la 0 cap /\ Hid (Own V 113 3 la 0 cap []) /\ Hid (∀ b, blk la b -> V.heap.size <= b) := ⟨none, 0, rfl, Own.nil _ _ _, fun b hb => (qAj b hb).elim⟩
     rw [hX]; clear hX; have HOa1 := hid (HO0.out.mod (S := fun _ => False) ((Mod.refl _ V).alloc (.cells #[.string ka, .string ⟨#[]⟩, .bool true] 113)) (fun _ _ h => h))
     have HSa1 : Hid (Src (V.alloc (.cells #[.string ka, .string ⟨#[]⟩, .bool true] 113)) 3 (some ⟨V.heap.size, 0, none⟩) 1 [.string ka, .string ⟨#[]⟩, .bool true]) := hid (qAw (heap_alloc_new _ _) rfl); have HMa1 := hid (Mod.alloc (S := fun _ => False) (a := V) (Mod.refl _ _) (.cells #[.string ka, .string ⟨#[]⟩, .bool true] 113))
     go_upto_region 12 with (at_builtin; refine qAd rfl (.tmp 88) (.tmp 92) 34 rfl 113 i0 _ 3 40 Tryz.underlying34 hi0 hz0 hz1 hz2 rfl la0 0 cap0 _ rfl HOa1.out (some ⟨V.heap.size, 0, none⟩) 1 1 _ rfl HSa1.out (by intro u hu; simp at hu; rcases hu with rfl | rfl | rfl <;> rfl) (by unfold maxLen; omega) (by omega) ?_; intro la1 cap1 Z1 hown hm hb hn hr; have HO1 := hid hown; have HMx1 := hid hm; have HBx1 := hid hb; clear hown hm hb hn hr; clear c0 c1 d0 d1 f0 g0; have HMz1 := hid (HMa1.out.then HMx1.out (fun i hi h => by have := HN0.out i h; omega)); obtain ⟨⟨c0, c1, _, _⟩, ⟨d0, d1, _, _⟩, ⟨f0, _, _, _⟩, g0, _, _, _⟩ := HRow.out Z1 HMz1.out)
     have HN1 : Hid (∀ b, blk la1 b -> V.heap.size <= b) := hid (fun j hj => by
      rcases HBx1.out j hj with h | h
      ·exact HN0.out j h
      ·have := HMa1.out.size; omega)
     clear c0 c1 d0 d1 f0 g0; obtain ⟨⟨c0, c1, _, _⟩, ⟨d0, d1, _, _⟩, ⟨f0, _, _, _⟩, g0, _, _, _⟩ := HRow.out Z1 HMz1.out; go_upto_region 13 with fail
     have HOa2 := hid (HO1.out.mod (S := fun _ => False) ((Mod.refl _ Z1).alloc (.cells #[.string xa, .string ⟨#[]⟩, .bool true] 113)) (fun _ _ h => h))
     have HSa2 : Hid (Src (Z1.alloc (.cells #[.string xa, .string ⟨#[]⟩, .bool true] 113)) 3 (some ⟨Z1.heap.size, 0, none⟩) 1 [.string xa, .string ⟨#[]⟩, .bool true]) := hid (qAw (heap_alloc_new _ _) rfl); have HMa2 := hid (Mod.alloc (S := fun _ => False) (a := V) HMz1.out (.cells #[.string xa, .string ⟨#[]⟩, .bool true] 113))
     go_upto_region 14 with (at_builtin; refine qAd rfl (.tmp 104) (.tmp 108) 34 rfl 113 i0 _ 3 40 Tryz.underlying34 hi0 hz0 hz1 hz2 rfl la1 1 cap1 _ rfl HOa2.out (some ⟨Z1.heap.size, 0, none⟩) 1 1 _ rfl HSa2.out (by intro u hu; simp at hu; rcases hu with rfl | rfl | rfl <;> rfl) (by unfold maxLen; omega) (by omega) ?_; intro la2 cap2 Z2 hown hm hb hn hr; have HO2 := hid hown; have HMx2 := hid hm; have HBx2 := hid hb; clear hown hm hb hn hr; clear c0 c1 d0 d1 f0 g0; have HMz2 := hid (HMa2.out.then HMx2.out (fun i hi h => by have := HN1.out i h; omega)); obtain ⟨⟨c0, c1, _, _⟩, ⟨d0, d1, _, _⟩, ⟨f0, _, _, _⟩, g0, _, _, _⟩ := HRow.out Z2 HMz2.out)
     go_wp2_with fail
     go_ret2; exact qHb (l := [⟨ka, ⟨#[]⟩, true⟩, ⟨xa, ⟨#[]⟩, true⟩]) (t := 113) (HMV.out.trans HMz2.out) (by rintro (⟨h, _⟩ | ⟨_, h⟩ | ⟨p, q, h, h', h''⟩); (cases h); (exact hf0 h); (cases h')) (by simp only [chgL]; rw [if_neg (by rw [ea]; exact Bool.false_ne_true)]) rfl HO2.out
 ·by_cases hr0 : 0 < r.length
  case pos =>
   rcases HQ2.out with ⟨rfl, rfl⟩ | ⟨rfl, rfl, eb⟩
   ·
    obtain ⟨⟨c0, c1, _, _⟩, ⟨d0, d1, _, _⟩, ⟨f0, _, _, _⟩, g0, _, _, _⟩ := HRow.out V (Mod.refl _ _); go_wp2_with fail
    go_ret2; exact qSf HMV.out (.inl ⟨rfl, hr0⟩)
   ·
    obtain ⟨⟨c0, c1, _, _⟩, ⟨d0, d1, _, _⟩, ⟨f0, _, _, _⟩, g0, _, _, _⟩ := HRow.out V (Mod.refl _ _); go_wp2_with fail
    go_ret2; exact qSf HMV.out (.inl ⟨rfl, hr0⟩)
  case neg =>
   rcases HQ2.out with ⟨rfl, rfl⟩ | ⟨rfl, rfl, eb⟩
   ·have eb : xb.toList.isEmpty = decide (idx < 0) := HXb.out _ rfl; by_cases ei : idx < 0
    case pos =>
     rw [decide_eq_true ei] at eb; obtain ⟨⟨c0, c1, _, _⟩, ⟨d0, d1, _, _⟩, ⟨f0, _, _, _⟩, g0, _, _, _⟩ := HRow.out V (Mod.refl _ _); go_upto_region 7 with fail
     obtain ⟨la0, cap0, hX, HO0, HN0⟩ : ∃ la cap, Value.slice none 0 0 = Value.slice la 0 cap /\ Hid (Own V 113 3 la 0 cap []) /\ Hid (∀ b, blk la b -> V.heap.size <= b) := ⟨none, 0, rfl, Own.nil _ _ _, fun b hb => (qAj b hb).elim⟩
     rw [hX]; clear hX; have HOa1 := hid (HO0.out.mod (S := fun _ => False) ((Mod.refl _ V).alloc (.cells #[.string kb, .string vb, .bool false] 113)) (fun _ _ h => h))
     have HSa1 : Hid (Src (V.alloc (.cells #[.string kb, .string vb, .bool false] 113)) 3 (some ⟨V.heap.size, 0, none⟩) 1 [.string kb, .string vb, .bool false]) := hid (qAw (heap_alloc_new _ _) rfl); have HMa1 := hid (Mod.alloc (S := fun _ => False) (a := V) (Mod.refl _ _) (.cells #[.string kb, .string vb, .bool false] 113))
     go_upto_region 8 with (at_builtin; refine qAd rfl (.tmp 59) (.tmp 65) 34 rfl 113 i0 _ 3 40 Tryz.underlying34 hi0 hz0 hz1 hz2 rfl la0 0 cap0 _ rfl HOa1.out (some ⟨V.heap.size, 0, none⟩) 1 1 _ rfl HSa1.out (by intro u hu; simp at hu; rcases hu with rfl | rfl | rfl <;> rfl) (by unfold maxLen; omega) (by omega) ?_; intro la1 cap1 Z1 hown hm hb hn hr; have HO1 := hid hown; have HMx1 := hid hm; have HBx1 := hid hb; clear hown hm hb hn hr; clear c0 c1 d0 d1 f0 g0; have HMz1 := hid (HMa1.out.then HMx1.out (fun i hi h => by have := HN0.out i h; omega)); obtain ⟨⟨c0, c1, _, _⟩, ⟨d0, d1, _, _⟩, ⟨f0, _, _, _⟩, g0, _, _, _⟩ := HRow.out Z1 HMz1.out)
     go_wp2_with fail
     go_ret2; exact qHb (l := [⟨kb, vb, false⟩]) (t := 113) (HMV.out.trans HMz1.out) (by rintro (⟨_, h⟩ | ⟨h, _⟩ | ⟨p, q, h, h', h''⟩); (exact hr0 h); (cases h); (cases h)) (by simp only [chgL]; rw [if_pos eb]) rfl HO1.out
    case neg =>
     rw [decide_eq_false ei] at eb; have ex : (xb.toList == xa.toList) = false := beq_eq_false_iff_ne.2 (fun h => by rw [h, ea] at eb; cases eb)
     obtain ⟨⟨c0, c1, _, _⟩, ⟨d0, d1, _, _⟩, ⟨f0, _, _, _⟩, g0, _, _, _⟩ := HRow.out V (Mod.refl _ _); go_upto_region 7 with fail
     obtain ⟨la0, cap0, hX, HO0, HN0⟩ : ∃ la cap, Value.slice none 0 0 = Value.slice la 0 cap /\ Hid (Own V 113 3 la 0 cap []) /\ Hid (∀ b, blk la b -> V.heap.size <= b) := ⟨none, 0, rfl, Own.nil _ _ _, fun b hb => (qAj b hb).elim⟩
     rw [hX]; clear hX; have HOa1 := hid (HO0.out.mod (S := fun _ => False) ((Mod.refl _ V).alloc (.cells #[.string kb, .string vb, .bool false] 113)) (fun _ _ h => h))
     have HSa1 : Hid (Src (V.alloc (.cells #[.string kb, .string vb, .bool false] 113)) 3 (some ⟨V.heap.size, 0, none⟩) 1 [.string kb, .string vb, .bool false]) := hid (qAw (heap_alloc_new _ _) rfl); have HMa1 := hid (Mod.alloc (S := fun _ => False) (a := V) (Mod.refl _ _) (.cells #[.string kb, .string vb, .bool false] 113))
     go_upto_region 8 with (at_builtin; refine qAd rfl (.tmp 59) (.tmp 65) 34 rfl 113 i0 _ 3 40 Tryz.underlying34 hi0 hz0 hz1 hz2 rfl la0 0 cap0 _ rfl HOa1.out (some ⟨V.heap.size, 0, none⟩) 1 1 _ rfl HSa1.out (by intro u hu; simp at hu; rcases hu with rfl | rfl | rfl <;> rfl) (by unfold maxLen; omega) (by omega) ?_; intro la1 cap1 Z1 hown hm hb hn hr; have HO1 := hid hown; have HMx1 := hid hm; have HBx1 := hid hb; clear hown hm hb hn hr; clear c0 c1 d0 d1 f0 g0; have HMz1 := hid (HMa1.out.then HMx1.out (fun i hi h => by have := HN0.out i h; omega)); obtain ⟨⟨c0, c1, _, _⟩, ⟨d0, d1, _, _⟩, ⟨f0, _, _, _⟩, g0, _, _, _⟩ := HRow.out Z1 HMz1.out)
     have HN1 : Hid (∀ b, blk la1 b -> V.heap.size <= b) := hid (fun j hj => by
      rcases HBx1.out j hj with h | h
      ·exact HN0.out j h
      ·have := HMa1.out.size; omega)
     clear c0 c1 d0 d1 f0 g0; obtain ⟨⟨c0, c1, _, _⟩, ⟨d0, d1, _, _⟩, ⟨f0, _, _, _⟩, g0, _, _, _⟩ := HRow.out Z1 HMz1.out; go_upto_region 9 with fail
     have HOa2 := hid (HO1.out.mod (S := fun _ => False) ((Mod.refl _ Z1).alloc (.cells #[.string xb, .string ⟨#[]⟩, .bool false] 113)) (fun _ _ h => h))
     have HSa2 : Hid (Src (Z1.alloc (.cells #[.string xb, .string ⟨#[]⟩, .bool false] 113)) 3 (some ⟨Z1.heap.size, 0, none⟩) 1 [.string xb, .string ⟨#[]⟩, .bool false]) := hid (qAw (heap_alloc_new _ _) rfl); have HMa2 := hid (Mod.alloc (S := fun _ => False) (a := V) HMz1.out (.cells #[.string xb, .string ⟨#[]⟩, .bool false] 113))
     go_upto_region 10 with (at_builtin; refine qAd rfl (.tmp 77) (.tmp 81) 34 rfl 113 i0 _ 3 40 Tryz.underlying34 hi0 hz0 hz1 hz2 rfl la1 1 cap1 _ rfl HOa2.out (some ⟨Z1.heap.size, 0, none⟩) 1 1 _ rfl HSa2.out (by intro u hu; simp at hu; rcases hu with rfl | rfl | rfl <;> rfl) (by unfold maxLen; omega) (by omega) ?_; intro la2 cap2 Z2 hown hm hb hn hr; have HO2 := hid hown; have HMx2 := hid hm; have HBx2 := hid hb; clear hown hm hb hn hr; clear c0 c1 d0 d1 f0 g0; have HMz2 := hid (HMa2.out.then HMx2.out (fun i hi h => by have := HN1.out i h; omega)); obtain ⟨⟨c0, c1, _, _⟩, ⟨d0, d1, _, _⟩, ⟨f0, _, _, _⟩, g0, _, _, _⟩ := HRow.out Z2 HMz2.out)
     go_wp2_with fail
     go_ret2; exact qHb (l := [⟨kb, vb, false⟩, ⟨xb, ⟨#[]⟩, false⟩]) (t := 113) (HMV.out.trans HMz2.out) (by rintro (⟨_, h⟩ | ⟨h, _⟩ | ⟨p, q, h, h', h''⟩); (exact hr0 h); (cases h); (cases h)) (by simp only [chgL]; rw [if_neg (by rw [eb]; exact Bool.false_ne_true)]) rfl HO2.out
   ·by_cases hf0 : 0 < f.length
    case pos =>
     obtain ⟨⟨c0, c1, _, _⟩, ⟨d0, d1, _, _⟩, ⟨f0, _, _, _⟩, g0, _, _, _⟩ := HRow.out V (Mod.refl _ _); go_wp2_with fail
     go_ret2; exact qSf HMV.out (.inr (.inl ⟨rfl, hf0⟩))
    case neg =>
     obtain ⟨⟨c0, c1, _, _⟩, ⟨d0, d1, _, _⟩, ⟨f0, _, _, _⟩, g0, _, _, _⟩ := HRow.out V (Mod.refl _ _); go_wp2_with fail
     go_ret2; exact qHb (l := []) (t := 113) HMV.out (by rintro (⟨_, h⟩ | ⟨_, h⟩ | ⟨p, q, h, h', h''⟩); (exact hr0 h); (exact hf0 h); (cases h)) (rfl) rfl (Own.nil _ _ _)
end
section
open Go Go.RowKit
set_option maxRecDepth 100000
set_option maxHeartbeats 1000000 in
theorem jCa {w : World} {j d room : Nat} {sa : Option Addr} {D : Dsk} (hD : qAp w d sa D) (hj : JAt w j d room) (hne : ¬ qBj d sa j) (hn : D.secs.length <= 16384) (hr : room <= 500) (i : Int) :
  Calls Tryz.prog 24 #[.pointer (some ⟨j, 0, none⟩), .int .i64 i] w fun e w' => e = .returned (.tuple #[.string (qEu room D i).1, .int .i64 (qEu room D i).2]) /\ qAp w' d sa D /\ Mod (qBj d sa) w w' := by
 have HD := hid hD; by_cases h0 : i < 0
 ·have e : qEu room D i = (⟨#[]⟩, 10) := by unfold qEu; rw [if_pos (.inl h0)]
  rw [e]; have d0 : decide (i < 0) = true := by simpa using h0
  clear hj hD; go_enter Tryz.func24, Tryz.ntmps24
  go_wp2
  go_ret2; exact ⟨rfl, HD.out, Mod.refl _ _⟩
 ·have d0 : decide (i < 0) = false := by simpa using h0
  have HJl := hid (qLo hD hj hn hr); have HJ := hid hj; by_cases h1 : (jlen room D : Int) <= i
  ·have e : qEu room D i = (⟨#[]⟩, 10) := by unfold qEu; rw [if_pos (.inr h1)]
   rw [e]; have d1 : decide ((jlen room D : Int) <= i) = true := by simpa using h1
   clear hj hD; go_enter Tryz.func24, Tryz.ntmps24
   go_wp2_with fail
   refine HJl.out.mono ?_; rintro e w1 ⟨rfl, hm⟩; have HM := hid hm; clear hm; go_wp2
   go_ret2; exact ⟨rfl, HD.out.mod HM.out (fun _ _ h => h), HM.out.mono (fun _ _ h => h.elim)⟩
  ·have e : qEu room D i = qDm D ((room : Int) + 1 + i) := by unfold qEu; rw [if_neg (by omega)]
   rw [e]; have d1 : decide ((jlen room D : Int) <= i) = false := by simpa using h1
   have hi : i <= 16384 := by unfold jlen at h1; omega
   obtain ⟨n, rfl⟩ := Int.eq_ofNat_of_zero_le (show 0 <= i by omega)
   have e2 : ((room + 1 + n : Nat) : Int) = (room : Int) + 1 + (n : Int) := by omega
   have HRa := hid (fun (v : World) (h : qAp v d sa D) => qPc h ((room : Int) + 1 + (n : Int)))
   generalize qDm D ((room : Int) + 1 + (n : Int)) = r at *; clear hj hD e; go_enter Tryz.func24, Tryz.ntmps24
   go_wp2_with fail
   refine HJl.out.mono ?_; rintro e w1 ⟨rfl, hm⟩; have HP := hid (qOe (w := w1.drew) (HJ.out.mod hm.drew (fun h => h)) hr n (by omega))
   have HR := hid (HRa.out w1.drew (HD.out.mod hm.drew (fun _ _ h => h)))
   rw [e2] at HP; have HJ1 := hid (HJ.out.mod hm.drew (fun h => h))
   obtain ⟨c0, c1⟩ := HJ1.out.cells; have HM := hid (hm.drew.mono (T := qBj d sa) (fun _ _ h => h.elim))
   clear hm e2; go_wp2_with fail
   go_region_held3 (fun w' => w'.cell? ⟨j, 0, none⟩ = some (.pointer (some ⟨d, 0, none⟩)))
    (first | exact x0 | exact c0 | go_keep)
    (first
     | (go_at_call 46; (with_reducible refine HP.out.mono ?_); rintro e v1 ⟨rfl, rfl⟩)
     | (go_at_call 43; (with_reducible refine HR.out.mono ?_); rintro e v2 ⟨rfl, hd2, hm2⟩; have HD2 := hid hd2; obtain ⟨x0, x1⟩ := (HJ1.out.mod hm2 hne).cells; have HM2 := hid hm2; clear hd2 hm2))
   all_goals
    go_wp2_with fail
    go_ret2; exact ⟨rfl, HD2.out, HM.out.trans HM2.out⟩
theorem jFx (w : World) : Own w 3 1 none 0 0 (nums []) := Own.nil w 3 1
theorem jKa (room i : Nat) (D : Dsk) : finF room i [] D = qAz D 0 (ba [0]) := rfl
theorem jHm (room i n : Nat) (l : List Nat) (D : Dsk) : finF room i (n :: l) D =
  if (qDm D (1 + (i : Int))).2 = 0 then
   (if (qAz D ((room : Int) + 1 + (n : Int)) (qDm D (1 + (i : Int))).1).1 = 0 then finF room (i + 1) l (qAz D ((room : Int) + 1 + (n : Int)) (qDm D (1 + (i : Int))).1).2
    else qAz D ((room : Int) + 1 + (n : Int)) (qDm D (1 + (i : Int))).1)
  else ((qDm D (1 + (i : Int))).2, D) := by
 rw [finF, show ((1 + i : Nat) : Int) = 1 + (i : Int) by omega, show ((room + 1 + n : Nat) : Int) = (room : Int) + 1 + (n : Int) by omega]
theorem jJv : hdL [] = [0] := by unfold hdL; rw [List.length_nil, qCn (by omega)]; rfl
def FinR (room : Nat) (l : List Nat) (D : Dsk) (k : Nat) (D' : Dsk) : Prop := finF room 0 l D = finF room k (l.drop k) D' /\ D'.secs.length = D.secs.length
set_option maxHeartbeats 2000000 in
theorem qOi {w : World} {j d room k0 : Nat} {sa : Option Addr} {D : Dsk} (hD : qAp w d sa D) (hj : JAt w j d room) (hne : ¬ qBj d sa j) (hb : Bud D k0) (hk0 : k0 <= 2305843009213693952) (hr : room <= 500)
  {la : Option Addr} {cap : Nat} {l : List Nat} (hl : Own w 3 1 la l.length cap (nums l)) (hlen : l.length <= 500) (hln : ∀ n ∈ l, n <= 16384) (hls : ∀ k, blk la k -> ¬ qBj d sa k) :
  Calls Tryz.prog 45 #[.pointer (some ⟨j, 0, none⟩), .slice la l.length cap] w fun e w' => e = .returned (.int .i64 (finF room 0 l D).1) /\ qAp w' d sa (finF room 0 l D).2 /\ Mod (qBj d sa) w w' := by
 have HD := hid hD; have HJ := hid hj; have HB := hid hb; have HL := hid hl; have HLn := hid hln; have HLs := hid hls; have HR0 : Hid (FinR room l D 0 D) := ⟨rfl, rfl⟩; obtain ⟨F, hF⟩ : ∃ F, finF room 0 l D = F := ⟨_, rfl⟩; rw [hF]; have HF := hid hF; clear hD hj hb hl hln hls hF; go_enter Tryz.func45, Tryz.ntmps45
 go_wp2_with fail
 go_loopw [11] (fun c wr => ∃ (k : Nat) (D' : Dsk), k <= l.length /\ c = .int .i64 k /\ qAp wr d sa D' /\ Bud D' (k0 + k) /\ FinR room l D k D' /\ Mod (qBj d sa) w wr) (fun c _ => l.length - (intOf c).toNat)
 case atStart => exact ⟨0, D, Nat.zero_le _, rfl, HD.out, HB.out, HR0.out, Mod.refl _ _⟩
 case round =>
  obtain ⟨k, D', hk, rfl, hd, hbd, hfr, hm⟩ := hrel; have HDk := hid hd; have HBk := hid hbd; have HFk := hid hfr; have HM := hid hm; have HJk := hid (HJ.out.mod hm hne); obtain ⟨c0, c1⟩ := HJk.out.cells; clear hd hbd hfr hm; by_cases hlt : k < l.length
  ·obtain ⟨g, off, rfl⟩ := HL.out.some_lit (by omega)
   have hc := (HL.out.mod HM.out HLs.out).num hlt; have hx := HLn.out l[k] (List.getElem_mem hlt); have hS : F = finF room k (l[k] :: l.drop (k + 1)) D' := by rw [<- List.drop_eq_getElem_cons hlt, <- HFk.out.1]; exact HF.out.symm
   rw [jHm] at hS; have HRd := hid (qPc HDk.out (1 + (k : Int))); have hrs := HBk.out.read (1 + (k : Int)); generalize l[k] = x at *; generalize qDm D' (1 + (k : Int)) = r at *; have HRs := hid hrs; by_cases hz : r.2 = 0
   ·rw [if_pos hz] at hS; have HS := hid hS; have hz2 : (r.2 == 0) = true := by simpa using hz
    clear hS hrs; go_wp2_with fail
    refine HRd.out.mono ?_; rintro e w1 ⟨rfl, hd1, hm1⟩; have hJ1 := HJk.out.mod hm1 hne; have hP := (qOe (w := w1.drew) (hJ1.mod (Mod.refl (fun _ => False) w1).drew (fun h => h)) hr x hx)
    rw [show ((room + 1 + x : Nat) : Int) = (room : Int) + 1 + (x : Int) by omega] at hP
    have HP := hid hP; clear hP; have HW := hid (qIo (w := w1.drew) (hd1.mod (Mod.refl (fun _ => False) w1).drew (fun _ _ h => h)) (HBk.out.ok (by omega)) ((room : Int) + 1 + (x : Int)) r.1 (by unfold maxLen; have := HRs.out; omega))
    have HBw := hid (HBk.out.write ((room : Int) + 1 + (x : Int)) r.1); have hwl := qCx D' ((room : Int) + 1 + (x : Int)) r.1; rw [HFk.out.2] at hwl; have HWl := hid hwl; have HJ2 := hid (hJ1.mod (Mod.refl (fun _ => False) w1).drew (fun h => h))
    have HM2 := hid ((HM.out.trans hm1).drew); obtain ⟨v0, v1⟩ := HJ2.out.cells; generalize qAz D' ((room : Int) + 1 + (x : Int)) r.1 = q at *; clear hd1 hm1 hJ1 hc c0 c1 hwl; go_wp2_with fail
    go_region_held3 (fun w' => w'.cell? ⟨j, 0, none⟩ = some (.pointer (some ⟨d, 0, none⟩)))
     (first | exact x0 | exact v0 | go_keep)
     (first
      | (go_at_call 46; (with_reducible refine HP.out.mono ?_); rintro e v1 ⟨rfl, rfl⟩)
      | (go_at_call 71; (with_reducible refine HW.out.mono ?_); rintro e w2 ⟨rfl, hd2, hm2⟩; have HD3 := hid hd2; obtain ⟨x0, x1⟩ := (HJ2.out.mod hm2 hne).cells; have HM3 := hid (HM2.out.trans hm2); clear hd2 hm2))
    all_goals
     by_cases hq : q.1 = 0
     ·have hq2 : (q.1 == 0) = true := by simpa using hq
      have hs2 := HS.out; rw [if_pos hq] at hs2; have HS2 : Hid (FinR room l D (k + 1) q.2) := ⟨HF.out.trans hs2, HWl.out⟩; clear hs2 hq; go_wp2_with fail
      go_roundw
      case rel => exact ⟨k + 1, q.2, by omega, by go_num, HD3.out, HBw.out, HS2.out, HM3.out⟩
      case measure => simp [intOf]; omega
     ·have hq2 : (q.1 == 0) = false := by simpa using hq
      have hs2 := HS.out; rw [if_neg hq] at hs2; clear hq; go_wp2_with fail
      go_ret; rw [hs2]; exact ⟨rfl, HD3.out, HM3.out⟩
   ·rw [if_neg hz] at hS; have HS := hid hS; have hz2 : (r.2 == 0) = false := by simpa using hz
    clear hS hrs hz; go_wp2_with fail
    refine HRd.out.mono ?_; rintro e w1 ⟨rfl, hd1, hm1⟩; have HD1 := hid hd1; have HM1 := hid (HM.out.trans hm1); clear hd1 hm1 hc c0 c1; go_wp2_with fail
    go_ret; rw [HS.out]; exact ⟨rfl, HD1.out, HM1.out⟩
  ·have hke : k = l.length := by omega
   subst hke; have hS : F = qAz D' 0 (ba [0]) := by rw [<- jKa room l.length, <- HF.out, HFk.out.1, List.drop_length]
   have HH : Hid (Calls Tryz.prog 72 #[.slice none 0 0] wr.drew fun e w' => e = .returned (.string (ba [0])) /\ Mod (fun _ => False) wr.drew w') := hid (by
    have := qWf (w := wr.drew) (cap := 0) (jFx wr.drew) (by simp) (by simp)
    rw [jJv] at this; exact this)
   have HWa : Hid (∀ v, Mod (fun _ => False) wr v -> Calls Tryz.prog 71 #[.pointer (some ⟨d, 0, none⟩), .int .i64 0, .string (ba [0])] v fun e w' => e = .returned (.int .i64 F.1) /\ qAp w' d sa F.2 /\ Mod (qBj d sa) v w') := hid (fun v hv => by
    have := qIo (HDk.out.mod hv (fun _ _ h => h)) (HBk.out.ok (by omega)) 0 (ba [0]) (by have := qJb; unfold maxLen; omega)
    rw [<- hS] at this; exact this)
   have HJd : Hid (∀ v, Mod (fun _ => False) wr v -> v.cell? ⟨j, 0, none⟩ = some (.pointer (some ⟨d, 0, none⟩))) := hid (fun v hv => (HJk.out.mod hv (fun h => h)).cells.1)
   have hw0 : Mod (fun _ => False) wr wr.drew := (Mod.refl _ _).drew
   have HW0 := hid hw0; have z0 := HJd.out _ hw0; clear hS c0 c1 hw0; go_wp2_with fail
   go_region_held3 (fun w' => w'.cell? ⟨j, 0, none⟩ = some (.pointer (some ⟨d, 0, none⟩)))
    (first | exact x0 | exact y0 | exact z0 | go_keep)
    (first
     | (go_at_call 72; (with_reducible refine HH.out.mono ?_); rintro e v1 ⟨rfl, hm1⟩; have HV1 := hid (HW0.out.trans hm1); have y0 := HJd.out v1 HV1.out; clear hm1)
     | (go_at_call 71; (with_reducible refine (HWa.out _ HV1.out).mono ?_); rintro e w2 ⟨rfl, hd2, hm2⟩; have HD3 := hid hd2; obtain ⟨x0, x1⟩ := ((HJk.out.mod HV1.out (fun h => h)).mod hm2 hne).cells; have HM3 := hid (HM.out.trans ((HV1.out.mono (fun _ _ h => h.elim)).trans hm2)); clear hd2 hm2))
   all_goals
    go_wp2_with fail
    go_ret; exact ⟨rfl, HD3.out, HM3.out⟩
end
end Go.Proofs.YtkinkgbmlhiakaaGreatDoor
