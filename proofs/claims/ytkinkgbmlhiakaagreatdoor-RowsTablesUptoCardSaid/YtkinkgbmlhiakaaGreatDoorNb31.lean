/- merged: RwC2 RwCh RoR RoH -/
import Derived.Test.YtkinkgbmlhiakaaGreatDoorNb30
import Derived.Test.YtkinkgbmlhiakaaGreatDoorNb28
import Derived.Test.YtkinkgbmlhiakaaGreatDoorNb29
import Derived.Test.YtkinkgbmlhiakaaGreatDoorNb23
import Derived.Test.YtkinkgbmlhiakaaGreatDoorNb27
import Derived.Test.YtkinkgbmlhiakaaGreatDoorNb26
namespace Go.Proofs.YtkinkgbmlhiakaaGreatDoor
section
open Go Go.RowKit
theorem row2 {V : World} {b : Nat} {v0 v1 : Value} {T : TypeId} (h : V.heap[b]? = some (.cells #[v0, v1] T (0, 0))) : V.cell? ⟨b, 0, none⟩ = some v0 /\ V.cell? ⟨b, 1, none⟩ = some v1 /\ V.frozen? ⟨b, 0, none⟩ = false /\ V.frozen? ⟨b, 1, none⟩ = false :=
 ⟨by rw [cell_of_row _ _ _ _ _ _ h]; rfl, by rw [cell_of_row _ _ _ _ _ _ h]; rfl, frozen_of_row _ _ 0 _ _ h, frozen_of_row _ _ 1 _ _ h⟩
theorem val2 {w W : World} (hm : Mod (fun _ => False) w W) {b : Nat} (hb : w.heap.size <= b) {v0 v1 : Value} {T : TypeId} (h : W.heap[b]? = some (.cells #[v0, v1] T (0, 0))) (a c : Value) :
  ((W.setCell ⟨b, 0, none⟩ a).setCell ⟨b, 1, none⟩ c).cell? ⟨b, 0, none⟩ = some a /\ ((W.setCell ⟨b, 0, none⟩ a).setCell ⟨b, 1, none⟩ c).cell? ⟨b, 1, none⟩ = some c /\ Mod (fun _ => False) w ((W.setCell ⟨b, 0, none⟩ a).setCell ⟨b, 1, none⟩ c) := by
 have r := row2 (set2 (set2 h a).1 c).2; exact ⟨r.1, r.2.1, (hm.setCell (fun h => by simp only at h; omega) _).setCell (fun h => by simp only at h; omega) _⟩
end
section
open Go Go.RowKit
theorem jId : (Tryz.prog.info? 113).map (fun i => (i.zero, i.size, i.bytes)) = some (some (.agg #[.string ⟨#[]⟩, .string ⟨#[]⟩, .bool false]), 3, 40) := by kernel_rfl
structure Rg where
 k : ByteArray
 v : ByteArray
 g : Bool
def Rg.cs (c : Rg) : List Value := [.string c.k, .string c.v, .bool c.g]
structure PB where
 k : ByteArray
 v : ByteArray
 x : ByteArray
def PX.b (p : PX) : PB := ⟨ba p.k, ba p.v, ba p.x⟩
def chgL : Option PB -> Option PB -> List Rg
 | none, none => []
 | none, some q => ⟨q.k, q.v, false⟩ :: (if q.x.toList.isEmpty = true then [] else [⟨q.x, ⟨#[]⟩, false⟩])
 | some p, none => ⟨p.k, ⟨#[]⟩, true⟩ :: (if p.x.toList.isEmpty = true then [] else [⟨p.x, ⟨#[]⟩, true⟩])
 | some p, some q => ⟨q.k, q.v, false⟩ :: (if q.x.toList.isEmpty = true \/ p.x.toList = q.x.toList then [] else [⟨q.x, ⟨#[]⟩, false⟩, ⟨p.x, ⟨#[]⟩, true⟩])
def qNu (P Q : Option PB) (n m : Nat) : Prop := (P = none /\ 0 < n) \/ (Q = none /\ 0 < m) \/ ∃ p q, P = some p /\ Q = some q /\ p.k.toList ≠ q.k.toList
def qVs (w : World) (P Q : Option PB) (n m : Nat) (e : Ending) (w' : World) : Prop :=
 Mod (fun _ => False) w w' /\ ((qNu P Q n m /\ e = .returned (.tuple #[.slice none 0 0, .int .i64 60])) \/ (¬ qNu P Q n m /\ ∃ la cap, e = .returned (.tuple #[.slice la (chgL P Q).length cap, .int .i64 0]) /\ Lies w' 3 Rg.cs la (chgL P Q)))
theorem qRh {w w' : World} {P Q : Option PB} {n m : Nat} (hm : Mod (fun _ => False) w w') (h : qNu P Q n m) : qVs w P Q n m (.returned (.tuple #[.slice none 0 0, .int .i64 60])) w' := ⟨hm, .inl ⟨h, rfl⟩⟩
theorem qGl {w w' : World} {P Q : Option PB} {n m : Nat} {la : Option Addr} {cap k : Nat} {l : List Rg} {t : TypeId} (hm : Mod (fun _ => False) w w') (h : ¬ qNu P Q n m) (hl : chgL P Q = l) (hk : l.length = k) (ho : Own w' t 3 la k cap (l.flatMap Rg.cs)) : qVs w P Q n m (.returned (.tuple #[.slice la k cap, .int .i64 0])) w' := by
 subst hk; subst hl; exact ⟨hm, .inr ⟨h, la, cap, rfl, ho.lies⟩⟩
theorem jGr (w : World) (A B : Obj) : ((w.alloc A).alloc B).heap[w.heap.size]? = some A /\ ((w.alloc A).alloc B).heap[w.heap.size + 1]? = some B := by
 have h : (w.alloc A).heap.size = w.heap.size + 1 := by simp
 refine ⟨?_, ?_⟩
 ·rw [Below.heap_alloc _ _ _ (by omega)]
  exact heap_alloc_new _ _
 ·rw [<- h]; exact heap_alloc_new _ _
theorem qNf (O : Option PX) : ∃ (k v x : ByteArray) (ok : Bool), qDc O = .tuple #[.agg #[.string k, .string v], .agg #[.string x, .string ⟨#[]⟩], .bool ok] /\ ((ok = true /\ O.map PX.b = some ⟨k, v, x⟩) \/ (ok = false /\ O.map PX.b = none /\ x.toList.isEmpty = true)) := by
 cases O with
 | none => exact ⟨_, _, _, _, rfl, .inr ⟨rfl, rfl, by rw [ByteArray.toList_eq]; rfl⟩⟩
 | some p => exact ⟨_, _, _, _, rfl, .inl ⟨rfl, rfl⟩⟩
theorem qUf {name : Int} {cols : List Int} {keys idx : Int} {r : List Vl} {b : PB} (h : (qBx name cols keys idx r).map PX.b = some b) : b.x.toList.isEmpty = decide (idx < 0) := by
 rw [Option.map_eq_some_iff] at h; obtain ⟨p, hp, rfl⟩ := h; obtain ⟨_, _, rfl⟩ := qGe hp; rw [Bool.eq_iff_iff, List.isEmpty_iff, decide_eq_true_iff]; unfold PX.b pxOf pxL; simp only; rw [ByteArray.toList_eq, qBt]; split
 ·next h => exact ⟨fun h' => by simp [qAg] at h', fun h' => by omega⟩
 ·next h => exact ⟨fun _ => by omega, fun _ => rfl⟩
set_option maxRecDepth 100000
set_option maxHeartbeats 8000000 in
theorem qTa {w : World} {ca ra fa : Option Addr} {cols : List Int} {r f : List Vl} (name keys idx : Int) (cc rc fc : Nat) (hl : Lies w 1 oneI ca cols) (hr : Lies w 2 Vl.cs ra r) (hf : Lies w 2 Vl.cs fa f) (hn : cols.length <= 140737488351232) (hrn : r.length <= 140737488351232) (hv : ∀ v ∈ r, v.Ok) (hsz : (∀ k, (qDs cols r k).length <= 1152921504606846976) /\ ∀ j k, (valL cols r j k).length <= 1152921504606846976) (hfn : f.length <= 140737488351232) (hvf : ∀ v ∈ f, v.Ok) (hszf : (∀ k, (qDs cols f k).length <= 1152921504606846976) /\ ∀ j k, (valL cols f j k).length <= 1152921504606846976) :
  Calls Tryz.prog 10 #[.agg #[.int .u8 name, .slice ca cols.length cc, .int .i64 keys, .int .i64 idx], .slice ra r.length rc, .slice fa f.length fc] w fun e w' => qVs w ((qBx name cols keys idx r).map PX.b) ((qBx name cols keys idx f).map PX.b) r.length f.length e w' := by
 obtain ⟨i0, hi0, hz0, hz1, hz2⟩ := info_parts jId; have hma : Mod (fun _ => False) w (w.alloc (.cells #[.int .u8 name, .slice ca cols.length cc, .int .i64 keys, .int .i64 idx] 24)) := (Mod.refl _ _).alloc _
 have ha : (w.alloc (.cells #[.int .u8 name, .slice ca cols.length cc, .int .i64 keys, .int .i64 idx] 24)).heap[w.heap.size]? = some (.cells #[.int .u8 name, .slice ca cols.length cc, .int .i64 keys, .int .i64 idx] 24 (0, 0)) := heap_alloc_new _ _; have HM := hid hma; have HP1 := hid (fun (V : World) (hm : Mod (fun _ => False) (w.alloc (.cells #[.int .u8 name, .slice ca cols.length cc, .int .i64 keys, .int .i64 idx] 24)) V) => qJh (w := V) name keys idx cc rc ((hl.ext hma).ext hm) ((hr.ext hma).ext hm) hn hrn hv hsz.1 hsz.2)
 have HP2 := hid (fun (V : World) (hm : Mod (fun _ => False) (w.alloc (.cells #[.int .u8 name, .slice ca cols.length cc, .int .i64 keys, .int .i64 idx] 24)) V) => qJh (w := V) name keys idx cc fc ((hl.ext hma).ext hm) ((hf.ext hma).ext hm) hn hfn hvf hszf.1 hszf.2)
 have HTab := hid (fun (V : World) (hm : Mod (fun _ => False) (w.alloc (.cells #[.int .u8 name, .slice ca cols.length cc, .int .i64 keys, .int .i64 idx] 24)) V) => row4 ((hm.block _ (lth ha) (fun h => h)).trans ha))
 obtain ⟨ka, va, xa, oa, e1, q1⟩ := qNf (qBx name cols keys idx r); obtain ⟨kb, vb, xb, ob, e2, q2⟩ := qNf (qBx name cols keys idx f); have hxa : ∀ p, (qBx name cols keys idx r).map PX.b = some p -> p.x.toList.isEmpty = decide (idx < 0) := fun p h => qUf h
 have hxb : ∀ p, (qBx name cols keys idx f).map PX.b = some p -> p.x.toList.isEmpty = decide (idx < 0) := fun p h => qUf h
 rw [e1] at HP1; rw [e2] at HP2; generalize (qBx name cols keys idx r).map PX.b = PA at *; generalize (qBx name cols keys idx f).map PX.b = PB' at *; have HQ1 := hid q1; have HQ2 := hid q2; have HXa := hid hxa; have HXb := hid hxb; clear hma ha hl hr hf hn hrn hv hsz hfn hvf hszf e1 e2 q1 q2 hxa hxb; obtain ⟨b0, b1, b2, b3⟩ := HTab.out _ (Mod.refl _ _); go_enter Tryz.func10, Tryz.ntmps10
 go_upto_region 1 with fail
 generalize hC : (w.alloc (.cells #[.int .u8 name, .slice ca cols.length cc, .int .i64 keys, .int .i64 idx] 24)) = C at *; clear hC; go_upto_region 2 with (go_at_call 31; refine (HP1.out _ (Mod.refl _ _)).mono ?_; rintro e w1 ⟨rfl, hm⟩; have HM1 := hid hm; clear hm)
 clear b0 b1 b2 b3; have HA := hid (jGr w1 (.cells #[.string ka, .string va] 41) (.cells #[.string xa, .string ⟨#[]⟩] 41)); have HM2 := hid ((HM1.out.alloc (.cells #[.string ka, .string va] 41)).alloc (.cells #[.string xa, .string ⟨#[]⟩] 41)); generalize ((w1.alloc (.cells #[.string ka, .string va] 41)).alloc (.cells #[.string xa, .string ⟨#[]⟩] 41)) = V1 at *; obtain ⟨b0, b1, b2, b3⟩ := HTab.out _ HM2.out; go_upto_region 3 with (go_at_call 31; refine (HP2.out _ HM2.out).mono ?_; rintro e w2 ⟨rfl, hm⟩; have HM3 := hid hm; clear hm)
 clear b0 b1 b2 b3; have HB := hid (jGr w2 (.cells #[.string kb, .string vb] 41) (.cells #[.string xb, .string ⟨#[]⟩] 41)); have HM4 := hid ((HM3.out.alloc (.cells #[.string kb, .string vb] 41)).alloc (.cells #[.string xb, .string ⟨#[]⟩] 41)); generalize ((w2.alloc (.cells #[.string kb, .string vb] 41)).alloc (.cells #[.string xb, .string ⟨#[]⟩] 41)) = V at *; have HA1 := hid ((HM4.out.block _ (lth HA.out.1) (fun h => h)).trans HA.out.1)
 have HA2 := hid ((HM4.out.block _ (lth HA.out.2) (fun h => h)).trans HA.out.2)
 have HMC := hid (HM2.out.trans HM4.out); have HRow := hid (fun (W : World) (hm : Mod (fun _ => False) V W) => (fun x y z u => And.intro x (And.intro y (And.intro z u))) (row2 ((hm.block _ (lth HA1.out) (fun h => h)).trans HA1.out)) (row2 ((hm.block _ (lth HB.out.1) (fun h => h)).trans HB.out.1)) (row2 ((hm.block _ (lth HA2.out) (fun h => h)).trans HA2.out)) (row2 ((hm.block _ (lth HB.out.2) (fun h => h)).trans HB.out.2)))
 have HMV := hid (HM.out.trans HMC.out); rcases HQ1.out with ⟨rfl, rfl⟩ | ⟨rfl, rfl, ea⟩
 ·have ea : xa.toList.isEmpty = decide (idx < 0) := HXa.out _ rfl; rcases HQ2.out with ⟨rfl, rfl⟩ | ⟨rfl, rfl, eb⟩
  ·have eb : xb.toList.isEmpty = decide (idx < 0) := HXb.out _ rfl; by_cases ek : ka.toList = kb.toList
   case neg =>
    have ek' : (ka.toList == kb.toList) = false := beq_eq_false_iff_ne.2 ek; obtain ⟨⟨c0, c1, _, _⟩, ⟨d0, d1, _, _⟩, ⟨f0, _, _, _⟩, g0, _, _, _⟩ := HRow.out V (Mod.refl _ _); go_wp2_with fail
    go_ret2; exact qRh HMV.out (.inr (.inr ⟨_, _, rfl, rfl, ek⟩))
   case pos =>
    by_cases ei : idx < 0
    case pos =>
     rw [decide_eq_true ei] at ea eb; have ex : xa.toList = xb.toList := by rw [List.isEmpty_iff.1 ea, List.isEmpty_iff.1 eb]
     have ek' : (ka.toList == kb.toList) = true := beq_iff_eq.2 ek; have ex1 : (xa.toList == xb.toList) = true := beq_iff_eq.2 ex; have ex2 : (xb.toList == xa.toList) = true := beq_iff_eq.2 ex.symm; obtain ⟨⟨c0, c1, _, _⟩, ⟨d0, d1, _, _⟩, ⟨f0, _, _, _⟩, g0, _, _, _⟩ := HRow.out V (Mod.refl _ _); go_upto_region 7 with fail
     obtain ⟨la0, cap0, hX, HO0, HN0⟩ : ∃ la cap, Value.slice none 0 0 = Value.slice la 0 cap /\ Hid (Own V 113 3 la 0 cap []) /\ Hid (∀ b, blk la b -> V.heap.size <= b) := ⟨none, 0, rfl, Own.nil _ _ _, fun b hb => (qAk b hb).elim⟩
     rw [hX]; clear hX; have HOa1 := hid (HO0.out.mod (S := fun _ => False) ((Mod.refl _ V).alloc (.cells #[.string kb, .string vb, .bool false] 113)) (fun _ _ h => h))
     have HSa1 : Hid (Src (V.alloc (.cells #[.string kb, .string vb, .bool false] 113)) 3 (some ⟨V.heap.size, 0, none⟩) 1 [.string kb, .string vb, .bool false]) := hid (qAy (heap_alloc_new _ _) rfl); have HMa1 := hid (Mod.alloc (S := fun _ => False) (a := V) (Mod.refl _ _) (.cells #[.string kb, .string vb, .bool false] 113))
     go_upto_region 8 with (at_builtin; refine qAc rfl (.tmp 59) (.tmp 65) 34 rfl 113 i0 _ 3 40 Tryz.underlying34 hi0 hz0 hz1 hz2 rfl la0 0 cap0 _ rfl HOa1.out (some ⟨V.heap.size, 0, none⟩) 1 1 _ rfl HSa1.out (by intro u hu; simp at hu; rcases hu with rfl | rfl | rfl <;> rfl) (by unfold maxLen; omega) (by omega) ?_; intro la1 cap1 Z1 hown hm hb hn hr; have HO1 := hid hown; have HMx1 := hid hm; have HBx1 := hid hb; clear hown hm hb hn hr; clear c0 c1 d0 d1 f0 g0; have HMz1 := hid (HMa1.out.then HMx1.out (fun i hi h => by have := HN0.out i h; omega)); obtain ⟨⟨c0, c1, _, _⟩, ⟨d0, d1, _, _⟩, ⟨f0, _, _, _⟩, g0, _, _, _⟩ := HRow.out Z1 HMz1.out)
     go_wp2_with fail
     go_ret2; exact qGl (l := [⟨kb, vb, false⟩]) (t := 113) (HMV.out.trans HMz1.out) (by rintro (⟨h, _⟩ | ⟨h, _⟩ | ⟨p, q, h, h', h''⟩) <;> cases h; cases h'; exact h'' ek) (by simp only [chgL]; rw [if_pos (.inl eb)]) rfl HO1.out
    case neg =>
     rw [decide_eq_false ei] at ea eb; have ek' : (ka.toList == kb.toList) = true := beq_iff_eq.2 ek; by_cases ex : xa.toList = xb.toList
     case pos =>
      obtain ⟨⟨c0, c1, _, _⟩, ⟨d0, d1, _, _⟩, ⟨f0, _, _, _⟩, g0, _, _, _⟩ := HRow.out V (Mod.refl _ _); have ex1 : (xa.toList == xb.toList) = true := beq_iff_eq.2 ex; have ex2 : (xb.toList == xa.toList) = true := beq_iff_eq.2 ex.symm; go_upto_region 7 with fail
      obtain ⟨la0, cap0, hX, HO0, HN0⟩ : ∃ la cap, Value.slice none 0 0 = Value.slice la 0 cap /\ Hid (Own V 113 3 la 0 cap []) /\ Hid (∀ b, blk la b -> V.heap.size <= b) := ⟨none, 0, rfl, Own.nil _ _ _, fun b hb => (qAk b hb).elim⟩
      rw [hX]; clear hX; have HOa1 := hid (HO0.out.mod (S := fun _ => False) ((Mod.refl _ V).alloc (.cells #[.string kb, .string vb, .bool false] 113)) (fun _ _ h => h))
      have HSa1 : Hid (Src (V.alloc (.cells #[.string kb, .string vb, .bool false] 113)) 3 (some ⟨V.heap.size, 0, none⟩) 1 [.string kb, .string vb, .bool false]) := hid (qAy (heap_alloc_new _ _) rfl); have HMa1 := hid (Mod.alloc (S := fun _ => False) (a := V) (Mod.refl _ _) (.cells #[.string kb, .string vb, .bool false] 113))
      go_upto_region 8 with (at_builtin; refine qAc rfl (.tmp 59) (.tmp 65) 34 rfl 113 i0 _ 3 40 Tryz.underlying34 hi0 hz0 hz1 hz2 rfl la0 0 cap0 _ rfl HOa1.out (some ⟨V.heap.size, 0, none⟩) 1 1 _ rfl HSa1.out (by intro u hu; simp at hu; rcases hu with rfl | rfl | rfl <;> rfl) (by unfold maxLen; omega) (by omega) ?_; intro la1 cap1 Z1 hown hm hb hn hr; have HO1 := hid hown; have HMx1 := hid hm; have HBx1 := hid hb; clear hown hm hb hn hr; clear c0 c1 d0 d1 f0 g0; have HMz1 := hid (HMa1.out.then HMx1.out (fun i hi h => by have := HN0.out i h; omega)); obtain ⟨⟨c0, c1, _, _⟩, ⟨d0, d1, _, _⟩, ⟨f0, _, _, _⟩, g0, _, _, _⟩ := HRow.out Z1 HMz1.out)
      go_wp2_with fail
      go_ret2; exact qGl (l := [⟨kb, vb, false⟩]) (t := 113) (HMV.out.trans HMz1.out) (by rintro (⟨h, _⟩ | ⟨h, _⟩ | ⟨p, q, h, h', h''⟩) <;> cases h; cases h'; exact h'' ek) (by simp only [chgL]; rw [if_pos (.inr ex)]) rfl HO1.out
     case neg =>
      obtain ⟨⟨c0, c1, _, _⟩, ⟨d0, d1, _, _⟩, ⟨f0, _, _, _⟩, g0, _, _, _⟩ := HRow.out V (Mod.refl _ _); have ex1 : (xa.toList == xb.toList) = false := beq_eq_false_iff_ne.2 ex; have ex2 : (xb.toList == xa.toList) = false := beq_eq_false_iff_ne.2 (fun h => ex h.symm)
      go_upto_region 7 with fail
      obtain ⟨la0, cap0, hX, HO0, HN0⟩ : ∃ la cap, Value.slice none 0 0 = Value.slice la 0 cap /\ Hid (Own V 113 3 la 0 cap []) /\ Hid (∀ b, blk la b -> V.heap.size <= b) := ⟨none, 0, rfl, Own.nil _ _ _, fun b hb => (qAk b hb).elim⟩
      rw [hX]; clear hX; have HOa1 := hid (HO0.out.mod (S := fun _ => False) ((Mod.refl _ V).alloc (.cells #[.string kb, .string vb, .bool false] 113)) (fun _ _ h => h))
      have HSa1 : Hid (Src (V.alloc (.cells #[.string kb, .string vb, .bool false] 113)) 3 (some ⟨V.heap.size, 0, none⟩) 1 [.string kb, .string vb, .bool false]) := hid (qAy (heap_alloc_new _ _) rfl); have HMa1 := hid (Mod.alloc (S := fun _ => False) (a := V) (Mod.refl _ _) (.cells #[.string kb, .string vb, .bool false] 113))
      go_upto_region 8 with (at_builtin; refine qAc rfl (.tmp 59) (.tmp 65) 34 rfl 113 i0 _ 3 40 Tryz.underlying34 hi0 hz0 hz1 hz2 rfl la0 0 cap0 _ rfl HOa1.out (some ⟨V.heap.size, 0, none⟩) 1 1 _ rfl HSa1.out (by intro u hu; simp at hu; rcases hu with rfl | rfl | rfl <;> rfl) (by unfold maxLen; omega) (by omega) ?_; intro la1 cap1 Z1 hown hm hb hn hr; have HO1 := hid hown; have HMx1 := hid hm; have HBx1 := hid hb; clear hown hm hb hn hr; clear c0 c1 d0 d1 f0 g0; have HMz1 := hid (HMa1.out.then HMx1.out (fun i hi h => by have := HN0.out i h; omega)); obtain ⟨⟨c0, c1, _, _⟩, ⟨d0, d1, _, _⟩, ⟨f0, _, _, _⟩, g0, _, _, _⟩ := HRow.out Z1 HMz1.out)
      have HN1 : Hid (∀ b, blk la1 b -> V.heap.size <= b) := hid (fun j hj => by
       rcases HBx1.out j hj with h | h
       ·exact HN0.out j h
       ·have := HMa1.out.size; omega)
      clear c0 c1 d0 d1 f0 g0; obtain ⟨⟨c0, c1, _, _⟩, ⟨d0, d1, _, _⟩, ⟨f0, _, _, _⟩, g0, _, _, _⟩ := HRow.out Z1 HMz1.out; go_upto_region 9 with fail
      have HOa2 := hid (HO1.out.mod (S := fun _ => False) ((Mod.refl _ Z1).alloc (.cells #[.string xb, .string ⟨#[]⟩, .bool false] 113)) (fun _ _ h => h))
      have HSa2 : Hid (Src (Z1.alloc (.cells #[.string xb, .string ⟨#[]⟩, .bool false] 113)) 3 (some ⟨Z1.heap.size, 0, none⟩) 1 [.string xb, .string ⟨#[]⟩, .bool false]) := hid (qAy (heap_alloc_new _ _) rfl); have HMa2 := hid (Mod.alloc (S := fun _ => False) (a := V) HMz1.out (.cells #[.string xb, .string ⟨#[]⟩, .bool false] 113))
      go_upto_region 10 with (at_builtin; refine qAc rfl (.tmp 77) (.tmp 81) 34 rfl 113 i0 _ 3 40 Tryz.underlying34 hi0 hz0 hz1 hz2 rfl la1 1 cap1 _ rfl HOa2.out (some ⟨Z1.heap.size, 0, none⟩) 1 1 _ rfl HSa2.out (by intro u hu; simp at hu; rcases hu with rfl | rfl | rfl <;> rfl) (by unfold maxLen; omega) (by omega) ?_; intro la2 cap2 Z2 hown hm hb hn hr; have HO2 := hid hown; have HMx2 := hid hm; have HBx2 := hid hb; clear hown hm hb hn hr; clear c0 c1 d0 d1 f0 g0; have HMz2 := hid (HMa2.out.then HMx2.out (fun i hi h => by have := HN1.out i h; omega)); obtain ⟨⟨c0, c1, _, _⟩, ⟨d0, d1, _, _⟩, ⟨f0, _, _, _⟩, g0, _, _, _⟩ := HRow.out Z2 HMz2.out)
      have HN2 : Hid (∀ b, blk la2 b -> V.heap.size <= b) := hid (fun j hj => by
       rcases HBx2.out j hj with h | h
       ·exact HN1.out j h
       ·have := HMa2.out.size; have := HMz1.out.size; omega)
      clear c0 c1 d0 d1 f0 g0; obtain ⟨⟨c0, c1, _, _⟩, ⟨d0, d1, _, _⟩, ⟨f0, _, _, _⟩, g0, _, _, _⟩ := HRow.out Z2 HMz2.out; go_upto_region 13 with fail
      have HOa3 := hid (HO2.out.mod (S := fun _ => False) ((Mod.refl _ Z2).alloc (.cells #[.string xa, .string ⟨#[]⟩, .bool true] 113)) (fun _ _ h => h))
      have HSa3 : Hid (Src (Z2.alloc (.cells #[.string xa, .string ⟨#[]⟩, .bool true] 113)) 3 (some ⟨Z2.heap.size, 0, none⟩) 1 [.string xa, .string ⟨#[]⟩, .bool true]) := hid (qAy (heap_alloc_new _ _) rfl); have HMa3 := hid (Mod.alloc (S := fun _ => False) (a := V) HMz2.out (.cells #[.string xa, .string ⟨#[]⟩, .bool true] 113))
      go_upto_region 14 with (at_builtin; refine qAc rfl (.tmp 104) (.tmp 108) 34 rfl 113 i0 _ 3 40 Tryz.underlying34 hi0 hz0 hz1 hz2 rfl la2 2 cap2 _ rfl HOa3.out (some ⟨Z2.heap.size, 0, none⟩) 1 1 _ rfl HSa3.out (by intro u hu; simp at hu; rcases hu with rfl | rfl | rfl <;> rfl) (by unfold maxLen; omega) (by omega) ?_; intro la3 cap3 Z3 hown hm hb hn hr; have HO3 := hid hown; have HMx3 := hid hm; have HBx3 := hid hb; clear hown hm hb hn hr; clear c0 c1 d0 d1 f0 g0; have HMz3 := hid (HMa3.out.then HMx3.out (fun i hi h => by have := HN2.out i h; omega)); obtain ⟨⟨c0, c1, _, _⟩, ⟨d0, d1, _, _⟩, ⟨f0, _, _, _⟩, g0, _, _, _⟩ := HRow.out Z3 HMz3.out)
      go_wp2_with fail
      go_ret2; exact qGl (l := [⟨kb, vb, false⟩, ⟨xb, ⟨#[]⟩, false⟩, ⟨xa, ⟨#[]⟩, true⟩]) (t := 113) (HMV.out.trans HMz3.out) (by rintro (⟨h, _⟩ | ⟨h, _⟩ | ⟨p, q, h, h', h''⟩) <;> cases h; cases h'; exact h'' ek) (by simp only [chgL]; rw [if_neg (by rw [eb]; exact fun h => h.elim (fun h => by cases h) ex)]) rfl HO3.out
  ·by_cases hf0 : 0 < f.length
   case pos =>
    obtain ⟨⟨c0, c1, _, _⟩, ⟨d0, d1, _, _⟩, ⟨f0, _, _, _⟩, g0, _, _, _⟩ := HRow.out V (Mod.refl _ _); go_wp2_with fail
    go_ret2; exact qRh HMV.out (.inr (.inl ⟨rfl, hf0⟩))
   case neg =>
    by_cases ei : idx < 0
    case pos =>
     rw [decide_eq_true ei] at ea; obtain ⟨⟨c0, c1, _, _⟩, ⟨d0, d1, _, _⟩, ⟨f0, _, _, _⟩, g0, _, _, _⟩ := HRow.out V (Mod.refl _ _); go_upto_region 11 with fail
     obtain ⟨la0, cap0, hX, HO0, HN0⟩ : ∃ la cap, Value.slice none 0 0 = Value.slice la 0 cap /\ Hid (Own V 113 3 la 0 cap []) /\ Hid (∀ b, blk la b -> V.heap.size <= b) := ⟨none, 0, rfl, Own.nil _ _ _, fun b hb => (qAk b hb).elim⟩
     rw [hX]; clear hX; have HOa1 := hid (HO0.out.mod (S := fun _ => False) ((Mod.refl _ V).alloc (.cells #[.string ka, .string ⟨#[]⟩, .bool true] 113)) (fun _ _ h => h))
     have HSa1 : Hid (Src (V.alloc (.cells #[.string ka, .string ⟨#[]⟩, .bool true] 113)) 3 (some ⟨V.heap.size, 0, none⟩) 1 [.string ka, .string ⟨#[]⟩, .bool true]) := hid (qAy (heap_alloc_new _ _) rfl); have HMa1 := hid (Mod.alloc (S := fun _ => False) (a := V) (Mod.refl _ _) (.cells #[.string ka, .string ⟨#[]⟩, .bool true] 113))
     go_upto_region 12 with (at_builtin; refine qAc rfl (.tmp 88) (.tmp 92) 34 rfl 113 i0 _ 3 40 Tryz.underlying34 hi0 hz0 hz1 hz2 rfl la0 0 cap0 _ rfl HOa1.out (some ⟨V.heap.size, 0, none⟩) 1 1 _ rfl HSa1.out (by intro u hu; simp at hu; rcases hu with rfl | rfl | rfl <;> rfl) (by unfold maxLen; omega) (by omega) ?_; intro la1 cap1 Z1 hown hm hb hn hr; have HO1 := hid hown; have HMx1 := hid hm; have HBx1 := hid hb; clear hown hm hb hn hr; clear c0 c1 d0 d1 f0 g0; have HMz1 := hid (HMa1.out.then HMx1.out (fun i hi h => by have := HN0.out i h; omega)); obtain ⟨⟨c0, c1, _, _⟩, ⟨d0, d1, _, _⟩, ⟨f0, _, _, _⟩, g0, _, _, _⟩ := HRow.out Z1 HMz1.out)
     go_wp2_with fail
     go_ret2; exact qGl (l := [⟨ka, ⟨#[]⟩, true⟩]) (t := 113) (HMV.out.trans HMz1.out) (by rintro (⟨h, _⟩ | ⟨_, h⟩ | ⟨p, q, h, h', h''⟩); (cases h); (exact hf0 h); (cases h')) (by simp only [chgL]; rw [if_pos ea]) rfl HO1.out
    case neg =>
     rw [decide_eq_false ei] at ea; have ex : (xa.toList == xb.toList) = false := beq_eq_false_iff_ne.2 (fun h => by rw [h, eb] at ea; cases ea)
     obtain ⟨⟨c0, c1, _, _⟩, ⟨d0, d1, _, _⟩, ⟨f0, _, _, _⟩, g0, _, _, _⟩ := HRow.out V (Mod.refl _ _); go_upto_region 11 with fail
     obtain ⟨la0, cap0, hX, HO0, HN0⟩ : ∃ la cap, Value.slice none 0 0 = Value.slice la 0 cap /\ Hid (Own V 113 3 la 0 cap []) /\ Hid (∀ b, blk la b -> V.heap.size <= b) := ⟨none, 0, rfl, Own.nil _ _ _, fun b hb => (qAk b hb).elim⟩
     rw [hX]; clear hX; have HOa1 := hid (HO0.out.mod (S := fun _ => False) ((Mod.refl _ V).alloc (.cells #[.string ka, .string ⟨#[]⟩, .bool true] 113)) (fun _ _ h => h))
     have HSa1 : Hid (Src (V.alloc (.cells #[.string ka, .string ⟨#[]⟩, .bool true] 113)) 3 (some ⟨V.heap.size, 0, none⟩) 1 [.string ka, .string ⟨#[]⟩, .bool true]) := hid (qAy (heap_alloc_new _ _) rfl); have HMa1 := hid (Mod.alloc (S := fun _ => False) (a := V) (Mod.refl _ _) (.cells #[.string ka, .string ⟨#[]⟩, .bool true] 113))
     go_upto_region 12 with (at_builtin; refine qAc rfl (.tmp 88) (.tmp 92) 34 rfl 113 i0 _ 3 40 Tryz.underlying34 hi0 hz0 hz1 hz2 rfl la0 0 cap0 _ rfl HOa1.out (some ⟨V.heap.size, 0, none⟩) 1 1 _ rfl HSa1.out (by intro u hu; simp at hu; rcases hu with rfl | rfl | rfl <;> rfl) (by unfold maxLen; omega) (by omega) ?_; intro la1 cap1 Z1 hown hm hb hn hr; have HO1 := hid hown; have HMx1 := hid hm; have HBx1 := hid hb; clear hown hm hb hn hr; clear c0 c1 d0 d1 f0 g0; have HMz1 := hid (HMa1.out.then HMx1.out (fun i hi h => by have := HN0.out i h; omega)); obtain ⟨⟨c0, c1, _, _⟩, ⟨d0, d1, _, _⟩, ⟨f0, _, _, _⟩, g0, _, _, _⟩ := HRow.out Z1 HMz1.out)
     have HN1 : Hid (∀ b, blk la1 b -> V.heap.size <= b) := hid (fun j hj => by
      rcases HBx1.out j hj with h | h
      ·exact HN0.out j h
      ·have := HMa1.out.size; omega)
     clear c0 c1 d0 d1 f0 g0; obtain ⟨⟨c0, c1, _, _⟩, ⟨d0, d1, _, _⟩, ⟨f0, _, _, _⟩, g0, _, _, _⟩ := HRow.out Z1 HMz1.out; go_upto_region 13 with fail
     have HOa2 := hid (HO1.out.mod (S := fun _ => False) ((Mod.refl _ Z1).alloc (.cells #[.string xa, .string ⟨#[]⟩, .bool true] 113)) (fun _ _ h => h))
     have HSa2 : Hid (Src (Z1.alloc (.cells #[.string xa, .string ⟨#[]⟩, .bool true] 113)) 3 (some ⟨Z1.heap.size, 0, none⟩) 1 [.string xa, .string ⟨#[]⟩, .bool true]) := hid (qAy (heap_alloc_new _ _) rfl); have HMa2 := hid (Mod.alloc (S := fun _ => False) (a := V) HMz1.out (.cells #[.string xa, .string ⟨#[]⟩, .bool true] 113))
     go_upto_region 14 with (at_builtin; refine qAc rfl (.tmp 104) (.tmp 108) 34 rfl 113 i0 _ 3 40 Tryz.underlying34 hi0 hz0 hz1 hz2 rfl la1 1 cap1 _ rfl HOa2.out (some ⟨Z1.heap.size, 0, none⟩) 1 1 _ rfl HSa2.out (by intro u hu; simp at hu; rcases hu with rfl | rfl | rfl <;> rfl) (by unfold maxLen; omega) (by omega) ?_; intro la2 cap2 Z2 hown hm hb hn hr; have HO2 := hid hown; have HMx2 := hid hm; have HBx2 := hid hb; clear hown hm hb hn hr; clear c0 c1 d0 d1 f0 g0; have HMz2 := hid (HMa2.out.then HMx2.out (fun i hi h => by have := HN1.out i h; omega)); obtain ⟨⟨c0, c1, _, _⟩, ⟨d0, d1, _, _⟩, ⟨f0, _, _, _⟩, g0, _, _, _⟩ := HRow.out Z2 HMz2.out)
     go_wp2_with fail
     go_ret2; exact qGl (l := [⟨ka, ⟨#[]⟩, true⟩, ⟨xa, ⟨#[]⟩, true⟩]) (t := 113) (HMV.out.trans HMz2.out) (by rintro (⟨h, _⟩ | ⟨_, h⟩ | ⟨p, q, h, h', h''⟩); (cases h); (exact hf0 h); (cases h')) (by simp only [chgL]; rw [if_neg (by rw [ea]; exact Bool.false_ne_true)]) rfl HO2.out
 ·by_cases hr0 : 0 < r.length
  case pos =>
   rcases HQ2.out with ⟨rfl, rfl⟩ | ⟨rfl, rfl, eb⟩
   ·
    obtain ⟨⟨c0, c1, _, _⟩, ⟨d0, d1, _, _⟩, ⟨f0, _, _, _⟩, g0, _, _, _⟩ := HRow.out V (Mod.refl _ _); go_wp2_with fail
    go_ret2; exact qRh HMV.out (.inl ⟨rfl, hr0⟩)
   ·
    obtain ⟨⟨c0, c1, _, _⟩, ⟨d0, d1, _, _⟩, ⟨f0, _, _, _⟩, g0, _, _, _⟩ := HRow.out V (Mod.refl _ _); go_wp2_with fail
    go_ret2; exact qRh HMV.out (.inl ⟨rfl, hr0⟩)
  case neg =>
   rcases HQ2.out with ⟨rfl, rfl⟩ | ⟨rfl, rfl, eb⟩
   ·have eb : xb.toList.isEmpty = decide (idx < 0) := HXb.out _ rfl; by_cases ei : idx < 0
    case pos =>
     rw [decide_eq_true ei] at eb; obtain ⟨⟨c0, c1, _, _⟩, ⟨d0, d1, _, _⟩, ⟨f0, _, _, _⟩, g0, _, _, _⟩ := HRow.out V (Mod.refl _ _); go_upto_region 7 with fail
     obtain ⟨la0, cap0, hX, HO0, HN0⟩ : ∃ la cap, Value.slice none 0 0 = Value.slice la 0 cap /\ Hid (Own V 113 3 la 0 cap []) /\ Hid (∀ b, blk la b -> V.heap.size <= b) := ⟨none, 0, rfl, Own.nil _ _ _, fun b hb => (qAk b hb).elim⟩
     rw [hX]; clear hX; have HOa1 := hid (HO0.out.mod (S := fun _ => False) ((Mod.refl _ V).alloc (.cells #[.string kb, .string vb, .bool false] 113)) (fun _ _ h => h))
     have HSa1 : Hid (Src (V.alloc (.cells #[.string kb, .string vb, .bool false] 113)) 3 (some ⟨V.heap.size, 0, none⟩) 1 [.string kb, .string vb, .bool false]) := hid (qAy (heap_alloc_new _ _) rfl); have HMa1 := hid (Mod.alloc (S := fun _ => False) (a := V) (Mod.refl _ _) (.cells #[.string kb, .string vb, .bool false] 113))
     go_upto_region 8 with (at_builtin; refine qAc rfl (.tmp 59) (.tmp 65) 34 rfl 113 i0 _ 3 40 Tryz.underlying34 hi0 hz0 hz1 hz2 rfl la0 0 cap0 _ rfl HOa1.out (some ⟨V.heap.size, 0, none⟩) 1 1 _ rfl HSa1.out (by intro u hu; simp at hu; rcases hu with rfl | rfl | rfl <;> rfl) (by unfold maxLen; omega) (by omega) ?_; intro la1 cap1 Z1 hown hm hb hn hr; have HO1 := hid hown; have HMx1 := hid hm; have HBx1 := hid hb; clear hown hm hb hn hr; clear c0 c1 d0 d1 f0 g0; have HMz1 := hid (HMa1.out.then HMx1.out (fun i hi h => by have := HN0.out i h; omega)); obtain ⟨⟨c0, c1, _, _⟩, ⟨d0, d1, _, _⟩, ⟨f0, _, _, _⟩, g0, _, _, _⟩ := HRow.out Z1 HMz1.out)
     go_wp2_with fail
     go_ret2; exact qGl (l := [⟨kb, vb, false⟩]) (t := 113) (HMV.out.trans HMz1.out) (by rintro (⟨_, h⟩ | ⟨h, _⟩ | ⟨p, q, h, h', h''⟩); (exact hr0 h); (cases h); (cases h)) (by simp only [chgL]; rw [if_pos eb]) rfl HO1.out
    case neg =>
     rw [decide_eq_false ei] at eb; have ex : (xb.toList == xa.toList) = false := beq_eq_false_iff_ne.2 (fun h => by rw [h, ea] at eb; cases eb)
     obtain ⟨⟨c0, c1, _, _⟩, ⟨d0, d1, _, _⟩, ⟨f0, _, _, _⟩, g0, _, _, _⟩ := HRow.out V (Mod.refl _ _); go_upto_region 7 with fail
     obtain ⟨la0, cap0, hX, HO0, HN0⟩ : ∃ la cap, Value.slice none 0 0 = Value.slice la 0 cap /\ Hid (Own V 113 3 la 0 cap []) /\ Hid (∀ b, blk la b -> V.heap.size <= b) := ⟨none, 0, rfl, Own.nil _ _ _, fun b hb => (qAk b hb).elim⟩
     rw [hX]; clear hX; have HOa1 := hid (HO0.out.mod (S := fun _ => False) ((Mod.refl _ V).alloc (.cells #[.string kb, .string vb, .bool false] 113)) (fun _ _ h => h))
     have HSa1 : Hid (Src (V.alloc (.cells #[.string kb, .string vb, .bool false] 113)) 3 (some ⟨V.heap.size, 0, none⟩) 1 [.string kb, .string vb, .bool false]) := hid (qAy (heap_alloc_new _ _) rfl); have HMa1 := hid (Mod.alloc (S := fun _ => False) (a := V) (Mod.refl _ _) (.cells #[.string kb, .string vb, .bool false] 113))
     go_upto_region 8 with (at_builtin; refine qAc rfl (.tmp 59) (.tmp 65) 34 rfl 113 i0 _ 3 40 Tryz.underlying34 hi0 hz0 hz1 hz2 rfl la0 0 cap0 _ rfl HOa1.out (some ⟨V.heap.size, 0, none⟩) 1 1 _ rfl HSa1.out (by intro u hu; simp at hu; rcases hu with rfl | rfl | rfl <;> rfl) (by unfold maxLen; omega) (by omega) ?_; intro la1 cap1 Z1 hown hm hb hn hr; have HO1 := hid hown; have HMx1 := hid hm; have HBx1 := hid hb; clear hown hm hb hn hr; clear c0 c1 d0 d1 f0 g0; have HMz1 := hid (HMa1.out.then HMx1.out (fun i hi h => by have := HN0.out i h; omega)); obtain ⟨⟨c0, c1, _, _⟩, ⟨d0, d1, _, _⟩, ⟨f0, _, _, _⟩, g0, _, _, _⟩ := HRow.out Z1 HMz1.out)
     have HN1 : Hid (∀ b, blk la1 b -> V.heap.size <= b) := hid (fun j hj => by
      rcases HBx1.out j hj with h | h
      ·exact HN0.out j h
      ·have := HMa1.out.size; omega)
     clear c0 c1 d0 d1 f0 g0; obtain ⟨⟨c0, c1, _, _⟩, ⟨d0, d1, _, _⟩, ⟨f0, _, _, _⟩, g0, _, _, _⟩ := HRow.out Z1 HMz1.out; go_upto_region 9 with fail
     have HOa2 := hid (HO1.out.mod (S := fun _ => False) ((Mod.refl _ Z1).alloc (.cells #[.string xb, .string ⟨#[]⟩, .bool false] 113)) (fun _ _ h => h))
     have HSa2 : Hid (Src (Z1.alloc (.cells #[.string xb, .string ⟨#[]⟩, .bool false] 113)) 3 (some ⟨Z1.heap.size, 0, none⟩) 1 [.string xb, .string ⟨#[]⟩, .bool false]) := hid (qAy (heap_alloc_new _ _) rfl); have HMa2 := hid (Mod.alloc (S := fun _ => False) (a := V) HMz1.out (.cells #[.string xb, .string ⟨#[]⟩, .bool false] 113))
     go_upto_region 10 with (at_builtin; refine qAc rfl (.tmp 77) (.tmp 81) 34 rfl 113 i0 _ 3 40 Tryz.underlying34 hi0 hz0 hz1 hz2 rfl la1 1 cap1 _ rfl HOa2.out (some ⟨Z1.heap.size, 0, none⟩) 1 1 _ rfl HSa2.out (by intro u hu; simp at hu; rcases hu with rfl | rfl | rfl <;> rfl) (by unfold maxLen; omega) (by omega) ?_; intro la2 cap2 Z2 hown hm hb hn hr; have HO2 := hid hown; have HMx2 := hid hm; have HBx2 := hid hb; clear hown hm hb hn hr; clear c0 c1 d0 d1 f0 g0; have HMz2 := hid (HMa2.out.then HMx2.out (fun i hi h => by have := HN1.out i h; omega)); obtain ⟨⟨c0, c1, _, _⟩, ⟨d0, d1, _, _⟩, ⟨f0, _, _, _⟩, g0, _, _, _⟩ := HRow.out Z2 HMz2.out)
     go_wp2_with fail
     go_ret2; exact qGl (l := [⟨kb, vb, false⟩, ⟨xb, ⟨#[]⟩, false⟩]) (t := 113) (HMV.out.trans HMz2.out) (by rintro (⟨_, h⟩ | ⟨h, _⟩ | ⟨p, q, h, h', h''⟩); (exact hr0 h); (cases h); (cases h)) (by simp only [chgL]; rw [if_neg (by rw [eb]; exact Bool.false_ne_true)]) rfl HO2.out
   ·by_cases hf0 : 0 < f.length
    case pos =>
     obtain ⟨⟨c0, c1, _, _⟩, ⟨d0, d1, _, _⟩, ⟨f0, _, _, _⟩, g0, _, _, _⟩ := HRow.out V (Mod.refl _ _); go_wp2_with fail
     go_ret2; exact qRh HMV.out (.inr (.inl ⟨rfl, hf0⟩))
    case neg =>
     obtain ⟨⟨c0, c1, _, _⟩, ⟨d0, d1, _, _⟩, ⟨f0, _, _, _⟩, g0, _, _, _⟩ := HRow.out V (Mod.refl _ _); go_wp2_with fail
     go_ret2; exact qGl (l := []) (t := 113) HMV.out (by rintro (⟨_, h⟩ | ⟨_, h⟩ | ⟨p, q, h, h', h''⟩); (exact hr0 h); (exact hf0 h); (cases h)) (rfl) rfl (Own.nil _ _ _)
end
section
open Go Go.RowKit
def Rg.c (g : Rg) : Cg := ⟨g.k, g.v, g.g⟩
def PB.pk (b : PB) : PK := ⟨b.k, b.v, b.x⟩
theorem jHv {w : World} {a : Option Addr} {l : List Rg} (h : Lies w 3 Rg.cs a l) : Lies w 3 ccs a (l.map Rg.c) := by
 have e : (l.map Rg.c).flatMap ccs = l.flatMap Rg.cs := by rw [List.flatMap_map]; rfl
 obtain ⟨h1, h2, h3⟩ := h; refine ⟨by rw [List.length_map, e]; exact h1, fun hl x hx => h2 (by rwa [List.length_map] at hl) x hx, fun k hl hk => h3 k (by rwa [List.length_map] at hl) hk⟩
theorem jCd (P Q : Option PB) : (chgL P Q).map Rg.c = qFg (P.map PB.pk) (Q.map PB.pk) := by
 cases P with
 | none =>
  cases Q with
  | none => rfl
  | some q =>
   show List.map Rg.c (_ :: ite _ _ _) = _ :: ite _ _ _; rw [List.map_cons]; by_cases h : q.x.toList.isEmpty = true
   ·rw [if_pos h]; exact (congrArg (List.cons _) (if_pos h)).symm
   ·rw [if_neg h]; exact (congrArg (List.cons _) (if_neg h)).symm
 | some p =>
  cases Q with
  | none =>
   show List.map Rg.c (_ :: ite _ _ _) = _ :: ite _ _ _; rw [List.map_cons]; by_cases h : p.x.toList.isEmpty = true
   ·rw [if_pos h]; exact (congrArg (List.cons _) (if_pos h)).symm
   ·rw [if_neg h]; exact (congrArg (List.cons _) (if_neg h)).symm
  | some q =>
   show List.map Rg.c (_ :: ite _ _ _) = _ :: ite _ _ _; rw [List.map_cons]; by_cases h : q.x.toList.isEmpty = true \/ p.x.toList = q.x.toList
   ·rw [if_pos h]; exact (congrArg (List.cons _) (if_pos h)).symm
   ·rw [if_neg h]; exact (congrArg (List.cons _) (if_neg h)).symm
noncomputable def rowK (name : Int) (cols : List Int) (keys idx : Int) (r : List Vl) : Option PK := ((qBx name cols keys idx r).map PX.b).map PB.pk
theorem qId {name : Int} {cols : List Int} {keys idx : Int} {r : List Vl} {q : PK} (h : rowK name cols keys idx r = some q) :
  ∃ p, qBx name cols keys idx r = some p /\ q = ⟨ba p.k, ba p.v, ba p.x⟩ /\ qEy p /\ p = pxOf name cols keys idx r := by
 unfold rowK at h; obtain ⟨b, hb, rfl⟩ := Option.map_eq_some_iff.1 h; obtain ⟨p, hp, rfl⟩ := Option.map_eq_some_iff.1 hb; obtain ⟨_, h2, h3⟩ := qGe hp; exact ⟨p, hp, rfl, h2, h3⟩
theorem jKn {a b : List UInt8} (h : a ≠ b) : ba a ≠ ba b := fun e => h (by rw [<- qBt a, <- qBt b, e])
theorem qLe {name : Int} {cols : List Int} {keys idx : Int} {r r' : List Vl} {q q' : PK} (h : rowK name cols keys idx r = some q) (h' : rowK name cols keys idx r' = some q') (hx : q'.x.toList.isEmpty = false) : q.k ≠ q'.x := by
 obtain ⟨p, _, rfl, _, rfl⟩ := qId h; obtain ⟨p', _, rfl, _, rfl⟩ := qId h'; refine jKn ?_; have hx' : (pxOf name cols keys idx r').x ≠ [] := fun e => by
  simp only at hx; rw [e, ByteArray.toList_eq, qBt] at hx; cases hx
 unfold pxOf qFu pxL qAg at *; simp only at *; split
 ·simp
 ·rename_i hn
  rw [if_neg hn] at hx'; exact absurd rfl hx'
theorem qZj {name : Int} {cols : List Int} {keys idx : Int} {r : List Vl} {q : PK} (h : rowK name cols keys idx r = some q) : PKok q (decide (0 <= idx)) := by
 refine ⟨fun hx => qLe h h hx, ?_⟩
 obtain ⟨p, _, rfl, _, rfl⟩ := qId h; unfold pxOf pxL qAg; simp only; rw [ByteArray.toList_eq, qBt]; by_cases hi : 0 <= idx
 ·rw [if_pos hi]; simp [hi]
 ·rw [if_neg hi]; simp [hi]
theorem qZi {name : Int} {cols : List Int} {keys idx : Int} {r : List Vl} {q : PK} (h : rowK name cols keys idx r = some q) : (q.k.toList ≠ [] /\ q.k.size <= 48) /\ q.x.size <= 48 /\ q.v.size <= 200 := by
 obtain ⟨p, _, rfl, ⟨s1, s2, s3⟩, e⟩ := qId h; simp only; rw [qAd, qAd, qAd]; refine ⟨⟨?_, s1⟩, s2, s3⟩; rw [ByteArray.toList_eq, qBt, e]; unfold pxOf qFu qAg; simp
theorem qHs : ∀ (cs : List Cg) (met : List ByteArray), (∀ c ∈ cs, CgOk c) -> (cs.map (·.key)).Nodup -> (∀ c ∈ cs, c.key ∉ met) -> chkF met cs = 0
 | [], _, _, _, _ => rfl
 | c :: r, met, h1, h2, h3 => by
  obtain ⟨n1, n2⟩ := List.nodup_cons.1 h2; have hc := h1 c List.mem_cons_self; rw [jBz, if_neg (fun e => e.elim hc.ne (fun e => by have := hc.key; omega)), if_neg (by have := hc.value; omega), if_neg (h3 c List.mem_cons_self)]
  refine qHs r _ (fun x hx => h1 x (List.mem_cons_of_mem _ hx)) n2 (fun x hx hm => ?_)
  rcases List.mem_append.1 hm with hm | hm
  ·exact h3 x (List.mem_cons_of_mem _ hx) hm
  ·rw [List.mem_singleton] at hm; exact n1 (List.mem_map.2 ⟨x, hx, hm⟩)
theorem qTs {name : Int} {cols : List Int} {keys idx : Int} {r r' : List Vl} (hk : ∀ p q, rowK name cols keys idx r = some p -> rowK name cols keys idx r' = some q -> p.k = q.k) :
  chkF [] (qFg (rowK name cols keys idx r) (rowK name cols keys idx r')) = 0 /\ (qFg (rowK name cols keys idx r) (rowK name cols keys idx r')).length <= 3 := by
 have hcg : ∀ (q : PK) (s : List Vl) (g : Bool), rowK name cols keys idx s = some q -> CgOk ⟨q.k, q.v, g⟩ /\ CgOk ⟨q.k, ⟨#[]⟩, g⟩ /\ (q.x.toList.isEmpty = false -> CgOk ⟨q.x, ⟨#[]⟩, g⟩) := fun q s g hq => by
  obtain ⟨⟨s0, s1⟩, s2, s3⟩ := qZi hq; refine ⟨⟨s0, s1, s3⟩, ⟨s0, s1, Nat.zero_le _⟩, fun hx => ⟨fun e => ?_, s2, Nat.zero_le _⟩⟩
  have e : q.x.toList = [] := e; rw [e] at hx; cases hx
 cases hP : rowK name cols keys idx r with
 | none =>
  cases hQ : rowK name cols keys idx r' with
  | none => exact ⟨rfl, Nat.zero_le _⟩
  | some q =>
   obtain ⟨g1, _, g3⟩ := hcg q r' false hQ; unfold qFg; simp only; cases hx : q.x.toList.isEmpty with
   | true =>
    rw [if_pos rfl]; exact ⟨qHs _ _ (fun c hc => by rw [List.mem_singleton] at hc; subst hc; exact g1) (by simp) (fun c hc hm => by cases hm), by simp⟩
   | false =>
    rw [if_neg (by decide)]
    refine ⟨qHs _ _ (fun c hc => ?_) ?_ (fun c hc hm => by cases hm), by simp⟩
    ·rcases List.mem_cons.1 hc with rfl | hc
     ·exact g1
     ·rw [List.mem_singleton] at hc; subst hc; exact g3 hx
    ·have := qLe hQ hQ hx; simp [this]
 | some p =>
  cases hQ : rowK name cols keys idx r' with
  | none =>
   obtain ⟨_, g2, g3⟩ := hcg p r true hP; unfold qFg; simp only; cases hx : p.x.toList.isEmpty with
   | true =>
    rw [if_pos rfl]; exact ⟨qHs _ _ (fun c hc => by rw [List.mem_singleton] at hc; subst hc; exact g2) (by simp) (fun c hc hm => by cases hm), by simp⟩
   | false =>
    rw [if_neg (by decide)]
    refine ⟨qHs _ _ (fun c hc => ?_) ?_ (fun c hc hm => by cases hm), by simp⟩
    ·rcases List.mem_cons.1 hc with rfl | hc
     ·exact g2
     ·rw [List.mem_singleton] at hc; subst hc; exact g3 hx
    ·have := qLe hP hP hx; simp [this]
  | some q =>
   obtain ⟨g1, _, g3⟩ := hcg q r' false hQ; obtain ⟨_, _, g4⟩ := hcg p r true hP; have hpq := hk p q hP hQ; have hi : p.x.toList.isEmpty = q.x.toList.isEmpty := by rw [(qZj hP).idx, (qZj hQ).idx]
   unfold qFg; simp only; by_cases hx : q.x.toList.isEmpty = true \/ p.x.toList = q.x.toList
   ·rw [if_pos hx]; exact ⟨qHs _ _ (fun c hc => by rw [List.mem_singleton] at hc; subst hc; exact g1) (by simp) (fun c hc hm => by cases hm), by simp⟩
   ·rw [if_neg hx]; rw [not_or] at hx; have hx1 : q.x.toList.isEmpty = false := by simpa using hx.1
    refine ⟨qHs _ _ (fun c hc => ?_) ?_ (fun c hc hm => by cases hm), by simp⟩
    ·rcases List.mem_cons.1 hc with rfl | hc
     ·exact g1
     ·rcases List.mem_cons.1 hc with rfl | hc
      ·exact g3 hx1
      ·rw [List.mem_singleton] at hc; subst hc; exact g4 (by rw [hi]; exact hx1)
    ·have h1 := qLe hQ hQ hx1; have h2 := qLe hQ hP (by rw [hi]; exact hx1)
     have h3 : q.x ≠ p.x := fun e => hx.2 (by rw [e])
     simp [h1, h2, h3]
end
section
open Go Go.RowKit
theorem qKo {w w' : World} (h : Mod (fun b => w.heap.size <= b) w w') : Mod (fun _ => False) w w' := h.mono (fun k hk e => by omega)
theorem qXm {w w1 : World} {d : Nat} {sa : Option Addr} {B : TB} (h1 : B.d = d) (h2 : B.sa = sa) (hd : w.heap.size <= d) (hs : ∀ k, blk sa k -> w.heap.size <= k) (hw : w.heap.size <= w1.heap.size) (h3 : w1.heap.size <= B.tb /\ w1.heap.size <= B.nb /\ w1.heap.size <= B.ab /\ w1.heap.size <= B.j) : ∀ i, TS B i -> w.heap.size <= i := fun i e => by
 rcases e with e | e | e | e | e
 ·omega
 ·omega
 ·omega
 ·omega
 ·rw [h1, h2] at e; rcases e with e | e
  ·omega
  ·exact hs i e
theorem qPl : ∀ (cs : List Cg) {l : List KV}, (chgs cs l).length <= l.length + cs.length
 | [], _ => Nat.le_refl _
 | c :: cs, l => by
  rw [jCa]; have h1 := qPl cs (l := chg c l); have h2 : (chg c l).length <= l.length + 1 := by
   unfold chg Cg.put; rw [List.length_append, List.length_append]; have h3 : (l.filter (fun p => kl p.1 c.key)).length + (l.filter (fun p => kl c.key p.1)).length <= l.length := by
    clear h1; induction l with
    | nil => simp
    | cons p r ih =>
     rw [List.filter_cons, List.filter_cons, List.length_cons]; cases ha : kl p.1 c.key with
     | true => rw [qDx ha]; simp only [if_true, Bool.false_eq_true, if_false, List.length_cons]; omega
     | false =>
      cases hb : kl c.key p.1 with
      | true => simp only [if_true, Bool.false_eq_true, if_false, List.length_cons]; omega
      | false => simp only [Bool.false_eq_true, if_false]; omega
   split <;> simp only [List.length_nil, List.length_cons] <;> omega
  rw [List.length_cons]; omega
theorem HApp.made {w0 w w' : World} {B : TB} {T : TM} {D : Dsk} {k : Nat} {l : List KV} {N : Nat} {cs : List Cg} {e : Ending} (hh : Here w0 B T D k l N) (h : HApp w B T D k l N cs e w') (hc : chkF [] cs = 0) (hl : l.length <= 500) (hn : cs.length <= 20) (hr : B.room = 500) (hD : 1500 <= D.secs.length) :
  e = .returned (.int .i64 0) /\ ∃ (T' : TM) (D' : Dsk) (N' : Nat), Here w' B T' D' (k + 1002) (chgs cs l) N' /\ D'.secs.length = D.secs.length /\ Mod (TS B) w w' := by
 rcases h with ⟨h1, _⟩ | ⟨_, ⟨_, h1, _⟩ | ⟨_, ⟨h1, _⟩, _⟩ | ⟨rfl, T', D', N', h2, hn', h3⟩⟩
 ·exact absurd hc h1
 ·exfalso
  have h2 := hh.std.ti.secs.1; have h3 := qQl l (fun p hp => ⟨(hh.std.ti.1.ok p hp).1.2, (hh.std.ti.1.ok p hp).2⟩)
  rw [hr] at h1; unfold jlen at h1; omega
 ·exfalso
  rw [hr] at h1; omega
 ·exact ⟨rfl, T', D', N', h2, hn', h3⟩
theorem jFi {w : World} {d room : Nat} {sa : Option Addr} {n : Int} (hD : qAp w d sa (newD n)) (h1 : 1 <= room) (h2 : room <= 500) (hn : 1 <= jlen room (newD n)) (hl : (newD n).secs.length <= 16384) :
  Calls Tryz.prog 7 #[.pointer (some ⟨d, 0, none⟩), .int .i64 (room : Int)] w fun e w' => ∃ B : TB, e = .returned (.tuple #[.pointer (some ⟨B.tb, 0, none⟩), .int .i64 0]) /\ Here w' B newT (newD n) 0 [] 0 /\ B.d = d /\ B.sa = sa /\ B.room = room /\ (w.heap.size <= B.tb /\ w.heap.size <= B.nb /\ w.heap.size <= B.ab /\ w.heap.size <= B.j) /\ Mod (qBi d sa) w w' := by
 have hL := jAk n; have hs : Std room (newD n) newT [] 0 := jHe h1 h2 hn; have ho : qJj room (newD n) = (0, newD n) := jEj hL (by unfold jlen at hn; omega) hs.clear
 have hr1 : (qEj room (newD n) 0).1 = qCi := by
  have := qIb (room := room) hL.off 0; rw [if_pos (by omega), qRy] at this
  exact this
 have hr2 : (qEj room (newD n) 0).2 = 0 := jDv hL.off (by omega) (by omega)
 have hz : (qEj room (newD n) 0).1.size <= 1024 := qNc hL.b _; refine (qYo hD hL.b (by omega) h1 h2 (by rw [ho]; exact hl) (by rw [ho]) (by rw [ho]; exact hr2) (by rw [ho]; unfold maxLen; simp only; omega) (by rw [ho]; simp only; rw [hr1, qHa]; exact qJb _)).mono fun e w' ⟨N, j, he, ht, hN, hj, hm⟩ => ?_
 rw [ho] at ht; refine ⟨newB N j d sa room, he, ⟨ht, hL, hs, ?_⟩, rfl, rfl, rfl, ⟨?_, hN, ?_, hj⟩, hm⟩
 ·show N ≠ N + 1; omega
 ·show w.heap.size <= N + 1 + 1; omega
 ·show w.heap.size <= N + 1; omega
end
end Go.Proofs.YtkinkgbmlhiakaaGreatDoor
