/- Changes: the program's and the document's (printed by genchg.py) -/
import Derived.Test.YtoclecpedhbokaaRwB2
namespace Go.Proofs.Ytoclecpedhbokaa
open Go Go.RowKit

theorem infoChg : (Try.prog.info? 75).map (fun i => (i.zero, i.size, i.bytes)) = some (some (.agg #[.string ⟨#[]⟩, .string ⟨#[]⟩, .bool false]), 3, 40) := by kernel_rfl
theorem infoRChg : (Try.prog.info? 76).map (fun i => (i.zero, i.size, i.bytes)) = some (some (.agg #[.string ⟨#[]⟩, .string ⟨#[]⟩, .bool false]), 3, 40) := by kernel_rfl

/-- A change of a tree. -/
structure Cg where
  k : ByteArray
  v : ByteArray
  g : Bool
def Cg.cs (c : Cg) : List Value := [.string c.k, .string c.v, .bool c.g]
theorem cg_len (c : Cg) : (Cg.cs c).length = 3 := rfl

/-- A pair and its index's key, as bytes. -/
structure PB where
  k : ByteArray
  v : ByteArray
  x : ByteArray
def PX.b (p : PX) : PB := ⟨ba p.k, ba p.v, ba p.x⟩

/-- The changes by which the second takes the first one's place. -/
def chgL : Option PB → Option PB → List Cg
  | none, none => []
  | none, some q => ⟨q.k, q.v, false⟩ :: (if q.x.toList.isEmpty = true then [] else [⟨q.x, ⟨#[]⟩, false⟩])
  | some p, none => ⟨p.k, ⟨#[]⟩, true⟩ :: (if p.x.toList.isEmpty = true then [] else [⟨p.x, ⟨#[]⟩, true⟩])
  | some p, some q => ⟨q.k, q.v, false⟩ :: (if q.x.toList.isEmpty = true ∨ p.x.toList = q.x.toList then [] else [⟨q.x, ⟨#[]⟩, false⟩, ⟨p.x, ⟨#[]⟩, true⟩])

def chgBad (P Q : Option PB) (n m : Nat) : Prop := (P = none ∧ 0 < n) ∨ (Q = none ∧ 0 < m) ∨ ∃ p q, P = some p ∧ Q = some q ∧ p.k.toList ≠ q.k.toList
/-- What Changes answers. -/
def ChgAns (w : World) (P Q : Option PB) (n m : Nat) (e : Ending) (w' : World) : Prop :=
  Mod (fun _ => False) w w' ∧ ((chgBad P Q n m ∧ e = .returned (.tuple #[.slice none 0 0, .int .i64 60])) ∨ (¬ chgBad P Q n m ∧ ∃ la cap, e = .returned (.tuple #[.slice la (chgL P Q).length cap, .int .i64 0]) ∧ Lies w' 3 Cg.cs la (chgL P Q)))

theorem chg_no {w w' : World} {P Q : Option PB} {n m : Nat} (hm : Mod (fun _ => False) w w') (h : chgBad P Q n m) : ChgAns w P Q n m (.returned (.tuple #[.slice none 0 0, .int .i64 60])) w' := ⟨hm, .inl ⟨h, rfl⟩⟩
theorem chg_yes {w w' : World} {P Q : Option PB} {n m : Nat} {la : Option Addr} {cap k : Nat} {l : List Cg} {t : TypeId} (hm : Mod (fun _ => False) w w') (h : ¬ chgBad P Q n m) (hl : chgL P Q = l) (hk : l.length = k) (ho : Own w' t 3 la k cap (l.flatMap Cg.cs)) : ChgAns w P Q n m (.returned (.tuple #[.slice la k cap, .int .i64 0])) w' := by
  subst hk
  subst hl
  exact ⟨hm, .inr ⟨h, la, cap, rfl, ho.lies⟩⟩

theorem alloc2 (w : World) (A B : Obj) : ((w.alloc A).alloc B).heap[w.heap.size]? = some A ∧ ((w.alloc A).alloc B).heap[w.heap.size + 1]? = some B := by
  have h : (w.alloc A).heap.size = w.heap.size + 1 := by simp
  refine ⟨?_, ?_⟩
  · rw [Below.heap_alloc _ _ _ (by omega)]
    exact heap_alloc_new _ _
  · rw [← h]
    exact heap_alloc_new _ _

/-- A pair's answer, by its parts. -/
theorem pair_shape (O : Option PX) : ∃ (k v x : ByteArray) (ok : Bool), pairV O = .tuple #[.agg #[.string k, .string v], .agg #[.string x, .string ⟨#[]⟩], .bool ok] ∧ ((ok = true ∧ O.map PX.b = some ⟨k, v, x⟩) ∨ (ok = false ∧ O.map PX.b = none ∧ x.toList.isEmpty = true)) := by
  cases O with
  | none => exact ⟨_, _, _, _, rfl, .inr ⟨rfl, rfl, by rw [ByteArray.toList_eq]; rfl⟩⟩
  | some p => exact ⟨_, _, _, _, rfl, .inl ⟨rfl, rfl⟩⟩
theorem rpair_shape (O : Option PX) : ∃ (k v x : ByteArray) (ok : Bool), rpairV O = .tuple #[.agg #[.string k, .string v], .string x, .bool ok] ∧ ((ok = true ∧ O.map PX.b = some ⟨k, v, x⟩) ∨ (ok = false ∧ O.map PX.b = none ∧ x.toList.isEmpty = true)) := by
  cases O with
  | none => exact ⟨_, _, _, _, rfl, .inr ⟨rfl, rfl, by rw [ByteArray.toList_eq]; rfl⟩⟩
  | some p => exact ⟨_, _, _, _, rfl, .inl ⟨rfl, rfl⟩⟩

theorem px_empty {name : Int} {cols : List Int} {keys idx : Int} {r : List Vl} {b : PB} (h : (pairO name cols keys idx r).map PX.b = some b) : b.x.toList.isEmpty = decide (idx < 0) := by
  rw [Option.map_eq_some_iff] at h
  obtain ⟨p, hp, rfl⟩ := h
  obtain ⟨_, _, rfl⟩ := pairO_inv hp
  rw [Bool.eq_iff_iff, List.isEmpty_iff, decide_eq_true_iff]
  unfold PX.b pxOf pxL
  simp only
  rw [ByteArray.toList_eq, ba_data]
  split
  · next h => exact ⟨fun h' => by simp [headL] at h', fun h' => by omega⟩
  · next h => exact ⟨fun _ => by omega, fun _ => rfl⟩
set_option maxRecDepth 100000 in
set_option maxHeartbeats 8000000 in
theorem changes_any {w : World} {ca ra fa : Option Addr} {cols : List Int} {r f : List Vl} (name keys idx : Int) (cc rc fc : Nat) (hl : Lies w 1 oneI ca cols) (hr : Lies w 2 Vl.cs ra r) (hf : Lies w 2 Vl.cs fa f) (hn : cols.length ≤ 140737488351232) (hrn : r.length ≤ 140737488351232) (hv : ∀ v ∈ r, v.Ok) (hsz : (∀ k, (keysL cols r k).length ≤ 1152921504606846976) ∧ ∀ j k, (valL cols r j k).length ≤ 1152921504606846976) (hfn : f.length ≤ 140737488351232) (hvf : ∀ v ∈ f, v.Ok) (hszf : (∀ k, (keysL cols f k).length ≤ 1152921504606846976) ∧ ∀ j k, (valL cols f j k).length ≤ 1152921504606846976) :
    Calls Try.prog 14 #[.agg #[.int .u8 name, .slice ca cols.length cc, .int .i64 keys, .int .i64 idx], .slice ra r.length rc, .slice fa f.length fc] w fun e w' => ChgAns w ((pairO name cols keys idx r).map PX.b) ((pairO name cols keys idx f).map PX.b) r.length f.length e w' := by
  obtain ⟨i0, hi0, hz0, hz1, hz2⟩ := info_parts infoChg
  have hma : Mod (fun _ => False) w (w.alloc (.cells #[.int .u8 name, .slice ca cols.length cc, .int .i64 keys, .int .i64 idx] 24)) := (Mod.refl _ _).alloc _
  have ha : (w.alloc (.cells #[.int .u8 name, .slice ca cols.length cc, .int .i64 keys, .int .i64 idx] 24)).heap[w.heap.size]? = some (.cells #[.int .u8 name, .slice ca cols.length cc, .int .i64 keys, .int .i64 idx] 24 (0, 0)) := heap_alloc_new _ _
  have HM := hid hma
  have HP1 := hid (fun (V : World) (hm : Mod (fun _ => False) (w.alloc (.cells #[.int .u8 name, .slice ca cols.length cc, .int .i64 keys, .int .i64 idx] 24)) V) => pairs_any (w := V) name keys idx cc rc ((hl.ext hma).ext hm) ((hr.ext hma).ext hm) hn hrn hv hsz.1 hsz.2)
  have HP2 := hid (fun (V : World) (hm : Mod (fun _ => False) (w.alloc (.cells #[.int .u8 name, .slice ca cols.length cc, .int .i64 keys, .int .i64 idx] 24)) V) => pairs_any (w := V) name keys idx cc fc ((hl.ext hma).ext hm) ((hf.ext hma).ext hm) hn hfn hvf hszf.1 hszf.2)
  have HTab := hid (fun (V : World) (hm : Mod (fun _ => False) (w.alloc (.cells #[.int .u8 name, .slice ca cols.length cc, .int .i64 keys, .int .i64 idx] 24)) V) => row4 ((hm.block _ (lt_of_heap ha) (fun h => h)).trans ha))
  obtain ⟨ka, va, xa, oa, e1, q1⟩ := pair_shape (pairO name cols keys idx r)
  obtain ⟨kb, vb, xb, ob, e2, q2⟩ := pair_shape (pairO name cols keys idx f)
  have hxa : ∀ p, (pairO name cols keys idx r).map PX.b = some p → p.x.toList.isEmpty = decide (idx < 0) := fun p h => px_empty h
  have hxb : ∀ p, (pairO name cols keys idx f).map PX.b = some p → p.x.toList.isEmpty = decide (idx < 0) := fun p h => px_empty h
  rw [e1] at HP1
  rw [e2] at HP2
  generalize (pairO name cols keys idx r).map PX.b = PA at *
  generalize (pairO name cols keys idx f).map PX.b = PB' at *
  have HQ1 := hid q1
  have HQ2 := hid q2
  have HXa := hid hxa
  have HXb := hid hxb
  clear hma ha hl hr hf hn hrn hv hsz hfn hvf hszf e1 e2 q1 q2 hxa hxb
  obtain ⟨b0, b1, b2, b3⟩ := HTab.out _ (Mod.refl _ _)
  go_enter Try.func14, Try.ntmps14
  go_upto_region 1 with fail
  generalize hC : (w.alloc (.cells #[.int .u8 name, .slice ca cols.length cc, .int .i64 keys, .int .i64 idx] 24)) = C at *
  clear hC
  go_upto_region 2 with (go_at_call 17; refine (HP1.out _ (Mod.refl _ _)).mono ?_; rintro e w1 ⟨rfl, hm⟩; have HM1 := hid hm; clear hm)
  clear b0 b1 b2 b3
  have HA := hid (alloc2 w1 (.cells #[.string ka, .string va] 28) (.cells #[.string xa, .string ⟨#[]⟩] 28))
  have HM2 := hid ((HM1.out.alloc (.cells #[.string ka, .string va] 28)).alloc (.cells #[.string xa, .string ⟨#[]⟩] 28))
  generalize ((w1.alloc (.cells #[.string ka, .string va] 28)).alloc (.cells #[.string xa, .string ⟨#[]⟩] 28)) = V1 at *
  obtain ⟨b0, b1, b2, b3⟩ := HTab.out _ HM2.out
  go_upto_region 3 with (go_at_call 17; refine (HP2.out _ HM2.out).mono ?_; rintro e w2 ⟨rfl, hm⟩; have HM3 := hid hm; clear hm)
  clear b0 b1 b2 b3
  have HB := hid (alloc2 w2 (.cells #[.string kb, .string vb] 28) (.cells #[.string xb, .string ⟨#[]⟩] 28))
  have HM4 := hid ((HM3.out.alloc (.cells #[.string kb, .string vb] 28)).alloc (.cells #[.string xb, .string ⟨#[]⟩] 28))
  generalize ((w2.alloc (.cells #[.string kb, .string vb] 28)).alloc (.cells #[.string xb, .string ⟨#[]⟩] 28)) = V at *
  have HA1 := hid ((HM4.out.block _ (lt_of_heap HA.out.1) (fun h => h)).trans HA.out.1)
  have HA2 := hid ((HM4.out.block _ (lt_of_heap HA.out.2) (fun h => h)).trans HA.out.2)
  have HMC := hid (HM2.out.trans HM4.out)
  have HRow := hid (fun (W : World) (hm : Mod (fun _ => False) V W) => (fun x y z u => And.intro x (And.intro y (And.intro z u))) (row2 ((hm.block _ (lt_of_heap HA1.out) (fun h => h)).trans HA1.out)) (row2 ((hm.block _ (lt_of_heap HB.out.1) (fun h => h)).trans HB.out.1)) (row2 ((hm.block _ (lt_of_heap HA2.out) (fun h => h)).trans HA2.out)) (row2 ((hm.block _ (lt_of_heap HB.out.2) (fun h => h)).trans HB.out.2)))
  have HMV := hid (HM.out.trans HMC.out)
  rcases HQ1.out with ⟨rfl, rfl⟩ | ⟨rfl, rfl, ea⟩
  · have ea : xa.toList.isEmpty = decide (idx < 0) := HXa.out _ rfl
    rcases HQ2.out with ⟨rfl, rfl⟩ | ⟨rfl, rfl, eb⟩
    · have eb : xb.toList.isEmpty = decide (idx < 0) := HXb.out _ rfl
      by_cases ek : ka.toList = kb.toList
      case neg =>
        have ek' : (ka.toList == kb.toList) = false := beq_eq_false_iff_ne.2 ek
        obtain ⟨⟨c0, c1, _, _⟩, ⟨d0, d1, _, _⟩, ⟨f0, _, _, _⟩, g0, _, _, _⟩ := HRow.out V (Mod.refl _ _)
        go_wp2_with fail
        go_ret2
        exact chg_no HMV.out (.inr (.inr ⟨_, _, rfl, rfl, ek⟩))
      case pos =>
        by_cases ei : idx < 0
        case pos =>
          rw [decide_eq_true ei] at ea eb
          have ex : xa.toList = xb.toList := by rw [List.isEmpty_iff.1 ea, List.isEmpty_iff.1 eb]
          have ek' : (ka.toList == kb.toList) = true := beq_iff_eq.2 ek
          have ex1 : (xa.toList == xb.toList) = true := beq_iff_eq.2 ex
          have ex2 : (xb.toList == xa.toList) = true := beq_iff_eq.2 ex.symm
          obtain ⟨⟨c0, c1, _, _⟩, ⟨d0, d1, _, _⟩, ⟨f0, _, _, _⟩, g0, _, _, _⟩ := HRow.out V (Mod.refl _ _)
          go_upto_region 7 with fail
          obtain ⟨la0, cap0, hX, HO0, HN0⟩ : ∃ la cap, Value.slice none 0 0 = Value.slice la 0 cap ∧ Hid (Own V 75 3 la 0 cap []) ∧ Hid (∀ b, blk la b → V.heap.size ≤ b) := ⟨none, 0, rfl, Own.nil _ _ _, fun b hb => (blk_none b hb).elim⟩
          rw [hX]
          clear hX
          have HOa1 := hid (HO0.out.mod (S := fun _ => False) ((Mod.refl _ V).alloc (.cells #[.string kb, .string vb, .bool false] 75)) (fun _ _ h => h))
          have HSa1 : Hid (Src (V.alloc (.cells #[.string kb, .string vb, .bool false] 75)) 3 (some ⟨V.heap.size, 0, none⟩) 1 [.string kb, .string vb, .bool false]) := hid (src_new (heap_alloc_new _ _) rfl)
          have HMa1 := hid (Mod.alloc (S := fun _ => False) (a := V) (Mod.refl _ _) (.cells #[.string kb, .string vb, .bool false] 75))
          go_upto_region 8 with (at_builtin; refine wpList_append_Own rfl (.tmp 59) (.tmp 65) 52 rfl 75 i0 _ 3 40 Try.underlying52 hi0 hz0 hz1 hz2 rfl la0 0 cap0 _ rfl HOa1.out (some ⟨V.heap.size, 0, none⟩) 1 1 _ rfl HSa1.out (by intro u hu; simp at hu; rcases hu with rfl | rfl | rfl <;> rfl) (by unfold maxLen; omega) (by omega) ?_; intro la1 cap1 Z1 hown hm hb hn hr; have HO1 := hid hown; have HMx1 := hid hm; have HBx1 := hid hb; clear hown hm hb hn hr; clear c0 c1 d0 d1 f0 g0; have HMz1 := hid (HMa1.out.then HMx1.out (fun i hi h => by have := HN0.out i h; omega)); obtain ⟨⟨c0, c1, _, _⟩, ⟨d0, d1, _, _⟩, ⟨f0, _, _, _⟩, g0, _, _, _⟩ := HRow.out Z1 HMz1.out)
          go_wp2_with fail
          go_ret2
          exact chg_yes (l := [⟨kb, vb, false⟩]) (t := 75) (HMV.out.trans HMz1.out) (by rintro (⟨h, _⟩ | ⟨h, _⟩ | ⟨p, q, h, h', h''⟩) <;> cases h; cases h'; exact h'' ek) (by simp only [chgL]; rw [if_pos (.inl eb)]) rfl HO1.out
        case neg =>
          rw [decide_eq_false ei] at ea eb
          have ek' : (ka.toList == kb.toList) = true := beq_iff_eq.2 ek
          by_cases ex : xa.toList = xb.toList
          case pos =>
            obtain ⟨⟨c0, c1, _, _⟩, ⟨d0, d1, _, _⟩, ⟨f0, _, _, _⟩, g0, _, _, _⟩ := HRow.out V (Mod.refl _ _)
            have ex1 : (xa.toList == xb.toList) = true := beq_iff_eq.2 ex
            have ex2 : (xb.toList == xa.toList) = true := beq_iff_eq.2 ex.symm
            go_upto_region 7 with fail
            obtain ⟨la0, cap0, hX, HO0, HN0⟩ : ∃ la cap, Value.slice none 0 0 = Value.slice la 0 cap ∧ Hid (Own V 75 3 la 0 cap []) ∧ Hid (∀ b, blk la b → V.heap.size ≤ b) := ⟨none, 0, rfl, Own.nil _ _ _, fun b hb => (blk_none b hb).elim⟩
            rw [hX]
            clear hX
            have HOa1 := hid (HO0.out.mod (S := fun _ => False) ((Mod.refl _ V).alloc (.cells #[.string kb, .string vb, .bool false] 75)) (fun _ _ h => h))
            have HSa1 : Hid (Src (V.alloc (.cells #[.string kb, .string vb, .bool false] 75)) 3 (some ⟨V.heap.size, 0, none⟩) 1 [.string kb, .string vb, .bool false]) := hid (src_new (heap_alloc_new _ _) rfl)
            have HMa1 := hid (Mod.alloc (S := fun _ => False) (a := V) (Mod.refl _ _) (.cells #[.string kb, .string vb, .bool false] 75))
            go_upto_region 8 with (at_builtin; refine wpList_append_Own rfl (.tmp 59) (.tmp 65) 52 rfl 75 i0 _ 3 40 Try.underlying52 hi0 hz0 hz1 hz2 rfl la0 0 cap0 _ rfl HOa1.out (some ⟨V.heap.size, 0, none⟩) 1 1 _ rfl HSa1.out (by intro u hu; simp at hu; rcases hu with rfl | rfl | rfl <;> rfl) (by unfold maxLen; omega) (by omega) ?_; intro la1 cap1 Z1 hown hm hb hn hr; have HO1 := hid hown; have HMx1 := hid hm; have HBx1 := hid hb; clear hown hm hb hn hr; clear c0 c1 d0 d1 f0 g0; have HMz1 := hid (HMa1.out.then HMx1.out (fun i hi h => by have := HN0.out i h; omega)); obtain ⟨⟨c0, c1, _, _⟩, ⟨d0, d1, _, _⟩, ⟨f0, _, _, _⟩, g0, _, _, _⟩ := HRow.out Z1 HMz1.out)
            go_wp2_with fail
            go_ret2
            exact chg_yes (l := [⟨kb, vb, false⟩]) (t := 75) (HMV.out.trans HMz1.out) (by rintro (⟨h, _⟩ | ⟨h, _⟩ | ⟨p, q, h, h', h''⟩) <;> cases h; cases h'; exact h'' ek) (by simp only [chgL]; rw [if_pos (.inr ex)]) rfl HO1.out
          case neg =>
            obtain ⟨⟨c0, c1, _, _⟩, ⟨d0, d1, _, _⟩, ⟨f0, _, _, _⟩, g0, _, _, _⟩ := HRow.out V (Mod.refl _ _)
            have ex1 : (xa.toList == xb.toList) = false := beq_eq_false_iff_ne.2 ex
            have ex2 : (xb.toList == xa.toList) = false := beq_eq_false_iff_ne.2 (fun h => ex h.symm)
            go_upto_region 7 with fail
            obtain ⟨la0, cap0, hX, HO0, HN0⟩ : ∃ la cap, Value.slice none 0 0 = Value.slice la 0 cap ∧ Hid (Own V 75 3 la 0 cap []) ∧ Hid (∀ b, blk la b → V.heap.size ≤ b) := ⟨none, 0, rfl, Own.nil _ _ _, fun b hb => (blk_none b hb).elim⟩
            rw [hX]
            clear hX
            have HOa1 := hid (HO0.out.mod (S := fun _ => False) ((Mod.refl _ V).alloc (.cells #[.string kb, .string vb, .bool false] 75)) (fun _ _ h => h))
            have HSa1 : Hid (Src (V.alloc (.cells #[.string kb, .string vb, .bool false] 75)) 3 (some ⟨V.heap.size, 0, none⟩) 1 [.string kb, .string vb, .bool false]) := hid (src_new (heap_alloc_new _ _) rfl)
            have HMa1 := hid (Mod.alloc (S := fun _ => False) (a := V) (Mod.refl _ _) (.cells #[.string kb, .string vb, .bool false] 75))
            go_upto_region 8 with (at_builtin; refine wpList_append_Own rfl (.tmp 59) (.tmp 65) 52 rfl 75 i0 _ 3 40 Try.underlying52 hi0 hz0 hz1 hz2 rfl la0 0 cap0 _ rfl HOa1.out (some ⟨V.heap.size, 0, none⟩) 1 1 _ rfl HSa1.out (by intro u hu; simp at hu; rcases hu with rfl | rfl | rfl <;> rfl) (by unfold maxLen; omega) (by omega) ?_; intro la1 cap1 Z1 hown hm hb hn hr; have HO1 := hid hown; have HMx1 := hid hm; have HBx1 := hid hb; clear hown hm hb hn hr; clear c0 c1 d0 d1 f0 g0; have HMz1 := hid (HMa1.out.then HMx1.out (fun i hi h => by have := HN0.out i h; omega)); obtain ⟨⟨c0, c1, _, _⟩, ⟨d0, d1, _, _⟩, ⟨f0, _, _, _⟩, g0, _, _, _⟩ := HRow.out Z1 HMz1.out)
            have HN1 : Hid (∀ b, blk la1 b → V.heap.size ≤ b) := hid (fun j hj => by
              rcases HBx1.out j hj with h | h
              · exact HN0.out j h
              · have := HMa1.out.size; omega)
            clear c0 c1 d0 d1 f0 g0
            obtain ⟨⟨c0, c1, _, _⟩, ⟨d0, d1, _, _⟩, ⟨f0, _, _, _⟩, g0, _, _, _⟩ := HRow.out Z1 HMz1.out
            go_upto_region 9 with fail
            have HOa2 := hid (HO1.out.mod (S := fun _ => False) ((Mod.refl _ Z1).alloc (.cells #[.string xb, .string ⟨#[]⟩, .bool false] 75)) (fun _ _ h => h))
            have HSa2 : Hid (Src (Z1.alloc (.cells #[.string xb, .string ⟨#[]⟩, .bool false] 75)) 3 (some ⟨Z1.heap.size, 0, none⟩) 1 [.string xb, .string ⟨#[]⟩, .bool false]) := hid (src_new (heap_alloc_new _ _) rfl)
            have HMa2 := hid (Mod.alloc (S := fun _ => False) (a := V) HMz1.out (.cells #[.string xb, .string ⟨#[]⟩, .bool false] 75))
            go_upto_region 10 with (at_builtin; refine wpList_append_Own rfl (.tmp 77) (.tmp 81) 52 rfl 75 i0 _ 3 40 Try.underlying52 hi0 hz0 hz1 hz2 rfl la1 1 cap1 _ rfl HOa2.out (some ⟨Z1.heap.size, 0, none⟩) 1 1 _ rfl HSa2.out (by intro u hu; simp at hu; rcases hu with rfl | rfl | rfl <;> rfl) (by unfold maxLen; omega) (by omega) ?_; intro la2 cap2 Z2 hown hm hb hn hr; have HO2 := hid hown; have HMx2 := hid hm; have HBx2 := hid hb; clear hown hm hb hn hr; clear c0 c1 d0 d1 f0 g0; have HMz2 := hid (HMa2.out.then HMx2.out (fun i hi h => by have := HN1.out i h; omega)); obtain ⟨⟨c0, c1, _, _⟩, ⟨d0, d1, _, _⟩, ⟨f0, _, _, _⟩, g0, _, _, _⟩ := HRow.out Z2 HMz2.out)
            have HN2 : Hid (∀ b, blk la2 b → V.heap.size ≤ b) := hid (fun j hj => by
              rcases HBx2.out j hj with h | h
              · exact HN1.out j h
              · have := HMa2.out.size; have := HMz1.out.size; omega)
            clear c0 c1 d0 d1 f0 g0
            obtain ⟨⟨c0, c1, _, _⟩, ⟨d0, d1, _, _⟩, ⟨f0, _, _, _⟩, g0, _, _, _⟩ := HRow.out Z2 HMz2.out
            go_upto_region 13 with fail
            have HOa3 := hid (HO2.out.mod (S := fun _ => False) ((Mod.refl _ Z2).alloc (.cells #[.string xa, .string ⟨#[]⟩, .bool true] 75)) (fun _ _ h => h))
            have HSa3 : Hid (Src (Z2.alloc (.cells #[.string xa, .string ⟨#[]⟩, .bool true] 75)) 3 (some ⟨Z2.heap.size, 0, none⟩) 1 [.string xa, .string ⟨#[]⟩, .bool true]) := hid (src_new (heap_alloc_new _ _) rfl)
            have HMa3 := hid (Mod.alloc (S := fun _ => False) (a := V) HMz2.out (.cells #[.string xa, .string ⟨#[]⟩, .bool true] 75))
            go_upto_region 14 with (at_builtin; refine wpList_append_Own rfl (.tmp 104) (.tmp 108) 52 rfl 75 i0 _ 3 40 Try.underlying52 hi0 hz0 hz1 hz2 rfl la2 2 cap2 _ rfl HOa3.out (some ⟨Z2.heap.size, 0, none⟩) 1 1 _ rfl HSa3.out (by intro u hu; simp at hu; rcases hu with rfl | rfl | rfl <;> rfl) (by unfold maxLen; omega) (by omega) ?_; intro la3 cap3 Z3 hown hm hb hn hr; have HO3 := hid hown; have HMx3 := hid hm; have HBx3 := hid hb; clear hown hm hb hn hr; clear c0 c1 d0 d1 f0 g0; have HMz3 := hid (HMa3.out.then HMx3.out (fun i hi h => by have := HN2.out i h; omega)); obtain ⟨⟨c0, c1, _, _⟩, ⟨d0, d1, _, _⟩, ⟨f0, _, _, _⟩, g0, _, _, _⟩ := HRow.out Z3 HMz3.out)
            go_wp2_with fail
            go_ret2
            exact chg_yes (l := [⟨kb, vb, false⟩, ⟨xb, ⟨#[]⟩, false⟩, ⟨xa, ⟨#[]⟩, true⟩]) (t := 75) (HMV.out.trans HMz3.out) (by rintro (⟨h, _⟩ | ⟨h, _⟩ | ⟨p, q, h, h', h''⟩) <;> cases h; cases h'; exact h'' ek) (by simp only [chgL]; rw [if_neg (by rw [eb]; exact fun h => h.elim (fun h => by cases h) ex)]) rfl HO3.out
    · by_cases hf0 : 0 < f.length
      case pos =>
        obtain ⟨⟨c0, c1, _, _⟩, ⟨d0, d1, _, _⟩, ⟨f0, _, _, _⟩, g0, _, _, _⟩ := HRow.out V (Mod.refl _ _)
        go_wp2_with fail
        go_ret2
        exact chg_no HMV.out (.inr (.inl ⟨rfl, hf0⟩))
      case neg =>
        by_cases ei : idx < 0
        case pos =>
          rw [decide_eq_true ei] at ea
          obtain ⟨⟨c0, c1, _, _⟩, ⟨d0, d1, _, _⟩, ⟨f0, _, _, _⟩, g0, _, _, _⟩ := HRow.out V (Mod.refl _ _)
          go_upto_region 11 with fail
          obtain ⟨la0, cap0, hX, HO0, HN0⟩ : ∃ la cap, Value.slice none 0 0 = Value.slice la 0 cap ∧ Hid (Own V 75 3 la 0 cap []) ∧ Hid (∀ b, blk la b → V.heap.size ≤ b) := ⟨none, 0, rfl, Own.nil _ _ _, fun b hb => (blk_none b hb).elim⟩
          rw [hX]
          clear hX
          have HOa1 := hid (HO0.out.mod (S := fun _ => False) ((Mod.refl _ V).alloc (.cells #[.string ka, .string ⟨#[]⟩, .bool true] 75)) (fun _ _ h => h))
          have HSa1 : Hid (Src (V.alloc (.cells #[.string ka, .string ⟨#[]⟩, .bool true] 75)) 3 (some ⟨V.heap.size, 0, none⟩) 1 [.string ka, .string ⟨#[]⟩, .bool true]) := hid (src_new (heap_alloc_new _ _) rfl)
          have HMa1 := hid (Mod.alloc (S := fun _ => False) (a := V) (Mod.refl _ _) (.cells #[.string ka, .string ⟨#[]⟩, .bool true] 75))
          go_upto_region 12 with (at_builtin; refine wpList_append_Own rfl (.tmp 88) (.tmp 92) 52 rfl 75 i0 _ 3 40 Try.underlying52 hi0 hz0 hz1 hz2 rfl la0 0 cap0 _ rfl HOa1.out (some ⟨V.heap.size, 0, none⟩) 1 1 _ rfl HSa1.out (by intro u hu; simp at hu; rcases hu with rfl | rfl | rfl <;> rfl) (by unfold maxLen; omega) (by omega) ?_; intro la1 cap1 Z1 hown hm hb hn hr; have HO1 := hid hown; have HMx1 := hid hm; have HBx1 := hid hb; clear hown hm hb hn hr; clear c0 c1 d0 d1 f0 g0; have HMz1 := hid (HMa1.out.then HMx1.out (fun i hi h => by have := HN0.out i h; omega)); obtain ⟨⟨c0, c1, _, _⟩, ⟨d0, d1, _, _⟩, ⟨f0, _, _, _⟩, g0, _, _, _⟩ := HRow.out Z1 HMz1.out)
          go_wp2_with fail
          go_ret2
          exact chg_yes (l := [⟨ka, ⟨#[]⟩, true⟩]) (t := 75) (HMV.out.trans HMz1.out) (by rintro (⟨h, _⟩ | ⟨_, h⟩ | ⟨p, q, h, h', h''⟩); (cases h); (exact hf0 h); (cases h')) (by simp only [chgL]; rw [if_pos ea]) rfl HO1.out
        case neg =>
          rw [decide_eq_false ei] at ea
          have ex : (xa.toList == xb.toList) = false := beq_eq_false_iff_ne.2 (fun h => by rw [h, eb] at ea; cases ea)
          obtain ⟨⟨c0, c1, _, _⟩, ⟨d0, d1, _, _⟩, ⟨f0, _, _, _⟩, g0, _, _, _⟩ := HRow.out V (Mod.refl _ _)
          go_upto_region 11 with fail
          obtain ⟨la0, cap0, hX, HO0, HN0⟩ : ∃ la cap, Value.slice none 0 0 = Value.slice la 0 cap ∧ Hid (Own V 75 3 la 0 cap []) ∧ Hid (∀ b, blk la b → V.heap.size ≤ b) := ⟨none, 0, rfl, Own.nil _ _ _, fun b hb => (blk_none b hb).elim⟩
          rw [hX]
          clear hX
          have HOa1 := hid (HO0.out.mod (S := fun _ => False) ((Mod.refl _ V).alloc (.cells #[.string ka, .string ⟨#[]⟩, .bool true] 75)) (fun _ _ h => h))
          have HSa1 : Hid (Src (V.alloc (.cells #[.string ka, .string ⟨#[]⟩, .bool true] 75)) 3 (some ⟨V.heap.size, 0, none⟩) 1 [.string ka, .string ⟨#[]⟩, .bool true]) := hid (src_new (heap_alloc_new _ _) rfl)
          have HMa1 := hid (Mod.alloc (S := fun _ => False) (a := V) (Mod.refl _ _) (.cells #[.string ka, .string ⟨#[]⟩, .bool true] 75))
          go_upto_region 12 with (at_builtin; refine wpList_append_Own rfl (.tmp 88) (.tmp 92) 52 rfl 75 i0 _ 3 40 Try.underlying52 hi0 hz0 hz1 hz2 rfl la0 0 cap0 _ rfl HOa1.out (some ⟨V.heap.size, 0, none⟩) 1 1 _ rfl HSa1.out (by intro u hu; simp at hu; rcases hu with rfl | rfl | rfl <;> rfl) (by unfold maxLen; omega) (by omega) ?_; intro la1 cap1 Z1 hown hm hb hn hr; have HO1 := hid hown; have HMx1 := hid hm; have HBx1 := hid hb; clear hown hm hb hn hr; clear c0 c1 d0 d1 f0 g0; have HMz1 := hid (HMa1.out.then HMx1.out (fun i hi h => by have := HN0.out i h; omega)); obtain ⟨⟨c0, c1, _, _⟩, ⟨d0, d1, _, _⟩, ⟨f0, _, _, _⟩, g0, _, _, _⟩ := HRow.out Z1 HMz1.out)
          have HN1 : Hid (∀ b, blk la1 b → V.heap.size ≤ b) := hid (fun j hj => by
            rcases HBx1.out j hj with h | h
            · exact HN0.out j h
            · have := HMa1.out.size; omega)
          clear c0 c1 d0 d1 f0 g0
          obtain ⟨⟨c0, c1, _, _⟩, ⟨d0, d1, _, _⟩, ⟨f0, _, _, _⟩, g0, _, _, _⟩ := HRow.out Z1 HMz1.out
          go_upto_region 13 with fail
          have HOa2 := hid (HO1.out.mod (S := fun _ => False) ((Mod.refl _ Z1).alloc (.cells #[.string xa, .string ⟨#[]⟩, .bool true] 75)) (fun _ _ h => h))
          have HSa2 : Hid (Src (Z1.alloc (.cells #[.string xa, .string ⟨#[]⟩, .bool true] 75)) 3 (some ⟨Z1.heap.size, 0, none⟩) 1 [.string xa, .string ⟨#[]⟩, .bool true]) := hid (src_new (heap_alloc_new _ _) rfl)
          have HMa2 := hid (Mod.alloc (S := fun _ => False) (a := V) HMz1.out (.cells #[.string xa, .string ⟨#[]⟩, .bool true] 75))
          go_upto_region 14 with (at_builtin; refine wpList_append_Own rfl (.tmp 104) (.tmp 108) 52 rfl 75 i0 _ 3 40 Try.underlying52 hi0 hz0 hz1 hz2 rfl la1 1 cap1 _ rfl HOa2.out (some ⟨Z1.heap.size, 0, none⟩) 1 1 _ rfl HSa2.out (by intro u hu; simp at hu; rcases hu with rfl | rfl | rfl <;> rfl) (by unfold maxLen; omega) (by omega) ?_; intro la2 cap2 Z2 hown hm hb hn hr; have HO2 := hid hown; have HMx2 := hid hm; have HBx2 := hid hb; clear hown hm hb hn hr; clear c0 c1 d0 d1 f0 g0; have HMz2 := hid (HMa2.out.then HMx2.out (fun i hi h => by have := HN1.out i h; omega)); obtain ⟨⟨c0, c1, _, _⟩, ⟨d0, d1, _, _⟩, ⟨f0, _, _, _⟩, g0, _, _, _⟩ := HRow.out Z2 HMz2.out)
          go_wp2_with fail
          go_ret2
          exact chg_yes (l := [⟨ka, ⟨#[]⟩, true⟩, ⟨xa, ⟨#[]⟩, true⟩]) (t := 75) (HMV.out.trans HMz2.out) (by rintro (⟨h, _⟩ | ⟨_, h⟩ | ⟨p, q, h, h', h''⟩); (cases h); (exact hf0 h); (cases h')) (by simp only [chgL]; rw [if_neg (by rw [ea]; exact Bool.false_ne_true)]) rfl HO2.out
  · by_cases hr0 : 0 < r.length
    case pos =>
      rcases HQ2.out with ⟨rfl, rfl⟩ | ⟨rfl, rfl, eb⟩
      ·
        obtain ⟨⟨c0, c1, _, _⟩, ⟨d0, d1, _, _⟩, ⟨f0, _, _, _⟩, g0, _, _, _⟩ := HRow.out V (Mod.refl _ _)
        go_wp2_with fail
        go_ret2
        exact chg_no HMV.out (.inl ⟨rfl, hr0⟩)
      ·
        obtain ⟨⟨c0, c1, _, _⟩, ⟨d0, d1, _, _⟩, ⟨f0, _, _, _⟩, g0, _, _, _⟩ := HRow.out V (Mod.refl _ _)
        go_wp2_with fail
        go_ret2
        exact chg_no HMV.out (.inl ⟨rfl, hr0⟩)
    case neg =>
      rcases HQ2.out with ⟨rfl, rfl⟩ | ⟨rfl, rfl, eb⟩
      · have eb : xb.toList.isEmpty = decide (idx < 0) := HXb.out _ rfl
        by_cases ei : idx < 0
        case pos =>
          rw [decide_eq_true ei] at eb
          obtain ⟨⟨c0, c1, _, _⟩, ⟨d0, d1, _, _⟩, ⟨f0, _, _, _⟩, g0, _, _, _⟩ := HRow.out V (Mod.refl _ _)
          go_upto_region 7 with fail
          obtain ⟨la0, cap0, hX, HO0, HN0⟩ : ∃ la cap, Value.slice none 0 0 = Value.slice la 0 cap ∧ Hid (Own V 75 3 la 0 cap []) ∧ Hid (∀ b, blk la b → V.heap.size ≤ b) := ⟨none, 0, rfl, Own.nil _ _ _, fun b hb => (blk_none b hb).elim⟩
          rw [hX]
          clear hX
          have HOa1 := hid (HO0.out.mod (S := fun _ => False) ((Mod.refl _ V).alloc (.cells #[.string kb, .string vb, .bool false] 75)) (fun _ _ h => h))
          have HSa1 : Hid (Src (V.alloc (.cells #[.string kb, .string vb, .bool false] 75)) 3 (some ⟨V.heap.size, 0, none⟩) 1 [.string kb, .string vb, .bool false]) := hid (src_new (heap_alloc_new _ _) rfl)
          have HMa1 := hid (Mod.alloc (S := fun _ => False) (a := V) (Mod.refl _ _) (.cells #[.string kb, .string vb, .bool false] 75))
          go_upto_region 8 with (at_builtin; refine wpList_append_Own rfl (.tmp 59) (.tmp 65) 52 rfl 75 i0 _ 3 40 Try.underlying52 hi0 hz0 hz1 hz2 rfl la0 0 cap0 _ rfl HOa1.out (some ⟨V.heap.size, 0, none⟩) 1 1 _ rfl HSa1.out (by intro u hu; simp at hu; rcases hu with rfl | rfl | rfl <;> rfl) (by unfold maxLen; omega) (by omega) ?_; intro la1 cap1 Z1 hown hm hb hn hr; have HO1 := hid hown; have HMx1 := hid hm; have HBx1 := hid hb; clear hown hm hb hn hr; clear c0 c1 d0 d1 f0 g0; have HMz1 := hid (HMa1.out.then HMx1.out (fun i hi h => by have := HN0.out i h; omega)); obtain ⟨⟨c0, c1, _, _⟩, ⟨d0, d1, _, _⟩, ⟨f0, _, _, _⟩, g0, _, _, _⟩ := HRow.out Z1 HMz1.out)
          go_wp2_with fail
          go_ret2
          exact chg_yes (l := [⟨kb, vb, false⟩]) (t := 75) (HMV.out.trans HMz1.out) (by rintro (⟨_, h⟩ | ⟨h, _⟩ | ⟨p, q, h, h', h''⟩); (exact hr0 h); (cases h); (cases h)) (by simp only [chgL]; rw [if_pos eb]) rfl HO1.out
        case neg =>
          rw [decide_eq_false ei] at eb
          have ex : (xb.toList == xa.toList) = false := beq_eq_false_iff_ne.2 (fun h => by rw [h, ea] at eb; cases eb)
          obtain ⟨⟨c0, c1, _, _⟩, ⟨d0, d1, _, _⟩, ⟨f0, _, _, _⟩, g0, _, _, _⟩ := HRow.out V (Mod.refl _ _)
          go_upto_region 7 with fail
          obtain ⟨la0, cap0, hX, HO0, HN0⟩ : ∃ la cap, Value.slice none 0 0 = Value.slice la 0 cap ∧ Hid (Own V 75 3 la 0 cap []) ∧ Hid (∀ b, blk la b → V.heap.size ≤ b) := ⟨none, 0, rfl, Own.nil _ _ _, fun b hb => (blk_none b hb).elim⟩
          rw [hX]
          clear hX
          have HOa1 := hid (HO0.out.mod (S := fun _ => False) ((Mod.refl _ V).alloc (.cells #[.string kb, .string vb, .bool false] 75)) (fun _ _ h => h))
          have HSa1 : Hid (Src (V.alloc (.cells #[.string kb, .string vb, .bool false] 75)) 3 (some ⟨V.heap.size, 0, none⟩) 1 [.string kb, .string vb, .bool false]) := hid (src_new (heap_alloc_new _ _) rfl)
          have HMa1 := hid (Mod.alloc (S := fun _ => False) (a := V) (Mod.refl _ _) (.cells #[.string kb, .string vb, .bool false] 75))
          go_upto_region 8 with (at_builtin; refine wpList_append_Own rfl (.tmp 59) (.tmp 65) 52 rfl 75 i0 _ 3 40 Try.underlying52 hi0 hz0 hz1 hz2 rfl la0 0 cap0 _ rfl HOa1.out (some ⟨V.heap.size, 0, none⟩) 1 1 _ rfl HSa1.out (by intro u hu; simp at hu; rcases hu with rfl | rfl | rfl <;> rfl) (by unfold maxLen; omega) (by omega) ?_; intro la1 cap1 Z1 hown hm hb hn hr; have HO1 := hid hown; have HMx1 := hid hm; have HBx1 := hid hb; clear hown hm hb hn hr; clear c0 c1 d0 d1 f0 g0; have HMz1 := hid (HMa1.out.then HMx1.out (fun i hi h => by have := HN0.out i h; omega)); obtain ⟨⟨c0, c1, _, _⟩, ⟨d0, d1, _, _⟩, ⟨f0, _, _, _⟩, g0, _, _, _⟩ := HRow.out Z1 HMz1.out)
          have HN1 : Hid (∀ b, blk la1 b → V.heap.size ≤ b) := hid (fun j hj => by
            rcases HBx1.out j hj with h | h
            · exact HN0.out j h
            · have := HMa1.out.size; omega)
          clear c0 c1 d0 d1 f0 g0
          obtain ⟨⟨c0, c1, _, _⟩, ⟨d0, d1, _, _⟩, ⟨f0, _, _, _⟩, g0, _, _, _⟩ := HRow.out Z1 HMz1.out
          go_upto_region 9 with fail
          have HOa2 := hid (HO1.out.mod (S := fun _ => False) ((Mod.refl _ Z1).alloc (.cells #[.string xb, .string ⟨#[]⟩, .bool false] 75)) (fun _ _ h => h))
          have HSa2 : Hid (Src (Z1.alloc (.cells #[.string xb, .string ⟨#[]⟩, .bool false] 75)) 3 (some ⟨Z1.heap.size, 0, none⟩) 1 [.string xb, .string ⟨#[]⟩, .bool false]) := hid (src_new (heap_alloc_new _ _) rfl)
          have HMa2 := hid (Mod.alloc (S := fun _ => False) (a := V) HMz1.out (.cells #[.string xb, .string ⟨#[]⟩, .bool false] 75))
          go_upto_region 10 with (at_builtin; refine wpList_append_Own rfl (.tmp 77) (.tmp 81) 52 rfl 75 i0 _ 3 40 Try.underlying52 hi0 hz0 hz1 hz2 rfl la1 1 cap1 _ rfl HOa2.out (some ⟨Z1.heap.size, 0, none⟩) 1 1 _ rfl HSa2.out (by intro u hu; simp at hu; rcases hu with rfl | rfl | rfl <;> rfl) (by unfold maxLen; omega) (by omega) ?_; intro la2 cap2 Z2 hown hm hb hn hr; have HO2 := hid hown; have HMx2 := hid hm; have HBx2 := hid hb; clear hown hm hb hn hr; clear c0 c1 d0 d1 f0 g0; have HMz2 := hid (HMa2.out.then HMx2.out (fun i hi h => by have := HN1.out i h; omega)); obtain ⟨⟨c0, c1, _, _⟩, ⟨d0, d1, _, _⟩, ⟨f0, _, _, _⟩, g0, _, _, _⟩ := HRow.out Z2 HMz2.out)
          go_wp2_with fail
          go_ret2
          exact chg_yes (l := [⟨kb, vb, false⟩, ⟨xb, ⟨#[]⟩, false⟩]) (t := 75) (HMV.out.trans HMz2.out) (by rintro (⟨_, h⟩ | ⟨h, _⟩ | ⟨p, q, h, h', h''⟩); (exact hr0 h); (cases h); (cases h)) (by simp only [chgL]; rw [if_neg (by rw [eb]; exact Bool.false_ne_true)]) rfl HO2.out
      · by_cases hf0 : 0 < f.length
        case pos =>
          obtain ⟨⟨c0, c1, _, _⟩, ⟨d0, d1, _, _⟩, ⟨f0, _, _, _⟩, g0, _, _, _⟩ := HRow.out V (Mod.refl _ _)
          go_wp2_with fail
          go_ret2
          exact chg_no HMV.out (.inr (.inl ⟨rfl, hf0⟩))
        case neg =>
          obtain ⟨⟨c0, c1, _, _⟩, ⟨d0, d1, _, _⟩, ⟨f0, _, _, _⟩, g0, _, _, _⟩ := HRow.out V (Mod.refl _ _)
          go_wp2_with fail
          go_ret2
          exact chg_yes (l := []) (t := 75) HMV.out (by rintro (⟨_, h⟩ | ⟨_, h⟩ | ⟨p, q, h, h', h''⟩); (exact hr0 h); (exact hf0 h); (cases h)) (rfl) rfl (Own.nil _ _ _)

end Go.Proofs.Ytoclecpedhbokaa
