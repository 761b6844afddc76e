/- The document's node -/
import Derived.Test.YthdopgejikcfbaaNodeF
import Derived.Deep.DrawnRows
namespace Go.Proofs.Ythdopgejikcfbaa
open Go Go.RowKit
attribute [local go_sem ↓] Go.wp_at_zero Go.wp_at_succ

def Ent.cs (x : Ent) : List Value := [.string x.key, .string x.value, .int .i64 x.kid]

theorem Ent.one (x : Ent) : ∀ u ∈ x.cs, u.oneCell' = true := by
  intro u hu
  simp only [Ent.cs, List.mem_cons, List.not_mem_nil, or_false] at hu
  rcases hu with rfl | rfl | rfl <;> rfl

theorem infoEnt : (Try.prog.info? 51).map (fun i => (i.zero, i.size, i.bytes)) = some (some (.agg #[.string ByteArray.empty, .string ByteArray.empty, .int .i64 0]), 3, 40) := by kernel_rfl

/-- The variable that holds the growing node. -/
structure Rg (W w : World) (tb : Nat) (leaf : Bool) (es : List Ent) (sa : Option Addr) (cap : Nat) : Prop where
  box : w.heap[tb]? = some (.cells #[.bool leaf, .slice sa es.length cap] 32 (0, 0))
  own : Own w 51 3 sa es.length cap (es.flatMap Ent.cs)
  ne : ¬ blk sa tb
  lo : W.heap.size ≤ tb
  los : ∀ k, blk sa k → W.heap.size ≤ k
  mod : Mod (fun _ => False) W w

theorem Rg.ext {W w w' : World} {tb : Nat} {leaf : Bool} {es : List Ent} {sa : Option Addr} {cap : Nat} (h : Rg W w tb leaf es sa cap) (hm : Mod (fun _ => False) w w') : Rg W w' tb leaf es sa cap :=
  ⟨(hm.block tb (lt_of_heap h.box) (fun h => h)).trans h.box, h.own.mod hm (fun _ _ h => h), h.ne, h.lo, h.los, h.mod.trans hm⟩

theorem Rg.late {W w : World} {tb : Nat} {leaf : Bool} {es : List Ent} {sa : Option Addr} {cap : Nat} (h : Rg W w tb leaf es sa cap) {W0 w1 : World} (h0 : Mod (fun _ => False) w W0) (hm1 : Mod (blk sa) W0 w1) : w1.cell? ⟨tb, 1, none⟩ = some (.slice sa es.length cap) ∧ w1.frozen? ⟨tb, 1, none⟩ = false := by
  have e0 := (h0.block tb (lt_of_heap h.box) (fun h => h)).trans h.box
  have e1 := (hm1.block tb (lt_of_heap e0) h.ne).trans e0
  exact ⟨by rw [cell_of_row _ _ _ _ _ _ e1]; rfl, frozen_of_row _ _ _ _ _ e1⟩

theorem Rg.grown {W w : World} {tb : Nat} {leaf : Bool} {es : List Ent} {sa : Option Addr} {cap : Nat} (h : Rg W w tb leaf es sa cap) {W0 w1 : World} (h0 : Mod (fun _ => False) w W0) (hm1 : Mod (blk sa) W0 w1) {x : Ent} {sa' : Option Addr} {cap' : Nat} (hown1 : Own w1 51 3 sa' (es.length + 1) cap' (es.flatMap Ent.cs ++ x.cs)) (hb1 : ∀ k, blk sa' k → blk sa k ∨ W0.heap.size ≤ k) :
    Rg W (w1.setCell ⟨tb, 1, none⟩ (.slice sa' (es.length + 1) cap')) tb leaf (es ++ [x]) sa' cap' := by
  have e0 := (h0.block tb (lt_of_heap h.box) (fun h => h)).trans h.box
  have e1 := (hm1.block tb (lt_of_heap e0) h.ne).trans e0
  have hl : (es ++ [x]).length = es.length + 1 := by simp
  have hs0 := h0.size
  have htb := lt_of_heap h.box
  have hsz := h.mod.size
  have hne : ¬ blk sa' tb := fun hk => by
    rcases hb1 tb hk with h1 | h1
    · exact h.ne h1
    · omega
  have hmt : Mod (fun k => k = tb) w1 (w1.setCell ⟨tb, 1, none⟩ (.slice sa' (es.length + 1) cap')) := Mod.setCell (S := fun k => k = tb) (Mod.refl _ _) (fun _ => rfl) _
  have hMw : Mod (fun k => blk sa k ∨ k = tb) w (w1.setCell ⟨tb, 1, none⟩ (.slice sa' (es.length + 1) cap')) := ((h0.mono fun _ _ h => h.elim).trans (hm1.mono fun _ _ h => .inl h)).trans (hmt.mono fun _ _ h => .inr h)
  refine ⟨?_, ?_, hne, h.lo, fun k hk => ?_, h.mod.then hMw (fun i hi hk => ?_)⟩
  · rw [hl]; exact heap_setCell_same w1 tb 1 _ 32 _ e1
  · rw [hl, List.flatMap_append]
    have : List.flatMap Ent.cs [x] = x.cs := by simp
    rw [this]
    exact hown1.mod hmt (fun k hk e => hne (e ▸ hk))
  · rcases hb1 k hk with h1 | h1
    · exact h.los k h1
    · omega
  · rcases hk with h1 | h1
    · have := h.los i h1; omega
    · have := h.lo; omega

/-- An owned slice, as it lies. -/
theorem lies_own {α : Type} {w : World} {e : TypeId} {size : Nat} {f : α → List Value} {sa : Option Addr} {n cap : Nat} {ls : List α} (h : Own w e size sa n cap (ls.flatMap f)) (hn : ls.length = n := by rfl) : Lies w size f sa ls := by
  subst hn
  refine ⟨h.src, fun _ x hx => ?_, fun k _ hk => h.lt k hk⟩
  rcases h.2.2.2 with ⟨h1, _⟩ | ⟨g, off, cur, h1, _⟩
  · rw [h1] at hx; cases hx
  · rw [h1] at hx; cases hx; rfl

/-- What Of leaves. -/
def OfAns4 (w : World) (leaf : Bool) (es : List Ent) (e : Ending) (w' : World) : Prop :=
  ∃ sa cap, e = .returned (.agg #[.bool leaf, .slice sa es.length cap]) ∧ Lies w' 3 Ent.cs sa es ∧ (∀ k, blk sa k → w.heap.size ≤ k) ∧ Mod (fun _ => False) w w'

def upE (n : Nd) (k : Nat) : List Ent := (List.range k).map (entAt n)
theorem upE_succ (n : Nd) (k : Nat) : upE n (k + 1) = upE n k ++ [entAt n k] := by unfold upE; rw [List.range_succ, List.map_append]; rfl
theorem upE_len (n : Nd) (k : Nat) : (upE n k).length = k := by simp [upE]

set_option maxRecDepth 100000 in
set_option maxHeartbeats 2000000 in
theorem of_true {w : World} {n : Nd} (h : NdAt w n) (hl : n.leaf = true) : Calls Try.prog 23 #[.bool true, .slice n.ka n.keys.length n.kc, .slice n.va n.values.length n.vc, .slice n.ia n.kids.length n.ic] w fun e w' => OfAns4 w true n.ents e w' := by
  have hbk := h.bk
  have hbv := h.bv
  have hbi := h.bi
  obtain ⟨i0, hi, hz0, hz1, hz2⟩ := info_parts infoEnt
  have hm0 : Mod (fun _ => False) w (w.alloc (.cells #[.bool false, .slice none 0 0] 32)) := (Mod.refl _ _).alloc _
  have HN := hid (h.ext hm0)
  have HM0 := hid hm0
  have HL := hid hl
  have hr0 : (w.alloc (.cells #[.bool false, .slice none 0 0] 32)).heap[w.heap.size]? = some (.cells #[.bool false, .slice none 0 0] 32 (0, 0)) := heap_alloc_new _ _
  have hsz : (w.alloc (.cells #[.bool false, .slice none 0 0] 32)).heap.size = w.heap.size + 1 := by simp
  have HR0 := hid hr0
  have hg0 := heap_alloc_new (w.alloc (.cells #[.bool false, .slice none 0 0] 32)) (.cells #[.bool true, .slice none 0 0] 32)
  rw [hsz] at hg0
  have HG0 : Hid (Rg (w.alloc (.cells #[.bool false, .slice none 0 0] 32)) ((w.alloc (.cells #[.bool false, .slice none 0 0] 32)).alloc (.cells #[.bool true, .slice none 0 0] 32)) (w.heap.size + 1) true (upE n 0) none 0) :=
    ⟨hg0, Own.nil _ _ _, blk_none _, by omega, fun k hk => (blk_none k hk).elim, (Mod.refl _ _).alloc _⟩
  have HSz := hid hsz
  clear h hl hr0 hg0 hm0 hsz
  go_enter Try.func23, Try.ntmps23
  go_wp2_with fail
  generalize w.alloc (.cells #[.bool false, .slice none 0 0] 32) = Wr at *
  go_loopw [10] (fun c wr => ∃ (k : Nat) (sa : Option Addr) (cp : Nat), k ≤ n.keys.length ∧ c = .int .i64 k ∧ Rg Wr wr (w.heap.size + 1) true (upE n k) sa cp) (fun c _ => n.keys.length - (intOf c).toNat)
  case atStart => exact ⟨0, none, 0, Nat.zero_le _, rfl, HG0.out⟩
  case round =>
    obtain ⟨k, sa, cp, hk, rfl, hG⟩ := hrel
    have HG := hid hG
    have htb := lt_of_heap hG.box
    have t0 : wr.cell? ⟨w.heap.size + 1, 0, none⟩ = some (.bool true) := by rw [cell_of_row _ _ _ _ _ _ hG.box]; rfl
    have t1 : wr.cell? ⟨w.heap.size + 1, 1, none⟩ = some (.slice sa k cp) := by rw [cell_of_row _ _ _ _ _ _ hG.box, upE_len]; rfl
    clear hG
    by_cases hlt : k < n.keys.length
    · obtain ⟨x, hx⟩ : ∃ x, n.keys[k]? = some x := ⟨_, List.getElem?_eq_getElem hlt⟩
      obtain ⟨g, off, ha, hc⟩ := (HN.out.ext HG.out.mod).k.one hx
      have Hx := hid hx
      rw [ha]
      have HA := hid ha
      clear ha hx
      by_cases hin : k < n.values.length
      · skip
        obtain ⟨v, hvv⟩ : ∃ v, n.values[k]? = some v := ⟨_, List.getElem?_eq_getElem hin⟩
        obtain ⟨gv, ov, hav, hcv⟩ := (HN.out.ext HG.out.mod).v.one hvv
        have hcv2 : (wr.alloc (.cells #[.string x, .string ⟨#[]⟩, .int .i64 0] 51)).cell? ⟨gv, ov + k, none⟩ = some (.string v) := (((Mod.refl (fun _ => False) wr).alloc _).cell (World.block_lt_of_cell? _ _ hcv) (fun h => h)).trans hcv
        have d1 : decide ((k : Int) < (n.values.length : Int)) = true := by rw [decide_eq_true_iff]; omega
        rw [hav]
        have HAV := hid hav
        clear hav
        have hent : entAt n k = ⟨x, v, 0⟩ := by unfold entAt valueOf kidOf; rw [HL.out, Hx.out, hvv]; rfl
        have hmA : Mod (fun _ => False) wr (wr.alloc (.cells #[.string x, .string v, .int .i64 0] 51)) := (Mod.refl _ _).alloc _
        have HO1 : Hid (Own (wr.alloc (.cells #[.string x, .string v, .int .i64 0] 51)) 51 3 sa k cp ((upE n k).flatMap Ent.cs)) := by have := HG.out.own.mod hmA (fun _ _ h => h); rw [upE_len] at this; exact this
        have hmB : Mod (fun _ => False) wr ((wr.alloc (.cells #[.string x, .string v, .int .i64 0] 51)).alloc (.cells #[.string x, .string v, .int .i64 0] 51)) := hmA.alloc _
        have HO2 : Hid (Own ((wr.alloc (.cells #[.string x, .string v, .int .i64 0] 51)).alloc (.cells #[.string x, .string v, .int .i64 0] 51)) 51 3 sa k cp ((upE n k).flatMap Ent.cs)) := HO1.out.mod (S := fun _ => False) ((Mod.refl _ _).alloc _) (fun _ _ h => h)
        have hs2 : ((wr.alloc (.cells #[.string x, .string v, .int .i64 0] 51)).alloc (.cells #[.string x, .string v, .int .i64 0] 51)).heap[wr.heap.size + 1]? = some (.cells #[.string x, .string v, .int .i64 0] 51 (0, 0)) := by have := heap_alloc_new (wr.alloc (.cells #[.string x, .string v, .int .i64 0] 51)) (.cells #[.string x, .string v, .int .i64 0] 51); simpa using this
        have HS2 : Hid (Src ((wr.alloc (.cells #[.string x, .string v, .int .i64 0] 51)).alloc (.cells #[.string x, .string v, .int .i64 0] 51)) 3 (some ⟨wr.heap.size + 1, 0, none⟩) 1 [.string x, .string v, .int .i64 0]) := src_new hs2 rfl
        have HL2 : Hid (∀ w1, Mod (blk sa) ((wr.alloc (.cells #[.string x, .string v, .int .i64 0] 51)).alloc (.cells #[.string x, .string v, .int .i64 0] 51)) w1 → w1.cell? ⟨w.heap.size + 1, 1, none⟩ = some (.slice sa k cp) ∧ w1.frozen? ⟨w.heap.size + 1, 1, none⟩ = false) := fun w1 hm => by have := HG.out.late hmB hm; rw [upE_len] at this; exact this
        have HmB := hid hmB
        have Hent := hid hent
        have HOne := hid (Ent.one ⟨x, v, 0⟩)
        have ne1 : wr.heap.size ≠ w.heap.size + 1 := by omega
        clear hmA hmB hs2 hent hvv
        go_wp2_with (at_builtin; refine wpList_append_Own rfl (.tmp 51) (.tmp 53) 30 rfl 51 i0 _ 3 40 Try.underlying30 hi hz0 hz1 hz2 rfl sa k cp _ rfl HO2.out (some ⟨wr.heap.size + 1, 0, none⟩) 1 1 _ rfl HS2.out HOne.out (by unfold maxLen; omega) (by omega) ?_; intro sa' cp' w7 hown7 hm7 hb7 hn7 hr7; obtain ⟨k0, k1⟩ := HL2.out w7 hm7; have Hown7 := hid hown7; have Hm7 := hid hm7; have Hb7 := hid hb7; clear hown7 hm7 hb7 hn7 hr7)
        go_roundw
        case rel =>
          have hgr := HG.out.grown HmB.out Hm7.out (x := ⟨x, v, 0⟩) (sa' := sa') (cap' := cp') (by rw [upE_len]; exact Hown7.out) Hb7.out
          rw [upE_len] at hgr
          exact ⟨k + 1, sa', cp', by omega, by go_num, by rw [upE_succ, Hent.out]; exact hgr⟩
        case measure => simp [intOf]; omega

      · skip
        have d1 : decide ((k : Int) < (n.values.length : Int)) = false := by rw [decide_eq_false_iff_not]; omega
        have hent : entAt n k = ⟨x, ⟨#[]⟩, 0⟩ := by unfold entAt valueOf kidOf; rw [HL.out, Hx.out, List.getElem?_eq_none (l := n.values) (by omega)]; rfl
        have hmA : Mod (fun _ => False) wr (wr.alloc (.cells #[.string x, .string ⟨#[]⟩, .int .i64 0] 51)) := (Mod.refl _ _).alloc _
        have HO1 : Hid (Own (wr.alloc (.cells #[.string x, .string ⟨#[]⟩, .int .i64 0] 51)) 51 3 sa k cp ((upE n k).flatMap Ent.cs)) := by have := HG.out.own.mod hmA (fun _ _ h => h); rw [upE_len] at this; exact this
        have hmB : Mod (fun _ => False) wr ((wr.alloc (.cells #[.string x, .string ⟨#[]⟩, .int .i64 0] 51)).alloc (.cells #[.string x, .string ⟨#[]⟩, .int .i64 0] 51)) := hmA.alloc _
        have HO2 : Hid (Own ((wr.alloc (.cells #[.string x, .string ⟨#[]⟩, .int .i64 0] 51)).alloc (.cells #[.string x, .string ⟨#[]⟩, .int .i64 0] 51)) 51 3 sa k cp ((upE n k).flatMap Ent.cs)) := HO1.out.mod (S := fun _ => False) ((Mod.refl _ _).alloc _) (fun _ _ h => h)
        have hs2 : ((wr.alloc (.cells #[.string x, .string ⟨#[]⟩, .int .i64 0] 51)).alloc (.cells #[.string x, .string ⟨#[]⟩, .int .i64 0] 51)).heap[wr.heap.size + 1]? = some (.cells #[.string x, .string ⟨#[]⟩, .int .i64 0] 51 (0, 0)) := by have := heap_alloc_new (wr.alloc (.cells #[.string x, .string ⟨#[]⟩, .int .i64 0] 51)) (.cells #[.string x, .string ⟨#[]⟩, .int .i64 0] 51); simpa using this
        have HS2 : Hid (Src ((wr.alloc (.cells #[.string x, .string ⟨#[]⟩, .int .i64 0] 51)).alloc (.cells #[.string x, .string ⟨#[]⟩, .int .i64 0] 51)) 3 (some ⟨wr.heap.size + 1, 0, none⟩) 1 [.string x, .string ⟨#[]⟩, .int .i64 0]) := src_new hs2 rfl
        have HL2 : Hid (∀ w1, Mod (blk sa) ((wr.alloc (.cells #[.string x, .string ⟨#[]⟩, .int .i64 0] 51)).alloc (.cells #[.string x, .string ⟨#[]⟩, .int .i64 0] 51)) w1 → w1.cell? ⟨w.heap.size + 1, 1, none⟩ = some (.slice sa k cp) ∧ w1.frozen? ⟨w.heap.size + 1, 1, none⟩ = false) := fun w1 hm => by have := HG.out.late hmB hm; rw [upE_len] at this; exact this
        have HmB := hid hmB
        have Hent := hid hent
        have HOne := hid (Ent.one ⟨x, ⟨#[]⟩, 0⟩)
        have ne1 : wr.heap.size ≠ w.heap.size + 1 := by omega
        clear hmA hmB hs2 hent
        go_wp2_with (at_builtin; refine wpList_append_Own rfl (.tmp 51) (.tmp 53) 30 rfl 51 i0 _ 3 40 Try.underlying30 hi hz0 hz1 hz2 rfl sa k cp _ rfl HO2.out (some ⟨wr.heap.size + 1, 0, none⟩) 1 1 _ rfl HS2.out HOne.out (by unfold maxLen; omega) (by omega) ?_; intro sa' cp' w7 hown7 hm7 hb7 hn7 hr7; obtain ⟨k0, k1⟩ := HL2.out w7 hm7; have Hown7 := hid hown7; have Hm7 := hid hm7; have Hb7 := hid hb7; clear hown7 hm7 hb7 hn7 hr7)
        go_roundw
        case rel =>
          have hgr := HG.out.grown HmB.out Hm7.out (x := ⟨x, ⟨#[]⟩, 0⟩) (sa' := sa') (cap' := cp') (by rw [upE_len]; exact Hown7.out) Hb7.out
          rw [upE_len] at hgr
          exact ⟨k + 1, sa', cp', by omega, by go_num, by rw [upE_succ, Hent.out]; exact hgr⟩
        case measure => simp [intOf]; omega

    · have hke : k = n.keys.length := by omega
      subst hke
      have hR := (HG.out.mod.block _ (lt_of_heap HR0.out) (fun h => h)).trans HR0.out
      have r0 : wr.cell? ⟨w.heap.size, 0, none⟩ = some (.bool false) := by rw [cell_of_row _ _ _ _ _ _ hR]; rfl
      have r1 : wr.cell? ⟨w.heap.size, 1, none⟩ = some (.slice none 0 0) := by rw [cell_of_row _ _ _ _ _ _ hR]; rfl
      have f0 := frozen_of_row _ _ 0 _ _ hR
      have f1 := frozen_of_row _ _ 1 _ _ hR
      have hb1 := heap_setCell_same wr w.heap.size 0 _ 32 (.bool true) hR
      have hb2 := heap_setCell_same _ w.heap.size 1 _ 32 (.slice sa n.keys.length cp) hb1
      have g0 : ((wr.setCell ⟨w.heap.size, 0, none⟩ (.bool true)).setCell ⟨w.heap.size, 1, none⟩ (.slice sa n.keys.length cp)).cell? ⟨w.heap.size, 0, none⟩ = some (.bool true) := by rw [cell_of_row _ _ _ _ _ _ hb2]; rfl
      have g1 : ((wr.setCell ⟨w.heap.size, 0, none⟩ (.bool true)).setCell ⟨w.heap.size, 1, none⟩ (.slice sa n.keys.length cp)).cell? ⟨w.heap.size, 1, none⟩ = some (.slice sa n.keys.length cp) := by rw [cell_of_row _ _ _ _ _ _ hb2]; rfl
      have hm2 : Mod (fun k => k = w.heap.size) wr ((wr.setCell ⟨w.heap.size, 0, none⟩ (.bool true)).setCell ⟨w.heap.size, 1, none⟩ (.slice sa n.keys.length cp)) := Mod.setCell (S := fun k => k = w.heap.size) (Mod.setCell (S := fun k => k = w.heap.size) (Mod.refl _ _) (fun _ => rfl) _) (fun _ => rfl) _
      have HO2 : Hid (Own ((wr.setCell ⟨w.heap.size, 0, none⟩ (.bool true)).setCell ⟨w.heap.size, 1, none⟩ (.slice sa n.keys.length cp)) 51 3 sa n.keys.length cp (n.ents.flatMap Ent.cs)) := by
        have := HG.out.own.mod hm2 (fun k hk e => by have := HG.out.los k hk; rw [HSz.out] at this; omega)
        rw [upE_len] at this
        exact this
      have HM2 := hid ((HM0.out.trans HG.out.mod).then hm2 (fun i hi e => by omega))
      clear hR hb1 hb2 hm2
      go_wp2_with fail
      refine bodyPost_ret (v := .agg #[.bool true, .slice sa n.keys.length cp]) (by simp [results, Try.results23, go_sem, g0, g1]) rfl ⟨sa, cp, ?_, ?_, fun k hk => by have := HG.out.los k hk; rw [HSz.out] at this; omega, HM2.out⟩
      · rw [ents_len]
      · exact lies_own HO2.out (ents_len n)

set_option maxRecDepth 100000 in
set_option maxHeartbeats 2000000 in
theorem of_false {w : World} {n : Nd} (h : NdAt w n) (hl : n.leaf = false) : Calls Try.prog 23 #[.bool false, .slice n.ka n.keys.length n.kc, .slice n.va n.values.length n.vc, .slice n.ia n.kids.length n.ic] w fun e w' => OfAns4 w false n.ents e w' := by
  have hbk := h.bk
  have hbv := h.bv
  have hbi := h.bi
  obtain ⟨i0, hi, hz0, hz1, hz2⟩ := info_parts infoEnt
  have hm0 : Mod (fun _ => False) w (w.alloc (.cells #[.bool false, .slice none 0 0] 32)) := (Mod.refl _ _).alloc _
  have HN := hid (h.ext hm0)
  have HM0 := hid hm0
  have HL := hid hl
  have hr0 : (w.alloc (.cells #[.bool false, .slice none 0 0] 32)).heap[w.heap.size]? = some (.cells #[.bool false, .slice none 0 0] 32 (0, 0)) := heap_alloc_new _ _
  have hsz : (w.alloc (.cells #[.bool false, .slice none 0 0] 32)).heap.size = w.heap.size + 1 := by simp
  have HR0 := hid hr0
  have hg0 := heap_alloc_new (w.alloc (.cells #[.bool false, .slice none 0 0] 32)) (.cells #[.bool false, .slice none 0 0] 32)
  rw [hsz] at hg0
  have HG0 : Hid (Rg (w.alloc (.cells #[.bool false, .slice none 0 0] 32)) ((w.alloc (.cells #[.bool false, .slice none 0 0] 32)).alloc (.cells #[.bool false, .slice none 0 0] 32)) (w.heap.size + 1) false (upE n 0) none 0) :=
    ⟨hg0, Own.nil _ _ _, blk_none _, by omega, fun k hk => (blk_none k hk).elim, (Mod.refl _ _).alloc _⟩
  have HSz := hid hsz
  clear h hl hr0 hg0 hm0 hsz
  go_enter Try.func23, Try.ntmps23
  go_wp2_with fail
  generalize w.alloc (.cells #[.bool false, .slice none 0 0] 32) = Wr at *
  go_loopw [10] (fun c wr => ∃ (k : Nat) (sa : Option Addr) (cp : Nat), k ≤ n.keys.length ∧ c = .int .i64 k ∧ Rg Wr wr (w.heap.size + 1) false (upE n k) sa cp) (fun c _ => n.keys.length - (intOf c).toNat)
  case atStart => exact ⟨0, none, 0, Nat.zero_le _, rfl, HG0.out⟩
  case round =>
    obtain ⟨k, sa, cp, hk, rfl, hG⟩ := hrel
    have HG := hid hG
    have htb := lt_of_heap hG.box
    have t0 : wr.cell? ⟨w.heap.size + 1, 0, none⟩ = some (.bool false) := by rw [cell_of_row _ _ _ _ _ _ hG.box]; rfl
    have t1 : wr.cell? ⟨w.heap.size + 1, 1, none⟩ = some (.slice sa k cp) := by rw [cell_of_row _ _ _ _ _ _ hG.box, upE_len]; rfl
    clear hG
    by_cases hlt : k < n.keys.length
    · obtain ⟨x, hx⟩ : ∃ x, n.keys[k]? = some x := ⟨_, List.getElem?_eq_getElem hlt⟩
      obtain ⟨g, off, ha, hc⟩ := (HN.out.ext HG.out.mod).k.one hx
      have Hx := hid hx
      rw [ha]
      have HA := hid ha
      clear ha hx
      by_cases hin : k < n.kids.length
      · skip
        obtain ⟨v, hvv⟩ : ∃ v, n.kids[k]? = some v := ⟨_, List.getElem?_eq_getElem hin⟩
        obtain ⟨gv, ov, hav, hcv⟩ := (HN.out.ext HG.out.mod).i.one hvv
        have hcv2 : (wr.alloc (.cells #[.string x, .string ⟨#[]⟩, .int .i64 0] 51)).cell? ⟨gv, ov + k, none⟩ = some (.int .i64 v) := (((Mod.refl (fun _ => False) wr).alloc _).cell (World.block_lt_of_cell? _ _ hcv) (fun h => h)).trans hcv
        have d1 : decide ((k : Int) < (n.kids.length : Int)) = true := by rw [decide_eq_true_iff]; omega
        rw [hav]
        have HAV := hid hav
        clear hav
        have hent : entAt n k = ⟨x, ⟨#[]⟩, v⟩ := by unfold entAt valueOf kidOf; rw [HL.out, Hx.out, hvv]; rfl
        have hmA : Mod (fun _ => False) wr (wr.alloc (.cells #[.string x, .string ⟨#[]⟩, .int .i64 v] 51)) := (Mod.refl _ _).alloc _
        have HO1 : Hid (Own (wr.alloc (.cells #[.string x, .string ⟨#[]⟩, .int .i64 v] 51)) 51 3 sa k cp ((upE n k).flatMap Ent.cs)) := by have := HG.out.own.mod hmA (fun _ _ h => h); rw [upE_len] at this; exact this
        have hmB : Mod (fun _ => False) wr ((wr.alloc (.cells #[.string x, .string ⟨#[]⟩, .int .i64 v] 51)).alloc (.cells #[.string x, .string ⟨#[]⟩, .int .i64 v] 51)) := hmA.alloc _
        have HO2 : Hid (Own ((wr.alloc (.cells #[.string x, .string ⟨#[]⟩, .int .i64 v] 51)).alloc (.cells #[.string x, .string ⟨#[]⟩, .int .i64 v] 51)) 51 3 sa k cp ((upE n k).flatMap Ent.cs)) := HO1.out.mod (S := fun _ => False) ((Mod.refl _ _).alloc _) (fun _ _ h => h)
        have hs2 : ((wr.alloc (.cells #[.string x, .string ⟨#[]⟩, .int .i64 v] 51)).alloc (.cells #[.string x, .string ⟨#[]⟩, .int .i64 v] 51)).heap[wr.heap.size + 1]? = some (.cells #[.string x, .string ⟨#[]⟩, .int .i64 v] 51 (0, 0)) := by have := heap_alloc_new (wr.alloc (.cells #[.string x, .string ⟨#[]⟩, .int .i64 v] 51)) (.cells #[.string x, .string ⟨#[]⟩, .int .i64 v] 51); simpa using this
        have HS2 : Hid (Src ((wr.alloc (.cells #[.string x, .string ⟨#[]⟩, .int .i64 v] 51)).alloc (.cells #[.string x, .string ⟨#[]⟩, .int .i64 v] 51)) 3 (some ⟨wr.heap.size + 1, 0, none⟩) 1 [.string x, .string ⟨#[]⟩, .int .i64 v]) := src_new hs2 rfl
        have HL2 : Hid (∀ w1, Mod (blk sa) ((wr.alloc (.cells #[.string x, .string ⟨#[]⟩, .int .i64 v] 51)).alloc (.cells #[.string x, .string ⟨#[]⟩, .int .i64 v] 51)) w1 → w1.cell? ⟨w.heap.size + 1, 1, none⟩ = some (.slice sa k cp) ∧ w1.frozen? ⟨w.heap.size + 1, 1, none⟩ = false) := fun w1 hm => by have := HG.out.late hmB hm; rw [upE_len] at this; exact this
        have HmB := hid hmB
        have Hent := hid hent
        have HOne := hid (Ent.one ⟨x, ⟨#[]⟩, v⟩)
        have ne1 : wr.heap.size ≠ w.heap.size + 1 := by omega
        clear hmA hmB hs2 hent hvv
        go_wp2_with (at_builtin; refine wpList_append_Own rfl (.tmp 51) (.tmp 53) 30 rfl 51 i0 _ 3 40 Try.underlying30 hi hz0 hz1 hz2 rfl sa k cp _ rfl HO2.out (some ⟨wr.heap.size + 1, 0, none⟩) 1 1 _ rfl HS2.out HOne.out (by unfold maxLen; omega) (by omega) ?_; intro sa' cp' w7 hown7 hm7 hb7 hn7 hr7; obtain ⟨k0, k1⟩ := HL2.out w7 hm7; have Hown7 := hid hown7; have Hm7 := hid hm7; have Hb7 := hid hb7; clear hown7 hm7 hb7 hn7 hr7)
        go_roundw
        case rel =>
          have hgr := HG.out.grown HmB.out Hm7.out (x := ⟨x, ⟨#[]⟩, v⟩) (sa' := sa') (cap' := cp') (by rw [upE_len]; exact Hown7.out) Hb7.out
          rw [upE_len] at hgr
          exact ⟨k + 1, sa', cp', by omega, by go_num, by rw [upE_succ, Hent.out]; exact hgr⟩
        case measure => simp [intOf]; omega

      · skip
        have d1 : decide ((k : Int) < (n.kids.length : Int)) = false := by rw [decide_eq_false_iff_not]; omega
        have hent : entAt n k = ⟨x, ⟨#[]⟩, 0⟩ := by unfold entAt valueOf kidOf; rw [HL.out, Hx.out, List.getElem?_eq_none (l := n.kids) (by omega)]; rfl
        have hmA : Mod (fun _ => False) wr (wr.alloc (.cells #[.string x, .string ⟨#[]⟩, .int .i64 0] 51)) := (Mod.refl _ _).alloc _
        have HO1 : Hid (Own (wr.alloc (.cells #[.string x, .string ⟨#[]⟩, .int .i64 0] 51)) 51 3 sa k cp ((upE n k).flatMap Ent.cs)) := by have := HG.out.own.mod hmA (fun _ _ h => h); rw [upE_len] at this; exact this
        have hmB : Mod (fun _ => False) wr ((wr.alloc (.cells #[.string x, .string ⟨#[]⟩, .int .i64 0] 51)).alloc (.cells #[.string x, .string ⟨#[]⟩, .int .i64 0] 51)) := hmA.alloc _
        have HO2 : Hid (Own ((wr.alloc (.cells #[.string x, .string ⟨#[]⟩, .int .i64 0] 51)).alloc (.cells #[.string x, .string ⟨#[]⟩, .int .i64 0] 51)) 51 3 sa k cp ((upE n k).flatMap Ent.cs)) := HO1.out.mod (S := fun _ => False) ((Mod.refl _ _).alloc _) (fun _ _ h => h)
        have hs2 : ((wr.alloc (.cells #[.string x, .string ⟨#[]⟩, .int .i64 0] 51)).alloc (.cells #[.string x, .string ⟨#[]⟩, .int .i64 0] 51)).heap[wr.heap.size + 1]? = some (.cells #[.string x, .string ⟨#[]⟩, .int .i64 0] 51 (0, 0)) := by have := heap_alloc_new (wr.alloc (.cells #[.string x, .string ⟨#[]⟩, .int .i64 0] 51)) (.cells #[.string x, .string ⟨#[]⟩, .int .i64 0] 51); simpa using this
        have HS2 : Hid (Src ((wr.alloc (.cells #[.string x, .string ⟨#[]⟩, .int .i64 0] 51)).alloc (.cells #[.string x, .string ⟨#[]⟩, .int .i64 0] 51)) 3 (some ⟨wr.heap.size + 1, 0, none⟩) 1 [.string x, .string ⟨#[]⟩, .int .i64 0]) := src_new hs2 rfl
        have HL2 : Hid (∀ w1, Mod (blk sa) ((wr.alloc (.cells #[.string x, .string ⟨#[]⟩, .int .i64 0] 51)).alloc (.cells #[.string x, .string ⟨#[]⟩, .int .i64 0] 51)) w1 → w1.cell? ⟨w.heap.size + 1, 1, none⟩ = some (.slice sa k cp) ∧ w1.frozen? ⟨w.heap.size + 1, 1, none⟩ = false) := fun w1 hm => by have := HG.out.late hmB hm; rw [upE_len] at this; exact this
        have HmB := hid hmB
        have Hent := hid hent
        have HOne := hid (Ent.one ⟨x, ⟨#[]⟩, 0⟩)
        have ne1 : wr.heap.size ≠ w.heap.size + 1 := by omega
        clear hmA hmB hs2 hent
        go_wp2_with (at_builtin; refine wpList_append_Own rfl (.tmp 51) (.tmp 53) 30 rfl 51 i0 _ 3 40 Try.underlying30 hi hz0 hz1 hz2 rfl sa k cp _ rfl HO2.out (some ⟨wr.heap.size + 1, 0, none⟩) 1 1 _ rfl HS2.out HOne.out (by unfold maxLen; omega) (by omega) ?_; intro sa' cp' w7 hown7 hm7 hb7 hn7 hr7; obtain ⟨k0, k1⟩ := HL2.out w7 hm7; have Hown7 := hid hown7; have Hm7 := hid hm7; have Hb7 := hid hb7; clear hown7 hm7 hb7 hn7 hr7)
        go_roundw
        case rel =>
          have hgr := HG.out.grown HmB.out Hm7.out (x := ⟨x, ⟨#[]⟩, 0⟩) (sa' := sa') (cap' := cp') (by rw [upE_len]; exact Hown7.out) Hb7.out
          rw [upE_len] at hgr
          exact ⟨k + 1, sa', cp', by omega, by go_num, by rw [upE_succ, Hent.out]; exact hgr⟩
        case measure => simp [intOf]; omega

    · have hke : k = n.keys.length := by omega
      subst hke
      have hR := (HG.out.mod.block _ (lt_of_heap HR0.out) (fun h => h)).trans HR0.out
      have r0 : wr.cell? ⟨w.heap.size, 0, none⟩ = some (.bool false) := by rw [cell_of_row _ _ _ _ _ _ hR]; rfl
      have r1 : wr.cell? ⟨w.heap.size, 1, none⟩ = some (.slice none 0 0) := by rw [cell_of_row _ _ _ _ _ _ hR]; rfl
      have f0 := frozen_of_row _ _ 0 _ _ hR
      have f1 := frozen_of_row _ _ 1 _ _ hR
      have hb1 := heap_setCell_same wr w.heap.size 0 _ 32 (.bool false) hR
      have hb2 := heap_setCell_same _ w.heap.size 1 _ 32 (.slice sa n.keys.length cp) hb1
      have g0 : ((wr.setCell ⟨w.heap.size, 0, none⟩ (.bool false)).setCell ⟨w.heap.size, 1, none⟩ (.slice sa n.keys.length cp)).cell? ⟨w.heap.size, 0, none⟩ = some (.bool false) := by rw [cell_of_row _ _ _ _ _ _ hb2]; rfl
      have g1 : ((wr.setCell ⟨w.heap.size, 0, none⟩ (.bool false)).setCell ⟨w.heap.size, 1, none⟩ (.slice sa n.keys.length cp)).cell? ⟨w.heap.size, 1, none⟩ = some (.slice sa n.keys.length cp) := by rw [cell_of_row _ _ _ _ _ _ hb2]; rfl
      have hm2 : Mod (fun k => k = w.heap.size) wr ((wr.setCell ⟨w.heap.size, 0, none⟩ (.bool false)).setCell ⟨w.heap.size, 1, none⟩ (.slice sa n.keys.length cp)) := Mod.setCell (S := fun k => k = w.heap.size) (Mod.setCell (S := fun k => k = w.heap.size) (Mod.refl _ _) (fun _ => rfl) _) (fun _ => rfl) _
      have HO2 : Hid (Own ((wr.setCell ⟨w.heap.size, 0, none⟩ (.bool false)).setCell ⟨w.heap.size, 1, none⟩ (.slice sa n.keys.length cp)) 51 3 sa n.keys.length cp (n.ents.flatMap Ent.cs)) := by
        have := HG.out.own.mod hm2 (fun k hk e => by have := HG.out.los k hk; rw [HSz.out] at this; omega)
        rw [upE_len] at this
        exact this
      have HM2 := hid ((HM0.out.trans HG.out.mod).then hm2 (fun i hi e => by omega))
      clear hR hb1 hb2 hm2
      go_wp2_with fail
      refine bodyPost_ret (v := .agg #[.bool false, .slice sa n.keys.length cp]) (by simp [results, Try.results23, go_sem, g0, g1]) rfl ⟨sa, cp, ?_, ?_, fun k hk => by have := HG.out.los k hk; rw [HSz.out] at this; omega, HM2.out⟩
      · rw [ents_len]
      · exact lies_own HO2.out (ents_len n)

--TAIL
theorem of_any {w : World} {n : Nd} (h : NdAt w n) : Calls Try.prog 23 #[.bool n.leaf, .slice n.ka n.keys.length n.kc, .slice n.va n.values.length n.vc, .slice n.ia n.kids.length n.ic] w fun e w' => OfAns4 w n.leaf n.ents e w' := by
  cases hl : n.leaf with
  | true => exact of_true h hl
  | false => exact of_false h hl

end Go.Proofs.Ythdopgejikcfbaa
