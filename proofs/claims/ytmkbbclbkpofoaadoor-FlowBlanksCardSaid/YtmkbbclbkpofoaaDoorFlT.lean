/- Flow: step and wait (printed by genstep.py) -/
import Derived.Test.YtmkbbclbkpofoaaDoorFlA
namespace Go.Proofs.YtmkbbclbkpofoaaDoor
open Go Go.RowKit

/-- A step as a value. -/
def spV (s : Sp) (la : Option Addr) (cap : Nat) : Value := .agg #[.string s.name, .string s.verb, .string s.undo, .string s.event, .bool s.final, .int .i64 s.retry, .int .i64 s.every, .int .i64 s.within, .slice la s.after.length cap]
/-- What step and wait answer. -/
def StAns (L : Nat) (a : Option Addr) (w : World) (x : Rs Sp) (e : Ending) (w' : World) : Prop :=
  Mod (fun k => k = L) w w' ∧
    match x with
    | .ok s r => (∃ la cap, e = .returned (spV s la cap) ∧ Own w' 9 1 la s.after.length cap (s.after.flatMap strI) ∧ ∀ k, blk la k → w.heap.size ≤ k) ∧ s.after.length ≤ 4096 ∧ ∃ a1 c1, Ln w' L a1 c1 r ∧ ∀ k, blk a1 k → blk a k
    | .bad n => e = fault n

/-- Behind a call: the line's fields that are left, the step's variable and the result's. -/
structure SSt (w W : World) (L : Nat) (a : Option Addr) (sb : Nat) (vs : Array Value) (r : Fs) : Prop where
  mod : Mod (fun k => k = L) w W
  ln : ∃ a1 c1, Ln W L a1 c1 r ∧ ∀ k, blk a1 k → blk a k
  glob : Glob W
  box : W.heap[sb]? = some (.cells vs 40 (0, 0))
  res : W.heap[w.heap.size]? = some (.cells #[.string ⟨#[]⟩, .string ⟨#[]⟩, .string ⟨#[]⟩, .string ⟨#[]⟩, .bool false, .int .i64 0, .int .i64 0, .int .i64 0, .slice none 0 0] 40 (0, 0))
  lo : w.heap.size < sb
  old : ∀ k, blk a k → k < w.heap.size

section
variable {w W : World} {L : Nat} {a : Option Addr} {sb : Nat} {vs : Array Value} {r : Fs}

theorem SSt.call (h : SSt w W L a sb vs r) (h8 : 8 ≤ L) (hL : L < w.heap.size) {W' : World} {r' : Fs} (hm : Mod (fun k => k = L) W W') (hl : ∃ a1 c1, Ln W' L a1 c1 r' ∧ ∀ k, blk a1 k → blk a k) : SSt w W' L a sb vs r' :=
  ⟨h.mod.trans hm, hl, h.glob.mod hm (fun k hk => by omega), (hm.block sb (lt_of_heap h.box) (by have := h.lo; omega)).trans h.box, (hm.block _ (lt_of_heap h.res) (by omega)).trans h.res, h.lo, h.old⟩

theorem SSt.put (h : SSt w W L a sb vs r) (h8 : 8 ≤ w.heap.size) (hL : L < w.heap.size) (j : Nat) (u : Value) {vs' : Array Value} (hb : (W.setCell ⟨sb, j, none⟩ u).heap[sb]? = some (.cells vs' 40 (0, 0))) : SSt w (W.setCell ⟨sb, j, none⟩ u) L a sb vs' r := by
  have hm : Mod (fun k => k = sb) W (W.setCell ⟨sb, j, none⟩ u) := Mod.setCell (S := fun k => k = sb) (Mod.refl _ _) (fun _ => rfl) _
  have hlo := h.lo
  obtain ⟨a1, c1, hl, hb1⟩ := h.ln
  exact ⟨h.mod.then hm (fun i hi e => by omega), ⟨a1, c1, hl.mod hm (by omega) (fun _ k hk e => by have := h.old k (hb1 k hk); omega), hb1⟩, h.glob.mod hm (fun k hk => by omega), hb, (hm.block _ (lt_of_heap h.res) (by omega)).trans h.res, hlo, h.old⟩

theorem SSt.rebk (h : SSt w W L a sb vs r) {a0 : Option Addr} {W' : World} {r' : Fs} (hl : ∃ a1 c1, Ln W' L a1 c1 r' ∧ ∀ k, blk a1 k → blk a0 k) (hb : ∀ k, blk a0 k → blk a k) : ∃ a1 c1, Ln W' L a1 c1 r' ∧ ∀ k, blk a1 k → blk a k := by
  have _ := h
  obtain ⟨a1, c1, h1, h2⟩ := hl
  exact ⟨a1, c1, h1, fun k hk => hb k (h2 k hk)⟩
end

theorem rebk {W' : World} {L : Nat} {r' : Fs} {a0 a : Option Addr} (hl : ∃ a1 c1, Ln W' L a1 c1 r' ∧ ∀ k, blk a1 k → blk a0 k) (hb : ∀ k, blk a0 k → blk a k) : ∃ a1 c1, Ln W' L a1 c1 r' ∧ ∀ k, blk a1 k → blk a k := by
  obtain ⟨a1, c1, h1, h2⟩ := hl
  exact ⟨a1, c1, h1, fun k hk => hb k (h2 k hk)⟩

theorem row9 {V : World} {b : Nat} {v0 v1 v2 v3 v4 v5 v6 v7 v8 : Value} {T : TypeId} (h : V.heap[b]? = some (.cells #[v0, v1, v2, v3, v4, v5, v6, v7, v8] T (0, 0))) :
    (V.cell? ⟨b, 0, none⟩ = some v0 ∧ V.cell? ⟨b, 1, none⟩ = some v1 ∧ V.cell? ⟨b, 2, none⟩ = some v2 ∧ V.cell? ⟨b, 3, none⟩ = some v3 ∧ V.cell? ⟨b, 4, none⟩ = some v4 ∧ V.cell? ⟨b, 5, none⟩ = some v5 ∧ V.cell? ⟨b, 6, none⟩ = some v6 ∧ V.cell? ⟨b, 7, none⟩ = some v7 ∧ V.cell? ⟨b, 8, none⟩ = some v8) ∧ ∀ j, V.frozen? ⟨b, j, none⟩ = false :=
  ⟨⟨by rw [cell_of_row _ _ _ _ _ _ h]; rfl, by rw [cell_of_row _ _ _ _ _ _ h]; rfl, by rw [cell_of_row _ _ _ _ _ _ h]; rfl, by rw [cell_of_row _ _ _ _ _ _ h]; rfl, by rw [cell_of_row _ _ _ _ _ _ h]; rfl, by rw [cell_of_row _ _ _ _ _ _ h]; rfl, by rw [cell_of_row _ _ _ _ _ _ h]; rfl, by rw [cell_of_row _ _ _ _ _ _ h]; rfl, by rw [cell_of_row _ _ _ _ _ _ h]; rfl⟩, fun j => frozen_of_row _ _ j _ _ h⟩

/-- All nine cells of a block are written. -/
theorem put9 {V : World} {b : Nat} {T : TypeId} {u0 u1 u2 u3 u4 u5 u6 u7 u8 : Value} (h : V.heap[b]? = some (.cells #[u0, u1, u2, u3, u4, u5, u6, u7, u8] T (0, 0))) (v0 v1 v2 v3 v4 v5 v6 v7 v8 : Value) :
    (((((((((V.setCell ⟨b, 0, none⟩ v0).setCell ⟨b, 1, none⟩ v1).setCell ⟨b, 2, none⟩ v2).setCell ⟨b, 3, none⟩ v3).setCell ⟨b, 4, none⟩ v4).setCell ⟨b, 5, none⟩ v5).setCell ⟨b, 6, none⟩ v6).setCell ⟨b, 7, none⟩ v7).setCell ⟨b, 8, none⟩ v8).heap[b]? = some (.cells #[v0, v1, v2, v3, v4, v5, v6, v7, v8] T (0, 0)) ∧ Mod (fun k => k = b) V (((((((((V.setCell ⟨b, 0, none⟩ v0).setCell ⟨b, 1, none⟩ v1).setCell ⟨b, 2, none⟩ v2).setCell ⟨b, 3, none⟩ v3).setCell ⟨b, 4, none⟩ v4).setCell ⟨b, 5, none⟩ v5).setCell ⟨b, 6, none⟩ v6).setCell ⟨b, 7, none⟩ v7).setCell ⟨b, 8, none⟩ v8) := by
  have h0 : (V.setCell ⟨b, 0, none⟩ v0).heap[b]? = some (.cells #[v0, u1, u2, u3, u4, u5, u6, u7, u8] T (0, 0)) := heap_setCell_same _ b 0 _ T v0 h
  have h1 : ((V.setCell ⟨b, 0, none⟩ v0).setCell ⟨b, 1, none⟩ v1).heap[b]? = some (.cells #[v0, v1, u2, u3, u4, u5, u6, u7, u8] T (0, 0)) := heap_setCell_same _ b 1 _ T v1 h0
  have h2 : (((V.setCell ⟨b, 0, none⟩ v0).setCell ⟨b, 1, none⟩ v1).setCell ⟨b, 2, none⟩ v2).heap[b]? = some (.cells #[v0, v1, v2, u3, u4, u5, u6, u7, u8] T (0, 0)) := heap_setCell_same _ b 2 _ T v2 h1
  have h3 : ((((V.setCell ⟨b, 0, none⟩ v0).setCell ⟨b, 1, none⟩ v1).setCell ⟨b, 2, none⟩ v2).setCell ⟨b, 3, none⟩ v3).heap[b]? = some (.cells #[v0, v1, v2, v3, u4, u5, u6, u7, u8] T (0, 0)) := heap_setCell_same _ b 3 _ T v3 h2
  have h4 : (((((V.setCell ⟨b, 0, none⟩ v0).setCell ⟨b, 1, none⟩ v1).setCell ⟨b, 2, none⟩ v2).setCell ⟨b, 3, none⟩ v3).setCell ⟨b, 4, none⟩ v4).heap[b]? = some (.cells #[v0, v1, v2, v3, v4, u5, u6, u7, u8] T (0, 0)) := heap_setCell_same _ b 4 _ T v4 h3
  have h5 : ((((((V.setCell ⟨b, 0, none⟩ v0).setCell ⟨b, 1, none⟩ v1).setCell ⟨b, 2, none⟩ v2).setCell ⟨b, 3, none⟩ v3).setCell ⟨b, 4, none⟩ v4).setCell ⟨b, 5, none⟩ v5).heap[b]? = some (.cells #[v0, v1, v2, v3, v4, v5, u6, u7, u8] T (0, 0)) := heap_setCell_same _ b 5 _ T v5 h4
  have h6 : (((((((V.setCell ⟨b, 0, none⟩ v0).setCell ⟨b, 1, none⟩ v1).setCell ⟨b, 2, none⟩ v2).setCell ⟨b, 3, none⟩ v3).setCell ⟨b, 4, none⟩ v4).setCell ⟨b, 5, none⟩ v5).setCell ⟨b, 6, none⟩ v6).heap[b]? = some (.cells #[v0, v1, v2, v3, v4, v5, v6, u7, u8] T (0, 0)) := heap_setCell_same _ b 6 _ T v6 h5
  have h7 : ((((((((V.setCell ⟨b, 0, none⟩ v0).setCell ⟨b, 1, none⟩ v1).setCell ⟨b, 2, none⟩ v2).setCell ⟨b, 3, none⟩ v3).setCell ⟨b, 4, none⟩ v4).setCell ⟨b, 5, none⟩ v5).setCell ⟨b, 6, none⟩ v6).setCell ⟨b, 7, none⟩ v7).heap[b]? = some (.cells #[v0, v1, v2, v3, v4, v5, v6, v7, u8] T (0, 0)) := heap_setCell_same _ b 7 _ T v7 h6
  have h8 : (((((((((V.setCell ⟨b, 0, none⟩ v0).setCell ⟨b, 1, none⟩ v1).setCell ⟨b, 2, none⟩ v2).setCell ⟨b, 3, none⟩ v3).setCell ⟨b, 4, none⟩ v4).setCell ⟨b, 5, none⟩ v5).setCell ⟨b, 6, none⟩ v6).setCell ⟨b, 7, none⟩ v7).setCell ⟨b, 8, none⟩ v8).heap[b]? = some (.cells #[v0, v1, v2, v3, v4, v5, v6, v7, v8] T (0, 0)) := heap_setCell_same _ b 8 _ T v8 h7
  refine ⟨h8, ?_⟩
  iterate 9 refine Mod.setCell (S := fun k => k = b) ?_ (fun _ => rfl) _
  exact Mod.refl _ _
theorem bind_ok {α β : Type} (v : α) (r : Fs) (f : α → Fs → Rs β) : (Rs.ok v r).bind f = f v r := rfl
theorem bind_bad {α β : Type} (e : Int) (f : α → Fs → Rs β) : (Rs.bad e : Rs α).bind f = .bad e := rfl
set_option maxRecDepth 100000 in
set_option maxHeartbeats 8000000 in
theorem step_any {w : World} {L c : Nat} {a : Option Addr} {fs : Fs} (hg : Glob w) (h : Ln w L a c fs) (h8 : 8 ≤ L) (hold : ∀ k, blk a k → k < w.heap.size) : Calls Tryd.prog 29 #[.pointer (some ⟨L, 0, none⟩)] w fun e w' => StAns L a w (stepP fs) e w' := by
  have hL := lt_of_heap h.box
  have hw8 : 8 ≤ w.heap.size := by omega
  have hma : Mod (fun _ => False) w (w.alloc (.cells #[.string ⟨#[]⟩, .string ⟨#[]⟩, .string ⟨#[]⟩, .string ⟨#[]⟩, .bool false, .int .i64 0, .int .i64 0, .int .i64 0, .slice none 0 0] 40)) := (Mod.refl _ _).alloc _
  have HR0 := hid (heap_alloc_new w (.cells #[.string ⟨#[]⟩, .string ⟨#[]⟩, .string ⟨#[]⟩, .string ⟨#[]⟩, .bool false, .int .i64 0, .int .i64 0, .int .i64 0, .slice none 0 0] 40))
  have HH := hid (h.ext hma)
  have HG := hid (hg.ext hma)
  have HM := hid (hma.mono (T := fun k => k = L) (fun _ _ h => h.elim))
  have HOld := hid hold
  obtain ⟨x, hx⟩ : ∃ x, stepP fs = x := ⟨_, rfl⟩
  have HX := hid hx
  unfold stepP at HX
  rw [hx]
  clear h hg hma hx hold
  go_enter Tryd.func29, Tryd.ntmps29
  go_upto_region 1 with fail
  generalize w.alloc (.cells #[.string ⟨#[]⟩, .string ⟨#[]⟩, .string ⟨#[]⟩, .string ⟨#[]⟩, .bool false, .int .i64 0, .int .i64 0, .int .i64 0, .slice none 0 0] 40) = V0 at *
  have HW := hid (word_any HH.out)
  cases hx1 : wordP fs with
  | bad n =>
    rw [hx1] at HW
    rw [hx1, bind_bad] at HX
    obtain rfl := HX.out
    clear hx1
    go_wp2_with (go_at_call 28; refine HW.out.mono ?_; rintro e w1 ⟨hm, he⟩; have HM1 := hid (HM.out.trans hm); simp only [fault] at he; subst he; clear hm)
    exact ⟨rfl, HM1.out, rfl⟩
  | ok nm r1 =>
    rw [hx1] at HW
    rw [hx1, bind_ok] at HX
    clear hx1
    cases hx2 : verbP r1 with
    | bad n =>
      rw [hx2, bind_bad] at HX
      obtain rfl := HX.out
      go_wp2_with (first
        | (go_at_call 28; refine HW.out.mono ?_; rintro e w1 ⟨hm, rfl, a1, c1, hl1, hb1⟩; have hg1 := HG.out.mod hm (fun k hk => by omega); have HS := hid (verb_any hg1 hl1); rw [hx2] at HS; have HM1 := hid (HM.out.trans hm); have HR1 := hid ((hm.block _ (lt_of_heap HR0.out) (by omega)).trans HR0.out); have HG1 := hid hg1; have HB1 := hid hb1; clear hm hl1 hb1 hg1 HW)
        | (go_at_call 38; refine HS.out.mono ?_; rintro e w2 ⟨hm, he⟩; have HM2 := hid (HM1.out.trans hm); simp only [fault] at he; subst he; clear hm))
      exact ⟨rfl, HM2.out, rfl⟩
    | ok vb r2 =>
      rw [hx2, bind_ok] at HX
      go_upto_region 2 with (first
        | (go_at_call 28; refine HW.out.mono ?_; rintro e w1 ⟨hm, rfl, a1, c1, hl1, hb1⟩; have hg1 := HG.out.mod hm (fun k hk => by omega); have HS := hid (verb_any hg1 hl1); rw [hx2] at HS; have HM1 := hid (HM.out.trans hm); have HR1 := hid ((hm.block _ (lt_of_heap HR0.out) (by omega)).trans HR0.out); have HG1 := hid hg1; have HB1 := hid hb1; clear hm hl1 hb1 hg1 HW)
        | (go_at_call 38; refine HS.out.mono ?_; rintro e w2 ⟨hm, rfl, hl⟩; have HM2 := hid (HM1.out.trans hm); have HL2 := hid (rebk hl HB1.out); have HG2 := hid (HG1.out.mod hm (fun k hk => by omega)); have HR2 := hid ((hm.block _ (lt_of_heap HR1.out) (by omega)).trans HR1.out); have hs2 := hm.size; clear hm hl))
      clear hx2
      have HSt : Hid (SSt w (w2.alloc (.cells #[.string nm, .string vb, .string ⟨#[]⟩, .string ⟨#[]⟩, .bool false, .int .i64 0, .int .i64 0, .int .i64 0, .slice none 0 0] 40)) L a w2.heap.size #[.string nm, .string vb, .string ⟨#[]⟩, .string ⟨#[]⟩, .bool false, .int .i64 0, .int .i64 0, .int .i64 0, .slice none 0 0] r2) := hid (by
        obtain ⟨a2, c2, hl2, hb2⟩ := HL2.out
        exact ⟨HM2.out.alloc _, ⟨a2, c2, hl2.ext ((Mod.refl _ _).alloc _), hb2⟩, HG2.out.ext ((Mod.refl _ _).alloc _), heap_alloc_new _ _, (Below.heap_alloc _ _ _ (lt_of_heap HR2.out)).trans HR2.out, lt_of_heap HR2.out, HOld.out⟩)
      clear HM2 HL2 HG2 HR2 HM1 HR1 HG1 HB1 HS HR0 HH HG HM
      generalize w2.alloc (.cells #[.string nm, .string vb, .string ⟨#[]⟩, .string ⟨#[]⟩, .bool false, .int .i64 0, .int .i64 0, .int .i64 0, .slice none 0 0] 40) = V at *
      generalize w2.heap.size = sb at *
      clear hs2
      obtain ⟨axU0, cxU0, hlxU0, hbxU0⟩ := HSt.out.ln
      have HCU0 := hid (has_any wUndo hlxU0)
      have HBxU0 := hid hbxU0
      clear hlxU0 hbxU0
      unfold wUndo at HCU0
      cases hb0 : hasB wUndo r2 with
      | true =>
        rw [show undoP r2 = _ from if_pos hb0] at HX
        rw [hasR_true (show hasB ⟨#[117, 110, 100, 111]⟩ r2 = true from hb0), show hasB ⟨#[117, 110, 100, 111]⟩ r2 = true from hb0] at HCU0
        clear hb0
        generalize r2.drop 1 = r3 at *
        go_upto_region 3 with (go_at_call 27; refine HCU0.out.mono ?_; rintro e wu ⟨rfl, ay, cy, hm, hl, hb⟩; have HSu := hid (HSt.out.call h8 hL hm ⟨ay, cy, hl, fun k hk => HBxU0.out k (hb k hk)⟩); clear hm hl hb)
        obtain ⟨axV1, cxV1, hlxV1, hbxV1⟩ := HSu.out.ln
        have HCV1 := hid (verb_any HSu.out.glob hlxV1)
        have HBxV1 := hid hbxV1
        clear hlxV1 hbxV1
        cases hv1 : verbP r3 with
        | bad n =>
          rw [hv1] at HCV1
          rw [hv1, bind_bad, bind_bad] at HX
          obtain rfl := HX.out
          clear hv1
          go_wp2_with (go_at_call 38; refine HCV1.out.mono ?_; rintro e wz ⟨hm, he⟩; have HMz := hid (HSu.out.mod.trans hm); simp only [fault] at he; subst he; clear hm)
          exact ⟨rfl, HMz.out, rfl⟩
        | ok un r4 =>
          rw [hv1] at HCV1
          rw [hv1, bind_ok, bind_ok] at HX
          clear hv1
          go_upto_region 5 with (go_at_call 38; refine HCV1.out.mono ?_; rintro e wv ⟨hm, rfl, hl⟩; have HSv := hid (HSu.out.call h8 hL hm (rebk hl HBxV1.out)); clear hm hl; obtain ⟨⟨c0, c1, c2, c3, c4, c5, c6, c7, c8⟩, fz⟩ := row9 HSv.out.box; have f0 := fz 0; have f1 := fz 1; have f2 := fz 2; have f3 := fz 3; have f4 := fz 4; have f5 := fz 5; have f6 := fz 6; have f7 := fz 7; have f8 := fz 8; clear fz)
          have HSw := hid (HSv.out.put hw8 hL 2 (.string un) (vs' := #[.string nm, .string vb, .string un, .string ⟨#[]⟩, .bool false, .int .i64 0, .int .i64 0, .int .i64 0, .slice none 0 0]) (heap_setCell_same wv sb 2 _ 40 _ HSv.out.box))
          clear c0 c1 c2 c3 c4 c5 c6 c7 c8 f0 f1 f2 f3 f4 f5 f6 f7 f8
          generalize wv.setCell ⟨sb, 2, none⟩ (.string un) = Ww at *
          obtain ⟨axR1, cxR1, hlxR1, hbxR1⟩ := HSw.out.ln
          have HCR1 := hid (has_any wRetry hlxR1)
          have HBxR1 := hid hbxR1
          clear hlxR1 hbxR1
          unfold wRetry at HCR1
          cases hb2 : hasB wRetry r4 with
          | false =>
            rw [show retryP r4 = .ok (0, 0) r4 from if_neg (by rw [hb2]; exact Bool.false_ne_true), bind_ok] at HX
            rw [hasR_false (show hasB ⟨#[114, 101, 116, 114, 121]⟩ r4 = false from hb2), show hasB ⟨#[114, 101, 116, 114, 121]⟩ r4 = false from hb2] at HCR1
            go_upto_region 9 with (go_at_call 27; refine HCR1.out.mono ?_; rintro e wr ⟨rfl, ay, cy, hm, hl, hb⟩; have HSr := hid (HSw.out.call h8 hL hm ⟨ay, cy, hl, fun k hk => HBxR1.out k (hb k hk)⟩); clear hm hl hb)
            obtain ⟨axA2, cxA2, hlxA2, hbxA2⟩ := HSr.out.ln
            have HCA2 := hid (after_any hlxA2)
            have HBxA2 := hid hbxA2
            clear hlxA2 hbxA2
            cases hxa : afterP r4 with
            | bad n =>
              rw [hxa] at HCA2
              rw [hxa, bind_bad] at HX
              obtain rfl := HX.out
              clear hxa
              go_wp2_with (go_at_call 41; refine HCA2.out.mono ?_; rintro e wz ⟨hm, he⟩; have HMz := hid (HSr.out.mod.trans hm); simp only [fault] at he; subst he; clear hm)
              exact ⟨rfl, HMz.out, rfl⟩
            | ok l rz =>
              rw [hxa] at HCA2
              rw [hxa, bind_ok] at HX
              obtain rfl := HX.out
              clear hxa
              go_upto_region 10 with (go_at_call 41; refine HCA2.out.mono ?_; rintro e wa ⟨hm, ⟨la, cap, rfl, ho, hnw⟩, hle, hl⟩; have HSa := hid (HSr.out.call h8 hL hm (rebk hl HBxA2.out)); have HO := hid ho; have HNw : Hid (∀ k, blk la k → w.heap.size < k ∧ k ≠ sb) := hid (fun k hk => by have := hnw k hk; have := HSr.out.lo; have := lt_of_heap HSr.out.box; omega); have HLe := hid hle; clear hm hl ho hnw hle; obtain ⟨⟨c0, c1, c2, c3, c4, c5, c6, c7, c8⟩, fz⟩ := row9 HSa.out.box; have f0 := fz 0; have f1 := fz 1; have f2 := fz 2; have f3 := fz 3; have f4 := fz 4; have f5 := fz 5; have f6 := fz 6; have f7 := fz 7; have f8 := fz 8; clear fz)
              have HOb := hid (HO.out.mod (S := fun k => k = sb) (Mod.setCell (S := fun k => k = sb) (Mod.refl _ _) (fun _ => rfl) _ : Mod (fun k => k = sb) wa (wa.setCell ⟨sb, 8, none⟩ (.slice la l.length cap))) (fun k hk e => (HNw.out k hk).2 e))
              have HSb := hid (HSa.out.put hw8 hL 8 (.slice la l.length cap) (vs' := #[.string nm, .string vb, .string un, .string ⟨#[]⟩, .bool false, .int .i64 0, .int .i64 0, .int .i64 0, .slice la l.length cap]) (heap_setCell_same wa sb 8 _ 40 _ HSa.out.box))
              clear c0 c1 c2 c3 c4 c5 c6 c7 c8 f0 f1 f2 f3 f4 f5 f6 f7 f8
              generalize wa.setCell ⟨sb, 8, none⟩ (.slice la l.length cap) = Wb at *
              obtain ⟨⟨c0, c1, c2, c3, c4, c5, c6, c7, c8⟩, fz⟩ := row9 HSb.out.box
              have f0 := fz 0
              have f1 := fz 1
              have f2 := fz 2
              have f3 := fz 3
              have f4 := fz 4
              have f5 := fz 5
              have f6 := fz 6
              have f7 := fz 7
              have f8 := fz 8
              clear fz
              obtain ⟨⟨d0, d1, d2, d3, d4, d5, d6, d7, d8⟩, gz⟩ := row9 HSb.out.res
              have g0 := gz 0
              have g1 := gz 1
              have g2 := gz 2
              have g3 := gz 3
              have g4 := gz 4
              have g5 := gz 5
              have g6 := gz 6
              have g7 := gz 7
              have g8 := gz 8
              clear gz
              go_wp2_with fail
              obtain ⟨q1, q2⟩ := put9 HSb.out.res (.string nm) (.string vb) (.string un) (.string ⟨#[]⟩) (.bool false) (.int .i64 0) (.int .i64 0) (.int .i64 0) (.slice la l.length cap)
              have HMq := hid (HSb.out.mod.then q2 (fun i hi e => by omega))
              have HLq : Hid (∃ a1 c1, Ln _ L a1 c1 rz ∧ ∀ k, blk a1 k → blk a k) := hid (by
                obtain ⟨a1, c1, hl, hb⟩ := HSb.out.ln
                exact ⟨a1, c1, hl.mod q2 (by omega) (fun _ k hk e => by have := HSb.out.old k (hb k hk); omega), hb⟩)
              have HOq := hid (HOb.out.mod q2 (fun k hk e => by have := (HNw.out k hk).1; omega))
              obtain ⟨⟨z0, z1, z2, z3, z4, z5, z6, z7, z8⟩, _⟩ := row9 q1
              have HNq : Hid (∀ k, blk la k → w.heap.size ≤ k) := hid (fun k hk => Nat.le_of_lt (HNw.out k hk).1)
              refine bodyPost_ret (v := spV ⟨nm, vb, un, emp, false, 0, 0, 0, l⟩ la cap) (by simp [spV, emp, results, Tryd.results29, go_sem, z0, z1, z2, z3, z4, z5, z6, z7, z8]) rfl ⟨HMq.out, ⟨la, cap, rfl, HOq.out, HNq.out⟩, HLe.out, HLq.out⟩
          | true =>
            rw [show retryP r4 = _ from if_pos hb2] at HX
            rw [hasR_true (show hasB ⟨#[114, 101, 116, 114, 121]⟩ r4 = true from hb2), show hasB ⟨#[114, 101, 116, 114, 121]⟩ r4 = true from hb2] at HCR1
            clear hb2
            generalize r4.drop 1 = q1 at *
            go_upto_region 6 with (go_at_call 27; refine HCR1.out.mono ?_; rintro e wr ⟨rfl, ay, cy, hm, hl, hb⟩; have HSr := hid (HSw.out.call h8 hL hm ⟨ay, cy, hl, fun k hk => HBxR1.out k (hb k hk)⟩); clear hm hl hb)
            obtain ⟨axN3, cxN3, hlxN3, hbxN3⟩ := HSr.out.ln
            have HCN3 := hid (num_any 0 5 HSr.out.glob hlxN3 (by decide) (by decide))
            have HBxN3 := hid hbxN3
            clear hlxN3 hbxN3
            cases hn1 : numP 0 5 q1 with
            | bad n =>
              rw [hn1] at HCN3
              rw [hn1, bind_bad, bind_bad] at HX
              obtain rfl := HX.out
              clear hn1
              go_wp2_with (go_at_call 39; refine HCN3.out.mono ?_; rintro e wz ⟨hm, he⟩; have HMz := hid (HSr.out.mod.trans hm); simp only [fault] at he; subst he; clear hm)
              exact ⟨rfl, HMz.out, rfl⟩
            | ok rt q2 =>
              rw [hn1] at HCN3
              rw [hn1, bind_ok] at HX
              clear hn1
              go_upto_region 7 with (go_at_call 39; refine HCN3.out.mono ?_; rintro e wn ⟨hm, rfl, hl⟩; have HSn := hid (HSr.out.call h8 hL hm (rebk hl HBxN3.out)); clear hm hl; obtain ⟨⟨c0, c1, c2, c3, c4, c5, c6, c7, c8⟩, fz⟩ := row9 HSn.out.box; have f0 := fz 0; have f1 := fz 1; have f2 := fz 2; have f3 := fz 3; have f4 := fz 4; have f5 := fz 5; have f6 := fz 6; have f7 := fz 7; have f8 := fz 8; clear fz)
              have HSm := hid (HSn.out.put hw8 hL 5 (.int .i64 rt) (vs' := #[.string nm, .string vb, .string un, .string ⟨#[]⟩, .bool false, .int .i64 rt, .int .i64 0, .int .i64 0, .slice none 0 0]) (heap_setCell_same wn sb 5 _ 40 _ HSn.out.box))
              clear c0 c1 c2 c3 c4 c5 c6 c7 c8 f0 f1 f2 f3 f4 f5 f6 f7 f8
              generalize wn.setCell ⟨sb, 5, none⟩ (.int .i64 rt) = Wm at *
              obtain ⟨axK4, cxK4, hlxK4, hbxK4⟩ := HSm.out.ln
              have HCK4 := hid (key_any wEvery hlxK4)
              have HBxK4 := hid hbxK4
              clear hlxK4 hbxK4
              unfold wEvery at HCK4
              cases hk1 : keyP wEvery q2 with
              | bad n =>
                rw [show keyP ⟨#[101, 118, 101, 114, 121]⟩ q2 = _ from hk1] at HCK4
                rw [hk1, bind_bad, bind_bad] at HX
                obtain rfl := HX.out
                clear hk1
                go_wp2_with (go_at_call 40; refine HCK4.out.mono ?_; rintro e wz ⟨hm, he⟩; have HMz := hid (HSm.out.mod.trans hm); simp only [fault] at he; subst he; clear hm)
                exact ⟨rfl, HMz.out, rfl⟩
              | ok ev q3 =>
                rw [show keyP ⟨#[101, 118, 101, 114, 121]⟩ q2 = _ from hk1] at HCK4
                rw [hk1, bind_ok] at HX
                clear hk1
                go_upto_region 8 with (go_at_call 40; refine HCK4.out.mono ?_; rintro e wk ⟨hm, rfl, hl⟩; have HSk := hid (HSm.out.call h8 hL hm (rebk hl HBxK4.out)); clear hm hl)
                obtain ⟨axN5, cxN5, hlxN5, hbxN5⟩ := HSk.out.ln
                have HCN5 := hid (num_any 1 100 HSk.out.glob hlxN5 (by decide) (by decide))
                have HBxN5 := hid hbxN5
                clear hlxN5 hbxN5
                cases hn2 : numP 1 100 q3 with
                | bad n =>
                  rw [hn2] at HCN5
                  rw [hn2, bind_bad, bind_bad] at HX
                  obtain rfl := HX.out
                  clear hn2
                  go_wp2_with (go_at_call 39; refine HCN5.out.mono ?_; rintro e wz ⟨hm, he⟩; have HMz := hid (HSk.out.mod.trans hm); simp only [fault] at he; subst he; clear hm)
                  exact ⟨rfl, HMz.out, rfl⟩
                | ok et q4 =>
                  rw [hn2] at HCN5
                  rw [hn2, bind_ok, bind_ok] at HX
                  clear hn2
                  go_upto_region 9 with (go_at_call 39; refine HCN5.out.mono ?_; rintro e wn2 ⟨hm, rfl, hl⟩; have HSn2 := hid (HSk.out.call h8 hL hm (rebk hl HBxN5.out)); clear hm hl; obtain ⟨⟨c0, c1, c2, c3, c4, c5, c6, c7, c8⟩, fz⟩ := row9 HSn2.out.box; have f0 := fz 0; have f1 := fz 1; have f2 := fz 2; have f3 := fz 3; have f4 := fz 4; have f5 := fz 5; have f6 := fz 6; have f7 := fz 7; have f8 := fz 8; clear fz)
                  have HSm2 := hid (HSn2.out.put hw8 hL 6 (.int .i64 et) (vs' := #[.string nm, .string vb, .string un, .string ⟨#[]⟩, .bool false, .int .i64 rt, .int .i64 et, .int .i64 0, .slice none 0 0]) (heap_setCell_same wn2 sb 6 _ 40 _ HSn2.out.box))
                  clear c0 c1 c2 c3 c4 c5 c6 c7 c8 f0 f1 f2 f3 f4 f5 f6 f7 f8
                  generalize wn2.setCell ⟨sb, 6, none⟩ (.int .i64 et) = Wm2 at *
                  obtain ⟨axA6, cxA6, hlxA6, hbxA6⟩ := HSm2.out.ln
                  have HCA6 := hid (after_any hlxA6)
                  have HBxA6 := hid hbxA6
                  clear hlxA6 hbxA6
                  cases hxa : afterP q4 with
                  | bad n =>
                    rw [hxa] at HCA6
                    rw [hxa, bind_bad] at HX
                    obtain rfl := HX.out
                    clear hxa
                    go_wp2_with (go_at_call 41; refine HCA6.out.mono ?_; rintro e wz ⟨hm, he⟩; have HMz := hid (HSm2.out.mod.trans hm); simp only [fault] at he; subst he; clear hm)
                    exact ⟨rfl, HMz.out, rfl⟩
                  | ok l rz =>
                    rw [hxa] at HCA6
                    rw [hxa, bind_ok] at HX
                    obtain rfl := HX.out
                    clear hxa
                    go_upto_region 10 with (go_at_call 41; refine HCA6.out.mono ?_; rintro e wa ⟨hm, ⟨la, cap, rfl, ho, hnw⟩, hle, hl⟩; have HSa := hid (HSm2.out.call h8 hL hm (rebk hl HBxA6.out)); have HO := hid ho; have HNw : Hid (∀ k, blk la k → w.heap.size < k ∧ k ≠ sb) := hid (fun k hk => by have := hnw k hk; have := HSm2.out.lo; have := lt_of_heap HSm2.out.box; omega); have HLe := hid hle; clear hm hl ho hnw hle; obtain ⟨⟨c0, c1, c2, c3, c4, c5, c6, c7, c8⟩, fz⟩ := row9 HSa.out.box; have f0 := fz 0; have f1 := fz 1; have f2 := fz 2; have f3 := fz 3; have f4 := fz 4; have f5 := fz 5; have f6 := fz 6; have f7 := fz 7; have f8 := fz 8; clear fz)
                    have HOb := hid (HO.out.mod (S := fun k => k = sb) (Mod.setCell (S := fun k => k = sb) (Mod.refl _ _) (fun _ => rfl) _ : Mod (fun k => k = sb) wa (wa.setCell ⟨sb, 8, none⟩ (.slice la l.length cap))) (fun k hk e => (HNw.out k hk).2 e))
                    have HSb := hid (HSa.out.put hw8 hL 8 (.slice la l.length cap) (vs' := #[.string nm, .string vb, .string un, .string ⟨#[]⟩, .bool false, .int .i64 rt, .int .i64 et, .int .i64 0, .slice la l.length cap]) (heap_setCell_same wa sb 8 _ 40 _ HSa.out.box))
                    clear c0 c1 c2 c3 c4 c5 c6 c7 c8 f0 f1 f2 f3 f4 f5 f6 f7 f8
                    generalize wa.setCell ⟨sb, 8, none⟩ (.slice la l.length cap) = Wb at *
                    obtain ⟨⟨c0, c1, c2, c3, c4, c5, c6, c7, c8⟩, fz⟩ := row9 HSb.out.box
                    have f0 := fz 0
                    have f1 := fz 1
                    have f2 := fz 2
                    have f3 := fz 3
                    have f4 := fz 4
                    have f5 := fz 5
                    have f6 := fz 6
                    have f7 := fz 7
                    have f8 := fz 8
                    clear fz
                    obtain ⟨⟨d0, d1, d2, d3, d4, d5, d6, d7, d8⟩, gz⟩ := row9 HSb.out.res
                    have g0 := gz 0
                    have g1 := gz 1
                    have g2 := gz 2
                    have g3 := gz 3
                    have g4 := gz 4
                    have g5 := gz 5
                    have g6 := gz 6
                    have g7 := gz 7
                    have g8 := gz 8
                    clear gz
                    go_wp2_with fail
                    obtain ⟨q1, q2⟩ := put9 HSb.out.res (.string nm) (.string vb) (.string un) (.string ⟨#[]⟩) (.bool false) (.int .i64 rt) (.int .i64 et) (.int .i64 0) (.slice la l.length cap)
                    have HMq := hid (HSb.out.mod.then q2 (fun i hi e => by omega))
                    have HLq : Hid (∃ a1 c1, Ln _ L a1 c1 rz ∧ ∀ k, blk a1 k → blk a k) := hid (by
                      obtain ⟨a1, c1, hl, hb⟩ := HSb.out.ln
                      exact ⟨a1, c1, hl.mod q2 (by omega) (fun _ k hk e => by have := HSb.out.old k (hb k hk); omega), hb⟩)
                    have HOq := hid (HOb.out.mod q2 (fun k hk e => by have := (HNw.out k hk).1; omega))
                    obtain ⟨⟨z0, z1, z2, z3, z4, z5, z6, z7, z8⟩, _⟩ := row9 q1
                    have HNq : Hid (∀ k, blk la k → w.heap.size ≤ k) := hid (fun k hk => Nat.le_of_lt (HNw.out k hk).1)
                    refine bodyPost_ret (v := spV ⟨nm, vb, un, emp, false, rt, et, 0, l⟩ la cap) (by simp [spV, emp, results, Tryd.results29, go_sem, z0, z1, z2, z3, z4, z5, z6, z7, z8]) rfl ⟨HMq.out, ⟨la, cap, rfl, HOq.out, HNq.out⟩, HLe.out, HLq.out⟩
      | false =>
        rw [show undoP r2 = .ok (emp, hasB wFinal r2) (hasR wFinal r2) from if_neg (by rw [hb0]; exact Bool.false_ne_true), bind_ok] at HX
        rw [hasR_false (show hasB ⟨#[117, 110, 100, 111]⟩ r2 = false from hb0), show hasB ⟨#[117, 110, 100, 111]⟩ r2 = false from hb0] at HCU0
        clear hb0
        go_upto_region 4 with (go_at_call 27; refine HCU0.out.mono ?_; rintro e wu ⟨rfl, ay, cy, hm, hl, hb⟩; have HSu := hid (HSt.out.call h8 hL hm ⟨ay, cy, hl, fun k hk => HBxU0.out k (hb k hk)⟩); clear hm hl hb)
        obtain ⟨axF1, cxF1, hlxF1, hbxF1⟩ := HSu.out.ln
        have HCF1 := hid (has_any wFinal hlxF1)
        have HBxF1 := hid hbxF1
        clear hlxF1 hbxF1
        unfold wFinal at HCF1 HX
        generalize hasB ⟨#[102, 105, 110, 97, 108]⟩ r2 = fb at *
        generalize hasR ⟨#[102, 105, 110, 97, 108]⟩ r2 = r4 at *
        go_upto_region 5 with (go_at_call 27; refine HCF1.out.mono ?_; rintro e wv ⟨rfl, ay, cy, hm, hl, hb⟩; have HSv := hid (HSu.out.call h8 hL hm ⟨ay, cy, hl, fun k hk => HBxF1.out k (hb k hk)⟩); clear hm hl hb; obtain ⟨⟨c0, c1, c2, c3, c4, c5, c6, c7, c8⟩, fz⟩ := row9 HSv.out.box; have f0 := fz 0; have f1 := fz 1; have f2 := fz 2; have f3 := fz 3; have f4 := fz 4; have f5 := fz 5; have f6 := fz 6; have f7 := fz 7; have f8 := fz 8; clear fz)
        have HSw := hid (HSv.out.put hw8 hL 4 (.bool fb) (vs' := #[.string nm, .string vb, .string ⟨#[]⟩, .string ⟨#[]⟩, .bool fb, .int .i64 0, .int .i64 0, .int .i64 0, .slice none 0 0]) (heap_setCell_same wv sb 4 _ 40 _ HSv.out.box))
        clear c0 c1 c2 c3 c4 c5 c6 c7 c8 f0 f1 f2 f3 f4 f5 f6 f7 f8
        generalize wv.setCell ⟨sb, 4, none⟩ (.bool fb) = Ww at *
        obtain ⟨axR7, cxR7, hlxR7, hbxR7⟩ := HSw.out.ln
        have HCR7 := hid (has_any wRetry hlxR7)
        have HBxR7 := hid hbxR7
        clear hlxR7 hbxR7
        unfold wRetry at HCR7
        cases hb2 : hasB wRetry r4 with
        | false =>
          rw [show retryP r4 = .ok (0, 0) r4 from if_neg (by rw [hb2]; exact Bool.false_ne_true), bind_ok] at HX
          rw [hasR_false (show hasB ⟨#[114, 101, 116, 114, 121]⟩ r4 = false from hb2), show hasB ⟨#[114, 101, 116, 114, 121]⟩ r4 = false from hb2] at HCR7
          go_upto_region 9 with (go_at_call 27; refine HCR7.out.mono ?_; rintro e wr ⟨rfl, ay, cy, hm, hl, hb⟩; have HSr := hid (HSw.out.call h8 hL hm ⟨ay, cy, hl, fun k hk => HBxR7.out k (hb k hk)⟩); clear hm hl hb)
          obtain ⟨axA8, cxA8, hlxA8, hbxA8⟩ := HSr.out.ln
          have HCA8 := hid (after_any hlxA8)
          have HBxA8 := hid hbxA8
          clear hlxA8 hbxA8
          cases hxa : afterP r4 with
          | bad n =>
            rw [hxa] at HCA8
            rw [hxa, bind_bad] at HX
            obtain rfl := HX.out
            clear hxa
            go_wp2_with (go_at_call 41; refine HCA8.out.mono ?_; rintro e wz ⟨hm, he⟩; have HMz := hid (HSr.out.mod.trans hm); simp only [fault] at he; subst he; clear hm)
            exact ⟨rfl, HMz.out, rfl⟩
          | ok l rz =>
            rw [hxa] at HCA8
            rw [hxa, bind_ok] at HX
            obtain rfl := HX.out
            clear hxa
            go_upto_region 10 with (go_at_call 41; refine HCA8.out.mono ?_; rintro e wa ⟨hm, ⟨la, cap, rfl, ho, hnw⟩, hle, hl⟩; have HSa := hid (HSr.out.call h8 hL hm (rebk hl HBxA8.out)); have HO := hid ho; have HNw : Hid (∀ k, blk la k → w.heap.size < k ∧ k ≠ sb) := hid (fun k hk => by have := hnw k hk; have := HSr.out.lo; have := lt_of_heap HSr.out.box; omega); have HLe := hid hle; clear hm hl ho hnw hle; obtain ⟨⟨c0, c1, c2, c3, c4, c5, c6, c7, c8⟩, fz⟩ := row9 HSa.out.box; have f0 := fz 0; have f1 := fz 1; have f2 := fz 2; have f3 := fz 3; have f4 := fz 4; have f5 := fz 5; have f6 := fz 6; have f7 := fz 7; have f8 := fz 8; clear fz)
            have HOb := hid (HO.out.mod (S := fun k => k = sb) (Mod.setCell (S := fun k => k = sb) (Mod.refl _ _) (fun _ => rfl) _ : Mod (fun k => k = sb) wa (wa.setCell ⟨sb, 8, none⟩ (.slice la l.length cap))) (fun k hk e => (HNw.out k hk).2 e))
            have HSb := hid (HSa.out.put hw8 hL 8 (.slice la l.length cap) (vs' := #[.string nm, .string vb, .string ⟨#[]⟩, .string ⟨#[]⟩, .bool fb, .int .i64 0, .int .i64 0, .int .i64 0, .slice la l.length cap]) (heap_setCell_same wa sb 8 _ 40 _ HSa.out.box))
            clear c0 c1 c2 c3 c4 c5 c6 c7 c8 f0 f1 f2 f3 f4 f5 f6 f7 f8
            generalize wa.setCell ⟨sb, 8, none⟩ (.slice la l.length cap) = Wb at *
            obtain ⟨⟨c0, c1, c2, c3, c4, c5, c6, c7, c8⟩, fz⟩ := row9 HSb.out.box
            have f0 := fz 0
            have f1 := fz 1
            have f2 := fz 2
            have f3 := fz 3
            have f4 := fz 4
            have f5 := fz 5
            have f6 := fz 6
            have f7 := fz 7
            have f8 := fz 8
            clear fz
            obtain ⟨⟨d0, d1, d2, d3, d4, d5, d6, d7, d8⟩, gz⟩ := row9 HSb.out.res
            have g0 := gz 0
            have g1 := gz 1
            have g2 := gz 2
            have g3 := gz 3
            have g4 := gz 4
            have g5 := gz 5
            have g6 := gz 6
            have g7 := gz 7
            have g8 := gz 8
            clear gz
            go_wp2_with fail
            obtain ⟨q1, q2⟩ := put9 HSb.out.res (.string nm) (.string vb) (.string ⟨#[]⟩) (.string ⟨#[]⟩) (.bool fb) (.int .i64 0) (.int .i64 0) (.int .i64 0) (.slice la l.length cap)
            have HMq := hid (HSb.out.mod.then q2 (fun i hi e => by omega))
            have HLq : Hid (∃ a1 c1, Ln _ L a1 c1 rz ∧ ∀ k, blk a1 k → blk a k) := hid (by
              obtain ⟨a1, c1, hl, hb⟩ := HSb.out.ln
              exact ⟨a1, c1, hl.mod q2 (by omega) (fun _ k hk e => by have := HSb.out.old k (hb k hk); omega), hb⟩)
            have HOq := hid (HOb.out.mod q2 (fun k hk e => by have := (HNw.out k hk).1; omega))
            obtain ⟨⟨z0, z1, z2, z3, z4, z5, z6, z7, z8⟩, _⟩ := row9 q1
            have HNq : Hid (∀ k, blk la k → w.heap.size ≤ k) := hid (fun k hk => Nat.le_of_lt (HNw.out k hk).1)
            refine bodyPost_ret (v := spV ⟨nm, vb, emp, emp, fb, 0, 0, 0, l⟩ la cap) (by simp [spV, emp, results, Tryd.results29, go_sem, z0, z1, z2, z3, z4, z5, z6, z7, z8]) rfl ⟨HMq.out, ⟨la, cap, rfl, HOq.out, HNq.out⟩, HLe.out, HLq.out⟩
        | true =>
          rw [show retryP r4 = _ from if_pos hb2] at HX
          rw [hasR_true (show hasB ⟨#[114, 101, 116, 114, 121]⟩ r4 = true from hb2), show hasB ⟨#[114, 101, 116, 114, 121]⟩ r4 = true from hb2] at HCR7
          clear hb2
          generalize r4.drop 1 = q1 at *
          go_upto_region 6 with (go_at_call 27; refine HCR7.out.mono ?_; rintro e wr ⟨rfl, ay, cy, hm, hl, hb⟩; have HSr := hid (HSw.out.call h8 hL hm ⟨ay, cy, hl, fun k hk => HBxR7.out k (hb k hk)⟩); clear hm hl hb)
          obtain ⟨axN9, cxN9, hlxN9, hbxN9⟩ := HSr.out.ln
          have HCN9 := hid (num_any 0 5 HSr.out.glob hlxN9 (by decide) (by decide))
          have HBxN9 := hid hbxN9
          clear hlxN9 hbxN9
          cases hn1 : numP 0 5 q1 with
          | bad n =>
            rw [hn1] at HCN9
            rw [hn1, bind_bad, bind_bad] at HX
            obtain rfl := HX.out
            clear hn1
            go_wp2_with (go_at_call 39; refine HCN9.out.mono ?_; rintro e wz ⟨hm, he⟩; have HMz := hid (HSr.out.mod.trans hm); simp only [fault] at he; subst he; clear hm)
            exact ⟨rfl, HMz.out, rfl⟩
          | ok rt q2 =>
            rw [hn1] at HCN9
            rw [hn1, bind_ok] at HX
            clear hn1
            go_upto_region 7 with (go_at_call 39; refine HCN9.out.mono ?_; rintro e wn ⟨hm, rfl, hl⟩; have HSn := hid (HSr.out.call h8 hL hm (rebk hl HBxN9.out)); clear hm hl; obtain ⟨⟨c0, c1, c2, c3, c4, c5, c6, c7, c8⟩, fz⟩ := row9 HSn.out.box; have f0 := fz 0; have f1 := fz 1; have f2 := fz 2; have f3 := fz 3; have f4 := fz 4; have f5 := fz 5; have f6 := fz 6; have f7 := fz 7; have f8 := fz 8; clear fz)
            have HSm := hid (HSn.out.put hw8 hL 5 (.int .i64 rt) (vs' := #[.string nm, .string vb, .string ⟨#[]⟩, .string ⟨#[]⟩, .bool fb, .int .i64 rt, .int .i64 0, .int .i64 0, .slice none 0 0]) (heap_setCell_same wn sb 5 _ 40 _ HSn.out.box))
            clear c0 c1 c2 c3 c4 c5 c6 c7 c8 f0 f1 f2 f3 f4 f5 f6 f7 f8
            generalize wn.setCell ⟨sb, 5, none⟩ (.int .i64 rt) = Wm at *
            obtain ⟨axK10, cxK10, hlxK10, hbxK10⟩ := HSm.out.ln
            have HCK10 := hid (key_any wEvery hlxK10)
            have HBxK10 := hid hbxK10
            clear hlxK10 hbxK10
            unfold wEvery at HCK10
            cases hk1 : keyP wEvery q2 with
            | bad n =>
              rw [show keyP ⟨#[101, 118, 101, 114, 121]⟩ q2 = _ from hk1] at HCK10
              rw [hk1, bind_bad, bind_bad] at HX
              obtain rfl := HX.out
              clear hk1
              go_wp2_with (go_at_call 40; refine HCK10.out.mono ?_; rintro e wz ⟨hm, he⟩; have HMz := hid (HSm.out.mod.trans hm); simp only [fault] at he; subst he; clear hm)
              exact ⟨rfl, HMz.out, rfl⟩
            | ok ev q3 =>
              rw [show keyP ⟨#[101, 118, 101, 114, 121]⟩ q2 = _ from hk1] at HCK10
              rw [hk1, bind_ok] at HX
              clear hk1
              go_upto_region 8 with (go_at_call 40; refine HCK10.out.mono ?_; rintro e wk ⟨hm, rfl, hl⟩; have HSk := hid (HSm.out.call h8 hL hm (rebk hl HBxK10.out)); clear hm hl)
              obtain ⟨axN11, cxN11, hlxN11, hbxN11⟩ := HSk.out.ln
              have HCN11 := hid (num_any 1 100 HSk.out.glob hlxN11 (by decide) (by decide))
              have HBxN11 := hid hbxN11
              clear hlxN11 hbxN11
              cases hn2 : numP 1 100 q3 with
              | bad n =>
                rw [hn2] at HCN11
                rw [hn2, bind_bad, bind_bad] at HX
                obtain rfl := HX.out
                clear hn2
                go_wp2_with (go_at_call 39; refine HCN11.out.mono ?_; rintro e wz ⟨hm, he⟩; have HMz := hid (HSk.out.mod.trans hm); simp only [fault] at he; subst he; clear hm)
                exact ⟨rfl, HMz.out, rfl⟩
              | ok et q4 =>
                rw [hn2] at HCN11
                rw [hn2, bind_ok, bind_ok] at HX
                clear hn2
                go_upto_region 9 with (go_at_call 39; refine HCN11.out.mono ?_; rintro e wn2 ⟨hm, rfl, hl⟩; have HSn2 := hid (HSk.out.call h8 hL hm (rebk hl HBxN11.out)); clear hm hl; obtain ⟨⟨c0, c1, c2, c3, c4, c5, c6, c7, c8⟩, fz⟩ := row9 HSn2.out.box; have f0 := fz 0; have f1 := fz 1; have f2 := fz 2; have f3 := fz 3; have f4 := fz 4; have f5 := fz 5; have f6 := fz 6; have f7 := fz 7; have f8 := fz 8; clear fz)
                have HSm2 := hid (HSn2.out.put hw8 hL 6 (.int .i64 et) (vs' := #[.string nm, .string vb, .string ⟨#[]⟩, .string ⟨#[]⟩, .bool fb, .int .i64 rt, .int .i64 et, .int .i64 0, .slice none 0 0]) (heap_setCell_same wn2 sb 6 _ 40 _ HSn2.out.box))
                clear c0 c1 c2 c3 c4 c5 c6 c7 c8 f0 f1 f2 f3 f4 f5 f6 f7 f8
                generalize wn2.setCell ⟨sb, 6, none⟩ (.int .i64 et) = Wm2 at *
                obtain ⟨axA12, cxA12, hlxA12, hbxA12⟩ := HSm2.out.ln
                have HCA12 := hid (after_any hlxA12)
                have HBxA12 := hid hbxA12
                clear hlxA12 hbxA12
                cases hxa : afterP q4 with
                | bad n =>
                  rw [hxa] at HCA12
                  rw [hxa, bind_bad] at HX
                  obtain rfl := HX.out
                  clear hxa
                  go_wp2_with (go_at_call 41; refine HCA12.out.mono ?_; rintro e wz ⟨hm, he⟩; have HMz := hid (HSm2.out.mod.trans hm); simp only [fault] at he; subst he; clear hm)
                  exact ⟨rfl, HMz.out, rfl⟩
                | ok l rz =>
                  rw [hxa] at HCA12
                  rw [hxa, bind_ok] at HX
                  obtain rfl := HX.out
                  clear hxa
                  go_upto_region 10 with (go_at_call 41; refine HCA12.out.mono ?_; rintro e wa ⟨hm, ⟨la, cap, rfl, ho, hnw⟩, hle, hl⟩; have HSa := hid (HSm2.out.call h8 hL hm (rebk hl HBxA12.out)); have HO := hid ho; have HNw : Hid (∀ k, blk la k → w.heap.size < k ∧ k ≠ sb) := hid (fun k hk => by have := hnw k hk; have := HSm2.out.lo; have := lt_of_heap HSm2.out.box; omega); have HLe := hid hle; clear hm hl ho hnw hle; obtain ⟨⟨c0, c1, c2, c3, c4, c5, c6, c7, c8⟩, fz⟩ := row9 HSa.out.box; have f0 := fz 0; have f1 := fz 1; have f2 := fz 2; have f3 := fz 3; have f4 := fz 4; have f5 := fz 5; have f6 := fz 6; have f7 := fz 7; have f8 := fz 8; clear fz)
                  have HOb := hid (HO.out.mod (S := fun k => k = sb) (Mod.setCell (S := fun k => k = sb) (Mod.refl _ _) (fun _ => rfl) _ : Mod (fun k => k = sb) wa (wa.setCell ⟨sb, 8, none⟩ (.slice la l.length cap))) (fun k hk e => (HNw.out k hk).2 e))
                  have HSb := hid (HSa.out.put hw8 hL 8 (.slice la l.length cap) (vs' := #[.string nm, .string vb, .string ⟨#[]⟩, .string ⟨#[]⟩, .bool fb, .int .i64 rt, .int .i64 et, .int .i64 0, .slice la l.length cap]) (heap_setCell_same wa sb 8 _ 40 _ HSa.out.box))
                  clear c0 c1 c2 c3 c4 c5 c6 c7 c8 f0 f1 f2 f3 f4 f5 f6 f7 f8
                  generalize wa.setCell ⟨sb, 8, none⟩ (.slice la l.length cap) = Wb at *
                  obtain ⟨⟨c0, c1, c2, c3, c4, c5, c6, c7, c8⟩, fz⟩ := row9 HSb.out.box
                  have f0 := fz 0
                  have f1 := fz 1
                  have f2 := fz 2
                  have f3 := fz 3
                  have f4 := fz 4
                  have f5 := fz 5
                  have f6 := fz 6
                  have f7 := fz 7
                  have f8 := fz 8
                  clear fz
                  obtain ⟨⟨d0, d1, d2, d3, d4, d5, d6, d7, d8⟩, gz⟩ := row9 HSb.out.res
                  have g0 := gz 0
                  have g1 := gz 1
                  have g2 := gz 2
                  have g3 := gz 3
                  have g4 := gz 4
                  have g5 := gz 5
                  have g6 := gz 6
                  have g7 := gz 7
                  have g8 := gz 8
                  clear gz
                  go_wp2_with fail
                  obtain ⟨q1, q2⟩ := put9 HSb.out.res (.string nm) (.string vb) (.string ⟨#[]⟩) (.string ⟨#[]⟩) (.bool fb) (.int .i64 rt) (.int .i64 et) (.int .i64 0) (.slice la l.length cap)
                  have HMq := hid (HSb.out.mod.then q2 (fun i hi e => by omega))
                  have HLq : Hid (∃ a1 c1, Ln _ L a1 c1 rz ∧ ∀ k, blk a1 k → blk a k) := hid (by
                    obtain ⟨a1, c1, hl, hb⟩ := HSb.out.ln
                    exact ⟨a1, c1, hl.mod q2 (by omega) (fun _ k hk e => by have := HSb.out.old k (hb k hk); omega), hb⟩)
                  have HOq := hid (HOb.out.mod q2 (fun k hk e => by have := (HNw.out k hk).1; omega))
                  obtain ⟨⟨z0, z1, z2, z3, z4, z5, z6, z7, z8⟩, _⟩ := row9 q1
                  have HNq : Hid (∀ k, blk la k → w.heap.size ≤ k) := hid (fun k hk => Nat.le_of_lt (HNw.out k hk).1)
                  refine bodyPost_ret (v := spV ⟨nm, vb, emp, emp, fb, rt, et, 0, l⟩ la cap) (by simp [spV, emp, results, Tryd.results29, go_sem, z0, z1, z2, z3, z4, z5, z6, z7, z8]) rfl ⟨HMq.out, ⟨la, cap, rfl, HOq.out, HNq.out⟩, HLe.out, HLq.out⟩
set_option maxRecDepth 100000 in
set_option maxHeartbeats 8000000 in
theorem wait_any {w : World} {L c : Nat} {a : Option Addr} {fs : Fs} (hg : Glob w) (h : Ln w L a c fs) (h8 : 8 ≤ L) (hold : ∀ k, blk a k → k < w.heap.size) : Calls Tryd.prog 30 #[.pointer (some ⟨L, 0, none⟩)] w fun e w' => StAns L a w (waitP fs) e w' := by
  have hL := lt_of_heap h.box
  have hw8 : 8 ≤ w.heap.size := by omega
  have hma : Mod (fun _ => False) w (w.alloc (.cells #[.string ⟨#[]⟩, .string ⟨#[]⟩, .string ⟨#[]⟩, .string ⟨#[]⟩, .bool false, .int .i64 0, .int .i64 0, .int .i64 0, .slice none 0 0] 40)) := (Mod.refl _ _).alloc _
  have HR0 := hid (heap_alloc_new w (.cells #[.string ⟨#[]⟩, .string ⟨#[]⟩, .string ⟨#[]⟩, .string ⟨#[]⟩, .bool false, .int .i64 0, .int .i64 0, .int .i64 0, .slice none 0 0] 40))
  have HH := hid (h.ext hma)
  have HG := hid (hg.ext hma)
  have HM := hid (hma.mono (T := fun k => k = L) (fun _ _ h => h.elim))
  have HOld := hid hold
  obtain ⟨x, hx⟩ : ∃ x, waitP fs = x := ⟨_, rfl⟩
  have HX := hid hx
  unfold waitP at HX
  rw [hx]
  clear h hg hma hx hold
  go_enter Tryd.func30, Tryd.ntmps30
  go_upto_region 1 with fail
  generalize w.alloc (.cells #[.string ⟨#[]⟩, .string ⟨#[]⟩, .string ⟨#[]⟩, .string ⟨#[]⟩, .bool false, .int .i64 0, .int .i64 0, .int .i64 0, .slice none 0 0] 40) = V0 at *
  have HW := hid (word_any HH.out)
  cases hx1 : wordP fs with
  | bad n =>
    rw [hx1] at HW
    rw [hx1, bind_bad] at HX
    obtain rfl := HX.out
    clear hx1
    go_wp2_with (go_at_call 28; refine HW.out.mono ?_; rintro e w1 ⟨hm, he⟩; have HM1 := hid (HM.out.trans hm); simp only [fault] at he; subst he; clear hm)
    exact ⟨rfl, HM1.out, rfl⟩
  | ok nm r1 =>
    rw [hx1] at HW
    rw [hx1, bind_ok] at HX
    clear hx1
    cases hx2 : wordP r1 with
    | bad n =>
      rw [hx2, bind_bad] at HX
      obtain rfl := HX.out
      go_wp2_with (first
        | (go_at_call 28; refine HW.out.mono ?_; rintro e w1 ⟨hm, rfl, a1, c1, hl1, hb1⟩; have hg1 := HG.out.mod hm (fun k hk => by omega); have HS := hid (word_any hl1); rw [hx2] at HS; have HM1 := hid (HM.out.trans hm); have HR1 := hid ((hm.block _ (lt_of_heap HR0.out) (by omega)).trans HR0.out); have HG1 := hid hg1; have HB1 := hid hb1; clear hm hl1 hb1 hg1 HW)
        | (go_at_call 28; refine HS.out.mono ?_; rintro e w2 ⟨hm, he⟩; have HM2 := hid (HM1.out.trans hm); simp only [fault] at he; subst he; clear hm))
      exact ⟨rfl, HM2.out, rfl⟩
    | ok vb r2 =>
      rw [hx2, bind_ok] at HX
      go_upto_region 2 with (first
        | (go_at_call 28; refine HW.out.mono ?_; rintro e w1 ⟨hm, rfl, a1, c1, hl1, hb1⟩; have hg1 := HG.out.mod hm (fun k hk => by omega); have HS := hid (word_any hl1); rw [hx2] at HS; have HM1 := hid (HM.out.trans hm); have HR1 := hid ((hm.block _ (lt_of_heap HR0.out) (by omega)).trans HR0.out); have HG1 := hid hg1; have HB1 := hid hb1; clear hm hl1 hb1 hg1 HW)
        | (go_at_call 28; refine HS.out.mono ?_; rintro e w2 ⟨hm, rfl, hl⟩; have HM2 := hid (HM1.out.trans hm); have HL2 := hid (rebk hl HB1.out); have HG2 := hid (HG1.out.mod hm (fun k hk => by omega)); have HR2 := hid ((hm.block _ (lt_of_heap HR1.out) (by omega)).trans HR1.out); have hs2 := hm.size; clear hm hl))
      clear hx2
      have HSt : Hid (SSt w (w2.alloc (.cells #[.string nm, .string ⟨#[]⟩, .string ⟨#[]⟩, .string vb, .bool false, .int .i64 0, .int .i64 0, .int .i64 0, .slice none 0 0] 40)) L a w2.heap.size #[.string nm, .string ⟨#[]⟩, .string ⟨#[]⟩, .string vb, .bool false, .int .i64 0, .int .i64 0, .int .i64 0, .slice none 0 0] r2) := hid (by
        obtain ⟨a2, c2, hl2, hb2⟩ := HL2.out
        exact ⟨HM2.out.alloc _, ⟨a2, c2, hl2.ext ((Mod.refl _ _).alloc _), hb2⟩, HG2.out.ext ((Mod.refl _ _).alloc _), heap_alloc_new _ _, (Below.heap_alloc _ _ _ (lt_of_heap HR2.out)).trans HR2.out, lt_of_heap HR2.out, HOld.out⟩)
      clear HM2 HL2 HG2 HR2 HM1 HR1 HG1 HB1 HS HR0 HH HG HM
      generalize w2.alloc (.cells #[.string nm, .string ⟨#[]⟩, .string ⟨#[]⟩, .string vb, .bool false, .int .i64 0, .int .i64 0, .int .i64 0, .slice none 0 0] 40) = V at *
      generalize w2.heap.size = sb at *
      clear hs2
      obtain ⟨axK0, cxK0, hlxK0, hbxK0⟩ := HSt.out.ln
      have HCK0 := hid (key_any wWithin hlxK0)
      have HBxK0 := hid hbxK0
      clear hlxK0 hbxK0
      unfold wWithin at HCK0
      cases hk1 : keyP wWithin r2 with
      | bad n =>
        rw [show keyP ⟨#[119, 105, 116, 104, 105, 110]⟩ r2 = _ from hk1] at HCK0
        rw [hk1, bind_bad] at HX
        obtain rfl := HX.out
        clear hk1
        go_wp2_with (go_at_call 40; refine HCK0.out.mono ?_; rintro e wz ⟨hm, he⟩; have HMz := hid (HSt.out.mod.trans hm); simp only [fault] at he; subst he; clear hm)
        exact ⟨rfl, HMz.out, rfl⟩
      | ok kw r3 =>
        rw [show keyP ⟨#[119, 105, 116, 104, 105, 110]⟩ r2 = _ from hk1] at HCK0
        rw [hk1, bind_ok] at HX
        clear hk1
        go_upto_region 3 with (go_at_call 40; refine HCK0.out.mono ?_; rintro e wk ⟨hm, rfl, hl⟩; have HSk := hid (HSt.out.call h8 hL hm (rebk hl HBxK0.out)); clear hm hl)
        obtain ⟨axN0, cxN0, hlxN0, hbxN0⟩ := HSk.out.ln
        have HCN0 := hid (num_any 1 100 HSk.out.glob hlxN0 (by decide) (by decide))
        have HBxN0 := hid hbxN0
        clear hlxN0 hbxN0
        cases hn2 : numP 1 100 r3 with
        | bad n =>
          rw [hn2] at HCN0
          rw [hn2, bind_bad] at HX
          obtain rfl := HX.out
          clear hn2
          go_wp2_with (go_at_call 39; refine HCN0.out.mono ?_; rintro e wz ⟨hm, he⟩; have HMz := hid (HSk.out.mod.trans hm); simp only [fault] at he; subst he; clear hm)
          exact ⟨rfl, HMz.out, rfl⟩
        | ok et r4 =>
          rw [hn2] at HCN0
          rw [hn2, bind_ok] at HX
          clear hn2
          go_upto_region 4 with (go_at_call 39; refine HCN0.out.mono ?_; rintro e wn2 ⟨hm, rfl, hl⟩; have HSn2 := hid (HSk.out.call h8 hL hm (rebk hl HBxN0.out)); clear hm hl; obtain ⟨⟨c0, c1, c2, c3, c4, c5, c6, c7, c8⟩, fz⟩ := row9 HSn2.out.box; have f0 := fz 0; have f1 := fz 1; have f2 := fz 2; have f3 := fz 3; have f4 := fz 4; have f5 := fz 5; have f6 := fz 6; have f7 := fz 7; have f8 := fz 8; clear fz)
          have HSm2 := hid (HSn2.out.put hw8 hL 7 (.int .i64 et) (vs' := #[.string nm, .string ⟨#[]⟩, .string ⟨#[]⟩, .string vb, .bool false, .int .i64 0, .int .i64 0, .int .i64 et, .slice none 0 0]) (heap_setCell_same wn2 sb 7 _ 40 _ HSn2.out.box))
          clear c0 c1 c2 c3 c4 c5 c6 c7 c8 f0 f1 f2 f3 f4 f5 f6 f7 f8
          generalize wn2.setCell ⟨sb, 7, none⟩ (.int .i64 et) = Wm2 at *
          obtain ⟨axA13, cxA13, hlxA13, hbxA13⟩ := HSm2.out.ln
          have HCA13 := hid (after_any hlxA13)
          have HBxA13 := hid hbxA13
          clear hlxA13 hbxA13
          cases hxa : afterP r4 with
          | bad n =>
            rw [hxa] at HCA13
            rw [hxa, bind_bad] at HX
            obtain rfl := HX.out
            clear hxa
            go_wp2_with (go_at_call 41; refine HCA13.out.mono ?_; rintro e wz ⟨hm, he⟩; have HMz := hid (HSm2.out.mod.trans hm); simp only [fault] at he; subst he; clear hm)
            exact ⟨rfl, HMz.out, rfl⟩
          | ok l rz =>
            rw [hxa] at HCA13
            rw [hxa, bind_ok] at HX
            obtain rfl := HX.out
            clear hxa
            go_upto_region 5 with (go_at_call 41; refine HCA13.out.mono ?_; rintro e wa ⟨hm, ⟨la, cap, rfl, ho, hnw⟩, hle, hl⟩; have HSa := hid (HSm2.out.call h8 hL hm (rebk hl HBxA13.out)); have HO := hid ho; have HNw : Hid (∀ k, blk la k → w.heap.size < k ∧ k ≠ sb) := hid (fun k hk => by have := hnw k hk; have := HSm2.out.lo; have := lt_of_heap HSm2.out.box; omega); have HLe := hid hle; clear hm hl ho hnw hle; obtain ⟨⟨c0, c1, c2, c3, c4, c5, c6, c7, c8⟩, fz⟩ := row9 HSa.out.box; have f0 := fz 0; have f1 := fz 1; have f2 := fz 2; have f3 := fz 3; have f4 := fz 4; have f5 := fz 5; have f6 := fz 6; have f7 := fz 7; have f8 := fz 8; clear fz)
            have HOb := hid (HO.out.mod (S := fun k => k = sb) (Mod.setCell (S := fun k => k = sb) (Mod.refl _ _) (fun _ => rfl) _ : Mod (fun k => k = sb) wa (wa.setCell ⟨sb, 8, none⟩ (.slice la l.length cap))) (fun k hk e => (HNw.out k hk).2 e))
            have HSb := hid (HSa.out.put hw8 hL 8 (.slice la l.length cap) (vs' := #[.string nm, .string ⟨#[]⟩, .string ⟨#[]⟩, .string vb, .bool false, .int .i64 0, .int .i64 0, .int .i64 et, .slice la l.length cap]) (heap_setCell_same wa sb 8 _ 40 _ HSa.out.box))
            clear c0 c1 c2 c3 c4 c5 c6 c7 c8 f0 f1 f2 f3 f4 f5 f6 f7 f8
            generalize wa.setCell ⟨sb, 8, none⟩ (.slice la l.length cap) = Wb at *
            obtain ⟨⟨c0, c1, c2, c3, c4, c5, c6, c7, c8⟩, fz⟩ := row9 HSb.out.box
            have f0 := fz 0
            have f1 := fz 1
            have f2 := fz 2
            have f3 := fz 3
            have f4 := fz 4
            have f5 := fz 5
            have f6 := fz 6
            have f7 := fz 7
            have f8 := fz 8
            clear fz
            obtain ⟨⟨d0, d1, d2, d3, d4, d5, d6, d7, d8⟩, gz⟩ := row9 HSb.out.res
            have g0 := gz 0
            have g1 := gz 1
            have g2 := gz 2
            have g3 := gz 3
            have g4 := gz 4
            have g5 := gz 5
            have g6 := gz 6
            have g7 := gz 7
            have g8 := gz 8
            clear gz
            go_wp2_with fail
            obtain ⟨q1, q2⟩ := put9 HSb.out.res (.string nm) (.string ⟨#[]⟩) (.string ⟨#[]⟩) (.string vb) (.bool false) (.int .i64 0) (.int .i64 0) (.int .i64 et) (.slice la l.length cap)
            have HMq := hid (HSb.out.mod.then q2 (fun i hi e => by omega))
            have HLq : Hid (∃ a1 c1, Ln _ L a1 c1 rz ∧ ∀ k, blk a1 k → blk a k) := hid (by
              obtain ⟨a1, c1, hl, hb⟩ := HSb.out.ln
              exact ⟨a1, c1, hl.mod q2 (by omega) (fun _ k hk e => by have := HSb.out.old k (hb k hk); omega), hb⟩)
            have HOq := hid (HOb.out.mod q2 (fun k hk e => by have := (HNw.out k hk).1; omega))
            obtain ⟨⟨z0, z1, z2, z3, z4, z5, z6, z7, z8⟩, _⟩ := row9 q1
            have HNq : Hid (∀ k, blk la k → w.heap.size ≤ k) := hid (fun k hk => Nat.le_of_lt (HNw.out k hk).1)
            refine bodyPost_ret (v := spV ⟨nm, emp, emp, vb, false, 0, 0, et, l⟩ la cap) (by simp [spV, emp, results, Tryd.results30, go_sem, z0, z1, z2, z3, z4, z5, z6, z7, z8]) rfl ⟨HMq.out, ⟨la, cap, rfl, HOq.out, HNq.out⟩, HLe.out, HLq.out⟩

end Go.Proofs.YtmkbbclbkpofoaaDoor
