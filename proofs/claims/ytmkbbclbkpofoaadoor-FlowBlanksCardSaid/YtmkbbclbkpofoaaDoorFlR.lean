/- Flow: a line is read into the definition (printed by genread.py) -/
import Derived.Test.YtmkbbclbkpofoaaDoorFlT
import Derived.Deep.RegionHeld3
import Derived.Deep.DrawnRows
namespace Go.Proofs.YtmkbbclbkpofoaaDoor
open Go Go.RowKit
attribute [local go_sem ↓] Go.wp_at_zero Go.wp_at_succ

theorem infoStp : (Tryd.prog.info? 40).map (fun i => (i.zero, i.size, i.bytes)) = some (some (.agg #[.string ByteArray.empty, .string ByteArray.empty, .string ByteArray.empty, .string ByteArray.empty, .bool false, .int .i64 0, .int .i64 0, .int .i64 0, .slice none 0 0]), 9, 120) := by kernel_rfl

/-- A step as it lies. -/
structure SA where
  s : Sp
  aa : Option Addr
  ac : Nat
def SA.cs (x : SA) : List Value := [.string x.s.name, .string x.s.verb, .string x.s.undo, .string x.s.event, .bool x.s.final, .int .i64 x.s.retry, .int .i64 x.s.every, .int .i64 x.s.within, .slice x.aa x.s.after.length x.ac]
theorem SA.len (x : SA) : x.cs.length = 9 := rfl
theorem SA.one (x : SA) : ∀ u ∈ x.cs, u.oneCell' = true := by
  intro u hu
  simp only [SA.cs, List.mem_cons, List.not_mem_nil, or_false] at hu
  rcases hu with rfl | rfl | rfl | rfl | rfl | rfl | rfl | rfl | rfl <;> rfl

/-- The blocks of a definition. -/
def dset (D : Nat) (sa : Option Addr) (ss : List SA) (k : Nat) : Prop := k = D ∨ blk sa k ∨ ∃ x ∈ ss, 0 < x.s.after.length ∧ blk x.aa k
/-- A definition as it lies. -/
structure DAt (W : World) (B D : Nat) (d : Df) (sa : Option Addr) (cap : Nat) (ss : List SA) : Prop where
  box : W.heap[D]? = some (.cells #[.string d.name, .slice sa d.steps.length cap] 24 (0, 0))
  map : ss.map SA.s = d.steps
  own : Own W 40 9 sa d.steps.length cap (ss.flatMap SA.cs)
  ne : ¬ blk sa D
  all : ∀ x ∈ ss, Lies W 1 strI x.aa x.s.after ∧ x.s.after.length ≤ 4096 ∧ (0 < x.s.after.length → ∀ k, blk x.aa k → ¬ blk sa k ∧ k ≠ D)
  len : d.steps.length ≤ 8
  lo : ∀ k, k = D ∨ blk sa k → B ≤ k

section
variable {W W' : World} {B D cap : Nat} {d : Df} {sa : Option Addr} {ss : List SA}

theorem DAt.mod {S : Nat → Prop} (h : DAt W B D d sa cap ss) (hm : Mod S W W') (hs : ∀ k, dset D sa ss k → ¬ S k) : DAt W' B D d sa cap ss :=
  ⟨(hm.block D (lt_of_heap h.box) (hs D (.inl rfl))).trans h.box, h.map, h.own.mod hm (fun k hk => hs k (.inr (.inl hk))), h.ne, fun x hx => ⟨(h.all x hx).1.mod hm (fun h0 k hk => hs k (.inr (.inr ⟨x, hx, h0, hk⟩))), (h.all x hx).2⟩, h.len, h.lo⟩
theorem DAt.ext (h : DAt W B D d sa cap ss) (hm : Mod (fun _ => False) W W') : DAt W' B D d sa cap ss := h.mod hm (fun _ _ h => h)
theorem DAt.lt (h : DAt W B D d sa cap ss) {k : Nat} (hk : dset D sa ss k) : k < W.heap.size := by
  rcases hk with rfl | hk | ⟨x, hx, h0, hk⟩
  · exact lt_of_heap h.box
  · exact h.own.lt k hk
  · exact (h.all x hx).1.lt k h0 hk

theorem row2 {V : World} {b : Nat} {v0 v1 : Value} {T : TypeId} (h : V.heap[b]? = some (.cells #[v0, v1] T (0, 0))) : V.cell? ⟨b, 0, none⟩ = some v0 ∧ V.cell? ⟨b, 1, none⟩ = some v1 ∧ V.frozen? ⟨b, 0, none⟩ = false ∧ V.frozen? ⟨b, 1, none⟩ = false :=
  ⟨by rw [cell_of_row _ _ _ _ _ _ h]; rfl, by rw [cell_of_row _ _ _ _ _ _ h]; rfl, frozen_of_row _ _ 0 _ _ h, frozen_of_row _ _ 1 _ _ h⟩

/-- The name is laid. -/
theorem DAt.name (h : DAt W B D d sa cap ss) (n : ByteArray) : DAt (W.setCell ⟨D, 0, none⟩ (.string n)) B D ⟨n, d.steps⟩ sa cap ss := by
  have hm : Mod (fun k => k = D) W (W.setCell ⟨D, 0, none⟩ (.string n)) := Mod.setCell (S := fun k => k = D) (Mod.refl _ _) (fun _ => rfl) _
  exact ⟨heap_setCell_same W D 0 _ 24 _ h.box, h.map, h.own.mod hm (fun k hk e => h.ne (e ▸ hk)), h.ne, fun x hx => ⟨(h.all x hx).1.mod hm (fun h0 k hk e => ((h.all x hx).2.2 h0 k hk).2 e), (h.all x hx).2⟩, h.len, h.lo⟩

/-- One step more. -/
theorem DAt.grown (h : DAt W B D d sa cap ss) {w1 : World} (hB : B ≤ W.heap.size) (hm1 : Mod (blk sa) W w1) {s : Sp} {aa sa' : Option Addr} {ac cap' : Nat} (hl : d.steps.length < 8) (hown : Own w1 40 9 sa' (d.steps.length + 1) cap' (ss.flatMap SA.cs ++ SA.cs ⟨s, aa, ac⟩)) (hb : ∀ k, blk sa' k → blk sa k ∨ W.heap.size ≤ k)
    (ha : Lies W 1 strI aa s.after) (hla : s.after.length ≤ 4096) (hna : ∀ k, blk aa k → ¬ blk sa k ∧ k ≠ D) :
    DAt (w1.setCell ⟨D, 1, none⟩ (.slice sa' (d.steps.length + 1) cap')) B D ⟨d.name, d.steps ++ [s]⟩ sa' cap' (ss ++ [⟨s, aa, ac⟩]) := by
  have hD := lt_of_heap h.box
  have e1 := (hm1.block D hD h.ne).trans h.box
  have hne : ¬ blk sa' D := fun hk => by
    rcases hb D hk with h1 | h1
    · exact h.ne h1
    · omega
  have hmt : Mod (fun k => k = D) w1 (w1.setCell ⟨D, 1, none⟩ (.slice sa' (d.steps.length + 1) cap')) := Mod.setCell (S := fun k => k = D) (Mod.refl _ _) (fun _ => rfl) _
  have hlen : (d.steps ++ [s]).length = d.steps.length + 1 := by simp
  refine ⟨?_, by rw [List.map_append, h.map]; rfl, ?_, hne, fun x hx => ?_, by simp only; omega, fun k hk => ?_⟩
  · rw [hlen]; exact heap_setCell_same w1 D 1 _ 24 _ e1
  · simp only
    rw [hlen, List.flatMap_append]
    have : List.flatMap SA.cs [(⟨s, aa, ac⟩ : SA)] = SA.cs ⟨s, aa, ac⟩ := by simp
    rw [this]
    exact hown.mod hmt (fun k hk e => hne (e ▸ hk))
  · have key : Lies W 1 strI x.aa x.s.after ∧ x.s.after.length ≤ 4096 ∧ (0 < x.s.after.length → ∀ k, blk x.aa k → ¬ blk sa k ∧ k ≠ D) := by
      rcases List.mem_append.1 hx with h1 | h1
      · exact h.all x h1
      · rw [List.mem_singleton] at h1
        subst h1
        exact ⟨ha, hla, fun _ k hk => hna k hk⟩
    refine ⟨(key.1.mod hm1 (fun h0 k hk => (key.2.2 h0 k hk).1)).mod hmt (fun h0 k hk e => (key.2.2 h0 k hk).2 e), key.2.1, fun h0 k hk => ⟨fun hk2 => ?_, (key.2.2 h0 k hk).2⟩⟩
    have h2 := key.1.lt k h0 hk
    rcases hb k hk2 with h1 | h1
    · exact (key.2.2 h0 k hk).1 h1
    · omega
  · rcases hk with rfl | hk
    · exact h.lo _ (.inl rfl)
    · rcases hb k hk with h1 | h1
      · exact h.lo k (.inr h1)
      · omega
end

/-- What reading a line leaves. -/
def RdAns (L B D : Nat) (sa : Option Addr) (ss : List SA) (w : World) (x : Rs Df) (e : Ending) (w' : World) : Prop :=
  Mod (fun k => k = L ∨ k = D ∨ blk sa k) w w' ∧ (∃ v0 v1, w'.heap[D]? = some (.cells #[v0, v1] 24 (0, 0))) ∧
    match x with
    | .ok d _ => e = .returned (.tuple #[]) ∧ ∃ sa' cap' ss', DAt w' B D d sa' cap' ss' ∧ ∀ k, dset D sa' ss' k → dset D sa ss k ∨ w.heap.size ≤ k
    | .bad n => e = fault n

theorem end_nil {α : Type} (v : α) : endP v [] = .ok v [] := rfl
theorem end_cons {α : Type} (v : α) (s : ByteArray) (r : Fs) : endP v (s :: r) = .bad 101 := rfl

set_option maxRecDepth 100000 in
set_option maxHeartbeats 8000000 in
theorem read_any {w : World} {L c B D cap : Nat} {a sa : Option Addr} {fs : Fs} {d : Df} {ss : List SA} (hg : Glob w) (h : Ln w L a c fs) (hd : DAt w B D d sa cap ss) (hb8 : 8 ≤ B) (hB : B ≤ w.heap.size) (hL8 : 8 ≤ L) (hL : ¬ dset D sa ss L) (hold : ∀ k, blk a k → k < w.heap.size ∧ k ≠ D ∧ ¬ blk sa k) :
    Calls Tryd.prog 18 #[.pointer (some ⟨L, 0, none⟩), .pointer (some ⟨D, 0, none⟩)] w fun e w' => RdAns L B D sa ss w (readP d fs) e w' := by
  obtain ⟨i0, hi0, hz0, hz1, hz2⟩ := info_parts infoStp
  have hLt := lt_of_heap h.box
  have hDt := lt_of_heap hd.box
  have hLD : L ≠ D := fun e => hL (.inl e)
  have hLs : ¬ blk sa L := fun e => hL (.inr (.inl e))
  have hD8 : 8 ≤ D := Nat.le_trans hb8 (hd.lo D (.inl rfl))
  have HLo : Hid (∀ k, blk sa k → 8 ≤ k) := hid (fun k hk => Nat.le_trans hb8 (hd.lo k (.inr hk)))
  have HDk := hid (fun (V : World) (hm : Mod (fun k => k = L) w V) => hd.mod hm (fun k hk e => hL (e ▸ hk)))
  have HBx : Hid (∀ V : World, Mod (fun k => k = L) w V → ∃ v0 v1, V.heap[D]? = some (.cells #[v0, v1] 24 (0, 0))) := hid (fun V hm => ⟨_, _, (HDk.out V hm).box⟩)
  have HG := hid (fun (V : World) (hm : Mod (fun k => k = L) w V) => hg.mod hm (fun k hk => by omega))
  have HMk := hid (fun (V : World) (hm : Mod (fun k => k = L) w V) => hm.mono (T := fun k => k = L ∨ k = D ∨ blk sa k) (fun _ _ h => .inl h))
  have HOld := hid hold
  have HK := hid (fun (V : World) (b : Bool) (e : Int) => must_ok (.pointer (some ⟨L, 0, none⟩)) e V)
  have HB := hid (fun (V : World) (e : Int) => must_bad (.pointer (some ⟨L, 0, none⟩)) e V)
  have hlen8 := hd.len
  obtain ⟨d0, d1, f0, f1⟩ := row2 hd.box
  have HRow := hid (fun (V : World) (hm : Mod (fun k => k = L) w V) => row2 (HDk.out V hm).box)
  obtain ⟨x, hx⟩ : ∃ x, readP d fs = x := ⟨_, rfl⟩
  have HX := hid hx
  unfold readP at HX
  rw [hx]
  have hMem : Hid (∀ k, dset D sa ss k → dset D sa ss k ∨ w.heap.size ≤ k) := hid (fun k hk => .inl hk)
  clear hx hL hold
  cases hne : d.name.toList.isEmpty with
  | true =>
    rw [hne, if_pos rfl] at HX
    have HH := hid (has_any wFlow h)
    clear h
    go_enter Tryd.func18, Tryd.ntmps18
    go_upto_region 7 with fail
    clear d0 d1 f0 f1
    cases hb : hasB wFlow fs with
    | false =>
      have hx0 := HX.out
      rw [hb, if_neg Bool.false_ne_true] at hx0
      subst hx0
      rw [hb] at HH
      unfold wFlow at HH
      clear hb
      go_wp2_with (first
        | (go_at_call 27; refine HH.out.mono ?_; rintro e w1 ⟨rfl, ay, cy, hm, _, _⟩; have HM := hid hm; clear hm)
        | (go_at_call 26; refine (HB.out _ _).mono ?_; rintro e wm ⟨he, rfl⟩; simp only [fault] at he; subst he))
      exact ⟨rfl, HMk.out _ HM.out, HBx.out _ HM.out, rfl⟩
    | true =>
      rw [hb, if_pos rfl] at HX
      rw [hasR_true hb, hb] at HH
      unfold wFlow at HH
      clear hb
      generalize fs.drop 1 = r0 at *
      go_upto_region 8 with (first
        | (go_at_call 27; refine HH.out.mono ?_; rintro e w1 ⟨rfl, ay, cy, hm, hl, hbk⟩; have HM := hid hm; have HW := hid (word_any hl); have HBk := hid hbk; clear hm hl hbk)
        | (go_at_call 26; refine (HK.out _ true _).mono ?_; rintro e wm ⟨rfl, rfl⟩))
      cases hw : wordP r0 with
      | bad n =>
        rw [hw] at HW
        rw [hw, bind_bad] at HX
        obtain rfl := HX.out
        clear hw
        go_wp2_with (go_at_call 28; refine HW.out.mono ?_; rintro e w2 ⟨hm, he⟩; have HM2 := hid (HM.out.trans hm); simp only [fault] at he; subst he; clear hm)
        exact ⟨rfl, HMk.out _ HM2.out, HBx.out _ HM2.out, rfl⟩
      | ok nm rz =>
        rw [hw] at HW
        rw [hw, bind_ok] at HX
        clear hw
        go_upto_region 9 with (go_at_call 28; refine HW.out.mono ?_; rintro e w2 ⟨hm, rfl, hl⟩; have HM2 := hid (HM.out.trans hm); have HL2 := hid hl; have hd2 := HDk.out _ (HM.out.trans hm); have HD2 := hid hd2; obtain ⟨y0, y1, g0, g1⟩ := row2 hd2.box; clear hm hl hd2)
        have hms : Mod (fun k => k = D) w2 (w2.setCell ⟨D, 0, none⟩ (.string nm)) := Mod.setCell (S := fun k => k = D) (Mod.refl _ _) (fun _ => rfl) _
        have HD3 := hid (HD2.out.name nm)
        have HM3 := hid ((HMk.out _ HM2.out).trans (hms.mono (T := fun k => k = L ∨ k = D ∨ blk sa k) (fun _ _ h => .inr (.inl h))))
        have HL3 : Hid (∃ a1 c1, Ln (w2.setCell ⟨D, 0, none⟩ (.string nm)) L a1 c1 rz ∧ True) := hid (by
          obtain ⟨a1, c1, hl, hb1⟩ := HL2.out
          exact ⟨a1, c1, hl.mod hms hLD (fun _ k hk e => (HOld.out k (HBk.out k (hb1 k hk))).2.1 e), trivial⟩)
        clear hms y0 y1 g0 g1
        generalize w2.setCell ⟨D, 0, none⟩ (.string nm) = W3 at *
        obtain ⟨ae, ce, hle, hbe⟩ := HL3.out
        cases rz with
        | nil =>
          rw [end_nil] at HX
          obtain rfl := HX.out
          obtain ⟨b0, _⟩ := row1 hle.box
          simp only [List.length_nil] at b0
          clear hle
          go_wp2_with (go_at_call 26; refine (HK.out _ true _).mono ?_; rintro e wm ⟨rfl, rfl⟩)
          go_end0
          exact ⟨HM3.out, ⟨_, _, HD3.out.box⟩, rfl, _, _, _, HD3.out, hMem.out⟩
        | cons s1 r1 =>
          rw [end_cons] at HX
          obtain rfl := HX.out
          obtain ⟨g1, o1, _, b0, _, _⟩ := hle.open
          have hl1 := hle.len
          simp only [List.length_cons] at hl1
          have hn0 : ¬ r1.length + 1 = 0 := by omega
          clear hle
          go_wp2_with (go_at_call 26; refine (HB.out _ _).mono ?_; rintro e wm ⟨he, rfl⟩; simp only [fault] at he; subst he)
          exact ⟨rfl, HM3.out, ⟨_, _, HD3.out.box⟩, rfl⟩
  | false =>
    rw [hne, if_neg Bool.false_ne_true] at HX
    have HH := hid (has_any wStep h)
    go_enter Tryd.func18, Tryd.ntmps18
    go_upto_region 0 with fail
    clear d0 d1 f0 f1 h
    cases hb : hasB wStep fs with
    | true =>
      rw [hb, if_pos rfl] at HX
      rw [hasR_true hb, hb] at HH
      unfold wStep at HH
      clear hb
      generalize fs.drop 1 = r0 at *
      go_upto_region 2 with (first
        | (go_at_call 27; refine HH.out.mono ?_; rintro e w1 ⟨rfl, ay, cy, hm, hl, hbk⟩; have HM := hid hm; have HLv : Hid (∃ a1 c1, Ln w1 L a1 c1 r0 ∧ ∀ k, blk a1 k → blk a k) := hid ⟨ay, cy, hl, hbk⟩; clear hm hl hbk)
        | (go_at_call 26; refine (HK.out _ true _).mono ?_; rintro e wm ⟨rfl, rfl⟩))
      obtain ⟨y0, y1, g0, g1⟩ := HRow.out _ HM.out
      by_cases h8 : d.steps.length < 8
      case neg =>
        have hx0 := HX.out
        rw [if_neg h8] at hx0
        subst hx0
        have e8 : ¬ (d.steps.length : Int) < 8 := by omega
        go_wp2_with (go_at_call 26; refine (HB.out _ _).mono ?_; rintro e wm ⟨he, rfl⟩; simp only [fault] at he; subst he)
        exact ⟨rfl, HMk.out _ HM.out, HBx.out _ HM.out, rfl⟩
      case pos =>
        rw [if_pos h8] at HX
        have e8 : (d.steps.length : Int) < 8 := by omega
        go_upto_region 4 with (go_at_call 26; refine (HK.out _ true _).mono ?_; rintro e wm ⟨rfl, rfl⟩)
        clear y0 y1 g0 g1 e8
        have HGv := hid (HG.out _ HM.out)
        obtain ⟨av, cv, hlv, hbv⟩ := HLv.out
        have HDv := hid (HDk.out _ HM.out)
        have hszv := HM.out.size
        have HC := hid (fun (V : World) (hm : Mod (fun _ => False) w1 V) => step_any (w := V) (HGv.out.ext hm) (hlv.ext hm) hL8 (fun k hk => by have := (HOld.out k (hbv k hk)).1; have := hm.size; omega))
        have HBv := hid hbv
        clear hlv hbv
        have hdr : Mod (fun _ => False) w1 w1.drew := (Mod.refl _ _).drew
        have HCd := hid (HC.out _ hdr)
        have HDd := hid (HDv.out.ext hdr)
        have HMd := hid (HM.out.trans (hdr.mono (fun _ _ h => h.elim)))
        clear HC HDv hdr HGv HLv
        generalize hVd : w1.drew = Vd at *
        obtain ⟨y0, y1, g0, g1⟩ := row2 HDd.out.box
        have hszd := HMd.out.size
        cases hs : stepP r0 with
        | bad n =>
          rw [hs] at HCd
          rw [hs, bind_bad] at HX
          obtain rfl := HX.out
          clear hs
          refine wp_region_any (by kernel_rfl) ?_
          change wpAny _ _ _ _ _ _ _ (World.drew _)
          rw [hVd]
          refine wpAny_take (i := 0) (v := .pointer (some ⟨D, 0, none⟩)) rfl (by kernel_rfl) (by kernel_rfl) (by kernel_rfl) (fun _ _ _ h => h) (Or.inl ⟨by rfl, by intro w; go_simp⟩) ?_
          refine wpAny_take (i := 1) (v := .pointer (some ⟨D, 0, none⟩)) rfl (by kernel_rfl) (by kernel_rfl) (by kernel_rfl) (fun _ _ _ h => h) (Or.inl ⟨by rfl, by intro w; go_simp⟩) ?_
          refine wpAny_take (i := 2) (v := .pointer (some ⟨D, 0, none⟩)) rfl (by kernel_rfl) (by kernel_rfl) (by kernel_rfl) (fun _ _ _ h => h) (Or.inl ⟨by rfl, by intro w; go_simp⟩) ?_
          refine wpAny_take (i := 3) (v := .pointer (some ⟨D, 1, none⟩)) rfl (by kernel_rfl) (by kernel_rfl) (by kernel_rfl) (fun _ _ _ h => h) (Or.inl ⟨by rfl, by intro w; go_simp⟩) ?_
          refine wpAny_take (i := 5) (v := .pointer (some ⟨L, 0, none⟩)) rfl (by kernel_rfl) (by kernel_rfl) (by kernel_rfl) (fun _ _ _ h => h) (Or.inl ⟨by rfl, by intro w; go_simp⟩) ?_
          refine wpAny_ready (rs := [4, 6]) (by kernel_rfl) (by simp) (AllReady.cons rfl (fun K hK => ?_) (AllReady.cons rfl (fun K hK => ?_) AllReady.nil))
          · go_simp
            refine hK _ _ ?_
            clear hK K
            refine wpAny_ready (rs := [6]) (by kernel_rfl) (by simp) (AllReady.cons rfl (fun K hK => ?_) AllReady.nil)
            go_simp
            refine HCd.out.mono ?_
            rintro e w5 ⟨hm5, he⟩
            have HM5 := hid (HMd.out.trans hm5)
            simp only [fault] at he
            subst he
            clear hm5
            exact ⟨rfl, HMk.out _ HM5.out, HBx.out _ HM5.out, rfl⟩
          · go_simp
            refine HCd.out.mono ?_
            rintro e w5 ⟨hm5, he⟩
            have HM5 := hid (HMd.out.trans hm5)
            simp only [fault] at he
            subst he
            clear hm5
            exact ⟨rfl, HMk.out _ HM5.out, HBx.out _ HM5.out, rfl⟩
        | ok s rz =>
          rw [hs] at HCd
          rw [hs, bind_ok] at HX
          clear hs
          refine wp_region_any (by kernel_rfl) ?_
          change wpAny _ _ _ _ _ _ _ (World.drew _)
          rw [hVd]
          refine wpAny_take (i := 0) (v := .pointer (some ⟨D, 0, none⟩)) rfl (by kernel_rfl) (by kernel_rfl) (by kernel_rfl) (fun _ _ _ h => h) (Or.inl ⟨by rfl, by intro w; go_simp⟩) ?_
          refine wpAny_take (i := 1) (v := .pointer (some ⟨D, 0, none⟩)) rfl (by kernel_rfl) (by kernel_rfl) (by kernel_rfl) (fun _ _ _ h => h) (Or.inl ⟨by rfl, by intro w; go_simp⟩) ?_
          refine wpAny_take (i := 2) (v := .pointer (some ⟨D, 0, none⟩)) rfl (by kernel_rfl) (by kernel_rfl) (by kernel_rfl) (fun _ _ _ h => h) (Or.inl ⟨by rfl, by intro w; go_simp⟩) ?_
          refine wpAny_take (i := 3) (v := .pointer (some ⟨D, 1, none⟩)) rfl (by kernel_rfl) (by kernel_rfl) (by kernel_rfl) (fun _ _ _ h => h) (Or.inl ⟨by rfl, by intro w; go_simp⟩) ?_
          refine wpAny_take (i := 5) (v := .pointer (some ⟨L, 0, none⟩)) rfl (by kernel_rfl) (by kernel_rfl) (by kernel_rfl) (fun _ _ _ h => h) (Or.inl ⟨by rfl, by intro w; go_simp⟩) ?_
          refine wpAny_ready (rs := [4, 6]) (by kernel_rfl) (by simp) (AllReady.cons rfl (fun K hK => ?_) (AllReady.cons rfl (fun K hK => ?_) AllReady.nil))
          rotate_left
          · skip
            go_simp
            refine HCd.out.mono ?_
            rintro e w5 ⟨hm5, ⟨la, lcap, rfl, ho, hnw⟩, hla, hl5⟩
            have HM5 := hid (HMd.out.trans hm5)
            have HL5 := hid (rebk hl5 HBv.out)
            have HD5 := hid (HDk.out _ HM5.out)
            have HO := hid ho
            have HNw := hid hnw
            have HLa := hid hla
            have HOa := hid (HD5.out.own.mod (S := fun _ => False) ((Mod.refl _ _).alloc (.cells #[.string s.name, .string s.verb, .string s.undo, .string s.event, .bool s.final, .int .i64 s.retry, .int .i64 s.every, .int .i64 s.within, .slice la s.after.length lcap] 40)) (fun _ _ h => h))
            have HSa : Hid (Src (w5.alloc (.cells #[.string s.name, .string s.verb, .string s.undo, .string s.event, .bool s.final, .int .i64 s.retry, .int .i64 s.every, .int .i64 s.within, .slice la s.after.length lcap] 40)) 9 (some ⟨w5.heap.size, 0, none⟩) 1 (SA.cs ⟨s, la, lcap⟩)) := hid (src_new (heap_alloc_new _ _) rfl)
            obtain ⟨u0, u1, v0, v1⟩ := row2 HD5.out.box
            obtain ⟨_, u2, _, _⟩ := row2 ((Below.heap_alloc w5 (.cells #[.string s.name, .string s.verb, .string s.undo, .string s.event, .bool s.final, .int .i64 s.retry, .int .i64 s.every, .int .i64 s.within, .slice la s.after.length lcap] 40) _ (lt_of_heap HD5.out.box)).trans HD5.out.box)
            have hsz5 := HM5.out.size
            have HRo := hid (fun (V : World) (hm : Mod (blk sa) (w5.alloc (.cells #[.string s.name, .string s.verb, .string s.undo, .string s.event, .bool s.final, .int .i64 s.retry, .int .i64 s.every, .int .i64 s.within, .slice la s.after.length lcap] 40)) V) => row2 ((hm.block D (by rw [World.size_alloc]; omega) HD5.out.ne).trans ((Below.heap_alloc _ _ _ (lt_of_heap HD5.out.box)).trans HD5.out.box)))
            unfold spV
            clear hm5 ho hnw hla hl5
            refine hK _ _ ?_
            clear hK K
            refine wpAny_ready (rs := [4, 7]) (by kernel_rfl) (by simp) (AllReady.cons rfl (fun K hK => ?_) (AllReady.cons rfl (fun K hK => ?_) AllReady.nil))
            · skip
              go_simp
              refine hK _ _ ?_
              clear hK K
              refine wpAny_ready (rs := [7]) (by kernel_rfl) (by simp) (AllReady.cons rfl (fun K hK => ?_) AllReady.nil)
              go_simp
              refine hK _ _ ?_
              clear hK K
              refine wpAny_ready (rs := [8]) (by kernel_rfl) (by simp) (AllReady.cons rfl (fun K hK => ?_) AllReady.nil)
              refine step_append_Own rfl (.tmp 27) (.tmp 30) 22 rfl 40 i0 _ 9 120 Tryd.underlying22 hi0 hz0 hz1 hz2 rfl sa d.steps.length cap _ (by simp [Act.eval]) HOa.out (some ⟨w5.heap.size, 0, none⟩) 1 1 _ (by simp [Act.eval]) HSa.out (SA.one _) (by unfold maxLen; omega) (by omega) ?_
              intro sa6 cap6 w6 hown hm6 hb6 hn6 hr6
              have HO6 := hid hown
              have HM6 := hid hm6
              have HB6 := hid hb6
              clear hown hm6 hb6 hn6 hr6
              obtain ⟨p0, p1, t0, t1⟩ := HRo.out w6 HM6.out
              refine hK _ _ ?_
              clear hK K
              simp only [Act.put]
              refine wpAny_take (i := 9) (v := .pointer (some ⟨D, 0, none⟩)) rfl (by kernel_rfl) (by kernel_rfl) (by kernel_rfl) (fun _ _ _ h => h) (Or.inl ⟨by rfl, by intro w; go_simp⟩) ?_
              refine wpAny_take (i := 10) (v := .pointer (some ⟨D, 1, none⟩)) rfl (by kernel_rfl) (by kernel_rfl) (by kernel_rfl) (fun _ _ _ h => h) (Or.inl ⟨by rfl, by intro w; go_simp⟩) ?_
              refine wpAny_ready (rs := [11]) (by kernel_rfl) (by simp) (AllReady.cons rfl (fun K hK => ?_) AllReady.nil)
              go_simp
              refine hK _ _ ?_
              clear hK K
              refine wpAny_done (by kernel_rfl) ?_ _
              have HDg := hid ((HD5.out.ext ((Mod.refl _ _).alloc (.cells #[.string s.name, .string s.verb, .string s.undo, .string s.event, .bool s.final, .int .i64 s.retry, .int .i64 s.every, .int .i64 s.within, .slice la s.after.length lcap] 40))).grown (by rw [World.size_alloc]; omega) HM6.out h8 HO6.out HB6.out (HO.out.lies.ext ((Mod.refl _ _).alloc _)) HLa.out (fun k hk => ⟨fun h2 => by have := HNw.out k hk; have := HDd.out.own.lt k h2; omega, fun e => by have := HNw.out k hk; omega⟩))
              have hms : Mod (fun k => k = D) w6 (w6.setCell ⟨D, 1, none⟩ (.slice sa6 (d.steps.length + 1) cap6)) := Mod.setCell (S := fun k => k = D) (Mod.refl _ _) (fun _ => rfl) _
              have HM7 : Hid (Mod (fun k => k = L ∨ k = D ∨ blk sa k) w (w6.setCell ⟨D, 1, none⟩ (.slice sa6 (d.steps.length + 1) cap6))) := hid ((((HMk.out _ HM5.out).alloc _).trans (HM6.out.mono (fun _ _ h => .inr (.inr h)))).trans (hms.mono (fun _ _ h => .inr (.inl h))))
              have HL7 : Hid (∃ a1 c1, Ln (w6.setCell ⟨D, 1, none⟩ (.slice sa6 (d.steps.length + 1) cap6)) L a1 c1 rz ∧ True) := hid (by
                obtain ⟨a1, c1, hl, hb1⟩ := HL5.out
                exact ⟨a1, c1, ((hl.ext ((Mod.refl _ _).alloc _)).mod HM6.out hLs (fun _ k hk h2 => (HOld.out k (hb1 k hk)).2.2 h2)).mod hms hLD (fun _ k hk e => (HOld.out k (hb1 k hk)).2.1 e), trivial⟩)
              have HMem : Hid (∀ k, dset D sa6 (ss ++ [⟨s, la, lcap⟩]) k → dset D sa ss k ∨ w.heap.size ≤ k) := hid (fun k hk => by
                rcases hk with rfl | hk | ⟨x, hx, h0, hk⟩
                · exact .inl (.inl rfl)
                · rcases HB6.out k hk with h1 | h1
                  · exact .inl (.inr (.inl h1))
                  · rw [World.size_alloc] at h1
                    exact .inr (by omega)
                · rcases List.mem_append.1 hx with h1 | h1
                  · exact .inl (.inr (.inr ⟨x, h1, h0, hk⟩))
                  · rw [List.mem_singleton] at h1
                    subst h1
                    exact .inr (by have := HNw.out k hk; omega))
              clear hms u0 u1 u2 v0 v1 p0 p1 t0 t1
              generalize w6.setCell ⟨D, 1, none⟩ (.slice sa6 (d.steps.length + 1) cap6) = W7 at *
              obtain ⟨ae, ce, hle, hbe⟩ := HL7.out
              cases rz with
              | nil =>
                rw [end_nil] at HX
                obtain rfl := HX.out
                obtain ⟨b0, _⟩ := row1 hle.box
                simp only [List.length_nil] at b0
                clear hle
                go_wp2_with (go_at_call 26; refine (HK.out _ true _).mono ?_; rintro e wm ⟨rfl, rfl⟩)
                go_end0
                exact ⟨HM7.out, ⟨_, _, HDg.out.box⟩, rfl, _, _, _, HDg.out, HMem.out⟩
              | cons s1 r1 =>
                rw [end_cons] at HX
                obtain rfl := HX.out
                obtain ⟨g1, o1, _, b0, _, _⟩ := hle.open
                have hl1 := hle.len
                simp only [List.length_cons] at hl1
                have hn0 : ¬ r1.length + 1 = 0 := by omega
                clear hle
                go_wp2_with (go_at_call 26; refine (HB.out _ _).mono ?_; rintro e wm ⟨he, rfl⟩; simp only [fault] at he; subst he)
                exact ⟨rfl, HM7.out, ⟨_, _, HDg.out.box⟩, rfl⟩
            · skip
              go_simp
              refine hK _ _ ?_
              clear hK K
              refine wpAny_ready (rs := [4]) (by kernel_rfl) (by simp) (AllReady.cons rfl (fun K hK => ?_) AllReady.nil)
              go_simp
              refine hK _ _ ?_
              clear hK K
              refine wpAny_ready (rs := [8]) (by kernel_rfl) (by simp) (AllReady.cons rfl (fun K hK => ?_) AllReady.nil)
              refine step_append_Own rfl (.tmp 27) (.tmp 30) 22 rfl 40 i0 _ 9 120 Tryd.underlying22 hi0 hz0 hz1 hz2 rfl sa d.steps.length cap _ (by simp [Act.eval]) HOa.out (some ⟨w5.heap.size, 0, none⟩) 1 1 _ (by simp [Act.eval]) HSa.out (SA.one _) (by unfold maxLen; omega) (by omega) ?_
              intro sa6 cap6 w6 hown hm6 hb6 hn6 hr6
              have HO6 := hid hown
              have HM6 := hid hm6
              have HB6 := hid hb6
              clear hown hm6 hb6 hn6 hr6
              obtain ⟨p0, p1, t0, t1⟩ := HRo.out w6 HM6.out
              refine hK _ _ ?_
              clear hK K
              simp only [Act.put]
              refine wpAny_take (i := 9) (v := .pointer (some ⟨D, 0, none⟩)) rfl (by kernel_rfl) (by kernel_rfl) (by kernel_rfl) (fun _ _ _ h => h) (Or.inl ⟨by rfl, by intro w; go_simp⟩) ?_
              refine wpAny_take (i := 10) (v := .pointer (some ⟨D, 1, none⟩)) rfl (by kernel_rfl) (by kernel_rfl) (by kernel_rfl) (fun _ _ _ h => h) (Or.inl ⟨by rfl, by intro w; go_simp⟩) ?_
              refine wpAny_ready (rs := [11]) (by kernel_rfl) (by simp) (AllReady.cons rfl (fun K hK => ?_) AllReady.nil)
              go_simp
              refine hK _ _ ?_
              clear hK K
              refine wpAny_done (by kernel_rfl) ?_ _
              have HDg := hid ((HD5.out.ext ((Mod.refl _ _).alloc (.cells #[.string s.name, .string s.verb, .string s.undo, .string s.event, .bool s.final, .int .i64 s.retry, .int .i64 s.every, .int .i64 s.within, .slice la s.after.length lcap] 40))).grown (by rw [World.size_alloc]; omega) HM6.out h8 HO6.out HB6.out (HO.out.lies.ext ((Mod.refl _ _).alloc _)) HLa.out (fun k hk => ⟨fun h2 => by have := HNw.out k hk; have := HDd.out.own.lt k h2; omega, fun e => by have := HNw.out k hk; omega⟩))
              have hms : Mod (fun k => k = D) w6 (w6.setCell ⟨D, 1, none⟩ (.slice sa6 (d.steps.length + 1) cap6)) := Mod.setCell (S := fun k => k = D) (Mod.refl _ _) (fun _ => rfl) _
              have HM7 : Hid (Mod (fun k => k = L ∨ k = D ∨ blk sa k) w (w6.setCell ⟨D, 1, none⟩ (.slice sa6 (d.steps.length + 1) cap6))) := hid ((((HMk.out _ HM5.out).alloc _).trans (HM6.out.mono (fun _ _ h => .inr (.inr h)))).trans (hms.mono (fun _ _ h => .inr (.inl h))))
              have HL7 : Hid (∃ a1 c1, Ln (w6.setCell ⟨D, 1, none⟩ (.slice sa6 (d.steps.length + 1) cap6)) L a1 c1 rz ∧ True) := hid (by
                obtain ⟨a1, c1, hl, hb1⟩ := HL5.out
                exact ⟨a1, c1, ((hl.ext ((Mod.refl _ _).alloc _)).mod HM6.out hLs (fun _ k hk h2 => (HOld.out k (hb1 k hk)).2.2 h2)).mod hms hLD (fun _ k hk e => (HOld.out k (hb1 k hk)).2.1 e), trivial⟩)
              have HMem : Hid (∀ k, dset D sa6 (ss ++ [⟨s, la, lcap⟩]) k → dset D sa ss k ∨ w.heap.size ≤ k) := hid (fun k hk => by
                rcases hk with rfl | hk | ⟨x, hx, h0, hk⟩
                · exact .inl (.inl rfl)
                · rcases HB6.out k hk with h1 | h1
                  · exact .inl (.inr (.inl h1))
                  · rw [World.size_alloc] at h1
                    exact .inr (by omega)
                · rcases List.mem_append.1 hx with h1 | h1
                  · exact .inl (.inr (.inr ⟨x, h1, h0, hk⟩))
                  · rw [List.mem_singleton] at h1
                    subst h1
                    exact .inr (by have := HNw.out k hk; omega))
              clear hms u0 u1 u2 v0 v1 p0 p1 t0 t1
              generalize w6.setCell ⟨D, 1, none⟩ (.slice sa6 (d.steps.length + 1) cap6) = W7 at *
              obtain ⟨ae, ce, hle, hbe⟩ := HL7.out
              cases rz with
              | nil =>
                rw [end_nil] at HX
                obtain rfl := HX.out
                obtain ⟨b0, _⟩ := row1 hle.box
                simp only [List.length_nil] at b0
                clear hle
                go_wp2_with (go_at_call 26; refine (HK.out _ true _).mono ?_; rintro e wm ⟨rfl, rfl⟩)
                go_end0
                exact ⟨HM7.out, ⟨_, _, HDg.out.box⟩, rfl, _, _, _, HDg.out, HMem.out⟩
              | cons s1 r1 =>
                rw [end_cons] at HX
                obtain rfl := HX.out
                obtain ⟨g1, o1, _, b0, _, _⟩ := hle.open
                have hl1 := hle.len
                simp only [List.length_cons] at hl1
                have hn0 : ¬ r1.length + 1 = 0 := by omega
                clear hle
                go_wp2_with (go_at_call 26; refine (HB.out _ _).mono ?_; rintro e wm ⟨he, rfl⟩; simp only [fault] at he; subst he)
                exact ⟨rfl, HM7.out, ⟨_, _, HDg.out.box⟩, rfl⟩
          · skip
            go_simp
            refine hK _ _ ?_
            clear hK K
            refine wpAny_ready (rs := [6]) (by kernel_rfl) (by simp) (AllReady.cons rfl (fun K hK => ?_) AllReady.nil)
            go_simp
            refine HCd.out.mono ?_
            rintro e w5 ⟨hm5, ⟨la, lcap, rfl, ho, hnw⟩, hla, hl5⟩
            have HM5 := hid (HMd.out.trans hm5)
            have HL5 := hid (rebk hl5 HBv.out)
            have HD5 := hid (HDk.out _ HM5.out)
            have HO := hid ho
            have HNw := hid hnw
            have HLa := hid hla
            have HOa := hid (HD5.out.own.mod (S := fun _ => False) ((Mod.refl _ _).alloc (.cells #[.string s.name, .string s.verb, .string s.undo, .string s.event, .bool s.final, .int .i64 s.retry, .int .i64 s.every, .int .i64 s.within, .slice la s.after.length lcap] 40)) (fun _ _ h => h))
            have HSa : Hid (Src (w5.alloc (.cells #[.string s.name, .string s.verb, .string s.undo, .string s.event, .bool s.final, .int .i64 s.retry, .int .i64 s.every, .int .i64 s.within, .slice la s.after.length lcap] 40)) 9 (some ⟨w5.heap.size, 0, none⟩) 1 (SA.cs ⟨s, la, lcap⟩)) := hid (src_new (heap_alloc_new _ _) rfl)
            obtain ⟨u0, u1, v0, v1⟩ := row2 HD5.out.box
            obtain ⟨_, u2, _, _⟩ := row2 ((Below.heap_alloc w5 (.cells #[.string s.name, .string s.verb, .string s.undo, .string s.event, .bool s.final, .int .i64 s.retry, .int .i64 s.every, .int .i64 s.within, .slice la s.after.length lcap] 40) _ (lt_of_heap HD5.out.box)).trans HD5.out.box)
            have hsz5 := HM5.out.size
            have HRo := hid (fun (V : World) (hm : Mod (blk sa) (w5.alloc (.cells #[.string s.name, .string s.verb, .string s.undo, .string s.event, .bool s.final, .int .i64 s.retry, .int .i64 s.every, .int .i64 s.within, .slice la s.after.length lcap] 40)) V) => row2 ((hm.block D (by rw [World.size_alloc]; omega) HD5.out.ne).trans ((Below.heap_alloc _ _ _ (lt_of_heap HD5.out.box)).trans HD5.out.box)))
            unfold spV
            clear hm5 ho hnw hla hl5
            refine hK _ _ ?_
            clear hK K
            refine wpAny_ready (rs := [7]) (by kernel_rfl) (by simp) (AllReady.cons rfl (fun K hK => ?_) AllReady.nil)
            go_simp
            refine hK _ _ ?_
            clear hK K
            refine wpAny_ready (rs := [8]) (by kernel_rfl) (by simp) (AllReady.cons rfl (fun K hK => ?_) AllReady.nil)
            refine step_append_Own rfl (.tmp 27) (.tmp 30) 22 rfl 40 i0 _ 9 120 Tryd.underlying22 hi0 hz0 hz1 hz2 rfl sa d.steps.length cap _ (by simp [Act.eval]) HOa.out (some ⟨w5.heap.size, 0, none⟩) 1 1 _ (by simp [Act.eval]) HSa.out (SA.one _) (by unfold maxLen; omega) (by omega) ?_
            intro sa6 cap6 w6 hown hm6 hb6 hn6 hr6
            have HO6 := hid hown
            have HM6 := hid hm6
            have HB6 := hid hb6
            clear hown hm6 hb6 hn6 hr6
            obtain ⟨p0, p1, t0, t1⟩ := HRo.out w6 HM6.out
            refine hK _ _ ?_
            clear hK K
            simp only [Act.put]
            refine wpAny_take (i := 9) (v := .pointer (some ⟨D, 0, none⟩)) rfl (by kernel_rfl) (by kernel_rfl) (by kernel_rfl) (fun _ _ _ h => h) (Or.inl ⟨by rfl, by intro w; go_simp⟩) ?_
            refine wpAny_take (i := 10) (v := .pointer (some ⟨D, 1, none⟩)) rfl (by kernel_rfl) (by kernel_rfl) (by kernel_rfl) (fun _ _ _ h => h) (Or.inl ⟨by rfl, by intro w; go_simp⟩) ?_
            refine wpAny_ready (rs := [11]) (by kernel_rfl) (by simp) (AllReady.cons rfl (fun K hK => ?_) AllReady.nil)
            go_simp
            refine hK _ _ ?_
            clear hK K
            refine wpAny_done (by kernel_rfl) ?_ _
            have HDg := hid ((HD5.out.ext ((Mod.refl _ _).alloc (.cells #[.string s.name, .string s.verb, .string s.undo, .string s.event, .bool s.final, .int .i64 s.retry, .int .i64 s.every, .int .i64 s.within, .slice la s.after.length lcap] 40))).grown (by rw [World.size_alloc]; omega) HM6.out h8 HO6.out HB6.out (HO.out.lies.ext ((Mod.refl _ _).alloc _)) HLa.out (fun k hk => ⟨fun h2 => by have := HNw.out k hk; have := HDd.out.own.lt k h2; omega, fun e => by have := HNw.out k hk; omega⟩))
            have hms : Mod (fun k => k = D) w6 (w6.setCell ⟨D, 1, none⟩ (.slice sa6 (d.steps.length + 1) cap6)) := Mod.setCell (S := fun k => k = D) (Mod.refl _ _) (fun _ => rfl) _
            have HM7 : Hid (Mod (fun k => k = L ∨ k = D ∨ blk sa k) w (w6.setCell ⟨D, 1, none⟩ (.slice sa6 (d.steps.length + 1) cap6))) := hid ((((HMk.out _ HM5.out).alloc _).trans (HM6.out.mono (fun _ _ h => .inr (.inr h)))).trans (hms.mono (fun _ _ h => .inr (.inl h))))
            have HL7 : Hid (∃ a1 c1, Ln (w6.setCell ⟨D, 1, none⟩ (.slice sa6 (d.steps.length + 1) cap6)) L a1 c1 rz ∧ True) := hid (by
              obtain ⟨a1, c1, hl, hb1⟩ := HL5.out
              exact ⟨a1, c1, ((hl.ext ((Mod.refl _ _).alloc _)).mod HM6.out hLs (fun _ k hk h2 => (HOld.out k (hb1 k hk)).2.2 h2)).mod hms hLD (fun _ k hk e => (HOld.out k (hb1 k hk)).2.1 e), trivial⟩)
            have HMem : Hid (∀ k, dset D sa6 (ss ++ [⟨s, la, lcap⟩]) k → dset D sa ss k ∨ w.heap.size ≤ k) := hid (fun k hk => by
              rcases hk with rfl | hk | ⟨x, hx, h0, hk⟩
              · exact .inl (.inl rfl)
              · rcases HB6.out k hk with h1 | h1
                · exact .inl (.inr (.inl h1))
                · rw [World.size_alloc] at h1
                  exact .inr (by omega)
              · rcases List.mem_append.1 hx with h1 | h1
                · exact .inl (.inr (.inr ⟨x, h1, h0, hk⟩))
                · rw [List.mem_singleton] at h1
                  subst h1
                  exact .inr (by have := HNw.out k hk; omega))
            clear hms u0 u1 u2 v0 v1 p0 p1 t0 t1
            generalize w6.setCell ⟨D, 1, none⟩ (.slice sa6 (d.steps.length + 1) cap6) = W7 at *
            obtain ⟨ae, ce, hle, hbe⟩ := HL7.out
            cases rz with
            | nil =>
              rw [end_nil] at HX
              obtain rfl := HX.out
              obtain ⟨b0, _⟩ := row1 hle.box
              simp only [List.length_nil] at b0
              clear hle
              go_wp2_with (go_at_call 26; refine (HK.out _ true _).mono ?_; rintro e wm ⟨rfl, rfl⟩)
              go_end0
              exact ⟨HM7.out, ⟨_, _, HDg.out.box⟩, rfl, _, _, _, HDg.out, HMem.out⟩
            | cons s1 r1 =>
              rw [end_cons] at HX
              obtain rfl := HX.out
              obtain ⟨g1, o1, _, b0, _, _⟩ := hle.open
              have hl1 := hle.len
              simp only [List.length_cons] at hl1
              have hn0 : ¬ r1.length + 1 = 0 := by omega
              clear hle
              go_wp2_with (go_at_call 26; refine (HB.out _ _).mono ?_; rintro e wm ⟨he, rfl⟩; simp only [fault] at he; subst he)
              exact ⟨rfl, HM7.out, ⟨_, _, HDg.out.box⟩, rfl⟩
    | false =>
      rw [hb, if_neg Bool.false_ne_true] at HX
      rw [hasR_false hb, hb] at HH
      unfold wStep at HH
      clear hb
      cases hb2 : hasB wWait fs with
      | false =>
        have hx0 := HX.out
        rw [hb2, if_neg Bool.false_ne_true] at hx0
        subst hx0
        go_wp2_with (first
          | (go_at_call 27; refine HH.out.mono ?_; rintro e w1 ⟨rfl, ay, cy, hm, hl, hbk⟩; have HM := hid hm; have HW := hid (has_any wWait hl); rw [hb2] at HW; unfold wWait at HW; have HBk := hid hbk; clear hm hl hbk HH)
          | (go_at_call 27; refine HW.out.mono ?_; rintro e w2 ⟨rfl, az, cz, hm, _, _⟩; have HM2 := hid (HM.out.trans hm); clear hm)
          | (go_at_call 26; refine (HB.out _ _).mono ?_; rintro e wm ⟨he, rfl⟩; simp only [fault] at he; subst he))
        exact ⟨rfl, HMk.out _ HM2.out, HBx.out _ HM2.out, rfl⟩
      | true =>
        have hr2 := hasR_true hb2
        rw [hb2, if_pos rfl] at HX
        go_upto_region 2 with (first
          | (go_at_call 27; refine HH.out.mono ?_; rintro e w1 ⟨rfl, ay, cy, hm, hl, hbk⟩; have HM := hid hm; have HW := hid (has_any wWait hl); rw [hb2] at HW; unfold wWait at HW; have HBk := hid hbk; clear hm hl hbk HH)
          | (go_at_call 27; refine HW.out.mono ?_; rintro e w2 ⟨rfl, az, cz, hm, hl, hbk⟩; rw [show hasR ⟨#[119, 97, 105, 116]⟩ fs = _ from hr2] at hl; have HM2 := hid (HM.out.trans hm); have HLv : Hid (∃ a1 c1, Ln w2 L a1 c1 (fs.drop 1) ∧ ∀ k, blk a1 k → blk a k) := hid ⟨az, cz, hl, fun k hk => HBk.out k (hbk k hk)⟩; clear hm hl hbk)
          | (go_at_call 26; refine (HK.out _ true _).mono ?_; rintro e wm ⟨rfl, rfl⟩))
        clear hb2 hr2 HW
        generalize fs.drop 1 = r0 at *
        obtain ⟨y0, y1, g0, g1⟩ := HRow.out _ HM2.out
        by_cases h8 : d.steps.length < 8
        case neg =>
          have hx0 := HX.out
          rw [if_neg h8] at hx0
          subst hx0
          have e8 : ¬ (d.steps.length : Int) < 8 := by omega
          go_wp2_with (go_at_call 26; refine (HB.out _ _).mono ?_; rintro e wm ⟨he, rfl⟩; simp only [fault] at he; subst he)
          exact ⟨rfl, HMk.out _ HM2.out, HBx.out _ HM2.out, rfl⟩
        case pos =>
          rw [if_pos h8] at HX
          have e8 : (d.steps.length : Int) < 8 := by omega
          go_upto_region 5 with (go_at_call 26; refine (HK.out _ true _).mono ?_; rintro e wm ⟨rfl, rfl⟩)
          clear y0 y1 g0 g1 e8
          have HGv := hid (HG.out _ HM2.out)
          obtain ⟨av, cv, hlv, hbv⟩ := HLv.out
          have HDv := hid (HDk.out _ HM2.out)
          have hszv := HM2.out.size
          have HC := hid (fun (V : World) (hm : Mod (fun _ => False) w2 V) => wait_any (w := V) (HGv.out.ext hm) (hlv.ext hm) hL8 (fun k hk => by have := (HOld.out k (hbv k hk)).1; have := hm.size; omega))
          have HBv := hid hbv
          clear hlv hbv
          have hdr : Mod (fun _ => False) w2 w2.drew := (Mod.refl _ _).drew
          have HCd := hid (HC.out _ hdr)
          have HDd := hid (HDv.out.ext hdr)
          have HMd := hid (HM2.out.trans (hdr.mono (fun _ _ h => h.elim)))
          clear HC HDv hdr HGv HLv
          generalize hVd : w2.drew = Vd at *
          obtain ⟨y0, y1, g0, g1⟩ := row2 HDd.out.box
          have hszd := HMd.out.size
          cases hs : waitP r0 with
          | bad n =>
            rw [hs] at HCd
            rw [hs, bind_bad] at HX
            obtain rfl := HX.out
            clear hs
            refine wp_region_any (by kernel_rfl) ?_
            change wpAny _ _ _ _ _ _ _ (World.drew _)
            rw [hVd]
            refine wpAny_take (i := 0) (v := .pointer (some ⟨D, 0, none⟩)) rfl (by kernel_rfl) (by kernel_rfl) (by kernel_rfl) (fun _ _ _ h => h) (Or.inl ⟨by rfl, by intro w; go_simp⟩) ?_
            refine wpAny_take (i := 1) (v := .pointer (some ⟨D, 0, none⟩)) rfl (by kernel_rfl) (by kernel_rfl) (by kernel_rfl) (fun _ _ _ h => h) (Or.inl ⟨by rfl, by intro w; go_simp⟩) ?_
            refine wpAny_take (i := 2) (v := .pointer (some ⟨D, 0, none⟩)) rfl (by kernel_rfl) (by kernel_rfl) (by kernel_rfl) (fun _ _ _ h => h) (Or.inl ⟨by rfl, by intro w; go_simp⟩) ?_
            refine wpAny_take (i := 3) (v := .pointer (some ⟨D, 1, none⟩)) rfl (by kernel_rfl) (by kernel_rfl) (by kernel_rfl) (fun _ _ _ h => h) (Or.inl ⟨by rfl, by intro w; go_simp⟩) ?_
            refine wpAny_take (i := 5) (v := .pointer (some ⟨L, 0, none⟩)) rfl (by kernel_rfl) (by kernel_rfl) (by kernel_rfl) (fun _ _ _ h => h) (Or.inl ⟨by rfl, by intro w; go_simp⟩) ?_
            refine wpAny_ready (rs := [4, 6]) (by kernel_rfl) (by simp) (AllReady.cons rfl (fun K hK => ?_) (AllReady.cons rfl (fun K hK => ?_) AllReady.nil))
            · go_simp
              refine hK _ _ ?_
              clear hK K
              refine wpAny_ready (rs := [6]) (by kernel_rfl) (by simp) (AllReady.cons rfl (fun K hK => ?_) AllReady.nil)
              go_simp
              refine HCd.out.mono ?_
              rintro e w5 ⟨hm5, he⟩
              have HM5 := hid (HMd.out.trans hm5)
              simp only [fault] at he
              subst he
              clear hm5
              exact ⟨rfl, HMk.out _ HM5.out, HBx.out _ HM5.out, rfl⟩
            · go_simp
              refine HCd.out.mono ?_
              rintro e w5 ⟨hm5, he⟩
              have HM5 := hid (HMd.out.trans hm5)
              simp only [fault] at he
              subst he
              clear hm5
              exact ⟨rfl, HMk.out _ HM5.out, HBx.out _ HM5.out, rfl⟩
          | ok s rz =>
            rw [hs] at HCd
            rw [hs, bind_ok] at HX
            clear hs
            refine wp_region_any (by kernel_rfl) ?_
            change wpAny _ _ _ _ _ _ _ (World.drew _)
            rw [hVd]
            refine wpAny_take (i := 0) (v := .pointer (some ⟨D, 0, none⟩)) rfl (by kernel_rfl) (by kernel_rfl) (by kernel_rfl) (fun _ _ _ h => h) (Or.inl ⟨by rfl, by intro w; go_simp⟩) ?_
            refine wpAny_take (i := 1) (v := .pointer (some ⟨D, 0, none⟩)) rfl (by kernel_rfl) (by kernel_rfl) (by kernel_rfl) (fun _ _ _ h => h) (Or.inl ⟨by rfl, by intro w; go_simp⟩) ?_
            refine wpAny_take (i := 2) (v := .pointer (some ⟨D, 0, none⟩)) rfl (by kernel_rfl) (by kernel_rfl) (by kernel_rfl) (fun _ _ _ h => h) (Or.inl ⟨by rfl, by intro w; go_simp⟩) ?_
            refine wpAny_take (i := 3) (v := .pointer (some ⟨D, 1, none⟩)) rfl (by kernel_rfl) (by kernel_rfl) (by kernel_rfl) (fun _ _ _ h => h) (Or.inl ⟨by rfl, by intro w; go_simp⟩) ?_
            refine wpAny_take (i := 5) (v := .pointer (some ⟨L, 0, none⟩)) rfl (by kernel_rfl) (by kernel_rfl) (by kernel_rfl) (fun _ _ _ h => h) (Or.inl ⟨by rfl, by intro w; go_simp⟩) ?_
            refine wpAny_ready (rs := [4, 6]) (by kernel_rfl) (by simp) (AllReady.cons rfl (fun K hK => ?_) (AllReady.cons rfl (fun K hK => ?_) AllReady.nil))
            rotate_left
            · skip
              go_simp
              refine HCd.out.mono ?_
              rintro e w5 ⟨hm5, ⟨la, lcap, rfl, ho, hnw⟩, hla, hl5⟩
              have HM5 := hid (HMd.out.trans hm5)
              have HL5 := hid (rebk hl5 HBv.out)
              have HD5 := hid (HDk.out _ HM5.out)
              have HO := hid ho
              have HNw := hid hnw
              have HLa := hid hla
              have HOa := hid (HD5.out.own.mod (S := fun _ => False) ((Mod.refl _ _).alloc (.cells #[.string s.name, .string s.verb, .string s.undo, .string s.event, .bool s.final, .int .i64 s.retry, .int .i64 s.every, .int .i64 s.within, .slice la s.after.length lcap] 40)) (fun _ _ h => h))
              have HSa : Hid (Src (w5.alloc (.cells #[.string s.name, .string s.verb, .string s.undo, .string s.event, .bool s.final, .int .i64 s.retry, .int .i64 s.every, .int .i64 s.within, .slice la s.after.length lcap] 40)) 9 (some ⟨w5.heap.size, 0, none⟩) 1 (SA.cs ⟨s, la, lcap⟩)) := hid (src_new (heap_alloc_new _ _) rfl)
              obtain ⟨u0, u1, v0, v1⟩ := row2 HD5.out.box
              obtain ⟨_, u2, _, _⟩ := row2 ((Below.heap_alloc w5 (.cells #[.string s.name, .string s.verb, .string s.undo, .string s.event, .bool s.final, .int .i64 s.retry, .int .i64 s.every, .int .i64 s.within, .slice la s.after.length lcap] 40) _ (lt_of_heap HD5.out.box)).trans HD5.out.box)
              have hsz5 := HM5.out.size
              have HRo := hid (fun (V : World) (hm : Mod (blk sa) (w5.alloc (.cells #[.string s.name, .string s.verb, .string s.undo, .string s.event, .bool s.final, .int .i64 s.retry, .int .i64 s.every, .int .i64 s.within, .slice la s.after.length lcap] 40)) V) => row2 ((hm.block D (by rw [World.size_alloc]; omega) HD5.out.ne).trans ((Below.heap_alloc _ _ _ (lt_of_heap HD5.out.box)).trans HD5.out.box)))
              unfold spV
              clear hm5 ho hnw hla hl5
              refine hK _ _ ?_
              clear hK K
              refine wpAny_ready (rs := [4, 7]) (by kernel_rfl) (by simp) (AllReady.cons rfl (fun K hK => ?_) (AllReady.cons rfl (fun K hK => ?_) AllReady.nil))
              · skip
                go_simp
                refine hK _ _ ?_
                clear hK K
                refine wpAny_ready (rs := [7]) (by kernel_rfl) (by simp) (AllReady.cons rfl (fun K hK => ?_) AllReady.nil)
                go_simp
                refine hK _ _ ?_
                clear hK K
                refine wpAny_ready (rs := [8]) (by kernel_rfl) (by simp) (AllReady.cons rfl (fun K hK => ?_) AllReady.nil)
                refine step_append_Own rfl (.tmp 38) (.tmp 41) 22 rfl 40 i0 _ 9 120 Tryd.underlying22 hi0 hz0 hz1 hz2 rfl sa d.steps.length cap _ (by simp [Act.eval]) HOa.out (some ⟨w5.heap.size, 0, none⟩) 1 1 _ (by simp [Act.eval]) HSa.out (SA.one _) (by unfold maxLen; omega) (by omega) ?_
                intro sa6 cap6 w6 hown hm6 hb6 hn6 hr6
                have HO6 := hid hown
                have HM6 := hid hm6
                have HB6 := hid hb6
                clear hown hm6 hb6 hn6 hr6
                obtain ⟨p0, p1, t0, t1⟩ := HRo.out w6 HM6.out
                refine hK _ _ ?_
                clear hK K
                simp only [Act.put]
                refine wpAny_take (i := 9) (v := .pointer (some ⟨D, 0, none⟩)) rfl (by kernel_rfl) (by kernel_rfl) (by kernel_rfl) (fun _ _ _ h => h) (Or.inl ⟨by rfl, by intro w; go_simp⟩) ?_
                refine wpAny_take (i := 10) (v := .pointer (some ⟨D, 1, none⟩)) rfl (by kernel_rfl) (by kernel_rfl) (by kernel_rfl) (fun _ _ _ h => h) (Or.inl ⟨by rfl, by intro w; go_simp⟩) ?_
                refine wpAny_ready (rs := [11]) (by kernel_rfl) (by simp) (AllReady.cons rfl (fun K hK => ?_) AllReady.nil)
                go_simp
                refine hK _ _ ?_
                clear hK K
                refine wpAny_done (by kernel_rfl) ?_ _
                have HDg := hid ((HD5.out.ext ((Mod.refl _ _).alloc (.cells #[.string s.name, .string s.verb, .string s.undo, .string s.event, .bool s.final, .int .i64 s.retry, .int .i64 s.every, .int .i64 s.within, .slice la s.after.length lcap] 40))).grown (by rw [World.size_alloc]; omega) HM6.out h8 HO6.out HB6.out (HO.out.lies.ext ((Mod.refl _ _).alloc _)) HLa.out (fun k hk => ⟨fun h2 => by have := HNw.out k hk; have := HDd.out.own.lt k h2; omega, fun e => by have := HNw.out k hk; omega⟩))
                have hms : Mod (fun k => k = D) w6 (w6.setCell ⟨D, 1, none⟩ (.slice sa6 (d.steps.length + 1) cap6)) := Mod.setCell (S := fun k => k = D) (Mod.refl _ _) (fun _ => rfl) _
                have HM7 : Hid (Mod (fun k => k = L ∨ k = D ∨ blk sa k) w (w6.setCell ⟨D, 1, none⟩ (.slice sa6 (d.steps.length + 1) cap6))) := hid ((((HMk.out _ HM5.out).alloc _).trans (HM6.out.mono (fun _ _ h => .inr (.inr h)))).trans (hms.mono (fun _ _ h => .inr (.inl h))))
                have HL7 : Hid (∃ a1 c1, Ln (w6.setCell ⟨D, 1, none⟩ (.slice sa6 (d.steps.length + 1) cap6)) L a1 c1 rz ∧ True) := hid (by
                  obtain ⟨a1, c1, hl, hb1⟩ := HL5.out
                  exact ⟨a1, c1, ((hl.ext ((Mod.refl _ _).alloc _)).mod HM6.out hLs (fun _ k hk h2 => (HOld.out k (hb1 k hk)).2.2 h2)).mod hms hLD (fun _ k hk e => (HOld.out k (hb1 k hk)).2.1 e), trivial⟩)
                have HMem : Hid (∀ k, dset D sa6 (ss ++ [⟨s, la, lcap⟩]) k → dset D sa ss k ∨ w.heap.size ≤ k) := hid (fun k hk => by
                  rcases hk with rfl | hk | ⟨x, hx, h0, hk⟩
                  · exact .inl (.inl rfl)
                  · rcases HB6.out k hk with h1 | h1
                    · exact .inl (.inr (.inl h1))
                    · rw [World.size_alloc] at h1
                      exact .inr (by omega)
                  · rcases List.mem_append.1 hx with h1 | h1
                    · exact .inl (.inr (.inr ⟨x, h1, h0, hk⟩))
                    · rw [List.mem_singleton] at h1
                      subst h1
                      exact .inr (by have := HNw.out k hk; omega))
                clear hms u0 u1 u2 v0 v1 p0 p1 t0 t1
                generalize w6.setCell ⟨D, 1, none⟩ (.slice sa6 (d.steps.length + 1) cap6) = W7 at *
                obtain ⟨ae, ce, hle, hbe⟩ := HL7.out
                cases rz with
                | nil =>
                  rw [end_nil] at HX
                  obtain rfl := HX.out
                  obtain ⟨b0, _⟩ := row1 hle.box
                  simp only [List.length_nil] at b0
                  clear hle
                  go_wp2_with (go_at_call 26; refine (HK.out _ true _).mono ?_; rintro e wm ⟨rfl, rfl⟩)
                  go_end0
                  exact ⟨HM7.out, ⟨_, _, HDg.out.box⟩, rfl, _, _, _, HDg.out, HMem.out⟩
                | cons s1 r1 =>
                  rw [end_cons] at HX
                  obtain rfl := HX.out
                  obtain ⟨g1, o1, _, b0, _, _⟩ := hle.open
                  have hl1 := hle.len
                  simp only [List.length_cons] at hl1
                  have hn0 : ¬ r1.length + 1 = 0 := by omega
                  clear hle
                  go_wp2_with (go_at_call 26; refine (HB.out _ _).mono ?_; rintro e wm ⟨he, rfl⟩; simp only [fault] at he; subst he)
                  exact ⟨rfl, HM7.out, ⟨_, _, HDg.out.box⟩, rfl⟩
              · skip
                go_simp
                refine hK _ _ ?_
                clear hK K
                refine wpAny_ready (rs := [4]) (by kernel_rfl) (by simp) (AllReady.cons rfl (fun K hK => ?_) AllReady.nil)
                go_simp
                refine hK _ _ ?_
                clear hK K
                refine wpAny_ready (rs := [8]) (by kernel_rfl) (by simp) (AllReady.cons rfl (fun K hK => ?_) AllReady.nil)
                refine step_append_Own rfl (.tmp 38) (.tmp 41) 22 rfl 40 i0 _ 9 120 Tryd.underlying22 hi0 hz0 hz1 hz2 rfl sa d.steps.length cap _ (by simp [Act.eval]) HOa.out (some ⟨w5.heap.size, 0, none⟩) 1 1 _ (by simp [Act.eval]) HSa.out (SA.one _) (by unfold maxLen; omega) (by omega) ?_
                intro sa6 cap6 w6 hown hm6 hb6 hn6 hr6
                have HO6 := hid hown
                have HM6 := hid hm6
                have HB6 := hid hb6
                clear hown hm6 hb6 hn6 hr6
                obtain ⟨p0, p1, t0, t1⟩ := HRo.out w6 HM6.out
                refine hK _ _ ?_
                clear hK K
                simp only [Act.put]
                refine wpAny_take (i := 9) (v := .pointer (some ⟨D, 0, none⟩)) rfl (by kernel_rfl) (by kernel_rfl) (by kernel_rfl) (fun _ _ _ h => h) (Or.inl ⟨by rfl, by intro w; go_simp⟩) ?_
                refine wpAny_take (i := 10) (v := .pointer (some ⟨D, 1, none⟩)) rfl (by kernel_rfl) (by kernel_rfl) (by kernel_rfl) (fun _ _ _ h => h) (Or.inl ⟨by rfl, by intro w; go_simp⟩) ?_
                refine wpAny_ready (rs := [11]) (by kernel_rfl) (by simp) (AllReady.cons rfl (fun K hK => ?_) AllReady.nil)
                go_simp
                refine hK _ _ ?_
                clear hK K
                refine wpAny_done (by kernel_rfl) ?_ _
                have HDg := hid ((HD5.out.ext ((Mod.refl _ _).alloc (.cells #[.string s.name, .string s.verb, .string s.undo, .string s.event, .bool s.final, .int .i64 s.retry, .int .i64 s.every, .int .i64 s.within, .slice la s.after.length lcap] 40))).grown (by rw [World.size_alloc]; omega) HM6.out h8 HO6.out HB6.out (HO.out.lies.ext ((Mod.refl _ _).alloc _)) HLa.out (fun k hk => ⟨fun h2 => by have := HNw.out k hk; have := HDd.out.own.lt k h2; omega, fun e => by have := HNw.out k hk; omega⟩))
                have hms : Mod (fun k => k = D) w6 (w6.setCell ⟨D, 1, none⟩ (.slice sa6 (d.steps.length + 1) cap6)) := Mod.setCell (S := fun k => k = D) (Mod.refl _ _) (fun _ => rfl) _
                have HM7 : Hid (Mod (fun k => k = L ∨ k = D ∨ blk sa k) w (w6.setCell ⟨D, 1, none⟩ (.slice sa6 (d.steps.length + 1) cap6))) := hid ((((HMk.out _ HM5.out).alloc _).trans (HM6.out.mono (fun _ _ h => .inr (.inr h)))).trans (hms.mono (fun _ _ h => .inr (.inl h))))
                have HL7 : Hid (∃ a1 c1, Ln (w6.setCell ⟨D, 1, none⟩ (.slice sa6 (d.steps.length + 1) cap6)) L a1 c1 rz ∧ True) := hid (by
                  obtain ⟨a1, c1, hl, hb1⟩ := HL5.out
                  exact ⟨a1, c1, ((hl.ext ((Mod.refl _ _).alloc _)).mod HM6.out hLs (fun _ k hk h2 => (HOld.out k (hb1 k hk)).2.2 h2)).mod hms hLD (fun _ k hk e => (HOld.out k (hb1 k hk)).2.1 e), trivial⟩)
                have HMem : Hid (∀ k, dset D sa6 (ss ++ [⟨s, la, lcap⟩]) k → dset D sa ss k ∨ w.heap.size ≤ k) := hid (fun k hk => by
                  rcases hk with rfl | hk | ⟨x, hx, h0, hk⟩
                  · exact .inl (.inl rfl)
                  · rcases HB6.out k hk with h1 | h1
                    · exact .inl (.inr (.inl h1))
                    · rw [World.size_alloc] at h1
                      exact .inr (by omega)
                  · rcases List.mem_append.1 hx with h1 | h1
                    · exact .inl (.inr (.inr ⟨x, h1, h0, hk⟩))
                    · rw [List.mem_singleton] at h1
                      subst h1
                      exact .inr (by have := HNw.out k hk; omega))
                clear hms u0 u1 u2 v0 v1 p0 p1 t0 t1
                generalize w6.setCell ⟨D, 1, none⟩ (.slice sa6 (d.steps.length + 1) cap6) = W7 at *
                obtain ⟨ae, ce, hle, hbe⟩ := HL7.out
                cases rz with
                | nil =>
                  rw [end_nil] at HX
                  obtain rfl := HX.out
                  obtain ⟨b0, _⟩ := row1 hle.box
                  simp only [List.length_nil] at b0
                  clear hle
                  go_wp2_with (go_at_call 26; refine (HK.out _ true _).mono ?_; rintro e wm ⟨rfl, rfl⟩)
                  go_end0
                  exact ⟨HM7.out, ⟨_, _, HDg.out.box⟩, rfl, _, _, _, HDg.out, HMem.out⟩
                | cons s1 r1 =>
                  rw [end_cons] at HX
                  obtain rfl := HX.out
                  obtain ⟨g1, o1, _, b0, _, _⟩ := hle.open
                  have hl1 := hle.len
                  simp only [List.length_cons] at hl1
                  have hn0 : ¬ r1.length + 1 = 0 := by omega
                  clear hle
                  go_wp2_with (go_at_call 26; refine (HB.out _ _).mono ?_; rintro e wm ⟨he, rfl⟩; simp only [fault] at he; subst he)
                  exact ⟨rfl, HM7.out, ⟨_, _, HDg.out.box⟩, rfl⟩
            · skip
              go_simp
              refine hK _ _ ?_
              clear hK K
              refine wpAny_ready (rs := [6]) (by kernel_rfl) (by simp) (AllReady.cons rfl (fun K hK => ?_) AllReady.nil)
              go_simp
              refine HCd.out.mono ?_
              rintro e w5 ⟨hm5, ⟨la, lcap, rfl, ho, hnw⟩, hla, hl5⟩
              have HM5 := hid (HMd.out.trans hm5)
              have HL5 := hid (rebk hl5 HBv.out)
              have HD5 := hid (HDk.out _ HM5.out)
              have HO := hid ho
              have HNw := hid hnw
              have HLa := hid hla
              have HOa := hid (HD5.out.own.mod (S := fun _ => False) ((Mod.refl _ _).alloc (.cells #[.string s.name, .string s.verb, .string s.undo, .string s.event, .bool s.final, .int .i64 s.retry, .int .i64 s.every, .int .i64 s.within, .slice la s.after.length lcap] 40)) (fun _ _ h => h))
              have HSa : Hid (Src (w5.alloc (.cells #[.string s.name, .string s.verb, .string s.undo, .string s.event, .bool s.final, .int .i64 s.retry, .int .i64 s.every, .int .i64 s.within, .slice la s.after.length lcap] 40)) 9 (some ⟨w5.heap.size, 0, none⟩) 1 (SA.cs ⟨s, la, lcap⟩)) := hid (src_new (heap_alloc_new _ _) rfl)
              obtain ⟨u0, u1, v0, v1⟩ := row2 HD5.out.box
              obtain ⟨_, u2, _, _⟩ := row2 ((Below.heap_alloc w5 (.cells #[.string s.name, .string s.verb, .string s.undo, .string s.event, .bool s.final, .int .i64 s.retry, .int .i64 s.every, .int .i64 s.within, .slice la s.after.length lcap] 40) _ (lt_of_heap HD5.out.box)).trans HD5.out.box)
              have hsz5 := HM5.out.size
              have HRo := hid (fun (V : World) (hm : Mod (blk sa) (w5.alloc (.cells #[.string s.name, .string s.verb, .string s.undo, .string s.event, .bool s.final, .int .i64 s.retry, .int .i64 s.every, .int .i64 s.within, .slice la s.after.length lcap] 40)) V) => row2 ((hm.block D (by rw [World.size_alloc]; omega) HD5.out.ne).trans ((Below.heap_alloc _ _ _ (lt_of_heap HD5.out.box)).trans HD5.out.box)))
              unfold spV
              clear hm5 ho hnw hla hl5
              refine hK _ _ ?_
              clear hK K
              refine wpAny_ready (rs := [7]) (by kernel_rfl) (by simp) (AllReady.cons rfl (fun K hK => ?_) AllReady.nil)
              go_simp
              refine hK _ _ ?_
              clear hK K
              refine wpAny_ready (rs := [8]) (by kernel_rfl) (by simp) (AllReady.cons rfl (fun K hK => ?_) AllReady.nil)
              refine step_append_Own rfl (.tmp 38) (.tmp 41) 22 rfl 40 i0 _ 9 120 Tryd.underlying22 hi0 hz0 hz1 hz2 rfl sa d.steps.length cap _ (by simp [Act.eval]) HOa.out (some ⟨w5.heap.size, 0, none⟩) 1 1 _ (by simp [Act.eval]) HSa.out (SA.one _) (by unfold maxLen; omega) (by omega) ?_
              intro sa6 cap6 w6 hown hm6 hb6 hn6 hr6
              have HO6 := hid hown
              have HM6 := hid hm6
              have HB6 := hid hb6
              clear hown hm6 hb6 hn6 hr6
              obtain ⟨p0, p1, t0, t1⟩ := HRo.out w6 HM6.out
              refine hK _ _ ?_
              clear hK K
              simp only [Act.put]
              refine wpAny_take (i := 9) (v := .pointer (some ⟨D, 0, none⟩)) rfl (by kernel_rfl) (by kernel_rfl) (by kernel_rfl) (fun _ _ _ h => h) (Or.inl ⟨by rfl, by intro w; go_simp⟩) ?_
              refine wpAny_take (i := 10) (v := .pointer (some ⟨D, 1, none⟩)) rfl (by kernel_rfl) (by kernel_rfl) (by kernel_rfl) (fun _ _ _ h => h) (Or.inl ⟨by rfl, by intro w; go_simp⟩) ?_
              refine wpAny_ready (rs := [11]) (by kernel_rfl) (by simp) (AllReady.cons rfl (fun K hK => ?_) AllReady.nil)
              go_simp
              refine hK _ _ ?_
              clear hK K
              refine wpAny_done (by kernel_rfl) ?_ _
              have HDg := hid ((HD5.out.ext ((Mod.refl _ _).alloc (.cells #[.string s.name, .string s.verb, .string s.undo, .string s.event, .bool s.final, .int .i64 s.retry, .int .i64 s.every, .int .i64 s.within, .slice la s.after.length lcap] 40))).grown (by rw [World.size_alloc]; omega) HM6.out h8 HO6.out HB6.out (HO.out.lies.ext ((Mod.refl _ _).alloc _)) HLa.out (fun k hk => ⟨fun h2 => by have := HNw.out k hk; have := HDd.out.own.lt k h2; omega, fun e => by have := HNw.out k hk; omega⟩))
              have hms : Mod (fun k => k = D) w6 (w6.setCell ⟨D, 1, none⟩ (.slice sa6 (d.steps.length + 1) cap6)) := Mod.setCell (S := fun k => k = D) (Mod.refl _ _) (fun _ => rfl) _
              have HM7 : Hid (Mod (fun k => k = L ∨ k = D ∨ blk sa k) w (w6.setCell ⟨D, 1, none⟩ (.slice sa6 (d.steps.length + 1) cap6))) := hid ((((HMk.out _ HM5.out).alloc _).trans (HM6.out.mono (fun _ _ h => .inr (.inr h)))).trans (hms.mono (fun _ _ h => .inr (.inl h))))
              have HL7 : Hid (∃ a1 c1, Ln (w6.setCell ⟨D, 1, none⟩ (.slice sa6 (d.steps.length + 1) cap6)) L a1 c1 rz ∧ True) := hid (by
                obtain ⟨a1, c1, hl, hb1⟩ := HL5.out
                exact ⟨a1, c1, ((hl.ext ((Mod.refl _ _).alloc _)).mod HM6.out hLs (fun _ k hk h2 => (HOld.out k (hb1 k hk)).2.2 h2)).mod hms hLD (fun _ k hk e => (HOld.out k (hb1 k hk)).2.1 e), trivial⟩)
              have HMem : Hid (∀ k, dset D sa6 (ss ++ [⟨s, la, lcap⟩]) k → dset D sa ss k ∨ w.heap.size ≤ k) := hid (fun k hk => by
                rcases hk with rfl | hk | ⟨x, hx, h0, hk⟩
                · exact .inl (.inl rfl)
                · rcases HB6.out k hk with h1 | h1
                  · exact .inl (.inr (.inl h1))
                  · rw [World.size_alloc] at h1
                    exact .inr (by omega)
                · rcases List.mem_append.1 hx with h1 | h1
                  · exact .inl (.inr (.inr ⟨x, h1, h0, hk⟩))
                  · rw [List.mem_singleton] at h1
                    subst h1
                    exact .inr (by have := HNw.out k hk; omega))
              clear hms u0 u1 u2 v0 v1 p0 p1 t0 t1
              generalize w6.setCell ⟨D, 1, none⟩ (.slice sa6 (d.steps.length + 1) cap6) = W7 at *
              obtain ⟨ae, ce, hle, hbe⟩ := HL7.out
              cases rz with
              | nil =>
                rw [end_nil] at HX
                obtain rfl := HX.out
                obtain ⟨b0, _⟩ := row1 hle.box
                simp only [List.length_nil] at b0
                clear hle
                go_wp2_with (go_at_call 26; refine (HK.out _ true _).mono ?_; rintro e wm ⟨rfl, rfl⟩)
                go_end0
                exact ⟨HM7.out, ⟨_, _, HDg.out.box⟩, rfl, _, _, _, HDg.out, HMem.out⟩
              | cons s1 r1 =>
                rw [end_cons] at HX
                obtain rfl := HX.out
                obtain ⟨g1, o1, _, b0, _, _⟩ := hle.open
                have hl1 := hle.len
                simp only [List.length_cons] at hl1
                have hn0 : ¬ r1.length + 1 = 0 := by omega
                clear hle
                go_wp2_with (go_at_call 26; refine (HB.out _ _).mono ?_; rintro e wm ⟨he, rfl⟩; simp only [fault] at he; subst he)
                exact ⟨rfl, HM7.out, ⟨_, _, HDg.out.box⟩, rfl⟩

end Go.Proofs.YtmkbbclbkpofoaaDoor
