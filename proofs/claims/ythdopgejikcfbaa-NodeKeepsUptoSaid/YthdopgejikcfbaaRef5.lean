/- The document's bytes of a node -/
import Derived.Test.YthdopgejikcfbaaRef4
namespace Go.Proofs.Ythdopgejikcfbaa
open Go Go.RowKit

theorem cells2 {w : World} {b : Nat} {u v : Value} {t : TypeId} (h : w.heap[b]? = some (.cells #[u, v] t (0, 0))) : w.cell? ⟨b, 0, none⟩ = some u ∧ w.cell? ⟨b, 1, none⟩ = some v := by
  refine ⟨?_, ?_⟩ <;> (rw [cell_of_row _ _ _ _ _ _ h]; rfl)

set_option maxRecDepth 100000 in
theorem ref_any {w : World} {n : Nd} (h : NdAt w n) : Calls Try.prog 12 #[.agg #[.bool n.leaf, .slice n.ka n.keys.length n.kc, .slice n.va n.values.length n.vc, .slice n.ia n.kids.length n.ic]] w fun e w' => OfAns4 w n.leaf n.ents e w' := by
  have hm : Mod (fun _ => False) w ((w.alloc (.cells #[.bool n.leaf, .slice n.ka n.keys.length n.kc, .slice n.va n.values.length n.vc, .slice n.ia n.kids.length n.ic] 26)).alloc (.cells #[.bool false, .slice none 0 0] 32)) := ((Mod.refl _ _).alloc _).alloc _
  have hr : ((w.alloc (.cells #[.bool n.leaf, .slice n.ka n.keys.length n.kc, .slice n.va n.values.length n.vc, .slice n.ia n.kids.length n.ic] 26)).alloc (.cells #[.bool false, .slice none 0 0] 32)).heap[w.heap.size + 1]? = some (.cells #[.bool false, .slice none 0 0] 32 (0, 0)) := by have := heap_alloc_new (w.alloc (.cells #[.bool n.leaf, .slice n.ka n.keys.length n.kc, .slice n.va n.values.length n.vc, .slice n.ia n.kids.length n.ic] 26)) (.cells #[.bool false, .slice none 0 0] 32); simpa using this
  have HO := hid (of_any (h.ext hm))
  have HM := hid hm
  have HR := hid hr
  clear h hm hr
  go_enter Try.func12, Try.ntmps12
  go_wp2_with fail
  generalize (w.alloc (.cells #[.bool n.leaf, .slice n.ka n.keys.length n.kc, .slice n.va n.values.length n.vc, .slice n.ia n.kids.length n.ic] 26)).alloc (.cells #[.bool false, .slice none 0 0] 32) = W at *
  refine HO.out.mono ?_
  rintro e w1 ⟨sa, cap, rfl, hl, hlo, hm1⟩
  have hR := (hm1.block _ (lt_of_heap HR.out) (fun h => h)).trans HR.out
  have r0 : w1.cell? ⟨w.heap.size + 1, 0, none⟩ = some (.bool false) := by rw [cell_of_row _ _ _ _ _ _ hR]; rfl
  have r1 : w1.cell? ⟨w.heap.size + 1, 1, none⟩ = some (.slice none 0 0) := by rw [cell_of_row _ _ _ _ _ _ hR]; rfl
  have f0 := frozen_of_row _ _ 0 _ _ hR
  have f1 := frozen_of_row _ _ 1 _ _ hR
  have hb1 := heap_setCell_same w1 (w.heap.size + 1) 0 _ 32 (.bool n.leaf) hR
  have hb2 := heap_setCell_same _ (w.heap.size + 1) 1 _ 32 (.slice sa n.ents.length cap) hb1
  have g0 : ((w1.setCell ⟨w.heap.size + 1, 0, none⟩ (.bool n.leaf)).setCell ⟨w.heap.size + 1, 1, none⟩ (.slice sa n.ents.length cap)).cell? ⟨w.heap.size + 1, 0, none⟩ = some (.bool n.leaf) := by rw [cell_of_row _ _ _ _ _ _ hb2]; rfl
  have g1 : ((w1.setCell ⟨w.heap.size + 1, 0, none⟩ (.bool n.leaf)).setCell ⟨w.heap.size + 1, 1, none⟩ (.slice sa n.ents.length cap)).cell? ⟨w.heap.size + 1, 1, none⟩ = some (.slice sa n.ents.length cap) := by rw [cell_of_row _ _ _ _ _ _ hb2]; rfl
  have hm2 : Mod (fun k => k = w.heap.size + 1) w1 ((w1.setCell ⟨w.heap.size + 1, 0, none⟩ (.bool n.leaf)).setCell ⟨w.heap.size + 1, 1, none⟩ (.slice sa n.ents.length cap)) := Mod.setCell (S := fun k => k = w.heap.size + 1) (Mod.setCell (S := fun k => k = w.heap.size + 1) (Mod.refl _ _) (fun _ => rfl) _) (fun _ => rfl) _
  have HM2 := hid ((HM.out.trans hm1).then hm2 (fun i hi e => by omega))
  have hlt1 := hm1.size
  have HLi := hid hl
  have hltr := lt_of_heap HR.out
  have hbl : ∀ k, 0 < n.ents.length → blk sa k → w.heap.size + 1 ≠ k := fun k h0 hk e => by
    have := hlo k hk
    omega
  have HLo := hid (fun k (hk : blk sa k) => Nat.le_trans HM.out.size (hlo k hk))
  have HL2 := hid (hl.mod hm2 (fun h0 k hk e => hbl k h0 hk e.symm))
  clear hl hlo hm1 hR hb1 hb2 hm2 hbl
  go_wp2_with fail
  exact bodyPost_ret (v := .agg #[.bool n.leaf, .slice sa n.ents.length cap]) (by simp [results, Try.results12, go_sem, g0, g1]) rfl ⟨sa, cap, rfl, HL2.out, HLo.out, HM2.out⟩

set_option maxRecDepth 100000 in
theorem rentry_any (leaf : Bool) (x : Ent) (w : World) (hx : x.Ok) : Calls Try.prog 28 #[.bool leaf, .agg #[.string x.key, .string x.value, .int .i64 x.kid]] w fun e w' => e = .returned (.string (ba (entL leaf x))) ∧ Mod (fun _ => False) w w' := by
  obtain ⟨key, value, kid⟩ := x
  obtain ⟨h1, h2, h3, h4⟩ := hx
  simp only at h1 h2 h3 h4
  have hm : Mod (fun _ => False) w (w.alloc (.cells #[.string key, .string value, .int .i64 kid] 51)) := (Mod.refl _ _).alloc _
  have hb : (w.alloc (.cells #[.string key, .string value, .int .i64 kid] 51)).heap[w.heap.size]? = some (.cells #[.string key, .string value, .int .i64 kid] 51 (0, 0)) := heap_alloc_new _ _
  have HM := hid hm
  have HB := hid hb
  have s1 : (ba (textL key)).size ≤ 8388628 := by rw [ba_size]; have := textL_len (s := key) (by omega); omega
  have s2 : (ba (textL value)).size ≤ 8388628 := by rw [ba_size]; have := textL_len (s := value) (by omega); omega
  clear hm hb
  cases leaf with
  | true =>
    go_enter Try.func28, Try.ntmps28
    go_wp2_with fail
    generalize w.alloc (.cells #[.string key, .string value, .int .i64 kid] 51) = W at *
    refine (rtext_any key W (by omega)).mono ?_
    rintro e w1 ⟨rfl, hm1⟩
    have c1 : w1.cell? ⟨w.heap.size, 1, none⟩ = some (.string value) := by rw [cell_of_row _ _ _ _ _ _ ((hm1.block _ (lt_of_heap HB.out) (fun h => h)).trans HB.out)]; rfl
    have HM1 := hid (HM.out.trans hm1)
    clear hm1
    go_wp2_with fail
    refine (rtext_any value w1 (by omega)).mono ?_
    rintro e w2 ⟨rfl, hm2⟩
    have HM2 := hid (HM1.out.trans hm2)
    clear hm2
    go_wp2_with fail
    go_ret
    refine ⟨?_, HM2.out⟩
    show Ending.returned (.string (ba (textL key) ++ ba (textL value))) = _
    rw [ba_append]
    rfl
  | false =>
    obtain ⟨m, hmx⟩ : ∃ m : Nat, max 0 kid = m := ⟨(max 0 kid).toNat, by omega⟩
    have s3 : (ba (uvar m)).size ≤ 10 := by rw [ba_size]; exact uvar_len10 (by omega)
    have hfin : entL false ⟨key, value, kid⟩ = textL key ++ uvar m := by
      unfold entL
      rw [show (max 0 kid).toNat = m by omega]
      rfl
    rw [hfin]
    clear hfin
    by_cases hneg : kid < 0
    · obtain rfl : m = 0 := by omega
      have dn : decide (kid < 0) = true := by rw [decide_eq_true_iff]; exact hneg
      clear hmx
      go_enter Try.func28, Try.ntmps28
      go_wp2_with fail
      generalize w.alloc (.cells #[.string key, .string value, .int .i64 kid] 51) = W at *
      refine (rtext_any key W (by omega)).mono ?_
      rintro e w1 ⟨rfl, hm1⟩
      have c1 : w1.cell? ⟨w.heap.size, 2, none⟩ = some (.int .i64 kid) := by rw [cell_of_row _ _ _ _ _ _ ((hm1.block _ (lt_of_heap HB.out) (fun h => h)).trans HB.out)]; rfl
      have HM1 := hid (HM.out.trans hm1)
      clear hm1
      go_wp2_with fail
      refine (ruint_any 0 w1 (by omega)).mono ?_
      rintro e w2 ⟨rfl, hm2⟩
      have HM2 := hid (HM1.out.trans hm2)
      clear hm2
      go_wp2_with fail
      go_ret
      refine ⟨?_, HM2.out⟩
      rw [← ba_append]
      rfl
    · obtain rfl : kid = m := by omega
      have dn : decide ((m : Int) < 0) = false := by rw [decide_eq_false_iff_not]; exact hneg
      clear hmx
      go_enter Try.func28, Try.ntmps28
      go_wp2_with fail
      generalize w.alloc (.cells #[.string key, .string value, .int .i64 (m : Int)] 51) = W at *
      refine (rtext_any key W (by omega)).mono ?_
      rintro e w1 ⟨rfl, hm1⟩
      have c1 : w1.cell? ⟨w.heap.size, 2, none⟩ = some (.int .i64 m) := by rw [cell_of_row _ _ _ _ _ _ ((hm1.block _ (lt_of_heap HB.out) (fun h => h)).trans HB.out)]; rfl
      have HM1 := hid (HM.out.trans hm1)
      clear hm1
      go_wp2_with fail
      refine (ruint_any m w1 (by omega)).mono ?_
      rintro e w2 ⟨rfl, hm2⟩
      have HM2 := hid (HM1.out.trans hm2)
      clear hm2
      go_wp2_with fail
      go_ret
      refine ⟨?_, HM2.out⟩
      rw [← ba_append]
      rfl

/-- The document's bytes behind k entries. -/
def rupL (leaf : Bool) (es : List Ent) (k : Nat) : List UInt8 := headL leaf es.length ++ (es.take k).flatMap (entL leaf)

theorem rupL_succ {leaf : Bool} {es : List Ent} {k : Nat} {x : Ent} (h : es[k]? = some x) : rupL leaf es (k + 1) = rupL leaf es k ++ entL leaf x := by
  unfold rupL
  rw [List.take_add_one, h, List.flatMap_append]
  simp

theorem rupL_all (leaf : Bool) (es : List Ent) : rupL leaf es es.length = bytesL leaf es := by
  unfold rupL bytesL headL
  rw [List.take_length]
  rfl

theorem rupL_len {leaf : Bool} {es : List Ent} (hb : es.length ≤ 4194304) (hok : ∀ x ∈ es, x.Ok) (k : Nat) : (rupL leaf es k).length ≤ 11 + 4194304 * 8388628 := by
  unfold rupL headL
  have h1 := uvar_len10 (n := es.length) (by omega)
  have h2 := flat_le (leaf := leaf) (es := es.take k) (fun x hx => hok x (List.mem_of_mem_take hx))
  have h3 : (es.take k).length ≤ es.length := by rw [List.length_take]; omega
  rw [List.length_append, List.length_cons]
  omega

theorem rent_cells {w : World} {g off : Nat} {es : List Ent} (h : Lies w 3 Ent.cs (some ⟨g, off, none⟩) es) {i : Nat} {x : Ent} (hi : es[i]? = some x) : w.cell? ⟨g, off + i * 3, none⟩ = some (.string x.key) ∧ w.cell? ⟨g, off + i * 3 + 1, none⟩ = some (.string x.value) ∧ w.cell? ⟨g, off + i * 3 + 2, none⟩ = some (.int .i64 x.kid) := by
  have key : ∀ j u, (Ent.cs x)[j]? = some u → j < 3 → w.cell? ⟨g, off + i * 3 + j, none⟩ = some u := fun j u hu hj => by
    have := h.src.2.2 _ rfl (i * 3 + j) u (by rw [flat_get (f := Ent.cs) (n := 3) (fun _ => rfl) es i j hj, hi]; exact hu)
    rw [Addr.add_lit, ← Nat.add_assoc] at this
    exact this
  exact ⟨key 0 _ rfl (by decide), key 1 _ rfl (by decide), key 2 _ rfl (by decide)⟩

set_option maxRecDepth 100000 in
set_option maxHeartbeats 2000000 in
theorem rbytes_any {w : World} {sa : Option Addr} {es : List Ent} (leaf : Bool) (cap : Nat) (h : Lies w 3 Ent.cs sa es) (hb : es.length ≤ 4194304) (hok : ∀ x ∈ es, x.Ok) : Calls Try.prog 15 #[.agg #[.bool leaf, .slice sa es.length cap]] w fun e w' => e = .returned (.string (ba (bytesL leaf es))) ∧ Mod (fun _ => False) w w' := by
  have hm : Mod (fun _ => False) w (w.alloc (.cells #[.bool leaf, .slice sa es.length cap] 32)) := (Mod.refl _ _).alloc _
  have hbx : (w.alloc (.cells #[.bool leaf, .slice sa es.length cap] 32)).heap[w.heap.size]? = some (.cells #[.bool leaf, .slice sa es.length cap] 32 (0, 0)) := heap_alloc_new _ _
  have HLs := hid (h.ext hm)
  have HM := hid hm
  have HBx := hid hbx
  have HOk := hid hok
  have HU0 := hid (show rupL leaf es 0 = (if leaf then 1 else 2) :: uvar es.length by simp [rupL, headL])
  have HUs := hid (fun (k : Nat) (x : Ent) (h : es[k]? = some x) => rupL_succ (leaf := leaf) h)
  have HUn := hid (rupL_all leaf es)
  have HUl := hid (rupL_len (leaf := leaf) hb hok)
  have HEn := hid (fun (x : Ent) (w : World) (hx : x.Ok) => rentry_any leaf x w hx)
  have HEl := hid (fun (x : Ent) (hx : x.Ok) => entL_len leaf hx)
  generalize rupL leaf es = up at *
  generalize hfin : bytesL leaf es = fin at *
  generalize entL leaf = ent at *
  clear hfin h hm hbx hok
  go_enter Try.func15, Try.ntmps15
  go_upto_region 2 with fail
  generalize w.alloc (.cells #[.bool leaf, .slice sa es.length cap] 32) = W at *
  have c0 : W.cell? ⟨w.heap.size, 0, none⟩ = some (.bool leaf) := by rw [cell_of_row _ _ _ _ _ _ HBx.out]; rfl
  have c1 : W.cell? ⟨w.heap.size, 1, none⟩ = some (.slice sa es.length cap) := by rw [cell_of_row _ _ _ _ _ _ HBx.out]; rfl
  have s0 : (ba (uvar es.length)).size ≤ 10 := by rw [ba_size]; exact uvar_len10 (by omega)
  cases leaf
  all_goals
    go_wp2_with fail
    refine (ruint_any es.length W (by omega)).mono ?_
    rintro e w1 ⟨rfl, hm1⟩
    have hbx1 := (hm1.block _ (lt_of_heap HBx.out) (fun h => h)).trans HBx.out
    have HBx1 := hid hbx1
    have HM1 := hid (HM.out.trans hm1)
    have HL1 := hid (HLs.out.ext hm1)
    clear hm1 hbx1 c0 c1
    go_wp2_with fail
    go_loopw [3, 5] (fun s c wr => ∃ k : Nat, k ≤ es.length ∧ s = .string (ba (up k)) ∧ c = .int .i64 k ∧ Mod (fun _ => False) w1 wr) (fun _ c _ => es.length - (intOf c).toNat)
    case atStart =>
      refine ⟨0, Nat.zero_le _, ?_, rfl, Mod.refl _ _⟩
      rw [HU0.out]
      first
        | rfl
        | exact congrArg Value.string (by apply ba_ext; simp [ba, ByteArray.data_append])
    case round =>
      obtain ⟨k, hk, rfl, rfl, hmk⟩ := hrel
      have HMk := hid hmk
      have hbx2 := (hmk.block _ (lt_of_heap HBx1.out) (fun h => h)).trans HBx1.out
      obtain ⟨c0, c1⟩ := cells2 hbx2
      clear hmk hbx2
      by_cases hlt : k < es.length
      · obtain ⟨x, hx⟩ : ∃ x, es[k]? = some x := ⟨_, List.getElem?_eq_getElem hlt⟩
        obtain ⟨g, off, rfl⟩ := HL1.out.some (by omega)
        obtain ⟨q0, q1, q2⟩ := rent_cells (HL1.out.ext HMk.out) hx
        have hxo := HOk.out x (List.mem_of_getElem? hx)
        have hel := HEl.out x hxo
        have hul := HUl.out k
        have Hs := hid (HUs.out k x hx)
        have HEx := hid (fun y : Ext wr => HEn.out x y.val hxo)
        have u0 := fun y : Ext wr => y.cell c0
        have u1 : ∀ y : Ext wr, y.val.cell? ⟨w.heap.size, 1, none⟩ = some (.slice (some ⟨g, off, none⟩) es.length cap) := fun y => y.cell c1
        have u2 : ∀ y : Ext wr, y.val.cell? ⟨g, off + k * 3, none⟩ = some (.string x.key) := fun y => y.cell q0
        have u3 : ∀ y : Ext wr, y.val.cell? ⟨g, off + k * 3 + 1, none⟩ = some (.string x.value) := fun y => y.cell q1
        have u4 : ∀ y : Ext wr, y.val.cell? ⟨g, off + k * 3 + 2, none⟩ = some (.int .i64 x.kid) := fun y => y.cell q2
        have i1 : (k : Int) < (es.length : Int) := by omega
        have z1 : (ba (up k)).size ≤ 11 + 4194304 * 8388628 := by rw [ba_size]; exact hul
        have z2 : (ba (ent x)).size ≤ 8388628 := by rw [ba_size]; exact hel
        clear hx hxo hel hul
        go_wp2_with fail
        refine wp_region_ext (by kernel_rfl) (by kernel_rfl) ?_
        repeat (go_big_quiet_step ((go_at_call 28; exact ext_call (HEx.out _))))
        refine wpQuiet_nil ?_
        rintro _ ⟨y, rfl⟩
        go_wp2_with fail
        go_roundw
        case rel => exact ⟨k + 1, by omega, by rw [Hs.out, ← ba_append], by go_num, HMk.out.trans y.mod⟩
        case measure => simp [intOf]; omega
      · have hke : k = es.length := by omega
        subst hke
        go_wp2_with fail
        go_ret
        refine ⟨?_, HM1.out.trans HMk.out⟩
        rw [← HUn.out]
        rfl

end Go.Proofs.Ythdopgejikcfbaa
