/- May the definition run? -/
import Derived.Test.YthbfgeaojgfafaaChC
import Derived.Deep.DeepCutAuto
import Derived.Deep.CutBlock
import Derived.RegionTactic
import Derived.BigRegion
import Derived.Deep.RegionHeld3
import Derived.Laws.OwnMore
namespace Go.Proofs.Ythbfgeaojgfafaa
open Go Go.RowKit
open Relation (TransGen)

theorem cyc_of_ed {ss : List Stp} {k : Nat} (h : TransGen (Ed ss) k k) : Cyc ss := by
  obtain ⟨s, t, h1, h2, h3⟩ := ed_names h
  rw [h1] at h2
  cases h2
  exact ⟨s.name, h3⟩

theorem no_cyc {ss : List Stp} (ok : NamesOk ss) (h : ∀ i, i < ss.length → ¬ TransGen (Ed ss) i i) : ¬ Cyc ss := by
  rintro ⟨x, hx⟩
  obtain ⟨i, k, s, t, h1, h2, h3, h4, h5⟩ := names_ed ok hx
  have := name_place ok h1 h2 (h3.trans h4.symm)
  subst this
  exact h i (List.getElem?_eq_some_iff.1 h1).1 h5

theorem fin_bad {ss : List Stp} (ok : NamesOk ss) {i : Nat} {s : Stp} (hi : ss[i]? = some s) (hf : Fin' s) {k : Nat} (hk : lackB ss i k = true) : FinBad ss := by
  have : Lacks ss i k := @of_decide_eq_true _ (Classical.propDecidable _) hk
  obtain ⟨x, hx, hxf, hr⟩ := this
  exact ⟨s, List.mem_of_getElem? hi, hf, x, List.mem_of_getElem? hx, hxf, fun h => hr ((reach_iff ok hi hx).2 h)⟩

theorem no_fin_bad {ss : List Stp} (ok : NamesOk ss) (h : ∀ i s, ss[i]? = some s → Fin' s → ∀ k, k < ss.length → lackB ss i k = false) : ¬ FinBad ss := by
  rintro ⟨s, hs, hf, x, hx, hxf, hr⟩
  obtain ⟨i, hi⟩ := List.getElem?_of_mem hs
  obtain ⟨k, hk⟩ := List.getElem?_of_mem hx
  have h1 := h i s hi hf k (List.getElem?_eq_some_iff.1 hk).1
  have : ¬ Lacks ss i k := @of_decide_eq_false _ (Classical.propDecidable _) h1
  exact this ⟨x, hk, hxf, fun h => hr ((reach_iff ok hi hk).1 h)⟩

theorem info_map : (Try.prog.info? 47).map (fun i => (i.zero, i.size, i.bytes)) = some (some (.map none), 1, 8) := by kernel_rfl
theorem info_bool : (Try.prog.info? 4).map (fun i => (i.zero, i.size, i.bytes)) = some (some (.bool false), 1, 1) := by kernel_rfl

theorem mk_maps (n : Nat) (hn : n ≤ 2199023255552) (w : World) : (Instr.makeSlice 43 (.int .i64 n) (.int .i64 n)).run Try.prog w = .ok (.slice (some ⟨w.heap.size, 0, none⟩) n n) (w.alloc (.cells (madeCells #[.map none] n) 47)) := by
  obtain ⟨i0, hi, hz0, hz1, hz2⟩ := info_parts info_map
  have := run_make (P := Try.prog) w 43 47 i0 (.map none) Try.underlying43 hi hz0 .i64 .i64 n n (by omega) (Int.le_refl _) (by rw [hz2]; omega) (by omega)
  rw [hz1, Int.toNat_natCast, Nat.mul_one] at this
  exact this

theorem mk_bools (n : Nat) (hn : n ≤ 2199023255552) (w : World) : (Instr.makeSlice 44 (.int .i64 n) (.int .i64 n)).run Try.prog w = .ok (.slice (some ⟨w.heap.size, 0, none⟩) n n) (w.alloc (.cells (madeCells #[.bool false] n) 4)) := by
  obtain ⟨i0, hi, hz0, hz1, hz2⟩ := info_parts info_bool
  have := run_make (P := Try.prog) w 44 4 i0 (.bool false) Try.underlying44 hi hz0 .i64 .i64 n n (by omega) (Int.le_refl _) (by rw [hz2]; omega) (by omega)
  rw [hz1, Int.toNat_natCast, Nat.mul_one] at this
  exact this

/-- Behind the making of what each step comes behind. -/
def MidC (W wp : World) (nm : ByteArray) (a : Option Addr) (cap : Nat) (ss : List Stp) (mb : Nat) (v8 : Value) (wx : World) : Prop :=
  ∃ bb g1 g2 b8, v8 = .pointer (some ⟨b8, 0, none⟩) ∧ wx.cell? ⟨b8, 0, none⟩ = some (.pointer (some ⟨bb, 0, none⟩)) ∧ Beh W wx bb nm a cap ss mb g1 g2 (List.replicate ss.length none) (List.replicate ss.length false) ∧ wp.heap.size ≤ g1 ∧ wp.heap.size ≤ g2 ∧ b8 ≠ g1 ∧ b8 ≠ g2 ∧ Mod (fun _ => False) wp wx

theorem heap4 (w : World) (A B C D : Obj) : ((((w.alloc A).alloc B).alloc C).alloc D).drew.heap[w.heap.size]? = some A ∧ ((((w.alloc A).alloc B).alloc C).alloc D).drew.heap[w.heap.size + 1]? = some B ∧ ((((w.alloc A).alloc B).alloc C).alloc D).drew.heap[w.heap.size + 1 + 1]? = some C ∧ ((((w.alloc A).alloc B).alloc C).alloc D).drew.heap[w.heap.size + 1 + 1 + 1]? = some D ∧ Mod (fun _ => False) w ((((w.alloc A).alloc B).alloc C).alloc D).drew := by
  refine ⟨?_, ?_, ?_, ?_, ((((Mod.refl _ _).alloc _).alloc _).alloc _ |>.alloc _).drew⟩
  · show ((((w.heap.push A).push B).push C).push D)[w.heap.size]? = _
    rw [Array.getElem?_push, if_neg (by simp; try omega), Array.getElem?_push, if_neg (by simp; try omega), Array.getElem?_push, if_neg (by simp; try omega), Array.getElem?_push, if_pos rfl]
  · show ((((w.heap.push A).push B).push C).push D)[w.heap.size + 1]? = _
    rw [Array.getElem?_push, if_neg (by simp; try omega), Array.getElem?_push, if_neg (by simp; try omega), Array.getElem?_push, if_pos (by simp)]
  · show ((((w.heap.push A).push B).push C).push D)[w.heap.size + 1 + 1]? = _
    rw [Array.getElem?_push, if_neg (by simp; try omega), Array.getElem?_push, if_pos (by simp)]
  · show ((((w.heap.push A).push B).push C).push D)[w.heap.size + 1 + 1 + 1]? = _
    rw [Array.getElem?_push, if_pos (by simp)]

theorem midC_of {W wp wx : World} {nm : ByteArray} {a : Option Addr} {cap : Nat} {ss : List Stp} {mb g1 g2 bb b8 : Nat} (hb : ss.length ≤ 2199023255552) (hm : Mod (fun _ => False) W wp) (hmap : MapAt KS.kv wp mb (ent ss ss.length)) (hx : Mod (fun _ => False) wp wx)
    (h1 : wx.heap[g1]? = some (.cells (madeCells #[.map none] ss.length) 47 (0, 0))) (h2 : wx.heap[g2]? = some (.cells (madeCells #[.bool false] ss.length) 4 (0, 0)))
    (h3 : wx.heap[bb]? = some (.cells #[.string nm, .slice a ss.length cap, .map (some mb), .slice (some ⟨g1, 0, none⟩) ss.length ss.length, .slice (some ⟨g2, 0, none⟩) ss.length ss.length] 46 (0, 0)))
    (h4 : wx.heap[b8]? = some (.cells #[.pointer (some ⟨bb, 0, none⟩)] 42 (0, 0)))
    (l1 : wp.heap.size ≤ g1) (l2 : wp.heap.size ≤ g2) (n1 : bb ≠ g1) (n2 : bb ≠ g2) (n3 : g1 ≠ g2) (n6 : b8 ≠ g1) (n7 : b8 ≠ g2) : MidC W wp nm a cap ss mb (.pointer (some ⟨b8, 0, none⟩)) wx := by
  have hs := hm.size
  have hmb := hmap.lt
  have hno : ∀ (i b : Nat), (List.replicate ss.length (none : Option Nat))[i]? = some (some b) → False := fun i b h => by
    rw [List.getElem?_replicate] at h
    split at h <;> cases h
  refine ⟨bb, g1, g2, b8, rfl, cell_of_one h4, ⟨hm.trans hx, h3, ?_, ?_, hmap.mod hx (fun h => h), n1, n2, n3, by omega, by omega, by omega, by omega, fun i b h => (hno i b h).elim, fun i b h => (hno i b h).elim, fun i b k h => (hno i b h).elim, fun i b h => (hno i b h).elim⟩, l1, l2, n6, n7, hx⟩
  · refine ⟨by simp, Nat.le_refl _, by unfold maxLen; omega, .inr ⟨g1, 0, _, rfl, h1, by rw [size_madeCells]; omega, ?_⟩⟩
    rw [toList_madeCells_one]; simp
  · refine ⟨by simp, Nat.le_refl _, by unfold maxLen; omega, .inr ⟨g2, 0, _, rfl, h2, by rw [size_madeCells]; omega, ?_⟩⟩
    rw [toList_madeCells_one]; simp

def CRel1 (W1 : World) (ss : List Stp) (c : Value) (wr : World) : Prop :=
  ∃ k : Nat, k ≤ ss.length ∧ c = .int .i64 k ∧ (∀ j, j < k → ∀ s, ss[j]? = some s → stepF s = 0) ∧ Mod (fun _ => False) W1 wr

def CRel2 (W wx : World) (bb : Nat) (nm : ByteArray) (a : Option Addr) (cap : Nat) (ss : List Stp) (mb g1 g2 : Nat) (c : Value) (wr : World) : Prop :=
  ∃ (k : Nat) (sets : List (Option Nat)), k ≤ ss.length ∧ c = .int .i64 k ∧ Beh W wr bb nm a cap ss mb g1 g2 sets (List.replicate ss.length false) ∧ (∀ j, j < k → ∃ b, sets[j]? = some (some b)) ∧ Mod (fun k => k = g1 ∨ k = g2) wx wr

def CRel3 (wy : World) (ss : List Stp) (c : Value) (wr : World) : Prop :=
  ∃ k : Nat, k ≤ ss.length ∧ c = .int .i64 k ∧ (∀ j, j < k → ∀ s, ss[j]? = some s → Fin' s → ∀ q, q < ss.length → lackB ss j q = false) ∧ Mod (fun _ => False) wy wr

set_option maxRecDepth 100000 in
set_option maxHeartbeats 2000000 in
theorem check_any {W : World} {a : Option Addr} {ss : List Stp} (nm : ByteArray) (cap : Nat) (h : DefAt W a ss) : Calls Try.prog 11 #[.agg #[.string nm, .slice a ss.length cap]] W fun e w' => e = .returned (.int .i64 (checkF ss)) ∧ Mod (fun _ => False) W w' := by
  have hb := h.bnd
  have HD := hid h
  generalize hC : checkF ss = C
  have HC := hid hC
  clear h hC
  have hm1 : Mod (fun _ => False) W (W.alloc (.cells #[.string nm, .slice a ss.length cap] 28)) := (Mod.refl _ _).alloc _
  have hbox : (W.alloc (.cells #[.string nm, .slice a ss.length cap] 28)).heap[W.heap.size]? = some (.cells #[.string nm, .slice a ss.length cap] 28 (0, 0)) := heap_alloc_new _ _
  have Hm1 := hid hm1
  have Hbox := hid hbox
  clear hm1 hbox
  go_enter Try.func11, Try.ntmps11
  go_wp2_with fail
  generalize hW1 : W.alloc (.cells #[.string nm, .slice a ss.length cap] 28) = W1 at *
  have HW1 := hid hW1
  clear hW1
  refine (names_any nm cap (HD.out.mod Hm1.out (fun _ _ h => h))).mono ?_
  rintro e w2 (⟨ok, mb, rfl, hmap, hmb, hm2⟩ | ⟨nok, rfl, hm2⟩)
  · have HN := hid ok
    have Hmap := hid hmap
    have Hm2 := hid (Hm1.out.trans hm2)
    have Hbox2 := hid ((hm2.block _ (lt_of_heap Hbox.out) (fun h => h)).trans Hbox.out)
    have hmlt := hmap.lt
    obtain ⟨v0, v1⟩ := cells2 Hbox2.out
    have u0 : (w2.alloc (.cells #[.map (some mb)] 38)).cell? ⟨W.heap.size, 0, none⟩ = some (.string nm) := (((Mod.refl (fun _ => False) w2).alloc _).cell (World.block_lt_of_cell? _ _ v0) (fun h => h)).trans v0
    have u1 : (w2.alloc (.cells #[.map (some mb)] 38)).cell? ⟨W.heap.size, 1, none⟩ = some (.slice a ss.length cap) := (((Mod.refl (fun _ => False) w2).alloc _).cell (World.block_lt_of_cell? _ _ v1) (fun h => h)).trans v1
    have u3 : (w2.alloc (.cells #[.map (some mb)] 38)).heap[w2.heap.size]? = some (.cells #[.map (some mb)] 38 (0, 0)) := heap_alloc_new _ _
    have U3 := hid u3
    have HM3 : Hid (Mod (fun _ => False) W (w2.alloc (.cells #[.map (some mb)] 38))) := Hm2.out.alloc _
    have HMap3 : Hid (MapAt KS.kv (w2.alloc (.cells #[.map (some mb)] 38)) mb (ent ss ss.length)) := Hmap.out.mod ((Mod.refl (fun _ => False) _).alloc _) (fun h => h)
    have hz2 : (w2.alloc (.cells #[.map (some mb)] 38)).heap.size = w2.heap.size + 1 := by simp
    have Hz2 := hid hz2
    clear ok hmap hm2 u3 hz2 v0 v1
    go_wp2_with fail
    generalize w2.alloc (.cells #[.map (some mb)] 38) = W3 at *
    go_loopw [24] (fun c wr => CRel1 W3 ss c wr) (fun c _ => ss.length - (intOf c).toNat)
    case atStart => exact ⟨0, Nat.zero_le _, rfl, fun j hj => by omega, Mod.refl _ _⟩
    case round =>
      obtain ⟨k, hk, rfl, hno, hm⟩ := hrel
      have Hno := hid hno
      have Hm := hid hm
      clear hno hm
      by_cases hlt : k < ss.length
      · obtain ⟨s, hs⟩ : ∃ s, ss[k]? = some s := ⟨_, List.getElem?_eq_getElem hlt⟩
        obtain ⟨g, off, rfl⟩ := HD.out.some (by omega)
        obtain ⟨q0, q1, q2, q3, q4, q5, q6, q7, q8⟩ := (HD.out.mod (HM3.out.trans Hm.out) (fun _ _ h => h)).cells hs
        have Hs := hid hs
        have HSt := hid (step_any s)
        generalize hF : stepF s = F at HSt
        have HF := hid hF
        clear hs hF
        go_wp2_with fail
        have hm0 : Mod (fun _ => False) wr (wr.alloc (.cells #[.string s.name, .string s.verb, .string s.undo, .string s.event, .bool s.final, .int .i64 s.retry, .int .i64 s.every, .int .i64 s.within, .slice s.aa s.after.length s.ac] 31)) := (Mod.refl _ _).alloc _
        have Hm0 := hid hm0
        clear hm0 q0 q1 q2 q3 q4 q5 q6 q7 q8
        refine (HSt.out _).mono ?_
        rintro e w5 ⟨rfl, hm5⟩
        have Hm5 := hid ((Hm.out.trans Hm0.out).trans hm5)
        clear hm5
        by_cases hF0 : F = 0
        · have d0 : (F != 0) = false := by simp [hF0]
          have HF0 := hid hF0
          clear hF0
          go_wp2_with fail
          go_roundw
          case rel =>
            refine ⟨k + 1, by omega, by go_num, fun j hj t ht => ?_, Hm5.out⟩
            rcases Nat.lt_or_ge j k with h | h
            · exact Hno.out j h t ht
            · have : j = k := by omega
              subst this
              rw [Hs.out] at ht
              cases ht
              rw [HF.out]; exact HF0.out
          case measure => simp [intOf]; omega
        · have d0 : (F != 0) = true := by simp [hF0]
          have HF0 := hid hF0
          clear hF0
          go_wp2_with fail
          go_ret
          refine ⟨?_, HM3.out.trans Hm5.out⟩
          have h1 := firstF_at Hno.out Hs.out (by rw [HF.out]; exact HF0.out)
          rw [← HC.out, checkF_first HN.out (by rw [h1, HF.out]; exact HF0.out), h1, HF.out]
          rfl
      · have hkl : k = ss.length := by omega
        subst hkl
        have hfz : firstF ss = 0 := firstF_zero.2 (fun s hs => by
          obtain ⟨i, hi⟩ := List.getElem?_of_mem hs
          exact Hno.out i (List.getElem?_eq_some_iff.1 hi).1 s hi)
        have Hfz := hid hfz
        clear hfz
        have t0 := (Hm.out.cell (World.block_lt_of_cell? _ _ u0) (fun h => h)).trans u0
        have t1 := (Hm.out.cell (World.block_lt_of_cell? _ _ u1) (fun h => h)).trans u1
        have T3 := hid ((Hm.out.block _ (lt_of_heap U3.out) (fun h => h)).trans U3.out)
        have t3 : wr.cell? ⟨w2.heap.size, 0, none⟩ = some (.map (some mb)) := cell_of_one T3.out
        clear u0 u1
        go_upto_region 11 with fail
        go_cut [8] (fun v8 wx => MidC W wr nm a cap ss mb v8 wx)
        case first =>
          have mk1 := mk_maps ss.length hb
          have mk2 := mk_bools ss.length hb
          have lt0 := World.block_lt_of_cell? _ _ t0
          have lt3 := World.block_lt_of_cell? _ _ t3
          simp only at lt0 lt3
          have ne0 : wr.heap.size ≠ W.heap.size := by omega
          have ne1 : wr.heap.size + 1 ≠ W.heap.size := by omega
          have ne2 : wr.heap.size + 2 ≠ W.heap.size := by omega
          have ne3 : wr.heap.size + 3 ≠ W.heap.size := by omega
          have nf0 : wr.heap.size ≠ w2.heap.size := by omega
          have nf1 : wr.heap.size + 1 ≠ w2.heap.size := by omega
          have nf2 : wr.heap.size + 2 ≠ w2.heap.size := by omega
          have nf3 : wr.heap.size + 3 ≠ w2.heap.size := by omega
          have HK : Hid (∀ w', Mod (fun _ => False) wr w' → w'.cell? ⟨W.heap.size, 0, none⟩ = some (.string nm) ∧ w'.cell? ⟨W.heap.size, 1, none⟩ = some (.slice a ss.length cap) ∧ w'.cell? ⟨w2.heap.size, 0, none⟩ = some (.map (some mb))) := fun w' hm =>
            ⟨(hm.cell (World.block_lt_of_cell? _ _ t0) (fun h => h)).trans t0, (hm.cell (World.block_lt_of_cell? _ _ t1) (fun h => h)).trans t1, (hm.cell (World.block_lt_of_cell? _ _ t3) (fun h => h)).trans t3⟩
          go_region_held3 (fun w' => w'.cell? ⟨W.heap.size, 0, none⟩ = some (.string nm) ∧ w'.cell? ⟨W.heap.size, 1, none⟩ = some (.slice a ss.length cap) ∧ w'.cell? ⟨w2.heap.size, 0, none⟩ = some (.map (some mb))) ((refine HK.out _ ?_; repeat (first | with_reducible exact Mod.refl _ _ | with_reducible refine Mod.drew ?_ | with_reducible refine Mod.alloc ?_ _ | (refine Mod.setCell ?_ (by intro h; simp at h; try omega) _)))) (fail)
          all_goals
            go_wp2
            go_meet
            case rel =>
              have hMW := HM3.out.trans Hm.out
              have hMM := HMap3.out.mod Hm.out (fun h => h)
              obtain ⟨z0, z1, z2, z3, zm⟩ := heap4 wr _ _ _ _
              first
                | exact midC_of hb hMW hMM zm z0 z1 z2 z3 (by omega) (by omega) (by omega) (by omega) (by omega) (by omega) (by omega)
                | exact midC_of hb hMW hMM zm z0 z1 z3 z2 (by omega) (by omega) (by omega) (by omega) (by omega) (by omega) (by omega)
                | exact midC_of hb hMW hMM zm z0 z2 z3 z1 (by omega) (by omega) (by omega) (by omega) (by omega) (by omega) (by omega)
                | exact midC_of hb hMW hMM zm z1 z2 z3 z0 (by omega) (by omega) (by omega) (by omega) (by omega) (by omega) (by omega)
                | exact midC_of hb hMW hMM zm z1 z0 z2 z3 (by omega) (by omega) (by omega) (by omega) (by omega) (by omega) (by omega)
                | exact midC_of hb hMW hMM zm z1 z0 z3 z2 (by omega) (by omega) (by omega) (by omega) (by omega) (by omega) (by omega)
                | exact midC_of hb hMW hMM zm z2 z0 z3 z1 (by omega) (by omega) (by omega) (by omega) (by omega) (by omega) (by omega)
                | exact midC_of hb hMW hMM zm z2 z1 z3 z0 (by omega) (by omega) (by omega) (by omega) (by omega) (by omega) (by omega)
        case rest =>
          obtain ⟨bb, g1, g2, b8, rfl, hb8, hB, hg1, hg2, hn1, hn2, hm6⟩ := hcut
          have lt0 := World.block_lt_of_cell? _ _ t0
          have lt3 := World.block_lt_of_cell? _ _ t3
          simp only at lt0 lt3
          have hlb8 := World.block_lt_of_cell? _ _ hb8
          simp only at hlb8
          have s1 := (hm6.cell (World.block_lt_of_cell? _ _ t1) (fun h => h)).trans t1
          have s3 := (hm6.cell (World.block_lt_of_cell? _ _ t3) (fun h => h)).trans t3
          have HB := hid hB
          have Hm6 := hid hm6
          clear hB hm6 t0 t1 t3
          go_wp2_with fail
          obtain ⟨wo, rfl⟩ : ∃ wo : World, wo = wr := ⟨_, rfl⟩
          obtain ⟨wx, rfl⟩ : ∃ wx : World, wx = wc := ⟨_, rfl⟩
          go_loopw [49] (fun c wr => CRel2 W wx bb nm a cap ss mb g1 g2 c wr) (fun c _ => ss.length - (intOf c).toNat)
          case atStart => exact ⟨0, _, Nat.zero_le _, rfl, HB.out, fun j hj => by omega, Mod.refl _ _⟩
          case round =>
            obtain ⟨k, sets, hk, rfl, hB, hdn, hm⟩ := hrel
            have HBk := hid hB
            have Hdn := hid hdn
            have Hm7 := hid hm
            have r8 := (hm.cell (World.block_lt_of_cell? _ _ hb8) (fun h => h.elim hn1 hn2)).trans hb8
            have r1 := (hm.cell (World.block_lt_of_cell? _ _ s1) (fun h => by simp only at h; omega)).trans s1
            have r3 := (hm.cell (World.block_lt_of_cell? _ _ s3) (fun h => by simp only at h; omega)).trans s3
            clear hB hdn hm
            by_cases hlt : k < ss.length
            · have HO := hid (of_any HN.out HD.out ss.length wr sets (List.replicate ss.length false) k HBk.out hlt (by simp) (fun o ho => by rw [List.getElem?_replicate] at ho; split at ho <;> cases ho))
              go_wp2_with fail
              refine HO.out.mono ?_
              rintro e w8 (⟨sets', b', rfl, hB8, hs8, hext8, hnew8, hm8⟩ | ⟨rfl, ⟨q, hq⟩, hm8⟩)
              · have HB8 := hid hB8
                have Hs8 := hid hs8
                have Hext8 := hid hext8
                have Hm8 := hid hm8
                clear hB8 hs8 hext8 hnew8 hm8
                go_wp2_with fail
                go_roundw
                case rel =>
                  refine ⟨k + 1, sets', by omega, by go_num, HB8.out, fun j hj => ?_, Hm7.out.trans Hm8.out⟩
                  rcases Nat.lt_or_ge j k with h | h
                  · obtain ⟨b, hb⟩ := Hdn.out j h
                    exact ⟨b, Hext8.out j b hb⟩
                  · have : j = k := by omega
                    subst this
                    exact ⟨b', Hs8.out⟩
                case measure => simp [intOf]; omega
              · have Hq := hid hq
                have Hm8 := hid hm8
                clear hq hm8
                go_wp2_with fail
                go_ret
                refine ⟨?_, ((HM3.out.trans Hm.out).trans Hm6.out).then (Hm7.out.trans Hm8.out) (fun i hi h => by have := HB.out.lo1; have := HB.out.lo2; omega)⟩
                rw [← HC.out, checkF_cyc HN.out Hfz.out (cyc_of_ed Hq.out)]
                rfl
            · have hkl : k = ss.length := by omega
              subst hkl
              go_wp2_with fail
              obtain ⟨wy, rfl⟩ : ∃ wy : World, wy = wr := ⟨_, rfl⟩
              go_loopw [64] (fun c wr => CRel3 wy ss c wr) (fun c _ => ss.length - (intOf c).toNat)
              case atStart => exact ⟨0, Nat.zero_le _, rfl, fun j hj => by omega, Mod.refl _ _⟩
              case round =>
                obtain ⟨k, hk, rfl, hno3, hm⟩ := hrel
                have Hno3 := hid hno3
                have Hm9 := hid hm
                have y8 := (hm.cell (World.block_lt_of_cell? _ _ r8) (fun h => h)).trans r8
                have y1 := (hm.cell (World.block_lt_of_cell? _ _ r1) (fun h => h)).trans r1
                have y3 := (hm.cell (World.block_lt_of_cell? _ _ r3) (fun h => h)).trans r3
                clear hno3 hm
                have HMW : Hid (Mod (fun _ => False) W wr) := (((HM3.out.trans Hm.out).trans Hm6.out).then Hm7.out (fun i hi h => by have := HB.out.lo1; have := HB.out.lo2; omega)).trans Hm9.out
                by_cases hlt3 : k < ss.length
                · obtain ⟨s, hs⟩ : ∃ s, ss[k]? = some s := ⟨_, List.getElem?_eq_getElem hlt3⟩
                  obtain ⟨g, off, rfl⟩ := HD.out.some (by omega)
                  obtain ⟨q0, q1, q2, q3, q4, q5, q6, q7, q8⟩ := (HD.out.mod HMW.out (fun _ _ h => h)).cells hs
                  have Hs := hid hs
                  clear hs
                  have hmA : Mod (fun _ => False) wr ((wr.alloc (.cells #[.int .i64 (k : Int)] 3)).alloc (.cells #[.string s.name, .string s.verb, .string s.undo, .string s.event, .bool s.final, .int .i64 s.retry, .int .i64 s.every, .int .i64 s.within, .slice s.aa s.after.length s.ac] 31)) := ((Mod.refl _ _).alloc _).alloc _
                  have HmA := hid hmA
                  have hA0 : ((wr.alloc (.cells #[.int .i64 (k : Int)] 3)).alloc (.cells #[.string s.name, .string s.verb, .string s.undo, .string s.event, .bool s.final, .int .i64 s.retry, .int .i64 s.every, .int .i64 s.within, .slice s.aa s.after.length s.ac] 31)).heap[wr.heap.size]? = some (.cells #[.int .i64 (k : Int)] 3 (0, 0)) := (Below.heap_alloc _ _ _ (by simp)).trans (heap_alloc_new _ _)
                  have HA0 := hid hA0
                  have x1 : ((wr.alloc (.cells #[.int .i64 (k : Int)] 3)).alloc (.cells #[.string s.name, .string s.verb, .string s.undo, .string s.event, .bool s.final, .int .i64 s.retry, .int .i64 s.every, .int .i64 s.within, .slice s.aa s.after.length s.ac] 31)).cell? ⟨W.heap.size, 1, none⟩ = some (.slice (some ⟨g, off, none⟩) ss.length cap) := (hmA.cell (World.block_lt_of_cell? _ _ y1) (fun h => h)).trans y1
                  have C8 : Hid (Caps ((wr.alloc (.cells #[.int .i64 (k : Int)] 3)).alloc (.cells #[.string s.name, .string s.verb, .string s.undo, .string s.event, .bool s.final, .int .i64 s.retry, .int .i64 s.every, .int .i64 s.within, .slice s.aa s.after.length s.ac] 31)) b8 wr.heap.size w2.heap.size bb k mb) :=
                    ⟨(hmA.cell (World.block_lt_of_cell? _ _ y8) (fun h => h)).trans y8, cell_of_one hA0, (hmA.cell (World.block_lt_of_cell? _ _ y3) (fun h => h)).trans y3⟩
                  clear hmA hA0
                  by_cases hfin : Fin' s
                  · obtain ⟨he, hf⟩ := hfin
                    have HFin : Hid (Fin' s) := ⟨he, hf⟩
                    obtain ⟨bi, hbi⟩ := Hdn.out k hlt3
                    have HCo := hid (cont_any (cap := cap) (HD.out.mod (HMW.out.trans HmA.out) (fun _ _ h => h)) b8 wr.heap.size w2.heap.size (lackB ss k) (fun w1 kk x hm hx => cl_any HN.out (HBk.out.ext ((Hm9.out.trans HmA.out).trans hm)) (C8.out.ext hm) hbi hx hb))
                    clear hbi
                    rw [hf] at HCo x1 q4 HmA C8 HA0
                    go_wp2_with fail
                    refine HCo.out.mono ?_
                    rintro e wz ⟨b, hbb, rfl, hmz⟩
                    have Hbb := hid hbb
                    have Hmz := hid hmz
                    clear hbb hmz
                    cases b with
                    | true =>
                      go_wp2_with fail
                      go_ret
                      obtain ⟨q, hq, hl⟩ := Hbb.out.1 (by first | rfl | trivial)
                      refine ⟨?_, (HMW.out.trans HmA.out).trans Hmz.out⟩
                      rw [← HC.out, checkF_fin HN.out Hfz.out (no_cyc HN.out (fun i hi => by obtain ⟨b, hb⟩ := Hdn.out i hi; exact HBk.out.acy i b hb)) (fin_bad HN.out Hs.out HFin.out hl)]
                      rfl
                    | false =>
                      go_wp2_with fail
                      go_roundw
                      case rel =>
                        refine ⟨k + 1, by omega, by go_num, fun j hj t ht hft q hq => ?_, (Hm9.out.trans HmA.out).trans Hmz.out⟩
                        rcases Nat.lt_or_ge j k with h | h
                        · exact Hno3.out j h t ht hft q hq
                        · have : j = k := by omega
                          subst this
                          cases hl : lackB ss j q with
                          | false => rfl
                          | true => have := Hbb.out.2 ⟨q, hq, hl⟩; cases this
                      case measure => simp [intOf]; omega
                  · have Hnf := hid hfin
                    have hrel' : CRel3 wy ss (.int .i64 ((k : Int) + 1)) ((wr.alloc (.cells #[.int .i64 (k : Int)] 3)).alloc (.cells #[.string s.name, .string s.verb, .string s.undo, .string s.event, .bool s.final, .int .i64 s.retry, .int .i64 s.every, .int .i64 s.within, .slice s.aa s.after.length s.ac] 31)) := by
                      refine ⟨k + 1, by omega, by go_num, fun j hj t ht hft q hq => ?_, Hm9.out.trans HmA.out⟩
                      rcases Nat.lt_or_ge j k with h | h
                      · exact Hno3.out j h t ht hft q hq
                      · have : j = k := by omega
                        subst this
                        rw [Hs.out] at ht
                        cases ht
                        exact absurd hft Hnf.out
                    have Hrel' := hid hrel'
                    clear hrel' hfin
                    cases he : s.event.toList.isEmpty with
                    | true =>
                      cases hf : s.final with
                      | true => exact absurd ⟨he, hf⟩ Hnf.out
                      | false =>
                        rw [hf] at Hrel' x1 q4
                        go_wp2_with fail
                        go_roundw
                        case rel => exact Hrel'.out
                        case measure => simp [intOf]; omega
                    | false =>
                      go_wp2_with fail
                      go_roundw
                      case rel => exact Hrel'.out
                      case measure => simp [intOf]; omega
                · go_wp2_with fail
                  go_ret
                  refine ⟨?_, HMW.out⟩
                  rw [← HC.out, checkF_ok HN.out Hfz.out (no_cyc HN.out (fun i hi => by obtain ⟨b, hb⟩ := Hdn.out i hi; exact HBk.out.acy i b hb)) (no_fin_bad HN.out (fun i s hi hf q hq => Hno3.out i (by have := (List.getElem?_eq_some_iff.1 hi).1; omega) s hi hf q hq))]
                  rfl
  · have Hn := hid nok
    have Hm2 := hid hm2
    clear nok hm2
    go_wp2_with fail
    go_ret
    refine ⟨?_, (Hm1.out.trans Hm2.out).alloc _⟩
    rw [← HC.out, checkF_names Hn.out]
    rfl

end Go.Proofs.Ythbfgeaojgfafaa
