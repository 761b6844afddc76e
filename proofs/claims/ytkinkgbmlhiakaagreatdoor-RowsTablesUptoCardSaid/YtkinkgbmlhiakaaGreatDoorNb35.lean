/- merged: RoTbl Open1 -/
import Derived.Test.YtkinkgbmlhiakaaGreatDoorNb34
import Derived.Test.YtkinkgbmlhiakaaGreatDoorProg
import Derived.Test.YtkinkgbmlhiakaaGreatDoorNb01
import Derived.ProofKit
import Derived.Deep.Slices
import Derived.SizedLaws
namespace Go.Proofs.YtkinkgbmlhiakaaGreatDoor
section
open Go Go.RowKit
theorem qOe : (newD 3000).secs.length = 3000 := List.length_replicate ..
theorem Mod.keeps {w w' : World} (hm : Mod (fun _ => False) w w') {b : Nat} {o : Obj} (h : w.heap[b]? = some o) : w'.heap[b]? = some o := (hm.block _ (lth h) (fun h => h)).trans h
theorem jJn (w : World) {bx tb : Nat} (hx : w.cell? ⟨bx, 0, none⟩ = some (.pointer (some ⟨tb, 0, none⟩))) :
  TbAt (((((((w.alloc (.cells #[.int .i64 0, .int .i64 0] 44)).alloc (.cells #[.int .u8 97, .slice (some ⟨w.heap.size, 0, none⟩) 2 2, .int .i64 1, .int .i64 1] 24)).alloc (.cells #[.int .i64 0, .int .i64 0] 44)).alloc (.cells #[.int .u8 98, .slice (some ⟨w.heap.size + 1 + 1, 0, none⟩) 2 2, .int .i64 1, .int .i64 1] 24)).alloc (.map #[] 0)).alloc (.map #[] 0)).alloc (.cells #[.map (some (w.heap.size + 1 + 1 + 1 + 1)), .map (some (w.heap.size + 1 + 1 + 1 + 1 + 1))] 49)) bx w.heap.size tb ∧
   qAs (Value.int IntKind.i64) (((((((w.alloc (.cells #[.int .i64 0, .int .i64 0] 44)).alloc (.cells #[.int .u8 97, .slice (some ⟨w.heap.size, 0, none⟩) 2 2, .int .i64 1, .int .i64 1] 24)).alloc (.cells #[.int .i64 0, .int .i64 0] 44)).alloc (.cells #[.int .u8 98, .slice (some ⟨w.heap.size + 1 + 1, 0, none⟩) 2 2, .int .i64 1, .int .i64 1] 24)).alloc (.map #[] 0)).alloc (.map #[] 0)).alloc (.cells #[.map (some (w.heap.size + 1 + 1 + 1 + 1)), .map (some (w.heap.size + 1 + 1 + 1 + 1 + 1))] 49)) (w.heap.size + 1 + 1 + 1 + 1) ([] : List (Int × Value)) /\ qAs (Value.int IntKind.i64) (((((((w.alloc (.cells #[.int .i64 0, .int .i64 0] 44)).alloc (.cells #[.int .u8 97, .slice (some ⟨w.heap.size, 0, none⟩) 2 2, .int .i64 1, .int .i64 1] 24)).alloc (.cells #[.int .i64 0, .int .i64 0] 44)).alloc (.cells #[.int .u8 98, .slice (some ⟨w.heap.size + 1 + 1, 0, none⟩) 2 2, .int .i64 1, .int .i64 1] 24)).alloc (.map #[] 0)).alloc (.map #[] 0)).alloc (.cells #[.map (some (w.heap.size + 1 + 1 + 1 + 1)), .map (some (w.heap.size + 1 + 1 + 1 + 1 + 1))] 49)) (w.heap.size + 1 + 1 + 1 + 1 + 1) ([] : List (Int × Value)) /\ Mod (fun _ => False) w (((((((w.alloc (.cells #[.int .i64 0, .int .i64 0] 44)).alloc (.cells #[.int .u8 97, .slice (some ⟨w.heap.size, 0, none⟩) 2 2, .int .i64 1, .int .i64 1] 24)).alloc (.cells #[.int .i64 0, .int .i64 0] 44)).alloc (.cells #[.int .u8 98, .slice (some ⟨w.heap.size + 1 + 1, 0, none⟩) 2 2, .int .i64 1, .int .i64 1] 24)).alloc (.map #[] 0)).alloc (.map #[] 0)).alloc (.cells #[.map (some (w.heap.size + 1 + 1 + 1 + 1)), .map (some (w.heap.size + 1 + 1 + 1 + 1 + 1))] 49)) := by
 obtain ⟨e1, he1⟩ : ∃ e, w.alloc (.cells #[.int .i64 0, .int .i64 0] 44) = e := ⟨_, rfl⟩; obtain ⟨e2, he2⟩ : ∃ e, e1.alloc (.cells #[.int .u8 97, .slice (some ⟨w.heap.size, 0, none⟩) 2 2, .int .i64 1, .int .i64 1] 24) = e := ⟨_, rfl⟩; obtain ⟨e3, he3⟩ : ∃ e, e2.alloc (.cells #[.int .i64 0, .int .i64 0] 44) = e := ⟨_, rfl⟩; obtain ⟨e4, he4⟩ : ∃ e, e3.alloc (.cells #[.int .u8 98, .slice (some ⟨w.heap.size + 1 + 1, 0, none⟩) 2 2, .int .i64 1, .int .i64 1] 24) = e := ⟨_, rfl⟩; obtain ⟨e5, he5⟩ : ∃ e, e4.alloc (.map #[] 0) = e := ⟨_, rfl⟩; obtain ⟨e6, he6⟩ : ∃ e, e5.alloc (.map #[] 0) = e := ⟨_, rfl⟩
 obtain ⟨e7, he7⟩ : ∃ e, e6.alloc (.cells #[.map (some (w.heap.size + 1 + 1 + 1 + 1)), .map (some (w.heap.size + 1 + 1 + 1 + 1 + 1))] 49) = e := ⟨_, rfl⟩; rw [he1, he2, he3, he4, he5, he6, he7]; have m1 : Mod (fun _ => False) w e1 := he1 ▸ (Mod.refl _ _).alloc _
 have s1 : e1.heap.size = w.heap.size + 1 := by rw [<- he1, World.size_alloc]
 have h1 : e1.heap[w.heap.size]? = some (.cells #[.int .i64 0, .int .i64 0] 44 (0, 0)) := by rw [<- he1]; exact heap_alloc_new _ _
 have m2 : Mod (fun _ => False) e1 e2 := he2 ▸ (Mod.refl _ _).alloc _
 have s2 : e2.heap.size = w.heap.size + 1 + 1 := by rw [<- he2, World.size_alloc, s1]
 have h2 : e2.heap[w.heap.size + 1]? = some (.cells #[.int .u8 97, .slice (some ⟨w.heap.size, 0, none⟩) 2 2, .int .i64 1, .int .i64 1] 24 (0, 0)) := by rw [<- he2, <- s1]; exact heap_alloc_new _ _
 have m3 : Mod (fun _ => False) e2 e3 := he3 ▸ (Mod.refl _ _).alloc _
 have s3 : e3.heap.size = w.heap.size + 1 + 1 + 1 := by rw [<- he3, World.size_alloc, s2]
 have h3 : e3.heap[w.heap.size + 1 + 1]? = some (.cells #[.int .i64 0, .int .i64 0] 44 (0, 0)) := by rw [<- he3, <- s2]; exact heap_alloc_new _ _
 have m4 : Mod (fun _ => False) e3 e4 := he4 ▸ (Mod.refl _ _).alloc _
 have s4 : e4.heap.size = w.heap.size + 1 + 1 + 1 + 1 := by rw [<- he4, World.size_alloc, s3]
 have h4 : e4.heap[w.heap.size + 1 + 1 + 1]? = some (.cells #[.int .u8 98, .slice (some ⟨w.heap.size + 1 + 1, 0, none⟩) 2 2, .int .i64 1, .int .i64 1] 24 (0, 0)) := by rw [<- he4, <- s3]; exact heap_alloc_new _ _
 have m5 : Mod (fun _ => False) e4 e5 := he5 ▸ (Mod.refl _ _).alloc _
 have s5 : e5.heap.size = w.heap.size + 1 + 1 + 1 + 1 + 1 := by rw [<- he5, World.size_alloc, s4]
 have h5 : qAs (Value.int IntKind.i64) e5 (w.heap.size + 1 + 1 + 1 + 1) ([] : List (Int × Value)) := by rw [<- he5, <- s4]; exact qAs.made _ _
 have m6 : Mod (fun _ => False) e5 e6 := he6 ▸ (Mod.refl _ _).alloc _
 have s6 : e6.heap.size = w.heap.size + 1 + 1 + 1 + 1 + 1 + 1 := by rw [<- he6, World.size_alloc, s5]
 have h6 : qAs (Value.int IntKind.i64) e6 (w.heap.size + 1 + 1 + 1 + 1 + 1) ([] : List (Int × Value)) := by rw [<- he6, <- s5]; exact qAs.made _ _
 have m7 : Mod (fun _ => False) e6 e7 := he7 ▸ (Mod.refl _ _).alloc _
 have s7 : e7.heap.size = w.heap.size + 1 + 1 + 1 + 1 + 1 + 1 + 1 := by rw [<- he7, World.size_alloc, s6]
 have h7 : e7.heap[w.heap.size + 1 + 1 + 1 + 1 + 1 + 1]? = some (.cells #[.map (some (w.heap.size + 1 + 1 + 1 + 1)), .map (some (w.heap.size + 1 + 1 + 1 + 1 + 1))] 49 (0, 0)) := by rw [<- he7, <- s6]; exact heap_alloc_new _ _
 have n6 := m7; have n5 := m6.trans n6; have n4 := m5.trans n5; have n3 := m4.trans n4; have n2 := m3.trans n3; have n1 := m2.trans n2; have n0 := m1.trans n1; exact ⟨⟨(⟨_, n0⟩ : Ext w).cell hx, n2.keeps h2, n4.keeps h4, (qDn (f := oneI) (fun _ => rfl) h1).ext n1, (qDn (f := oneI) (fun _ => rfl) h3).ext n3, h7⟩, h5.mod n5 (fun h => h), h6.mod n6 (fun h => h), n0⟩
noncomputable def KL : Keys Tryz.prog 2 Int := qSs Tryz.underlying2
namespace RowsTables
set_option maxRecDepth 100000
set_option maxHeartbeats 4000000 in
theorem walk' (W : World) (oa : Option Addr) (oc : Nat) (one : List Int) (hl1 : Lies W 1 oneI oa one) (h1 : ∀ n ∈ one, I64 n) (hn1 : one.length <= 1048576) (ta : Option Addr) (tc : Nat) (two : List Int) (hl2 : Lies W 1 oneI ta two) (h2 : ∀ n ∈ two, I64 n) (hn2 : two.length <= 1048576) :
  Calls Tryz.prog 4 #[.slice oa one.length oc, .slice ta two.length tc] W fun e w' => e = .returned (.bool true) /\ RowKit.Below W.heap.size W w' := by
 have HL1 := hid hl1; have HL2 := hid hl2; have HI1 := hid h1; have HI2 := hid h2; have HNw := hid (jHu (w := W) 3000); have hmm := @run_makeMap Tryz.prog; clear hl1 hl2 h1 h2; go_enter Tryz.func4, Tryz.ntmps4
 go_upto_region 2 with (first
  | (go_at_call 8; refine HNw.out.mono ?_; rintro e w1 ⟨d, sa, rfl, hd0, hs0, hD, hm1⟩; have HD0 := hid hd0; have HS0 := hid hs0; have HD := hid hD; have HM1 := hid hm1; clear hd0 hs0 hD hm1)
  | (go_at_call 7; refine (jFi (room := 500) HD.out (by omega) (by omega) (by unfold jlen; rw [qOe]; omega) (by rw [qOe]; omega)).mono ?_; rintro e w2 ⟨B, rfl, hh, hb1, hb2, hb3, hlo, hm2⟩; have HH := hid hh; have HBr := hid hb3; have HNb := hid (qXm hb1 hb2 HD0.out HS0.out HM1.out.size hlo); have HM2 : Hid (Mod (fun k => W.heap.size <= k) W w2) := hid (((HM1.out.mono (fun _ _ e => e.elim)) : Mod (fun k => W.heap.size <= k) W _).trans (hm2.mono (fun k _ e => by rcases e with e | e; (have := HD0.out; omega); (exact HS0.out k e)))); clear hh hb1 hb2 hb3 hlo hm2))
 go_upto_region 4 with (go_at_call 9; refine (qVy _).mono ?_; rintro e w3 ⟨rfl, hm3⟩; have HSz := hid hm3.size; have HM3 := hid (((Mod.refl _ _).alloc _ : Mod (fun _ => False) w2 (w2.alloc (.cells #[.pointer (some ⟨B.tb, 0, none⟩)] 27))).trans hm3); have hbx : w3.cell? ⟨w2.heap.size, 0, none⟩ = some (.pointer (some ⟨B.tb, 0, none⟩)) := (⟨_, hm3⟩ : Ext _).cell (by rw [cell_of_row _ _ _ _ _ _ (heap_alloc_new _ _)]; rfl); clear hm3)
 have HTb := hid (jJn w3 (bx := w2.heap.size) (tb := B.tb) hbx); go_upto_block 0 with fail
 generalize (((((((w3.alloc (.cells #[.int .i64 0, .int .i64 0] 44)).alloc (.cells #[.int .u8 97, .slice (some ⟨w3.heap.size, 0, none⟩) 2 2, .int .i64 1, .int .i64 1] 24)).alloc (.cells #[.int .i64 0, .int .i64 0] 44)).alloc (.cells #[.int .u8 98, .slice (some ⟨w3.heap.size + 1 + 1, 0, none⟩) 2 2, .int .i64 1, .int .i64 1] 24)).alloc (.map #[] 0)).alloc (.map #[] 0)).alloc (.cells #[.map (some (w3.heap.size + 1 + 1 + 1 + 1)), .map (some (w3.heap.size + 1 + 1 + 1 + 1 + 1))] 49)) = E at *; have hok : TbOk W B w2.heap.size w3.heap.size := ⟨HBr.out, HNb.out, fun i e => HH.out.tree.lt' e, by have := HSz.out; rw [World.size_alloc] at this; omega, HM2.out.size⟩
 have hrel0 : qJc W E B w2.heap.size w3.heap.size 0 newT (newD 3000) 0 [] 0 [] [] [] [] := ⟨HTb.out.1, HH.out.ext (HM3.out.trans HTb.out.2.2.2), jHb, by omega, by simp, qOe, .none HTb.out.2.1, .none HTb.out.2.2.1, (HM2.out.trans (HM3.out.mono (fun _ _ e => e.elim))).trans (HTb.out.2.2.2.mono (fun _ _ e => e.elim))⟩
 have HOk := hid hok; have HRel0 := hid hrel0; clear hok hrel0 HSz HTb HNw HD HH hbx hmm; go_cut [11] (fun _ wx => ∃ (j : Nat) (T : TM) (D : Dsk) (k : Nat) (L : List KV) (N : Nat) (A C : List Int) (ls ms : List (Int × Value)), j <= 120 /\ qJc W wx B w2.heap.size w3.heap.size j T D k L N A C ls ms)
 case first =>
  go_wp2_with fail
  go_loopw [11] (fun si wr => ∃ (i j : Nat) (T : TM) (D : Dsk) (k : Nat) (L : List KV) (N : Nat) (A C : List Int) (ls ms : List (Int × Value)), i <= 60 /\ j <= 2 * i /\ si = .int .i64 (i : Int) /\ qJc W wr B w2.heap.size w3.heap.size j T D k L N A C ls ms) (fun si _ => 60 - (intOf si).toNat)
  case atStart => exact ⟨0, 0, _, _, _, _, _, _, _, _, _, by omega, by omega, rfl, HRel0.out⟩
  case round =>
   obtain ⟨i, j, T, D, k, L, N, A, C, ls, ms, hi, hj, rfl, hrel⟩ := hrel; have HRel := hid hrel; clear hrel; by_cases h60 : i < 60
   ·have d60 : decide ((i : Int) < 60) = true := by simp; omega
    by_cases ha : i < one.length
    ·have hva := ha; have da : decide (i < one.length) = true := by simpa using ha
     have da1 : decide ((i : Int) < (one.length : Int)) = true := by simpa using ha
     have dan : ¬ one.length <= i := by omega
     obtain ⟨g0, off0, rfl⟩ := HL1.out.some (by omega)
     by_cases hb : i < two.length
     ·have hvb := hb; have db : decide (i < two.length) = true := by simpa using hb
      have db1 : decide ((i : Int) < (two.length : Int)) = true := by simpa using hb
      have dbn : ¬ two.length <= i := by omega
      obtain ⟨g1, off1, rfl⟩ := HL2.out.some (by omega)
      obtain ⟨n, hn⟩ : ∃ n, one[i]? = some n := ⟨_, List.getElem?_eq_getElem ha⟩; have hlx := HL1.out.ext (qKo HRel.out.mod); have q0 := hlx.cell (fun _ => rfl) hn (j := 0) rfl
      simp only [Nat.add_zero, Nat.mul_one] at q0; obtain ⟨a0, a1, a2, a3⟩ := row4 HRel.out.at'.ra; have HN := hid (HI1.out n (List.mem_of_getElem? hn)); have HPut := hid (fun (V : World) (hm : Mod (fun _ => False) wr V) => qOl (ca := some ⟨w3.heap.size, 0, none⟩) (cc := 2) (HRel.out.ext hm).here (.inl rfl : AB 97) HN.out (HRel.out.ext hm).at'.la (HRel.out.ext hm).at'.x (by have := HRel.out.ll; omega) (by have := HRel.out.kk; omega) HOk.out.room (by rw [HRel.out.dd]; omega))
      have HK1 : Hid (∀ V : World, Mod (TS B) wr V -> V.cell? ⟨w3.heap.size + 1, 0, none⟩ = some (.int .u8 97) /\ V.cell? ⟨w3.heap.size + 1, 1, none⟩ = some (.slice (some ⟨w3.heap.size, 0, none⟩) 2 2) /\ V.cell? ⟨w3.heap.size + 1, 2, none⟩ = some (.int .i64 1) /\ V.cell? ⟨w3.heap.size + 1, 3, none⟩ = some (.int .i64 1) /\ V.cell? ⟨g0, off0 + i, none⟩ = some (.int .i64 n)) := hid (fun V hm => by
       have h1 : ¬ TS B (w3.heap.size + 1) := fun e => by have h1 := HOk.out.lt _ e; have h2 := HOk.out.sx; omega
       have h2 : ¬ TS B g0 := fun e => by have h1 := HOk.out.new _ e; have h2 := HL1.out.lt g0 (by omega) (qAb.2 rfl); omega
       exact ⟨qAq hm h1 a0, qAq hm h1 a1, qAq hm h1 a2, qAq hm h1 a3, qAq hm h2 q0⟩)
      clear hlx a0 a1 a2 a3 q0 hn; obtain ⟨a0, a1, a2, a3, q0⟩ := HK1.out wr (Mod.refl _ _); go_upto_region 12 with fail
      go_region_held3 (fun w' => w'.cell? ⟨w3.heap.size + 1, 0, none⟩ = some (.int .u8 97) /\ w'.cell? ⟨w3.heap.size + 1, 1, none⟩ = some (.slice (some ⟨w3.heap.size, 0, none⟩) 2 2) /\ w'.cell? ⟨w3.heap.size + 1, 2, none⟩ = some (.int .i64 1) /\ w'.cell? ⟨w3.heap.size + 1, 3, none⟩ = some (.int .i64 1) /\ w'.cell? ⟨g0, off0 + i, none⟩ = some (.int .i64 n))
       (first | exact ⟨a0, a1, a2, a3, q0⟩ | exact ⟨y0, y1, y2, y3, y4⟩ | go_keep)
       (first
        | (go_at_call 13; (with_reducible refine (HPut.out _ (Mod.refl _ wr).drew).mono ?_); rintro e w6 ⟨rfl, ⟨T6, D6, N6, hh6, hd6⟩, hm6⟩; have HH6 := hid hh6; have HD6 := hid hd6; have HM6 : Hid (Mod (TS B) wr w6) := hid ((Mod.refl _ wr).drew.trans hm6); obtain ⟨y0, y1, y2, y3, y4⟩ := HK1.out w6 HM6.out; clear hh6 hd6 hm6))
      clear a0 a1 a2 a3 q0; have hsx := HOk.out.sx; have hmap6 : qAs KL.kv w6 (w3.heap.size + 1 + 1 + 1 + 1) ls := HRel.out.m1.map.mod HM6.out (fun e => by have h1 := HOk.out.lt _ e; omega)
      have r0 : w6.cell? ⟨w3.heap.size + 1 + 1 + 1 + 1 + 1 + 1, 0, none⟩ = some (.map (some (w3.heap.size + 1 + 1 + 1 + 1))) := qAq HM6.out (fun e => by have h1 := HOk.out.lt _ e; simp only at h1; omega) (by rw [cell_of_row _ _ _ _ _ _ HRel.out.at'.rr]; rfl)
      obtain ⟨c, hc1, hc2, hc3, _⟩ := HRel.out.m1.get n; have HC1 := hid hc1; have HC2 := hid hc2; have HC3 := hid hc3; have HMap6 := hid hmap6; have hw : wrap64 (c + 1) = c + 1 := by unfold wrap64; omega
      clear hc1 hmap6 hsx; go_upto_region 14 with fail
      have g0' := fun x : Ext w6 => x.cell r0
      have g1' := fun x : Ext w6 => x.cell y4
      have g2' : ∀ x : Ext w6, (Instr.lookup 48 (.map (some (w3.heap.size + 1 + 1 + 1 + 1))) (.int .i64 n) false).run Tryz.prog x.val = .ok (.int .i64 c) x.val := fun x => by
       have := qAu (P := Tryz.prog) KL Tryz.underlying48 (qMm _) (HMap6.out.mod x.mod (fun e => e)) n false
       rw [HC1.out] at this; exact this
      refine qAh 8 (by kernel_rfl) (by kernel_rfl) ?_
      simp only [List.take_succ_cons, List.take_zero, List.drop_succ_cons, List.drop_zero]; repeat (go_big_quiet_step ((fail)))
      refine wpQuiet_nil ?_; rintro _ ⟨z, rfl⟩; obtain ⟨w8, hup, hat8, hm8⟩ := qAv (P := Tryz.prog) KL Tryz.underlying48 (HMap6.out.mod z.mod (fun e => e)) n (.int .i64 (c + 1))
      have hup' : (Instr.mapUpdate 48 (.map (some (w3.heap.size + 1 + 1 + 1 + 1))) (.int .i64 n) (.int .i64 (c + 1))).run Tryz.prog z.val = .ok () w8 := hup; have HNx := hid (HRel.out.putA HOk.out HN.out (HM6.out.trans (z.mod.mono (fun _ _ e => e.elim))) (HH6.out.ext z.mod) HD6.out hm8 HC2.out HC3.out hat8)
      clear hup hat8 hm8 g0' g1' g2' r0 y0 y1 y2 y3 y4 hw hc2 hc3; go_upto_region 15 with fail
      obtain ⟨n, hn⟩ : ∃ n, two[i]? = some n := ⟨_, List.getElem?_eq_getElem hb⟩; have hlx := HL2.out.ext (qKo HNx.out.mod); have q0 := hlx.cell (fun _ => rfl) hn (j := 0) rfl
      simp only [Nat.add_zero, Nat.mul_one] at q0; obtain ⟨a0, a1, a2, a3⟩ := row4 HNx.out.at'.rb; have HN := hid (HI2.out n (List.mem_of_getElem? hn)); have HPut := hid (fun (V : World) (hm : Mod (fun _ => False) w8 V) => qOl (ca := some ⟨w3.heap.size + 1 + 1, 0, none⟩) (cc := 2) (HNx.out.ext hm).here (.inr rfl : AB 98) HN.out (HNx.out.ext hm).at'.lb (HNx.out.ext hm).at'.x (by have := HNx.out.ll; omega) (by have := HNx.out.kk; omega) HOk.out.room (by rw [HNx.out.dd]; omega))
      have HK1 : Hid (∀ V : World, Mod (TS B) w8 V -> V.cell? ⟨w3.heap.size + 1 + 1 + 1, 0, none⟩ = some (.int .u8 98) /\ V.cell? ⟨w3.heap.size + 1 + 1 + 1, 1, none⟩ = some (.slice (some ⟨w3.heap.size + 1 + 1, 0, none⟩) 2 2) /\ V.cell? ⟨w3.heap.size + 1 + 1 + 1, 2, none⟩ = some (.int .i64 1) /\ V.cell? ⟨w3.heap.size + 1 + 1 + 1, 3, none⟩ = some (.int .i64 1) /\ V.cell? ⟨g1, off1 + i, none⟩ = some (.int .i64 n)) := hid (fun V hm => by
       have h1 : ¬ TS B (w3.heap.size + 1 + 1 + 1) := fun e => by have h1 := HOk.out.lt _ e; have h2 := HOk.out.sx; omega
       have h2 : ¬ TS B g1 := fun e => by have h1 := HOk.out.new _ e; have h2 := HL2.out.lt g1 (by omega) (qAb.2 rfl); omega
       exact ⟨qAq hm h1 a0, qAq hm h1 a1, qAq hm h1 a2, qAq hm h1 a3, qAq hm h2 q0⟩)
      clear hlx a0 a1 a2 a3 q0 hn; obtain ⟨a0, a1, a2, a3, q0⟩ := HK1.out w8 (Mod.refl _ _); go_upto_region 16 with fail
      go_region_held3 (fun w' => w'.cell? ⟨w3.heap.size + 1 + 1 + 1, 0, none⟩ = some (.int .u8 98) /\ w'.cell? ⟨w3.heap.size + 1 + 1 + 1, 1, none⟩ = some (.slice (some ⟨w3.heap.size + 1 + 1, 0, none⟩) 2 2) /\ w'.cell? ⟨w3.heap.size + 1 + 1 + 1, 2, none⟩ = some (.int .i64 1) /\ w'.cell? ⟨w3.heap.size + 1 + 1 + 1, 3, none⟩ = some (.int .i64 1) /\ w'.cell? ⟨g1, off1 + i, none⟩ = some (.int .i64 n))
       (first | exact ⟨a0, a1, a2, a3, q0⟩ | exact ⟨y0, y1, y2, y3, y4⟩ | go_keep)
       (first
        | (go_at_call 13; (with_reducible refine (HPut.out _ (Mod.refl _ w8).drew).mono ?_); rintro e w6 ⟨rfl, ⟨T6, D6, N6, hh6, hd6⟩, hm6⟩; have HH6 := hid hh6; have HD6 := hid hd6; have HM6 : Hid (Mod (TS B) w8 w6) := hid ((Mod.refl _ w8).drew.trans hm6); obtain ⟨y0, y1, y2, y3, y4⟩ := HK1.out w6 HM6.out; clear hh6 hd6 hm6))
      clear a0 a1 a2 a3 q0; have hsx := HOk.out.sx; have hmap6 : qAs KL.kv w6 (w3.heap.size + 1 + 1 + 1 + 1 + 1) ms := HNx.out.m2.map.mod HM6.out (fun e => by have h1 := HOk.out.lt _ e; omega)
      have r0 : w6.cell? ⟨w3.heap.size + 1 + 1 + 1 + 1 + 1 + 1, 1, none⟩ = some (.map (some (w3.heap.size + 1 + 1 + 1 + 1 + 1))) := qAq HM6.out (fun e => by have h1 := HOk.out.lt _ e; simp only at h1; omega) (by rw [cell_of_row _ _ _ _ _ _ HNx.out.at'.rr]; rfl)
      obtain ⟨c, hc1, hc2, hc3, _⟩ := HNx.out.m2.get n; have HC1 := hid hc1; have HC2 := hid hc2; have HC3 := hid hc3; have HMap6 := hid hmap6; have hw : wrap64 (c + 1) = c + 1 := by unfold wrap64; omega
      clear hc1 hmap6 hsx; go_upto_region 18 with fail
      have g0' := fun x : Ext w6 => x.cell r0
      have g1' := fun x : Ext w6 => x.cell y4
      have g2' : ∀ x : Ext w6, (Instr.lookup 48 (.map (some (w3.heap.size + 1 + 1 + 1 + 1 + 1))) (.int .i64 n) false).run Tryz.prog x.val = .ok (.int .i64 c) x.val := fun x => by
       have := qAu (P := Tryz.prog) KL Tryz.underlying48 (qMm _) (HMap6.out.mod x.mod (fun e => e)) n false
       rw [HC1.out] at this; exact this
      refine qAh 8 (by kernel_rfl) (by kernel_rfl) ?_
      simp only [List.take_succ_cons, List.take_zero, List.drop_succ_cons, List.drop_zero]; repeat (go_big_quiet_step ((fail)))
      refine wpQuiet_nil ?_; rintro _ ⟨z, rfl⟩; obtain ⟨w8, hup, hat8, hm8⟩ := qAv (P := Tryz.prog) KL Tryz.underlying48 (HMap6.out.mod z.mod (fun e => e)) n (.int .i64 (c + 1))
      have hup' : (Instr.mapUpdate 48 (.map (some (w3.heap.size + 1 + 1 + 1 + 1 + 1))) (.int .i64 n) (.int .i64 (c + 1))).run Tryz.prog z.val = .ok () w8 := hup; have HNy := hid (HNx.out.putB HOk.out HN.out (HM6.out.trans (z.mod.mono (fun _ _ e => e.elim))) (HH6.out.ext z.mod) HD6.out hm8 HC2.out HC3.out hat8)
      clear hup hat8 hm8 g0' g1' g2' r0 y0 y1 y2 y3 y4 hw hc2 hc3; go_wp2_with fail
      go_roundw
      case rel => exact ⟨i + 1, j + 1 + 1, _, _, _, _, _, _, _, _, _, by omega, by omega, by go_num, HNy.out⟩
      case measure => simp [intOf]; omega
     ·have hvb := hb; have db : decide (i < two.length) = false := by simpa using hb
      have db1 : decide ((i : Int) < (two.length : Int)) = false := by simpa using hb
      obtain ⟨n, hn⟩ : ∃ n, one[i]? = some n := ⟨_, List.getElem?_eq_getElem ha⟩; have hlx := HL1.out.ext (qKo HRel.out.mod); have q0 := hlx.cell (fun _ => rfl) hn (j := 0) rfl
      simp only [Nat.add_zero, Nat.mul_one] at q0; obtain ⟨a0, a1, a2, a3⟩ := row4 HRel.out.at'.ra; have HN := hid (HI1.out n (List.mem_of_getElem? hn)); have HPut := hid (fun (V : World) (hm : Mod (fun _ => False) wr V) => qOl (ca := some ⟨w3.heap.size, 0, none⟩) (cc := 2) (HRel.out.ext hm).here (.inl rfl : AB 97) HN.out (HRel.out.ext hm).at'.la (HRel.out.ext hm).at'.x (by have := HRel.out.ll; omega) (by have := HRel.out.kk; omega) HOk.out.room (by rw [HRel.out.dd]; omega))
      have HK1 : Hid (∀ V : World, Mod (TS B) wr V -> V.cell? ⟨w3.heap.size + 1, 0, none⟩ = some (.int .u8 97) /\ V.cell? ⟨w3.heap.size + 1, 1, none⟩ = some (.slice (some ⟨w3.heap.size, 0, none⟩) 2 2) /\ V.cell? ⟨w3.heap.size + 1, 2, none⟩ = some (.int .i64 1) /\ V.cell? ⟨w3.heap.size + 1, 3, none⟩ = some (.int .i64 1) /\ V.cell? ⟨g0, off0 + i, none⟩ = some (.int .i64 n)) := hid (fun V hm => by
       have h1 : ¬ TS B (w3.heap.size + 1) := fun e => by have h1 := HOk.out.lt _ e; have h2 := HOk.out.sx; omega
       have h2 : ¬ TS B g0 := fun e => by have h1 := HOk.out.new _ e; have h2 := HL1.out.lt g0 (by omega) (qAb.2 rfl); omega
       exact ⟨qAq hm h1 a0, qAq hm h1 a1, qAq hm h1 a2, qAq hm h1 a3, qAq hm h2 q0⟩)
      clear hlx a0 a1 a2 a3 q0 hn; obtain ⟨a0, a1, a2, a3, q0⟩ := HK1.out wr (Mod.refl _ _); go_upto_region 12 with fail
      go_region_held3 (fun w' => w'.cell? ⟨w3.heap.size + 1, 0, none⟩ = some (.int .u8 97) /\ w'.cell? ⟨w3.heap.size + 1, 1, none⟩ = some (.slice (some ⟨w3.heap.size, 0, none⟩) 2 2) /\ w'.cell? ⟨w3.heap.size + 1, 2, none⟩ = some (.int .i64 1) /\ w'.cell? ⟨w3.heap.size + 1, 3, none⟩ = some (.int .i64 1) /\ w'.cell? ⟨g0, off0 + i, none⟩ = some (.int .i64 n))
       (first | exact ⟨a0, a1, a2, a3, q0⟩ | exact ⟨y0, y1, y2, y3, y4⟩ | go_keep)
       (first
        | (go_at_call 13; (with_reducible refine (HPut.out _ (Mod.refl _ wr).drew).mono ?_); rintro e w6 ⟨rfl, ⟨T6, D6, N6, hh6, hd6⟩, hm6⟩; have HH6 := hid hh6; have HD6 := hid hd6; have HM6 : Hid (Mod (TS B) wr w6) := hid ((Mod.refl _ wr).drew.trans hm6); obtain ⟨y0, y1, y2, y3, y4⟩ := HK1.out w6 HM6.out; clear hh6 hd6 hm6))
      clear a0 a1 a2 a3 q0; have hsx := HOk.out.sx; have hmap6 : qAs KL.kv w6 (w3.heap.size + 1 + 1 + 1 + 1) ls := HRel.out.m1.map.mod HM6.out (fun e => by have h1 := HOk.out.lt _ e; omega)
      have r0 : w6.cell? ⟨w3.heap.size + 1 + 1 + 1 + 1 + 1 + 1, 0, none⟩ = some (.map (some (w3.heap.size + 1 + 1 + 1 + 1))) := qAq HM6.out (fun e => by have h1 := HOk.out.lt _ e; simp only at h1; omega) (by rw [cell_of_row _ _ _ _ _ _ HRel.out.at'.rr]; rfl)
      obtain ⟨c, hc1, hc2, hc3, _⟩ := HRel.out.m1.get n; have HC1 := hid hc1; have HC2 := hid hc2; have HC3 := hid hc3; have HMap6 := hid hmap6; have hw : wrap64 (c + 1) = c + 1 := by unfold wrap64; omega
      clear hc1 hmap6 hsx; go_upto_region 14 with fail
      have g0' := fun x : Ext w6 => x.cell r0
      have g1' := fun x : Ext w6 => x.cell y4
      have g2' : ∀ x : Ext w6, (Instr.lookup 48 (.map (some (w3.heap.size + 1 + 1 + 1 + 1))) (.int .i64 n) false).run Tryz.prog x.val = .ok (.int .i64 c) x.val := fun x => by
       have := qAu (P := Tryz.prog) KL Tryz.underlying48 (qMm _) (HMap6.out.mod x.mod (fun e => e)) n false
       rw [HC1.out] at this; exact this
      refine qAh 8 (by kernel_rfl) (by kernel_rfl) ?_
      simp only [List.take_succ_cons, List.take_zero, List.drop_succ_cons, List.drop_zero]; repeat (go_big_quiet_step ((fail)))
      refine wpQuiet_nil ?_; rintro _ ⟨z, rfl⟩; obtain ⟨w8, hup, hat8, hm8⟩ := qAv (P := Tryz.prog) KL Tryz.underlying48 (HMap6.out.mod z.mod (fun e => e)) n (.int .i64 (c + 1))
      have hup' : (Instr.mapUpdate 48 (.map (some (w3.heap.size + 1 + 1 + 1 + 1))) (.int .i64 n) (.int .i64 (c + 1))).run Tryz.prog z.val = .ok () w8 := hup; have HNx := hid (HRel.out.putA HOk.out HN.out (HM6.out.trans (z.mod.mono (fun _ _ e => e.elim))) (HH6.out.ext z.mod) HD6.out hm8 HC2.out HC3.out hat8)
      clear hup hat8 hm8 g0' g1' g2' r0 y0 y1 y2 y3 y4 hw hc2 hc3; go_wp2_with fail
      go_roundw
      case rel => exact ⟨i + 1, j + 1, _, _, _, _, _, _, _, _, _, by omega, by omega, by go_num, HNx.out⟩
      case measure => simp [intOf]; omega
    ·have hva := ha; have da : decide (i < one.length) = false := by simpa using ha
     have da1 : decide ((i : Int) < (one.length : Int)) = false := by simpa using ha
     by_cases hb : i < two.length
     ·have hvb := hb; have db : decide (i < two.length) = true := by simpa using hb
      have db1 : decide ((i : Int) < (two.length : Int)) = true := by simpa using hb
      have dbn : ¬ two.length <= i := by omega
      obtain ⟨g1, off1, rfl⟩ := HL2.out.some (by omega)
      obtain ⟨n, hn⟩ : ∃ n, two[i]? = some n := ⟨_, List.getElem?_eq_getElem hb⟩; have hlx := HL2.out.ext (qKo HRel.out.mod); have q0 := hlx.cell (fun _ => rfl) hn (j := 0) rfl
      simp only [Nat.add_zero, Nat.mul_one] at q0; obtain ⟨a0, a1, a2, a3⟩ := row4 HRel.out.at'.rb; have HN := hid (HI2.out n (List.mem_of_getElem? hn)); have HPut := hid (fun (V : World) (hm : Mod (fun _ => False) wr V) => qOl (ca := some ⟨w3.heap.size + 1 + 1, 0, none⟩) (cc := 2) (HRel.out.ext hm).here (.inr rfl : AB 98) HN.out (HRel.out.ext hm).at'.lb (HRel.out.ext hm).at'.x (by have := HRel.out.ll; omega) (by have := HRel.out.kk; omega) HOk.out.room (by rw [HRel.out.dd]; omega))
      have HK1 : Hid (∀ V : World, Mod (TS B) wr V -> V.cell? ⟨w3.heap.size + 1 + 1 + 1, 0, none⟩ = some (.int .u8 98) /\ V.cell? ⟨w3.heap.size + 1 + 1 + 1, 1, none⟩ = some (.slice (some ⟨w3.heap.size + 1 + 1, 0, none⟩) 2 2) /\ V.cell? ⟨w3.heap.size + 1 + 1 + 1, 2, none⟩ = some (.int .i64 1) /\ V.cell? ⟨w3.heap.size + 1 + 1 + 1, 3, none⟩ = some (.int .i64 1) /\ V.cell? ⟨g1, off1 + i, none⟩ = some (.int .i64 n)) := hid (fun V hm => by
       have h1 : ¬ TS B (w3.heap.size + 1 + 1 + 1) := fun e => by have h1 := HOk.out.lt _ e; have h2 := HOk.out.sx; omega
       have h2 : ¬ TS B g1 := fun e => by have h1 := HOk.out.new _ e; have h2 := HL2.out.lt g1 (by omega) (qAb.2 rfl); omega
       exact ⟨qAq hm h1 a0, qAq hm h1 a1, qAq hm h1 a2, qAq hm h1 a3, qAq hm h2 q0⟩)
      clear hlx a0 a1 a2 a3 q0 hn; obtain ⟨a0, a1, a2, a3, q0⟩ := HK1.out wr (Mod.refl _ _); go_upto_region 16 with fail
      go_region_held3 (fun w' => w'.cell? ⟨w3.heap.size + 1 + 1 + 1, 0, none⟩ = some (.int .u8 98) /\ w'.cell? ⟨w3.heap.size + 1 + 1 + 1, 1, none⟩ = some (.slice (some ⟨w3.heap.size + 1 + 1, 0, none⟩) 2 2) /\ w'.cell? ⟨w3.heap.size + 1 + 1 + 1, 2, none⟩ = some (.int .i64 1) /\ w'.cell? ⟨w3.heap.size + 1 + 1 + 1, 3, none⟩ = some (.int .i64 1) /\ w'.cell? ⟨g1, off1 + i, none⟩ = some (.int .i64 n))
       (first | exact ⟨a0, a1, a2, a3, q0⟩ | exact ⟨y0, y1, y2, y3, y4⟩ | go_keep)
       (first
        | (go_at_call 13; (with_reducible refine (HPut.out _ (Mod.refl _ wr).drew).mono ?_); rintro e w6 ⟨rfl, ⟨T6, D6, N6, hh6, hd6⟩, hm6⟩; have HH6 := hid hh6; have HD6 := hid hd6; have HM6 : Hid (Mod (TS B) wr w6) := hid ((Mod.refl _ wr).drew.trans hm6); obtain ⟨y0, y1, y2, y3, y4⟩ := HK1.out w6 HM6.out; clear hh6 hd6 hm6))
      clear a0 a1 a2 a3 q0; have hsx := HOk.out.sx; have hmap6 : qAs KL.kv w6 (w3.heap.size + 1 + 1 + 1 + 1 + 1) ms := HRel.out.m2.map.mod HM6.out (fun e => by have h1 := HOk.out.lt _ e; omega)
      have r0 : w6.cell? ⟨w3.heap.size + 1 + 1 + 1 + 1 + 1 + 1, 1, none⟩ = some (.map (some (w3.heap.size + 1 + 1 + 1 + 1 + 1))) := qAq HM6.out (fun e => by have h1 := HOk.out.lt _ e; simp only at h1; omega) (by rw [cell_of_row _ _ _ _ _ _ HRel.out.at'.rr]; rfl)
      obtain ⟨c, hc1, hc2, hc3, _⟩ := HRel.out.m2.get n; have HC1 := hid hc1; have HC2 := hid hc2; have HC3 := hid hc3; have HMap6 := hid hmap6; have hw : wrap64 (c + 1) = c + 1 := by unfold wrap64; omega
      clear hc1 hmap6 hsx; go_upto_region 18 with fail
      have g0' := fun x : Ext w6 => x.cell r0
      have g1' := fun x : Ext w6 => x.cell y4
      have g2' : ∀ x : Ext w6, (Instr.lookup 48 (.map (some (w3.heap.size + 1 + 1 + 1 + 1 + 1))) (.int .i64 n) false).run Tryz.prog x.val = .ok (.int .i64 c) x.val := fun x => by
       have := qAu (P := Tryz.prog) KL Tryz.underlying48 (qMm _) (HMap6.out.mod x.mod (fun e => e)) n false
       rw [HC1.out] at this; exact this
      refine qAh 8 (by kernel_rfl) (by kernel_rfl) ?_
      simp only [List.take_succ_cons, List.take_zero, List.drop_succ_cons, List.drop_zero]; repeat (go_big_quiet_step ((fail)))
      refine wpQuiet_nil ?_; rintro _ ⟨z, rfl⟩; obtain ⟨w8, hup, hat8, hm8⟩ := qAv (P := Tryz.prog) KL Tryz.underlying48 (HMap6.out.mod z.mod (fun e => e)) n (.int .i64 (c + 1))
      have hup' : (Instr.mapUpdate 48 (.map (some (w3.heap.size + 1 + 1 + 1 + 1 + 1))) (.int .i64 n) (.int .i64 (c + 1))).run Tryz.prog z.val = .ok () w8 := hup; have HNy := hid (HRel.out.putB HOk.out HN.out (HM6.out.trans (z.mod.mono (fun _ _ e => e.elim))) (HH6.out.ext z.mod) HD6.out hm8 HC2.out HC3.out hat8)
      clear hup hat8 hm8 g0' g1' g2' r0 y0 y1 y2 y3 y4 hw hc2 hc3; go_wp2_with fail
      go_roundw
      case rel => exact ⟨i + 1, j + 1, _, _, _, _, _, _, _, _, _, by omega, by omega, by go_num, HNy.out⟩
      case measure => simp [intOf]; omega
     ·have hvb := hb; have db : decide (i < two.length) = false := by simpa using hb
      have db1 : decide ((i : Int) < (two.length : Int)) = false := by simpa using hb
      go_wp2_with fail
      go_meet
      case rel => exact ⟨j, T, D, k, L, N, A, C, ls, ms, by omega, HRel.out⟩
   ·have d60 : decide ((i : Int) < 60) = false := by simp; omega
    go_wp2_with fail
    go_meet
    case rel => exact ⟨j, T, D, k, L, N, A, C, ls, ms, by omega, HRel.out⟩
 case rest =>
  obtain ⟨j, T, D, k, L, N, A, C, ls, ms, hj, hrel⟩ := hcut; obtain ⟨a0, a1, a2, a3⟩ := row4 hrel.at'.ra; obtain ⟨b0, b1, b2, b3⟩ := row4 hrel.at'.rb; have HRel := hid hrel; clear hrel; go_upto_region 20 with fail
  have hma : Mod (fun _ => False) wc (wc.alloc (.cells #[.int .u8 97, .slice (some ⟨w3.heap.size, 0, none⟩) 2 2, .int .i64 1, .int .i64 1, .int .u8 98, .slice (some ⟨w3.heap.size + 1 + 1, 0, none⟩) 2 2, .int .i64 1, .int .i64 1] 24)) := (Mod.refl _ _).alloc _
  have hyb : (wc.alloc (.cells #[.int .u8 97, .slice (some ⟨w3.heap.size, 0, none⟩) 2 2, .int .i64 1, .int .i64 1, .int .u8 98, .slice (some ⟨w3.heap.size + 1 + 1, 0, none⟩) 2 2, .int .i64 1, .int .i64 1] 24)).heap[wc.heap.size]? = some (.cells #[.int .u8 97, .slice (some ⟨w3.heap.size, 0, none⟩) 2 2, .int .i64 1, .int .i64 1, .int .u8 98, .slice (some ⟨w3.heap.size + 1 + 1, 0, none⟩) 2 2, .int .i64 1, .int .i64 1] 24 (0, 0)) := heap_alloc_new _ _; have HRl := hid (HRel.out.ext hma); have HYb := hid hyb; clear hma hyb a0 a1 a2 a3 b0 b1 b2 b3 HRel
  generalize wc.alloc (.cells #[.int .u8 97, .slice (some ⟨w3.heap.size, 0, none⟩) 2 2, .int .i64 1, .int .i64 1, .int .u8 98, .slice (some ⟨w3.heap.size + 1 + 1, 0, none⟩) 2 2, .int .i64 1, .int .i64 1] 24) = Y at *; go_loopw [97] (fun si wr => ∃ i : Nat, i <= 2 /\ si = .int .i64 (i : Int) /\ Mod (fun _ => False) Y wr) (fun si _ => 2 - (intOf si).toNat)
  case atStart => exact ⟨0, by omega, rfl, Mod.refl _ _⟩
  case round =>
   obtain ⟨i, hi, rfl, hm⟩ := hrel; have HM := hid hm; clear hm; rcases (by omega : i = 0 \/ i = 1 \/ i = 2) with rfl | rfl | rfl
   ·skip
    have hyw := HM.out.keeps HYb.out; have q0 : wr.cell? ⟨wc.heap.size, 0, none⟩ = some (.int .u8 97) := by rw [cell_of_row _ _ _ _ _ _ hyw]; rfl
    have q1 : wr.cell? ⟨wc.heap.size, 1, none⟩ = some (.slice (some ⟨w3.heap.size, 0, none⟩) 2 2) := by rw [cell_of_row _ _ _ _ _ _ hyw]; rfl
    have q2 : wr.cell? ⟨wc.heap.size, 2, none⟩ = some (.int .i64 1) := by rw [cell_of_row _ _ _ _ _ _ hyw]; rfl
    have q3 : wr.cell? ⟨wc.heap.size, 3, none⟩ = some (.int .i64 1) := by rw [cell_of_row _ _ _ _ _ _ hyw]; rfl
    clear hyw; go_upto_region 22 with fail
    have hmz : Mod (fun _ => False) wr (wr.alloc (.cells #[.int .u8 97, .slice (some ⟨w3.heap.size, 0, none⟩) 2 2, .int .i64 1, .int .i64 1] 24)) := (Mod.refl _ _).alloc _
    have HMz := hid (HM.out.trans hmz); obtain ⟨z0, z1, z2, z3⟩ := row4 (heap_alloc_new wr (.cells #[.int .u8 97, .slice (some ⟨w3.heap.size, 0, none⟩) 2 2, .int .i64 1, .int .i64 1] 24)); have zx := (HRl.out.ext HMz.out).at'.x; have HS := hid (jJq (HRl.out.ext HMz.out) hj); clear hmz q0 q1 q2 q3; generalize wr.alloc (.cells #[.int .u8 97, .slice (some ⟨w3.heap.size, 0, none⟩) 2 2, .int .i64 1, .int .i64 1] 24) = Z at *; go_upto_region 23 with (go_at_call 14; refine HS.out.mono ?_; rintro e w5 ⟨hm5, hbd, xs, la, cap, rfl, hxs, hlen, hrow⟩; have HM5 := hid (HMz.out.trans hm5); have HXs := hid hxs; have HLen := hid hlen; have HRow := hid hrow; clear hm5 hxs hlen hrow)
    clear z0 z1 z2 z3 zx; have HRw := hid (HRl.out.ext HM5.out); have r0 : w5.cell? ⟨w3.heap.size + 1 + 1 + 1 + 1 + 1 + 1, 0, none⟩ = some (.map (some (w3.heap.size + 1 + 1 + 1 + 1))) := by rw [cell_of_row _ _ _ _ _ _ HRw.out.at'.rr]; rfl
    have dne : ((ls.length : Int) != (ls.length : Int)) = false := by simp
    rw [HLen.out]; have hln := qNb (P := Tryz.prog) 3 Tryz.underlying48 HRw.out.m1.map; go_upto_region 25 with fail
    clear r0 hln dne; go_wp2_with fail
    go_loopw [121] (fun sk wr => ∃ q : Nat, q <= ls.length /\ sk = .int .i64 (q : Int) /\ Mod (fun _ => False) w5 wr) (fun sk _ => ls.length - (intOf sk).toNat)
    case atStart => exact ⟨0, Nat.zero_le _, rfl, Mod.refl _ _⟩
    case round =>
     obtain ⟨q, hq, rfl, hmk⟩ := hrel; have HMk := hid hmk; clear hmk; by_cases hlt : q < ls.length
     ·have e0 : decide ((q : Int) < (ls.length : Int)) = true := by simp; omega
      have e1 : decide (q < ls.length) = true := by simpa using hlt
      have hdi : ¬ ls.length <= q := by omega
      obtain ⟨x, hx⟩ : ∃ x, xs[q]? = some x := ⟨_, List.getElem?_eq_getElem (by rw [HLen.out]; exact hlt)⟩
      obtain ⟨n, hnA, hvs⟩ := HRow.out x (List.mem_of_getElem? hx); have hxk := HXs.out.ext HMk.out; obtain ⟨g, off, rfl⟩ := hxk.lies.some (by rw [HLen.out]; omega)
      have hr := hxk.rows x (List.mem_of_getElem? hx); rw [hvs] at hr; obtain ⟨g2, o2, hxa⟩ := hr.some (by show 0 < 2; omega)
      rw [hxa] at hr; have q0 : wr.cell? ⟨g, off + q, none⟩ = some (.slice (some ⟨g2, o2, none⟩) 2 x.cap) := by
       have := hxk.lies.cell qZg hx (j := 0) (u := .slice x.a x.vs.length x.cap) rfl; rw [hvs, hxa] at this; simp only [Nat.add_zero, Nat.mul_one] at this; exact this
      have c0 : wr.cell? ⟨g2, o2, none⟩ = some (.int .i64 n) := hr.cell qFe (i := 0) (x := ⟨n, ⟨#[]⟩⟩) rfl (j := 0) rfl; have c1 : wr.cell? ⟨g2, o2 + 2, none⟩ = some (.int .i64 (hv n)) := hr.cell qFe (i := 1) (x := ⟨hv n, ⟨#[]⟩⟩) rfl (j := 0) rfl; obtain ⟨cn, k1, k2, k3, k4⟩ := HRw.out.m1.get n; have k5 := k4 hnA; have HRk := hid (HRw.out.ext HMk.out); have r0 : wr.cell? ⟨w3.heap.size + 1 + 1 + 1 + 1 + 1 + 1, 0, none⟩ = some (.map (some (w3.heap.size + 1 + 1 + 1 + 1))) := by rw [cell_of_row _ _ _ _ _ _ HRk.out.at'.rr]; rfl
      have glk : ∀ x : Ext wr, (Instr.lookup 48 (.map (some (w3.heap.size + 1 + 1 + 1 + 1))) (.int .i64 n) false).run Tryz.prog x.val = .ok (.int .i64 cn) x.val := fun x => by
       have := qAu (P := Tryz.prog) KL Tryz.underlying48 (qMm _) (HRk.out.m1.map.mod x.mod (fun e => e)) n false
       rw [k1] at this; exact this
      have dz : (cn == 0) = false := by simp; omega
      have hI := qKl (HRk.out.tab.ka n hnA); obtain ⟨n2, hn2⟩ : ∃ y, hv n = y := ⟨_, rfl⟩; rw [hn2] at c1 hI; have hq2 : n.tdiv 2 = n2 := hn2; have hw : wrap64 n2 = n2 := by obtain ⟨i1, i2⟩ := hI; unfold wrap64; omega
      have dn : (n2 != n2) = false := by simp
      clear hn2 hI k1 k2 k3 k4 k5 hr hxk hvs hxa hx; go_upto_region 28 with fail
      have gc0 := fun x : Ext wr => x.cell c0
      have gc1 := fun x : Ext wr => x.cell c1
      have gr0 := fun x : Ext wr => x.cell r0
      refine qAh 20 (by kernel_rfl) (by kernel_rfl) ?_
      simp only [List.take_succ_cons, List.take_zero, List.drop_succ_cons, List.drop_zero]; repeat (go_big_quiet_step ((fail)))
      refine wpQuiet_nil ?_; rintro _ ⟨z, rfl⟩; have HMz2 := hid (HMk.out.trans z.mod); clear gc0 gc1 gr0 glk; go_wp2_with fail
      go_roundw
      case rel => exact ⟨q + 1, by omega, by go_num, HMz2.out⟩
      case measure => simp [intOf]; omega
     ·have hie : q = ls.length := by omega
      subst hie; have e0 : decide ((ls.length : Int) < (ls.length : Int)) = false := by simp
      have e1 : decide (ls.length < ls.length) = false := by simp
      have HF := hid (HM5.out.trans HMk.out); go_wp2_with fail
      go_roundw
      case rel => exact ⟨1, by omega, by go_num, HF.out⟩
      case measure => simp [intOf]
   ·skip
    have hyw := HM.out.keeps HYb.out; have q0 : wr.cell? ⟨wc.heap.size, 4, none⟩ = some (.int .u8 98) := by rw [cell_of_row _ _ _ _ _ _ hyw]; rfl
    have q1 : wr.cell? ⟨wc.heap.size, 5, none⟩ = some (.slice (some ⟨w3.heap.size + 1 + 1, 0, none⟩) 2 2) := by rw [cell_of_row _ _ _ _ _ _ hyw]; rfl
    have q2 : wr.cell? ⟨wc.heap.size, 6, none⟩ = some (.int .i64 1) := by rw [cell_of_row _ _ _ _ _ _ hyw]; rfl
    have q3 : wr.cell? ⟨wc.heap.size, 7, none⟩ = some (.int .i64 1) := by rw [cell_of_row _ _ _ _ _ _ hyw]; rfl
    clear hyw; go_upto_region 22 with fail
    have hmz : Mod (fun _ => False) wr (wr.alloc (.cells #[.int .u8 98, .slice (some ⟨w3.heap.size + 1 + 1, 0, none⟩) 2 2, .int .i64 1, .int .i64 1] 24)) := (Mod.refl _ _).alloc _
    have HMz := hid (HM.out.trans hmz); obtain ⟨z0, z1, z2, z3⟩ := row4 (heap_alloc_new wr (.cells #[.int .u8 98, .slice (some ⟨w3.heap.size + 1 + 1, 0, none⟩) 2 2, .int .i64 1, .int .i64 1] 24)); have zx := (HRl.out.ext HMz.out).at'.x; have HS := hid (jJp (HRl.out.ext HMz.out) hj); clear hmz q0 q1 q2 q3; generalize wr.alloc (.cells #[.int .u8 98, .slice (some ⟨w3.heap.size + 1 + 1, 0, none⟩) 2 2, .int .i64 1, .int .i64 1] 24) = Z at *; go_upto_region 23 with (go_at_call 14; refine HS.out.mono ?_; rintro e w5 ⟨hm5, hbd, xs, la, cap, rfl, hxs, hlen, hrow⟩; have HM5 := hid (HMz.out.trans hm5); have HXs := hid hxs; have HLen := hid hlen; have HRow := hid hrow; clear hm5 hxs hlen hrow)
    clear z0 z1 z2 z3 zx; have HRw := hid (HRl.out.ext HM5.out); have r0 : w5.cell? ⟨w3.heap.size + 1 + 1 + 1 + 1 + 1 + 1, 1, none⟩ = some (.map (some (w3.heap.size + 1 + 1 + 1 + 1 + 1))) := by rw [cell_of_row _ _ _ _ _ _ HRw.out.at'.rr]; rfl
    have dne : ((ms.length : Int) != (ms.length : Int)) = false := by simp
    rw [HLen.out]; have hln := qNb (P := Tryz.prog) 3 Tryz.underlying48 HRw.out.m2.map; go_upto_region 25 with fail
    clear r0 hln dne; go_wp2_with fail
    go_loopw [121] (fun sk wr => ∃ q : Nat, q <= ms.length /\ sk = .int .i64 (q : Int) /\ Mod (fun _ => False) w5 wr) (fun sk _ => ms.length - (intOf sk).toNat)
    case atStart => exact ⟨0, Nat.zero_le _, rfl, Mod.refl _ _⟩
    case round =>
     obtain ⟨q, hq, rfl, hmk⟩ := hrel; have HMk := hid hmk; clear hmk; by_cases hlt : q < ms.length
     ·have e0 : decide ((q : Int) < (ms.length : Int)) = true := by simp; omega
      have e1 : decide (q < ms.length) = true := by simpa using hlt
      have hdi : ¬ ms.length <= q := by omega
      obtain ⟨x, hx⟩ : ∃ x, xs[q]? = some x := ⟨_, List.getElem?_eq_getElem (by rw [HLen.out]; exact hlt)⟩
      obtain ⟨n, hnA, hvs⟩ := HRow.out x (List.mem_of_getElem? hx); have hxk := HXs.out.ext HMk.out; obtain ⟨g, off, rfl⟩ := hxk.lies.some (by rw [HLen.out]; omega)
      have hr := hxk.rows x (List.mem_of_getElem? hx); rw [hvs] at hr; obtain ⟨g2, o2, hxa⟩ := hr.some (by show 0 < 2; omega)
      rw [hxa] at hr; have q0 : wr.cell? ⟨g, off + q, none⟩ = some (.slice (some ⟨g2, o2, none⟩) 2 x.cap) := by
       have := hxk.lies.cell qZg hx (j := 0) (u := .slice x.a x.vs.length x.cap) rfl; rw [hvs, hxa] at this; simp only [Nat.add_zero, Nat.mul_one] at this; exact this
      have c0 : wr.cell? ⟨g2, o2, none⟩ = some (.int .i64 n) := hr.cell qFe (i := 0) (x := ⟨n, ⟨#[]⟩⟩) rfl (j := 0) rfl; have c1 : wr.cell? ⟨g2, o2 + 2, none⟩ = some (.int .i64 (hv n)) := hr.cell qFe (i := 1) (x := ⟨hv n, ⟨#[]⟩⟩) rfl (j := 0) rfl; obtain ⟨cn, k1, k2, k3, k4⟩ := HRw.out.m2.get n; have k5 := k4 hnA; have HRk := hid (HRw.out.ext HMk.out); have r0 : wr.cell? ⟨w3.heap.size + 1 + 1 + 1 + 1 + 1 + 1, 1, none⟩ = some (.map (some (w3.heap.size + 1 + 1 + 1 + 1 + 1))) := by rw [cell_of_row _ _ _ _ _ _ HRk.out.at'.rr]; rfl
      have glk : ∀ x : Ext wr, (Instr.lookup 48 (.map (some (w3.heap.size + 1 + 1 + 1 + 1 + 1))) (.int .i64 n) false).run Tryz.prog x.val = .ok (.int .i64 cn) x.val := fun x => by
       have := qAu (P := Tryz.prog) KL Tryz.underlying48 (qMm _) (HRk.out.m2.map.mod x.mod (fun e => e)) n false
       rw [k1] at this; exact this
      have dz : (cn == 0) = false := by simp; omega
      have hI := qKl (HRk.out.tab.kb n hnA); obtain ⟨n2, hn2⟩ : ∃ y, hv n = y := ⟨_, rfl⟩; rw [hn2] at c1 hI; have hq2 : n.tdiv 2 = n2 := hn2; have hw : wrap64 n2 = n2 := by obtain ⟨i1, i2⟩ := hI; unfold wrap64; omega
      have dn : (n2 != n2) = false := by simp
      clear hn2 hI k1 k2 k3 k4 k5 hr hxk hvs hxa hx; go_upto_region 28 with fail
      have gc0 := fun x : Ext wr => x.cell c0
      have gc1 := fun x : Ext wr => x.cell c1
      have gr0 := fun x : Ext wr => x.cell r0
      refine qAh 20 (by kernel_rfl) (by kernel_rfl) ?_
      simp only [List.take_succ_cons, List.take_zero, List.drop_succ_cons, List.drop_zero]; repeat (go_big_quiet_step ((fail)))
      refine wpQuiet_nil ?_; rintro _ ⟨z, rfl⟩; have HMz2 := hid (HMk.out.trans z.mod); clear gc0 gc1 gr0 glk; go_wp2_with fail
      go_roundw
      case rel => exact ⟨q + 1, by omega, by go_num, HMz2.out⟩
      case measure => simp [intOf]; omega
     ·have hie : q = ms.length := by omega
      subst hie; have e0 : decide ((ms.length : Int) < (ms.length : Int)) = false := by simp
      have e1 : decide (ms.length < ms.length) = false := by simp
      have HF := hid (HM5.out.trans HMk.out); go_wp2_with fail
      go_roundw
      case rel => exact ⟨2, by omega, by go_num, HF.out⟩
      case measure => simp [intOf]
   ·have HFn := hid ((HRl.out.ext HM.out).mod); go_wp2_with fail
    go_ret; exact ⟨rfl, HFn.out.below (Nat.le_refl _) (fun _ e => e)⟩
end RowsTables
end
section
open Go Go.RowKit
theorem wf_i64 {n : Int} (h : (Lit.int .i64 n).wf = true) : -9223372036854775808 <= n /\ n <= 9223372036854775807 := by
 simp only [Lit.wf, Bool.and_eq_true, decide_eq_true_eq] at h; have a1 : IntKind.min .i64 = -9223372036854775808 := rfl; have a2 : IntKind.max .i64 = 9223372036854775807 := rfl; rw [a1, a2] at h; exact h
section
variable {H : Type} {enc : TypeId × Value -> H} {w : World} {base : Nat} {spare : Nat -> Bool} {held : Bool}
end
end
end Go.Proofs.YtkinkgbmlhiakaaGreatDoor
