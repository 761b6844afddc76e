/- It makes no difference to whether a definition may run what its steps are called, as long as they are called so everywhere: for every definition and every tail; the arguments read afterwards as before. No condition. -/
import Derived.Test.YthbfgeaojgfafaaRows
import Derived.Test.YthbfgeaojgfafaaChG
import Derived.OpenShut
import Derived.Deep.DeepCutAuto
import Derived.Deep.RegionHeld3
import Derived.Deep.DrawnRows
import Derived.IntWalk
import Derived.Laws.IdiomStrings
import Derived.ShutString
namespace Go.Proofs.Ythbfgeaojgfafaa
open Go Go.RowKit
attribute [local go_sem ↓] Go.wp_at_zero Go.wp_at_succ

namespace CheckNames

theorem app_inj (t : ByteArray) (a b : ByteArray) (h : a ++ t = b ++ t) : a = b := by
  have h1 := congrArg (fun x : ByteArray => x.data.toList) h
  simp only [ByteArray.data_append, Array.toList_append] at h1
  exact WideShapes.bytes_inj (List.append_cancel_right h1)

/-- The steps that were called otherwise. -/
def Named (ss : List Stp) (tail : ByteArray) (tt : List Stp) : Prop := ∀ (i : Nat) (s t : Stp), ss[i]? = some s → tt[i]? = some t → Like (· ++ tail) s t

def Rel1 (W1 : World) (tb : Nat) (nm tail : ByteArray) (ss : List Stp) (c : Value) (wr : World) : Prop :=
  ∃ (tt : List Stp) (sa : Option Addr) (cp : Nat), tt.length ≤ ss.length ∧ c = .int .i64 tt.length ∧ Named ss tail tt ∧ Grow W1 wr tb nm tt sa cp

def Rel2 (w0 : World) (tail : ByteArray) (after : List ByteArray) (v c : Value) (wq : World) : Prop :=
  ∃ (j : Nat) (aa : Option Addr) (ac : Nat), j ≤ after.length ∧ v = .slice aa j ac ∧ c = .int .i64 j ∧ Own wq 9 1 aa j ac ((after.take j).flatMap fun x => [.string (x ++ tail)]) ∧ (∀ k, blk aa k → w0.heap.size ≤ k) ∧ Mod (fun _ => False) w0 wq

theorem stpOk_own {w : World} {s : Stp} (h : Own w 9 1 s.aa s.after.length s.ac (s.after.flatMap fun x => [.string x])) (hb : s.after.length ≤ 8796093022208) : StpOk w s := by
  refine ⟨h.src, fun _ x hx => ?_, fun k _ hk => h.lt k hk, hb⟩
  rcases h.2.2.2 with ⟨h1, _⟩ | ⟨g, off, cur, h1, _⟩
  · rw [h1] at hx; cases hx
  · rw [h1] at hx; cases hx; rfl

set_option maxRecDepth 100000 in
set_option maxHeartbeats 2000000 in
theorem walk (W : World) (nm : ByteArray) (a : Option Addr) (cap : Nat) (ss : List Stp) (hd : DefAt W a ss) (hn : ∀ s ∈ ss, Near s) (hcap : ss.length ≤ cap) (_hmax : cap ≤ maxLen) (tail : ByteArray) (htl : tail.size ≤ maxLen) (htl2 : tail.size ≤ 140737488351232) :
    Calls Try.prog 5 #[.agg #[.string nm, .slice a ss.length cap], .string tail] W fun e w' => e = .returned (.bool true) ∧ Below W.heap.size W w' := by
  have hb := hd.bnd
  have HD := hid hd
  have HNear := hid hn
  have hm1 : Mod (fun _ => False) W (W.alloc (.cells #[.string nm, .slice a ss.length cap] 28)) := (Mod.refl _ _).alloc _
  have hbox : (W.alloc (.cells #[.string nm, .slice a ss.length cap] 28)).heap[W.heap.size]? = some (.cells #[.string nm, .slice a ss.length cap] 28 (0, 0)) := heap_alloc_new _ _
  have HD1 := hid (hd.mod hm1 (fun _ _ h => h))
  have Hm1 := hid hm1
  have Hbox := hid hbox
  clear hd hm1 hbox hn _hmax htl
  by_cases h60 : 60 < ss.length
  · have d1 : decide ((60 : Int) < (ss.length : Int)) = true := by simp; omega
    go_enter Try.func5, Try.ntmps5
    go_wp2_with (go_at_call 10; refine (wakes_yes _).mono ?_; rintro e w3 ⟨rfl, hm3⟩; have M3 := hid hm3; clear hm3)
    go_ret
    exact ⟨rfl, (Hm1.out.trans M3.out).below (Nat.le_refl _) (fun _ h => h.elim)⟩
  have d1 : decide ((60 : Int) < (ss.length : Int)) = false := by simp; omega
  obtain ⟨i0, hi, hz0, hz1, hz2⟩ := info_parts infoStp
  obtain ⟨i1, gi, gz0, gz1, gz2⟩ := info_parts infoStr
  go_enter Try.func5, Try.ntmps5
  go_upto_region 3 with fail
  obtain ⟨W1, hW1⟩ : ∃ W1, W.alloc (.cells #[.string nm, .slice a ss.length cap] 28) = W1 := ⟨_, rfl⟩
  rw [hW1] at HD1 Hm1 Hbox ⊢
  clear hW1
  obtain ⟨v0, v1⟩ := cells2 Hbox.out
  have hWs : W.heap.size < W1.heap.size := lt_of_heap Hbox.out
  have HG0 : Hid (Grow W1 (W1.alloc (.cells #[.string nm, .slice none 0 0] 28)) W1.heap.size nm [] none 0) :=
    ⟨heap_alloc_new _ _, Own.nil _ _ _, blk_none _, Nat.le_refl _, fun k hk => (blk_none k hk).elim, (Mod.refl _ _).alloc _, fun t ht => by simp at ht⟩
  have y1 : (W1.alloc (.cells #[.string nm, .slice none 0 0] 28)).cell? ⟨W.heap.size, 1, none⟩ = some (.slice a ss.length cap) := (((Mod.refl (fun _ => False) W1).alloc _).cell (World.block_lt_of_cell? _ _ v1) (fun h => h)).trans v1
  go_wp2_with fail
  go_loopw [22] (fun c wr => Rel1 W1 W1.heap.size nm tail ss c wr) (fun c _ => ss.length - (intOf c).toNat)
  case atStart => exact ⟨[], none, 0, Nat.zero_le _, rfl, fun i s t _ ht => by simp at ht, HG0.out⟩
  case round =>
    obtain ⟨tt, sa, cp, hk, rfl, hnam, hG⟩ := hrel
    generalize hkl : tt.length = k at *
    have HKL := hid hkl
    have HNam := hid hnam
    have HG := hid hG
    clear hkl hnam hG v0 v1 y1
    have Hb2 := hid ((HG.out.mod.block _ (lt_of_heap Hbox.out) (fun h => h)).trans Hbox.out)
    obtain ⟨x0, x1⟩ := cells2 Hb2.out
    obtain ⟨t0, t1⟩ := HG.out.cells
    rw [HKL.out] at t1
    by_cases hlt : k < ss.length
    · obtain ⟨s, hs⟩ : ∃ s, ss[k]? = some s := ⟨_, List.getElem?_eq_getElem hlt⟩
      obtain ⟨g, off, rfl⟩ := HD1.out.some (by omega)
      obtain ⟨q0, q1, q2, q3, q4, q5, q6, q7, q8⟩ := (HD1.out.mod HG.out.mod (fun _ _ h => h)).cells hs
      have hok := HD1.out.all s (List.mem_of_getElem? hs)
      have hbd := hok.bnd
      have hnear := HNear.out s (List.mem_of_getElem? hs)
      have hnn := hnear.1
      have HOk := hid hok
      have HNr := hid hnear
      have Hs := hid hs
      clear hs hok hnear
      have hm0 : Mod (fun _ => False) wr (wr.alloc (.cells #[.string (s.name ++ tail), .string s.verb, .string s.undo, .string s.event, .bool s.final, .int .i64 s.retry, .int .i64 s.every, .int .i64 s.within, .slice s.aa s.after.length s.ac] 31)) := (Mod.refl _ _).alloc _
      have hS0 : (wr.alloc (.cells #[.string (s.name ++ tail), .string s.verb, .string s.undo, .string s.event, .bool s.final, .int .i64 s.retry, .int .i64 s.every, .int .i64 s.within, .slice s.aa s.after.length s.ac] 31)).heap[wr.heap.size]? = some (.cells #[.string (s.name ++ tail), .string s.verb, .string s.undo, .string s.event, .bool s.final, .int .i64 s.retry, .int .i64 s.every, .int .i64 s.within, .slice s.aa s.after.length s.ac] 31 (0, 0)) := heap_alloc_new _ _
      have Hm0 := hid hm0
      have HS0 := hid hS0
      clear hm0 hS0
      go_wp2_with fail
      clear q0 q1 q2 q3 q4 q5 q6 q7 q8
      generalize wr.alloc (.cells #[.string (s.name ++ tail), .string s.verb, .string s.undo, .string s.event, .bool s.final, .int .i64 s.retry, .int .i64 s.every, .int .i64 s.within, .slice s.aa s.after.length s.ac] 31) = w0 at *
      have hsz0 := lt_of_heap HS0.out
      obtain ⟨wo, rfl⟩ : ∃ wo : World, wo = wr := ⟨_, rfl⟩
      go_loopw [8, 34] (fun v c wr => Rel2 w0 tail s.after v c wr) (fun _ c _ => s.after.length - (intOf c).toNat)
      case atStart => exact ⟨0, none, 0, Nat.zero_le _, rfl, rfl, by simpa using Own.nil _ _ _, fun k hk => (blk_none k hk).elim, Mod.refl _ _⟩
      case round =>
        obtain ⟨j, aa, ac, hj, rfl, rfl, hown, hbk, hmq⟩ := hrel
        have HOwn := hid hown
        have HBk := hid hbk
        have HMq := hid hmq
        clear hown hbk hmq
        by_cases hjl : j < s.after.length
        · obtain ⟨x, hx⟩ : ∃ x, s.after[j]? = some x := ⟨_, List.getElem?_eq_getElem hjl⟩
          obtain ⟨ga, oa, haa⟩ := HOk.out.some (by omega)
          have hc := (HOk.out.mod ((HG.out.mod.trans Hm0.out).trans HMq.out) (fun _ _ h => h)).cell haa hx
          have hxs := HNr.out.2 x (List.mem_of_getElem? hx)
          have hmA : Mod (fun _ => False) wr (wr.alloc (.cells #[.string (x ++ tail)] 9)) := (Mod.refl _ _).alloc _
          have HO1 := hid (HOwn.out.mod hmA (fun _ _ h => h))
          have HSr : Hid (Src (wr.alloc (.cells #[.string (x ++ tail)] 9)) 1 (some ⟨wr.heap.size, 0, none⟩) 1 [.string (x ++ tail)]) := src_new (heap_alloc_new _ _) rfl
          have HmA := hid hmA
          have Hx := hid hx
          have htk : (s.after.take (j + 1)) = s.after.take j ++ [x] := by
            rw [List.take_add_one, hx]; rfl
          have Htk := hid htk
          rw [haa]
          have HAA := hid haa
          clear haa hx hmA htk
          go_wp2_with (at_builtin; refine wpList_append_Own rfl (.tmp 38) (.tmp 42) 29 rfl 9 i1 _ 1 16 Try.underlying29 gi gz0 gz1 gz2 rfl aa j ac _ rfl HO1.out (some ⟨wr.heap.size, 0, none⟩) 1 1 _ rfl HSr.out (by intro u hu; simp at hu; subst hu; rfl) (by unfold maxLen; omega) (by omega) ?_; intro aa' ac' w5 hown5 hm5 hb5 hn5 hr5; have Hown5 := hid hown5; have Hm5 := hid hm5; have Hb5 := hid hb5; clear hown5 hm5 hb5 hn5 hr5)
          go_roundw
          case rel =>
            refine ⟨j + 1, aa', ac', by omega, rfl, by go_num, ?_, fun k hk => ?_, (HMq.out.trans HmA.out).then Hm5.out (fun i hi h => ?_)⟩
            · rw [Htk.out, List.flatMap_append]
              exact Hown5.out
            · rcases Hb5.out k hk with h | h
              · exact HBk.out k h
              · have := HMq.out.size; have := HmA.out.size; omega
            · have := HBk.out i h; omega
          case measure => simp [intOf]; omega
        · have hje : j = s.after.length := by omega
          subst hje
          obtain ⟨z0, z1, z2, z3, z4, z5, z6, z7, z8⟩ := own_step (s := { s with name := s.name ++ tail }) ((HMq.out.block _ hsz0 (fun h => h)).trans HS0.out)
          simp only at z0 z1 z2 z3 z4 z5 z6 z7 z8
          have fz := frozen_of_row _ _ 8 _ _ ((HMq.out.block _ hsz0 (fun h => h)).trans HS0.out)
          clear z0 z1 z2 z3 z4 z5 z6 z7
          have hSq := (HMq.out.block _ hsz0 (fun h => h)).trans HS0.out
          have hX1 : (wr.setCell ⟨wo.heap.size, 8, none⟩ (.slice aa s.after.length ac)).heap[wo.heap.size]? = some (.cells #[.string (s.name ++ tail), .string s.verb, .string s.undo, .string s.event, .bool s.final, .int .i64 s.retry, .int .i64 s.every, .int .i64 s.within, .slice aa s.after.length ac] 31 (0, 0)) := heap_setCell_same wr wo.heap.size 8 _ 31 _ hSq
          have hXm : Mod (fun k => k = wo.heap.size) wr (wr.setCell ⟨wo.heap.size, 8, none⟩ (.slice aa s.after.length ac)) := Mod.setCell (S := fun k => k = wo.heap.size) (Mod.refl _ _) (fun _ => rfl) _
          have hws : wo.heap.size ≤ w0.heap.size := Hm0.out.size
          have HXG : Hid (Grow W1 (wr.setCell ⟨wo.heap.size, 8, none⟩ (.slice aa s.after.length ac)) W1.heap.size nm tt sa cp) := HG.out.ext ((Hm0.out.trans HMq.out).then hXm (fun i hi e => by omega))
          have HXO : Hid (Own (wr.setCell ⟨wo.heap.size, 8, none⟩ (.slice aa s.after.length ac)) 9 1 aa s.after.length ac (s.after.flatMap fun x => [.string (x ++ tail)])) := by
            have := HOwn.out.mod hXm (fun k hk e => by have := HBk.out k hk; omega)
            rw [List.take_length] at this
            exact this
          have HX1 := hid hX1
          clear hSq hX1 hXm
          go_upto_region 15 with fail
          clear z8 fz
          generalize wr.setCell ⟨wo.heap.size, 8, none⟩ (.slice aa s.after.length ac) = wX at *
          obtain ⟨z0, z1, z2, z3, z4, z5, z6, z7, z8⟩ := own_step (s := { s with name := s.name ++ tail, aa := aa, ac := ac }) HX1.out
          simp only at z0 z1 z2 z3 z4 z5 z6 z7 z8
          obtain ⟨y0, y1⟩ := HXG.out.cells
          rw [HKL.out] at y1
          have hmB : Mod (fun _ => False) wX (wX.alloc (.cells #[.string (s.name ++ tail), .string s.verb, .string s.undo, .string s.event, .bool s.final, .int .i64 s.retry, .int .i64 s.every, .int .i64 s.within, .slice aa s.after.length ac] 31)) := (Mod.refl _ _).alloc _
          have HO2 : Hid (Own (wX.alloc (.cells #[.string (s.name ++ tail), .string s.verb, .string s.undo, .string s.event, .bool s.final, .int .i64 s.retry, .int .i64 s.every, .int .i64 s.within, .slice aa s.after.length ac] 31)) 31 9 sa k cp (tt.flatMap Stp.cs)) := by have := HXG.out.own.mod hmB (fun _ _ h => h); rw [HKL.out] at this; exact this
          have HS2 : Hid (Src (wX.alloc (.cells #[.string (s.name ++ tail), .string s.verb, .string s.undo, .string s.event, .bool s.final, .int .i64 s.retry, .int .i64 s.every, .int .i64 s.within, .slice aa s.after.length ac] 31)) 9 (some ⟨wX.heap.size, 0, none⟩) 1 [.string (s.name ++ tail), .string s.verb, .string s.undo, .string s.event, .bool s.final, .int .i64 s.retry, .int .i64 s.every, .int .i64 s.within, .slice aa s.after.length ac]) := src_new (heap_alloc_new _ _) rfl
          have HmB := hid hmB
          have HL : Hid (∀ w1, Mod (blk sa) (wX.alloc (.cells #[.string (s.name ++ tail), .string s.verb, .string s.undo, .string s.event, .bool s.final, .int .i64 s.retry, .int .i64 s.every, .int .i64 s.within, .slice aa s.after.length ac] 31)) w1 → w1.cell? ⟨W1.heap.size, 1, none⟩ = some (.slice sa k cp) ∧ w1.frozen? ⟨W1.heap.size, 1, none⟩ = false) := fun w1 hm => by have := HXG.out.late hmB hm; rw [HKL.out] at this; exact this
          have HOne := hid (Stp.one { s with name := s.name ++ tail, after := s.after.map (· ++ tail), aa := aa, ac := ac })
          clear hmB
          go_wp2_with (at_builtin; refine wpList_append_Own rfl (.tmp 48) (.tmp 50) 26 rfl 31 i0 _ 9 120 Try.underlying26 hi hz0 hz1 hz2 rfl sa k cp _ rfl HO2.out (some ⟨wX.heap.size, 0, none⟩) 1 1 _ rfl HS2.out (by have := HOne.out; simp only [Stp.cs, List.length_map] at this; exact this) (by unfold maxLen; omega) (by omega) ?_; intro sa' cp' w7 hown7 hm7 hb7 hn7 hr7; obtain ⟨k0, k1⟩ := HL.out w7 hm7; have Hown7 := hid hown7; have Hm7 := hid hm7; have Hb7 := hid hb7; clear hown7 hm7 hb7 hn7 hr7)
          go_roundw
          case rel =>
            have hgr := HXG.out.grown HmB.out Hm7.out (s := { s with name := s.name ++ tail, after := s.after.map (· ++ tail), aa := aa, ac := ac }) (sa' := sa') (cap' := cp') (by rw [HKL.out]; simp only [Stp.cs, List.length_map]; exact Hown7.out) Hb7.out
              (stpOk_own (by simp only [List.length_map]; have := HXO.out; rw [List.flatMap_map]; exact this) (by simp only [List.length_map]; omega))
              (fun h0 q hq => ⟨fun h => by have := HBk.out q hq; have := HG.out.own.lt q h; omega, fun e => by have := HBk.out q hq; have := lt_of_heap HG.out.box; omega⟩)
            rw [HKL.out] at hgr
            refine ⟨_, sa', cp', ?_, ?_, ?_, hgr⟩
            · simp [HKL.out]; omega
            · simp [HKL.out]
            · intro i s' t' hs' ht'
              rw [List.getElem?_append] at ht'
              split at ht'
              · exact HNam.out i s' t' hs' ht'
              · rename_i hil
                rw [HKL.out] at hil ht'
                have hi0 : i = k := by
                  rcases Nat.lt_or_ge (i - k) 1 with h | h
                  · omega
                  · rw [List.getElem?_eq_none (by simpa using h)] at ht'; cases ht'
                subst hi0
                rw [Nat.sub_self] at ht'
                simp at ht'
                subst ht'
                rw [Hs.out] at hs'
                cases hs'
                exact ⟨rfl, rfl, rfl, rfl, rfl, rfl⟩
          case measure => simp [intOf]; omega
    · have hkl : k = ss.length := by omega
      subst hkl
      have hren := check_rename (app_inj tail) HKL.out HNam.out
      have C1 : Hid (∀ x : Ext wr, Calls Try.prog 11 #[.agg #[.string nm, .slice sa ss.length cp]] x.val fun e w' => e = .returned (.int .i64 (checkF ss)) ∧ Mod (fun _ => False) x.val w') := fun x => by
        have := check_any nm cp ((HG.out.ext x.mod).def (by rw [HKL.out]; omega))
        rw [HKL.out, hren] at this
        exact this
      have C2 : Hid (∀ x : Ext wr, Calls Try.prog 11 #[.agg #[.string nm, .slice a ss.length cap]] x.val fun e w' => e = .returned (.int .i64 (checkF ss)) ∧ Mod (fun _ => False) x.val w') := fun x => check_any nm cap (HD1.out.mod (HG.out.mod.trans x.mod) (fun _ _ h => h))
      have u0 : ∀ x : Ext wr, x.val.cell? ⟨W.heap.size, 0, none⟩ = some (.string nm) := fun x => x.cell x0
      have u1 : ∀ x : Ext wr, x.val.cell? ⟨W.heap.size, 1, none⟩ = some (.slice a ss.length cap) := fun x => x.cell x1
      have u2 : ∀ x : Ext wr, x.val.cell? ⟨W1.heap.size, 0, none⟩ = some (.string nm) := fun x => x.cell t0
      have u3 : ∀ x : Ext wr, x.val.cell? ⟨W1.heap.size, 1, none⟩ = some (.slice sa ss.length cp) := fun x => x.cell t1
      generalize checkF ss = B at *
      have hAB : (B == B) = true := by simp
      have HMW := hid (Hm1.out.trans HG.out.mod)
      clear hren x0 x1 t0 t1
      go_wp2_with fail
      refine wp_region_ext (by kernel_rfl) (by kernel_rfl) ?_
      repeat (go_big_quiet_step ((first | (go_at_call 10; exact ext_call (wakes_yes _)) | (go_at_call 11; with_reducible exact ext_call (C1.out _)) | (go_at_call 11; with_reducible exact ext_call (C2.out _)))))
      refine wpQuiet_nil ?_
      rintro _ ⟨x, rfl⟩
      go_wp2_with fail
      go_ret
      exact ⟨rfl, (HMW.out.trans x.mod).below (Nat.le_refl _) (fun _ h => h.elim)⟩

open Go.ChangeShapes Go.WideShapes Go.ChangeAt Go.ChangeMaps
theorem own : ownKnob Try.prog.godebug = none := by kernel_rfl
theorem laidOut : laidOutB Try.prog = true := by kernel_rfl

set_option maxRecDepth 100000 in
theorem lifted (os : Os) (started : os.Started) (H : Type) (enc : TypeId × Value → H) :
    ReturnsInHanded {} Try.checked os 5 .any (Rows.checkNamesSpec.pre6 enc Try.prog Try.f5 Rows.checkNamesRow.domain false) (Rows.checkNamesSpec.post enc Try.prog Try.f5 false true false false) := by
  refine returnsInHanded_of_change_sized (C := Try.checked) own started (by kernel_rfl) Try.func5
    (ChangeSpec.witness6 (enc := enc) (C := Try.checked) false ⟨#[], #[.agg #[.string ⟨#[]⟩, .slice none 0 0], .string ⟨#[]⟩], []⟩ 8 (by kernel_rfl) (by kernel_rfl) (by kernel_rfl) (by kernel_rfl)) ?_
  intro W base args ds gs before hval0 hW hcnd hsz0 _
  have hsz : (DataW.weightsEach Try.prog (Try.f5.params.toList ++ Rows.checkNamesSpec.plain.varTypes Try.prog) (ds ++ gs)).all (· ≤ reachBytes) = true := hsz0
  clear hsz0
  have hval : ∀ (j : Nat) t v, Try.f5.params[j]? = some t → args[j]? = some v → Value.okWide Try.prog W .any base t v := hval0
  have hW' := hW
  obtain ⟨p, q, hA0, hV, rfl, hfz, hnd⟩ := hW
  have hA : DataW.TrodAll enc Try.prog W 0 (fun _ => true) true Try.f5.params.toList args.toList ds p := hA0
  rw [Try.params5] at hA hval hsz
  obtain ⟨v0, vs0, d0, ds0, p0, q0, hargs, rfl, rfl, h0, r0⟩ := trodAll_cons hA
  obtain ⟨v1, vs1, d1, ds1, p1, q1, rfl, rfl, rfl, h1, r1⟩ := trodAll_cons r0
  obtain ⟨rfl, rfl, rfl⟩ := trodAll_nil r1
  obtain rfl : args = #[v0, v1] := by cases args; simp_all
  obtain ⟨rfl, rfl⟩ := trodVars_none hV
  have lt0 : ∀ x ∈ p0, x.block < W.heap.size := by obtain ⟨m, hm⟩ := h0; exact DataW.trod_lt m _ _ _ hm
  have lt1 : ∀ x ∈ p1, x.block < W.heap.size := by obtain ⟨m, hm⟩ := h1; exact DataW.trod_lt m _ _ _ hm
  have hsz' : (DataW.weightsEach Try.prog [28, 9] [d0, d1]).all (· ≤ reachBytes) = true := hsz
  obtain ⟨x0a, x0b, x0c, x0d, rfl, f0a, f0b, f0c, f0d⟩ := def_of (hval 0 28 v0 rfl rfl) h0 (fits_of_each hsz' (j := 0) rfl rfl)
  obtain ⟨s1, rfl, rfl, rfl, ws1⟩ := open_string Try.underlying9 (hval 1 9 v1 rfl rfl) h1
  have wt1 : s1.size ≤ 140737488351232 := by have := (fits_of_each hsz' (j := 1) rfl rfl) s1.data.toList.length (by simp [DataW.weights]); simpa using this
  clear hA0 hval0
  refine (walk W x0a x0b x0c x0d f0a f0b f0c f0d s1 ws1 wt1).mono fun e W' ⟨he, bel⟩ => ?_
  subst he
  exact ⟨_, rfl, _, _, _, [], _, [], hW', trodAll_mk1 (shut_bool Try.underlying4 _), (trodAll_cons_mk (Below.trod laidOut (by kernel_rfl) (of_decide_eq_true (by kernel_rfl)) h0 bel lt0) (trodAll_cons_mk (Below.trod laidOut (by kernel_rfl) (of_decide_eq_true (by kernel_rfl)) h1 bel lt1) trodAll_mk0)), rfl, bel.frame _, fun h => by cases h⟩

theorem over : Rows.checkNamesRow.holds Try.pinned (OpenSpec.ofChange Rows.checkNamesSpec) :=
  OpenClaim.holds_of_wide 5 Try.f5 rfl rfl rfl rfl rfl rfl rfl ⟨rfl, rfl, rfl, rfl, rfl⟩ rfl rfl rfl rfl rfl (by kernel_rfl) Try.func5 (by kernel_rfl)
    (of_decide_eq_true (by kernel_rfl)) (by unfold Func.isWrapper; first | (rw [if_pos (by decide +kernel)]; kernel_rfl) | (rw [if_neg (by decide +kernel)]; exact ⟨rfl, rfl⟩))
    (fun os started H enc _ => lifted os started H enc)

theorem proved : Rows.CheckNamesSaid := over
#print axioms proved


end CheckNames

theorem checkNames_holds : Rows.CheckNamesSaid := CheckNames.proved
#print axioms checkNames_holds

end Go.Proofs.Ythbfgeaojgfafaa
