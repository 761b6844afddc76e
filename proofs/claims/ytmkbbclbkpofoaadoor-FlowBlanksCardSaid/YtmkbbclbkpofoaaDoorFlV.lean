/- Flow: wakes -/
import Derived.Test.YtmkbbclbkpofoaaDoorFlP
import Derived.Test.YtmkbbclbkpofoaaDoorFlK
namespace Go.Proofs.YtmkbbclbkpofoaaDoor
open Go Go.RowKit

theorem DefLies.ext {w w' : World} {d : Df} {la : Option Addr} {ss : List SA} (h : DefLies w d la ss) (hm : Mod (fun _ => False) w w') : DefLies w' d la ss :=
  ⟨h.map, h.lies.ext hm, fun x hx => ⟨(h.all x hx).1.ext hm, (h.all x hx).2⟩, h.len⟩

/-- What is read of two steps. -/
theorem two_steps {w : World} {d : Df} {la : Option Addr} {ss : List SA} {s1 s2 : Sp} (h : DefLies w d la ss) (hd : d.steps = [s1, s2]) : ∃ g off x1 x2, la = some ⟨g, off, none⟩ ∧ ss = [x1, x2] ∧ x1.s = s1 ∧ x2.s = s2 := by
  have hm := h.map
  rw [hd] at hm
  match ss, hm, h with
  | [x1, x2], hm, h =>
    obtain ⟨g, off, e⟩ := h.lies.some (Nat.succ_pos _)
    simp only [List.map_cons, List.map_nil, List.cons.injEq, and_true] at hm
    exact ⟨g, off, x1, x2, e, rfl, hm.1, hm.2⟩
  | [], hm, _ => cases hm
  | [_], hm, _ => simp at hm
  | _ :: _ :: _ :: _, hm, _ => simp at hm

set_option maxRecDepth 100000 in
set_option maxHeartbeats 2000000 in
theorem wakes_any {w : World} (hg : Glob w) : Calls Tryd.prog 11 #[] w fun e w' => e = .returned (.bool true) ∧ Mod (fun _ => False) w w' := by
  have HG := hid hg
  have h1 := parse_any wk1 hg
  rw [wk1_is] at h1
  unfold wk1 at h1
  have HP1 := hid h1
  have HP2 := hid (fun (V : World) (hm : Mod (fun _ => False) w V) => parse_any (w := V) wk2 (hg.ext hm))
  rw [wk2_is] at HP2
  unfold wk2 at HP2
  clear hg h1
  go_enter Tryd.func11, Tryd.ntmps11
  go_upto_region 2 with (go_at_call 9; refine HP1.out.mono ?_; rintro e w1 ⟨hm, la, cap, ss, rfl, hl⟩; have HM1 := hid hm; have HL1 := hid hl; clear hm hl)
  obtain ⟨g, off, x1, x2, rfl, rfl, hx1, hx2⟩ := two_steps HL1.out rfl
  have HB := hid (heap_alloc_new w1 (.cells #[.string ⟨#[115, 97, 108, 101]⟩, .slice (some ⟨g, off, none⟩) 2 cap] 24))
  have HM2 := hid (HM1.out.alloc (.cells #[.string ⟨#[115, 97, 108, 101]⟩, .slice (some ⟨g, off, none⟩) 2 cap] 24))
  have HMa : Hid (Mod (fun _ => False) w1 (w1.alloc (.cells #[.string ⟨#[115, 97, 108, 101]⟩, .slice (some ⟨g, off, none⟩) 2 cap] 24))) := hid ((Mod.refl _ _).alloc _)
  have HP2' := hid (HP2.out _ HM2.out)
  go_upto_region 3 with (go_at_call 9; refine HP2'.out.mono ?_; rintro e w2 ⟨hm, lb, cap2, ss2, rfl, _⟩; have HM3 := hid hm; clear hm)
  have HMf := hid ((HM2.out.trans HM3.out).alloc (.cells #[.string noD.name, .slice lb noD.steps.length cap2] 24))
  have hmz : Mod (fun _ => False) w1 (w2.alloc (.cells #[.string noD.name, .slice lb noD.steps.length cap2] 24)) := (HMa.out.trans HM3.out).alloc _
  have hlz := HL1.out.ext hmz
  obtain ⟨_, b1, _, _⟩ := row2 (((HM3.out.alloc (.cells #[.string noD.name, .slice lb noD.steps.length cap2] 24)).block _ (lt_of_heap HB.out) (fun h => h)).trans HB.out)
  generalize w2.alloc (.cells #[.string noD.name, .slice lb noD.steps.length cap2] 24) = V at *
  have hu : x1.s.undo = ⟨#[99, 114, 101, 100, 105, 116, 46, 114, 101, 108, 101, 97, 115, 101]⟩ := by rw [hx1]; rfl
  have hv : x2.s.within = 30 := by rw [hx2]; rfl
  have haf : x2.s.after = [⟨#[104, 111, 108, 100]⟩] := by rw [hx2]; rfl
  have c2 := hlz.lies.cell SA.len (i := 0) (x := x1) rfl (j := 2) rfl
  have c16 := hlz.lies.cell SA.len (i := 1) (x := x2) rfl (j := 7) rfl
  have c17 := hlz.lies.cell SA.len (i := 1) (x := x2) rfl (j := 8) rfl
  have hal := (hlz.all x2 (List.mem_cons_of_mem _ List.mem_cons_self)).1
  rw [haf] at hal c17
  obtain ⟨g2, o2, ha2⟩ := hal.some (Nat.succ_pos _)
  rw [ha2] at hal c17
  have d0 := hal.cell strI_len (i := 0) rfl (j := 0) rfl
  rw [hu] at c2
  rw [hv] at c16
  simp only [Nat.zero_mul, Nat.add_zero, Nat.one_mul, Nat.zero_add, List.length_cons, List.length_nil] at c2 c16 c17 d0
  clear hlz hal hu hv haf hmz HMa HB HP1 HP2 HP2' hx1 hx2
  go_wp2_with fail
  go_ret
  exact ⟨rfl, HMf.out⟩

end Go.Proofs.YtmkbbclbkpofoaaDoor
