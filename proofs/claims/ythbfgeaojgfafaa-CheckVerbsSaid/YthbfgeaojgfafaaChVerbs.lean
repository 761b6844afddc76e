/- What undoes a verb is the document's answer, for every text; the argument reads afterwards as before. No condition. -/
import Derived.Test.YthbfgeaojgfafaaRows
import Derived.Test.YthbfgeaojgfafaaChW
import Derived.Test.YthbfgeaojgfafaaOpen1
import Derived.OpenShut
import Derived.ShutString
namespace Go.Proofs.Ythbfgeaojgfafaa
open Go Go.RowKit

namespace CheckVerbs

set_option maxRecDepth 100000 in
theorem walk (W : World) (s : ByteArray) (_hs : s.size ≤ maxLen) :
    Calls Try.prog 3 #[.string s] W fun e w' => e = .returned (.bool true) ∧ Below W.heap.size W w' := by
  have H1 := hid (undoing_any s)
  have H2 := hid (rundoing_any s)
  generalize undoF s.toList = U at *
  obtain ⟨u, kn, fi⟩ := U
  simp only at H1 H2
  have e1 : (u.toList == u.toList) = true := by simp
  have e2 : (kn == kn) = true := by simp
  have e3 : (fi == fi) = true := by simp
  go_enter Try.func3, Try.ntmps3
  go_wp2_with (first | (go_at_call 8; refine (H1.out _).mono ?_; rintro e w' ⟨rfl, rfl⟩) | (go_at_call 9; refine (H2.out _).mono ?_; rintro e w' ⟨rfl, rfl⟩) | (go_at_call 10; refine (wakes_yes _).mono ?_; rintro e w3 ⟨rfl, hm3⟩; have M3 := hid hm3; clear hm3))
  go_ret
  exact ⟨rfl, M3.out.below (Nat.le_refl _) (fun _ h => h.elim)⟩

open Go.ChangeShapes Go.WideShapes Go.ChangeAt Go.ChangeMaps
theorem own : ownKnob Try.prog.godebug = none := by kernel_rfl
theorem laidOut : laidOutB Try.prog = true := by kernel_rfl

set_option maxRecDepth 100000 in
theorem lifted (os : Os) (started : os.Started) (H : Type) (enc : TypeId × Value → H) :
    ReturnsInHanded {} Try.checked os 3 .any (Rows.checkVerbsSpec.pre6 enc Try.prog Try.f3 Rows.checkVerbsRow.domain false) (Rows.checkVerbsSpec.post enc Try.prog Try.f3 false true false false) := by
  refine returnsInHanded_of_change_sized (C := Try.checked) own started (by kernel_rfl) Try.func3
    (ChangeSpec.witness6 (enc := enc) (C := Try.checked) false ⟨#[], #[.string ⟨#[]⟩], []⟩ 8 (by kernel_rfl) (by kernel_rfl) (by kernel_rfl) (by kernel_rfl)) ?_
  intro W base args ds gs before hval0 hW hcnd hsz0 _
  have hsz : (DataW.weightsEach Try.prog (Try.f3.params.toList ++ Rows.checkVerbsSpec.plain.varTypes Try.prog) (ds ++ gs)).all (· ≤ reachBytes) = true := hsz0
  clear hsz0
  have hval : ∀ (j : Nat) t v, Try.f3.params[j]? = some t → args[j]? = some v → Value.okWide Try.prog W .any base t v := hval0
  have hW' := hW
  obtain ⟨p, q, hA0, hV, rfl, hfz, hnd⟩ := hW
  have hA : DataW.TrodAll enc Try.prog W 0 (fun _ => true) true Try.f3.params.toList args.toList ds p := hA0
  rw [Try.params3] at hA hval hsz
  obtain ⟨v0, vs0, d0, ds0, p0, q0, hargs, rfl, rfl, h0, r0⟩ := trodAll_cons hA
  obtain ⟨rfl, rfl, rfl⟩ := trodAll_nil r0
  obtain rfl : args = #[v0] := by cases args; simp_all
  obtain ⟨rfl, rfl⟩ := trodVars_none hV
  have lt0 : ∀ x ∈ p0, x.block < W.heap.size := by obtain ⟨m, hm⟩ := h0; exact DataW.trod_lt m _ _ _ hm
  have hsz' : (DataW.weightsEach Try.prog [9] [d0]).all (· ≤ reachBytes) = true := hsz
  obtain ⟨s0, rfl, rfl, rfl, ws0⟩ := open_string Try.underlying9 (hval 0 9 v0 rfl rfl) h0
  clear hA0 hval0
  refine (walk W s0 ws0).mono fun e W' ⟨he, bel⟩ => ?_
  subst he
  exact ⟨_, rfl, _, _, _, [], _, [], hW', trodAll_mk1 (shut_bool Try.underlying4 _), (trodAll_cons_mk (Below.trod laidOut (by kernel_rfl) (of_decide_eq_true (by kernel_rfl)) h0 bel lt0) trodAll_mk0), rfl, bel.frame _, fun h => by cases h⟩

theorem over : Rows.checkVerbsRow.holds Try.pinned (OpenSpec.ofChange Rows.checkVerbsSpec) :=
  OpenClaim.holds_of_wide 3 Try.f3 rfl rfl rfl rfl rfl rfl rfl ⟨rfl, rfl, rfl, rfl, rfl⟩ rfl rfl rfl rfl rfl (by kernel_rfl) Try.func3 (by kernel_rfl)
    (of_decide_eq_true (by kernel_rfl)) (by unfold Func.isWrapper; first | (rw [if_pos (by decide +kernel)]; kernel_rfl) | (rw [if_neg (by decide +kernel)]; exact ⟨rfl, rfl⟩))
    (fun os started H enc _ => lifted os started H enc)

theorem proved : Rows.CheckVerbsSaid := over
#print axioms proved


end CheckVerbs

theorem checkVerbs_holds : Rows.CheckVerbsSaid := CheckVerbs.proved
#print axioms checkVerbs_holds

end Go.Proofs.Ythbfgeaojgfafaa
