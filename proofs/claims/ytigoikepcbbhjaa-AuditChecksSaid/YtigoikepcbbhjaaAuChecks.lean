/- AuditChecks: whatever is told, the audit's broken laws are the document's, and the live instances; what is told reads as it did. No condition. -/
import Derived.Test.YtigoikepcbbhjaaRows
import Derived.Test.YtigoikepcbbhjaaAuW
import Derived.Test.YtigoikepcbbhjaaAuOpn
import Derived.OpenShut
import Derived.ShutString
namespace Go.Proofs.Ytigoikepcbbhjaa
open Go Go.RowKit
namespace AuChecks
open Go.ChangeShapes Go.WideShapes Go.ChangeAt Go.ChangeMaps

theorem walk (w : World) (x : TR) (h : x.ok w) : Calls Try.prog 3 #[.agg x.vals] w fun e w' => e = .returned (.bool true) ∧ Below w.heap.size w w' :=
  (law_any x.hc x.lc x.gc x.ac x.oc x.tc x.ic x.next h).mono fun _ _ ⟨he, hm⟩ => ⟨he, hm.below (Nat.le_refl _) (fun _ h => h.elim)⟩

theorem own : ownKnob Try.prog.godebug = none := by kernel_rfl
theorem laidOut : laidOutB Try.prog = true := by kernel_rfl

set_option maxRecDepth 100000 in
theorem lifted (os : Os) (started : os.Started) (H : Type) (enc : TypeId × Value → H) :
    ReturnsInHanded {} Try.checked os 3 .any (Rows.auditChecksSpec.pre6 enc Try.prog Try.f3 Rows.auditChecksRow.domain false) (Rows.auditChecksSpec.post enc Try.prog Try.f3 false true false false) := by
  refine returnsInHanded_of_change_sized (C := Try.checked) own started (by kernel_rfl) Try.func3
    (ChangeSpec.witness6 (enc := enc) (C := Try.checked) false ⟨#[], #[.agg #[.int .i64 0, .slice none 0 0, .slice none 0 0, .slice none 0 0, .slice none 0 0, .slice none 0 0, .slice none 0 0, .int .i64 0, .slice none 0 0, .slice none 0 0, .slice none 0 0, .int .i64 0, .slice none 0 0, .slice none 0 0, .slice none 0 0]], []⟩ 8 (by kernel_rfl) (by kernel_rfl) (by kernel_rfl) (by kernel_rfl)) ?_
  intro W base args ds gs before hval0 hW hcnd hsz0 _
  have hsz : (DataW.weightsEach Try.prog (Try.f3.params.toList ++ Rows.auditChecksSpec.plain.varTypes Try.prog) (ds ++ gs)).all (· ≤ reachBytes) = true := hsz0
  clear hsz0
  have hval : ∀ (j : Nat) t v, Try.f3.params[j]? = some t → args[j]? = some v → Value.okWide Try.prog W .any base t v := hval0
  have hW' := hW
  obtain ⟨p, q, hA0, hV, rfl, hfz, hnd⟩ := hW
  have hA : DataW.TrodAll enc Try.prog W 0 (fun _ => true) true Try.f3.params.toList args.toList ds p := hA0
  rw [Try.params3] at hA hval hsz
  obtain ⟨v0, vs0, d0, ds0, p0, q0, hargs, rfl, rfl, h0, r0⟩ := trodAll_cons hA
  obtain ⟨rfl, rfl, rfl⟩ := trodAll_nil r0
  obtain rfl : args = #[v0] := by cases args; simp_all
  obtain ⟨rfl, rfl⟩ := trodVars_none hV
  have lt0 : ∀ x ∈ p0, x.block < W.heap.size := by obtain ⟨m, hm⟩ := h0; exact DataW.trod_lt m _ _ _ hm
  have hsz' : (DataW.weightsEach Try.prog [35] [d0]).all (· ≤ reachBytes) = true := hsz
  obtain ⟨x0a, rfl, f0a⟩ := open_told (hval 0 35 v0 rfl rfl) h0 (fits_of_each hsz' (j := 0) rfl rfl)
  clear hA0 hval0
  refine (walk W x0a f0a).mono fun e W' ⟨he, bel⟩ => ?_
  subst he
  exact ⟨_, rfl, _, _, _, [], _, [], hW', trodAll_mk1 (shut_bool Try.underlying4 _), (trodAll_cons_mk (Below.trod laidOut (by kernel_rfl) (of_decide_eq_true (by kernel_rfl)) h0 bel lt0) trodAll_mk0), rfl, bel.frame _, fun h => by cases h⟩

theorem over : Rows.auditChecksRow.holds Try.pinned (OpenSpec.ofChange Rows.auditChecksSpec) :=
  OpenClaim.holds_of_wide 3 Try.f3 rfl rfl rfl rfl rfl rfl rfl ⟨rfl, rfl, rfl, rfl, rfl⟩ rfl rfl rfl rfl rfl (by kernel_rfl) Try.func3 (by kernel_rfl)
    (of_decide_eq_true (by kernel_rfl)) (by unfold Func.isWrapper; first | (rw [if_pos (by decide +kernel)]; kernel_rfl) | (rw [if_neg (by decide +kernel)]; exact ⟨rfl, rfl⟩))
    (fun os started H enc _ => lifted os started H enc)

theorem proved : Rows.AuditChecksSaid := over
#print axioms proved


end AuChecks

theorem auditChecks_holds : Rows.AuditChecksSaid := AuChecks.proved
end Go.Proofs.Ytigoikepcbbhjaa
