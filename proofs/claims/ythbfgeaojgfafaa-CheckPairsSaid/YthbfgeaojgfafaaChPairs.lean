/- A verb that undoes another one isn't a verb to do, and undoes just one; a verb that is undone isn't final: for every two texts; the arguments read afterwards as before. No condition. -/
import Derived.Test.YthbfgeaojgfafaaRows
import Derived.Test.YthbfgeaojgfafaaChW
import Derived.Test.YthbfgeaojgfafaaOpen1
import Derived.OpenShut
import Derived.ShutString
namespace Go.Proofs.Ythbfgeaojgfafaa
open Go Go.RowKit

namespace CheckPairs

theorem lit_list (l : Array UInt8) : (⟨l⟩ : ByteArray).toList = l.toList := ByteArray.toList_eq _

def A1 : List UInt8 := [99, 114, 101, 100, 105, 116, 46, 104, 111, 108, 100]
def B1 : List UInt8 := [99, 114, 101, 100, 105, 116, 46, 114, 101, 108, 101, 97, 115, 101]
def A2 : List UInt8 := [115, 116, 111, 99, 107, 46, 97, 108, 108, 111, 99, 97, 116, 101]
def B2 : List UInt8 := [115, 116, 111, 99, 107, 46, 102, 114, 101, 101]
def A3 : List UInt8 := [115, 116, 111, 99, 107, 46, 115, 104, 105, 112]
def B3 : List UInt8 := [115, 116, 111, 99, 107, 46, 114, 101, 115, 116, 111, 99, 107]
def A4 : List UInt8 := [98, 105, 108, 108, 46, 105, 110, 118, 111, 105, 99, 101]
def B4 : List UInt8 := [98, 105, 108, 108, 46, 99, 114, 101, 100, 105, 116]

/-- The table's rows. -/
theorem undo_form (l : List UInt8) : (l = A1 ∧ undoF l = (⟨B1.toArray⟩, true, false)) ∨ (l = A2 ∧ undoF l = (⟨B2.toArray⟩, true, false)) ∨ (l = A3 ∧ undoF l = (⟨B3.toArray⟩, true, false)) ∨ (l = A4 ∧ undoF l = (⟨B4.toArray⟩, true, false)) ∨ ((undoF l).1 = ⟨#[]⟩ ∧ (undoF l).2.1 = (undoF l).2.2) := by
  by_cases h1 : l = A1
  · subst h1; exact .inl ⟨rfl, rfl⟩
  by_cases h2 : l = A2
  · subst h2; exact .inr (.inl ⟨rfl, rfl⟩)
  by_cases h3 : l = A3
  · subst h3; exact .inr (.inr (.inl ⟨rfl, rfl⟩))
  by_cases h4 : l = A4
  · subst h4; exact .inr (.inr (.inr (.inl ⟨rfl, rfl⟩)))
  refine .inr (.inr (.inr (.inr ?_)))
  unfold A1 at h1
  unfold A2 at h2
  unfold A3 at h3
  unfold A4 at h4
  unfold undoF
  rw [if_neg (by simpa using h1), if_neg (by simpa using h2), if_neg (by simpa using h3), if_neg (by simpa using h4)]
  split
  · exact ⟨rfl, rfl⟩
  split
  · exact ⟨rfl, rfl⟩
  split
  · exact ⟨rfl, rfl⟩
  split
  · exact ⟨rfl, rfl⟩
  exact ⟨rfl, rfl⟩

theorem undo_rows (l : List UInt8) : ((undoF l).1 = ⟨#[]⟩ ∧ (undoF l).2.1 = (undoF l).2.2) ∨ ((undoF l).1.toList ≠ [] ∧ (undoF l).2 = (true, false) ∧ (undoF (undoF l).1.toList).2.1 = false) := by
  rcases undo_form l with ⟨_, h⟩ | ⟨_, h⟩ | ⟨_, h⟩ | ⟨_, h⟩ | h
  · rw [h]; exact .inr ⟨by rw [lit_list]; decide, rfl, by rw [lit_list]; decide⟩
  · rw [h]; exact .inr ⟨by rw [lit_list]; decide, rfl, by rw [lit_list]; decide⟩
  · rw [h]; exact .inr ⟨by rw [lit_list]; decide, rfl, by rw [lit_list]; decide⟩
  · rw [h]; exact .inr ⟨by rw [lit_list]; decide, rfl, by rw [lit_list]; decide⟩
  · exact .inl h

theorem undo_one {l m : List UInt8} (h : (undoF l).1.toList = (undoF m).1.toList) (hn : (undoF l).1.toList ≠ []) : l = m ∧ (undoF m).2.1 = true := by
  have e0 : (⟨#[]⟩ : ByteArray).toList = [] := lit_list _
  rcases undo_form l with ⟨hl, hx⟩ | ⟨hl, hx⟩ | ⟨hl, hx⟩ | ⟨hl, hx⟩ | hx
  case inr.inr.inr.inr => rw [hx.1, e0] at hn; exact absurd rfl hn
  all_goals
    rcases undo_form m with ⟨hm, hy⟩ | ⟨hm, hy⟩ | ⟨hm, hy⟩ | ⟨hm, hy⟩ | hy
    case inr.inr.inr.inr => rw [hx, hy.1, e0, lit_list] at h; exact absurd h (by decide)
    all_goals
      first
        | exact ⟨hl.trans hm.symm, by rw [hy]⟩
        | (rw [hx, hy, lit_list, lit_list] at h; exact absurd h (by decide))

set_option maxRecDepth 100000 in
theorem walk (W : World) (s : ByteArray) (_hs : s.size ≤ maxLen) (t : ByteArray) (_ht : t.size ≤ maxLen) :
    Calls Try.prog 7 #[.string s, .string t] W fun e w' => e = .returned (.bool true) ∧ Below W.heap.size W w' := by
  have H1 := hid (undoing_any s)
  have H2 := hid (undoing_any t)
  have hrow := undo_rows s.toList
  have hone := @undo_one s.toList t.toList
  have H3 := hid (undoing_any (undoF s.toList).1)
  generalize undoF s.toList = U at *
  generalize undoF t.toList = V at *
  obtain ⟨u, kn, fi⟩ := U
  obtain ⟨v, th, fv⟩ := V
  simp only at H1 H2 H3 hrow hone
  generalize undoF u.toList = T at *
  obtain ⟨tu, tk, tf⟩ := T
  simp only at H3 hrow
  rcases hrow with ⟨rfl, rfl⟩ | ⟨hne, hkf, hk⟩
  · have e0 : (⟨#[]⟩ : ByteArray).toList = [] := lit_list _
    have HO := hid hone
    clear hone H3
    cases kn
    all_goals
      go_enter Try.func7, Try.ntmps7
      go_wp2_with fail
      refine (H1.out _).mono ?_
      rintro e w' ⟨rfl, rfl⟩
      go_wp2_with fail
      refine (H2.out _).mono ?_
      rintro e w' ⟨rfl, rfl⟩
      go_wp2_with (go_at_call 10; refine (wakes_yes _).mono ?_; rintro e w3 ⟨rfl, hm3⟩; have M3 := hid hm3; clear hm3)
      go_ret
      exact ⟨rfl, M3.out.below (Nat.le_refl _) (fun _ h => h.elim)⟩
  · simp only [Prod.mk.injEq] at hkf
    obtain ⟨rfl, rfl⟩ := hkf
    subst hk
    have hn1 : u.toList.isEmpty = false := by cases h : u.toList <;> simp_all
    have hn2 : (!u.toList.isEmpty) = true := by rw [hn1]; rfl
    by_cases huv : u.toList = v.toList
    · obtain ⟨e1, e2⟩ := hone huv hne
      subst e2
      have e3 : (u.toList == v.toList) = true := by simp [huv]
      have e4 : (s.toList == t.toList) = true := by simp [e1]
      clear hone hne e1
      have HUV := hid huv
      clear huv
      go_enter Try.func7, Try.ntmps7
      go_wp2_with fail
      refine (H1.out _).mono ?_
      rintro e w' ⟨rfl, rfl⟩
      go_wp2_with fail
      refine (H2.out _).mono ?_
      rintro e w' ⟨rfl, rfl⟩
      go_wp2_with fail
      refine (wakes_yes _).mono ?_
      rintro e w3 ⟨rfl, hm3⟩
      have M3 := hid hm3
      clear hm3
      go_wp2_with fail
      refine (H3.out _).mono ?_
      rintro e w' ⟨rfl, rfl⟩
      go_wp2_with fail
      go_ret
      exact ⟨rfl, M3.out.below (Nat.le_refl _) (fun _ h => h.elim)⟩
    · have e3 : (u.toList == v.toList) = false := by simp [huv]
      have e5 : (u.toList != v.toList) = true := by simp [huv]
      clear hone hne
      have HUV := hid huv
      clear huv
      go_enter Try.func7, Try.ntmps7
      go_wp2_with fail
      refine (H1.out _).mono ?_
      rintro e w' ⟨rfl, rfl⟩
      go_wp2_with fail
      refine (H2.out _).mono ?_
      rintro e w' ⟨rfl, rfl⟩
      go_wp2_with fail
      refine (wakes_yes _).mono ?_
      rintro e w3 ⟨rfl, hm3⟩
      have M3 := hid hm3
      clear hm3
      go_wp2_with fail
      refine (H3.out _).mono ?_
      rintro e w' ⟨rfl, rfl⟩
      go_wp2_with fail
      go_ret
      exact ⟨rfl, M3.out.below (Nat.le_refl _) (fun _ h => h.elim)⟩

open Go.ChangeShapes Go.WideShapes Go.ChangeAt Go.ChangeMaps
theorem own : ownKnob Try.prog.godebug = none := by kernel_rfl
theorem laidOut : laidOutB Try.prog = true := by kernel_rfl

set_option maxRecDepth 100000 in
theorem lifted (os : Os) (started : os.Started) (H : Type) (enc : TypeId × Value → H) :
    ReturnsInHanded {} Try.checked os 7 .any (Rows.checkPairsSpec.pre6 enc Try.prog Try.f7 Rows.checkPairsRow.domain false) (Rows.checkPairsSpec.post enc Try.prog Try.f7 false true false false) := by
  refine returnsInHanded_of_change_sized (C := Try.checked) own started (by kernel_rfl) Try.func7
    (ChangeSpec.witness6 (enc := enc) (C := Try.checked) false ⟨#[], #[.string ⟨#[]⟩, .string ⟨#[]⟩], []⟩ 8 (by kernel_rfl) (by kernel_rfl) (by kernel_rfl) (by kernel_rfl)) ?_
  intro W base args ds gs before hval0 hW hcnd hsz0 _
  have hsz : (DataW.weightsEach Try.prog (Try.f7.params.toList ++ Rows.checkPairsSpec.plain.varTypes Try.prog) (ds ++ gs)).all (· ≤ reachBytes) = true := hsz0
  clear hsz0
  have hval : ∀ (j : Nat) t v, Try.f7.params[j]? = some t → args[j]? = some v → Value.okWide Try.prog W .any base t v := hval0
  have hW' := hW
  obtain ⟨p, q, hA0, hV, rfl, hfz, hnd⟩ := hW
  have hA : DataW.TrodAll enc Try.prog W 0 (fun _ => true) true Try.f7.params.toList args.toList ds p := hA0
  rw [Try.params7] at hA hval hsz
  obtain ⟨v0, vs0, d0, ds0, p0, q0, hargs, rfl, rfl, h0, r0⟩ := trodAll_cons hA
  obtain ⟨v1, vs1, d1, ds1, p1, q1, rfl, rfl, rfl, h1, r1⟩ := trodAll_cons r0
  obtain ⟨rfl, rfl, rfl⟩ := trodAll_nil r1
  obtain rfl : args = #[v0, v1] := by cases args; simp_all
  obtain ⟨rfl, rfl⟩ := trodVars_none hV
  have lt0 : ∀ x ∈ p0, x.block < W.heap.size := by obtain ⟨m, hm⟩ := h0; exact DataW.trod_lt m _ _ _ hm
  have lt1 : ∀ x ∈ p1, x.block < W.heap.size := by obtain ⟨m, hm⟩ := h1; exact DataW.trod_lt m _ _ _ hm
  have hsz' : (DataW.weightsEach Try.prog [9, 9] [d0, d1]).all (· ≤ reachBytes) = true := hsz
  obtain ⟨s0, rfl, rfl, rfl, ws0⟩ := open_string Try.underlying9 (hval 0 9 v0 rfl rfl) h0
  obtain ⟨s1, rfl, rfl, rfl, ws1⟩ := open_string Try.underlying9 (hval 1 9 v1 rfl rfl) h1
  clear hA0 hval0
  refine (walk W s0 ws0 s1 ws1).mono fun e W' ⟨he, bel⟩ => ?_
  subst he
  exact ⟨_, rfl, _, _, _, [], _, [], hW', trodAll_mk1 (shut_bool Try.underlying4 _), (trodAll_cons_mk (Below.trod laidOut (by kernel_rfl) (of_decide_eq_true (by kernel_rfl)) h0 bel lt0) (trodAll_cons_mk (Below.trod laidOut (by kernel_rfl) (of_decide_eq_true (by kernel_rfl)) h1 bel lt1) trodAll_mk0)), rfl, bel.frame _, fun h => by cases h⟩

theorem over : Rows.checkPairsRow.holds Try.pinned (OpenSpec.ofChange Rows.checkPairsSpec) :=
  OpenClaim.holds_of_wide 7 Try.f7 rfl rfl rfl rfl rfl rfl rfl ⟨rfl, rfl, rfl, rfl, rfl⟩ rfl rfl rfl rfl rfl (by kernel_rfl) Try.func7 (by kernel_rfl)
    (of_decide_eq_true (by kernel_rfl)) (by unfold Func.isWrapper; first | (rw [if_pos (by decide +kernel)]; kernel_rfl) | (rw [if_neg (by decide +kernel)]; exact ⟨rfl, rfl⟩))
    (fun os started H enc _ => lifted os started H enc)

theorem proved : Rows.CheckPairsSaid := over
#print axioms proved


end CheckPairs

theorem checkPairs_holds : Rows.CheckPairsSaid := CheckPairs.proved
#print axioms checkPairs_holds

end Go.Proofs.Ythbfgeaojgfafaa
