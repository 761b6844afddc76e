/- In a node with kids a key's place is that of the kid in which it belongs: for every node and key of a bulk of 1048576 at the most; the arguments read afterwards as before. -/
import Derived.Test.YthdopgejikcfbaaRows
import Derived.Test.YthdopgejikcfbaaRef8
import Derived.Test.YthdopgejikcfbaaUp
import Derived.OpenShut
import Derived.JoinedCond
namespace Go.Proofs.Ythdopgejikcfbaa
open Go Go.RowKit

namespace NodeGuides
open Go.ChangeShapes Go.WideShapes Go.ChangeAt

theorem binOp_string_gtr (t : TypeId) (a b : ByteArray) : binOp .gtr t (.string a) (.string b) = pure (.bool (Op.bytesLess b.toList a.toList)) := by
  have h : (!Op.bytesLess a.toList b.toList && !a.toList == b.toList) = Op.bytesLess b.toList a.toList := by
    rw [← Bool.not_or]
    cases hb : Op.bytesLess b.toList a.toList with
    | true => rw [leq_false hb]; rfl
    | false => rw [leq_true hb]; rfl
  rw [← h]
  simp [binOp, Op.stringOp]
attribute [local go_sem] binOp_string_gtr

theorem rises_fit {n : Nd} (h : encOk n = true) : Rises n.keys := by
  unfold encOk at h
  rw [Bool.and_eq_true, fitB_iff] at h
  have hk := (keysOk_iff n).1 h.1.1
  exact rises_of (fun i x y hx hy => (hk (i + 1) y hy).2.2 x (by omega) hx)

theorem asym {a b : List UInt8} (h : Op.bytesLess a b = true) : Op.bytesLess b a = false := by
  cases hb : Op.bytesLess b a with
  | false => rfl
  | true => have := less_trans h hb; rw [less_irrefl] at this; cases this

/-- What is so of the place. -/
theorem guide {ks : List ByteArray} {key : ByteArray} {i : Nat} {ok : Bool} (hr : Rises ks) (hat : At ks key i) (hok : ok = true ↔ ks[i]? = some key) (h0 : 0 < ks.length) :
    ∃ (A : Nat) (x : ByteArray), (if ok = true then (i : Int) else ((i - 1 : Nat) : Int)) = (A : Int) ∧ A < ks.length ∧ ks[A]? = some x ∧ (x.toList == key.toList) = ok ∧ (0 < A → Op.bytesLess key.toList x.toList = false) ∧ ∀ y, ks[A + 1]? = some y → Op.bytesLess key.toList y.toList = true := by
  have hle := hat.le
  cases ok with
  | true =>
    have hi := hok.1 rfl
    exact ⟨i, key, rfl, (List.getElem?_eq_some_iff.1 hi).1, hi, by simp, fun _ => less_irrefl _, fun y hy => hr i (i + 1) key y (by omega) hi hy⟩
  | false =>
    have above : ∀ y, ks[i]? = some y → Op.bytesLess key.toList y.toList = true := fun y hy => by
      cases hb : Op.bytesLess key.toList y.toList with
      | true => rfl
      | false =>
        have := toList_inj (less_total (hat.hi i y (Nat.le_refl _) hy) hb)
        subst this
        have := hok.2 hy
        cases this
    cases i with
    | zero =>
      obtain ⟨x, hx⟩ : ∃ x, ks[0]? = some x := ⟨_, List.getElem?_eq_getElem h0⟩
      refine ⟨0, x, rfl, h0, hx, ?_, fun h => by omega, fun y hy => less_trans (above x hx) (hr 0 1 x y (by omega) hx hy)⟩
      rw [beq_eq_false_iff_ne]
      intro he
      have := toList_inj he
      subst this
      have := hok.2 hx
      cases this
    | succ i =>
      obtain ⟨x, hx⟩ : ∃ x, ks[i]? = some x := ⟨_, List.getElem?_eq_getElem (by omega)⟩
      have hlo := hat.lo i x (by omega) hx
      refine ⟨i, x, rfl, by omega, hx, ?_, fun _ => asym hlo, fun y hy => above y hy⟩
      rw [beq_eq_false_iff_ne]
      intro he
      rw [he, less_irrefl] at hlo
      cases hlo

set_option maxRecDepth 100000 in
set_option maxHeartbeats 2000000 in
theorem walk (W : World) (n : Nd) (hn : NdAt W n) (hb : n.keys.length ≤ 1048576) (key : ByteArray) (_hs : key.size ≤ 1048576) :
    Calls Try.prog 4 #[.agg #[.bool n.leaf, .slice n.ka n.keys.length n.kc, .slice n.va n.values.length n.vc, .slice n.ia n.kids.length n.ic], .string key] W fun e w' => e = .returned (.bool true) ∧ Below W.heap.size W w' := by
  have hm : Mod (fun _ => False) W (W.alloc (.cells #[.bool n.leaf, .slice n.ka n.keys.length n.kc, .slice n.va n.values.length n.vc, .slice n.ia n.kids.length n.ic] 26)) := (Mod.refl _ _).alloc _
  have hbox : (W.alloc (.cells #[.bool n.leaf, .slice n.ka n.keys.length n.kc, .slice n.va n.values.length n.vc, .slice n.ia n.kids.length n.ic] 26)).heap[W.heap.size]? = some (.cells #[.bool n.leaf, .slice n.ka n.keys.length n.kc, .slice n.va n.values.length n.vc, .slice n.ia n.kids.length n.ic] 26 (0, 0)) := heap_alloc_new _ _
  have HN := hid (hn.ext hm)
  have HFt := hid (fun (w' : World) (h : NdAt w' n) => lfit_any h)
  have HM := hid hm
  have HBox := hid hbox
  clear hm hbox hn
  go_enter Try.func4, Try.ntmps4
  go_wp2_with fail
  generalize W.alloc (.cells #[.bool n.leaf, .slice n.ka n.keys.length n.kc, .slice n.va n.values.length n.vc, .slice n.ia n.kids.length n.ic] 26) = V at *
  refine (wakes_yes _).mono ?_
  intro e w1 hA
  obtain ⟨he, hm1⟩ := hA
  subst he
  have hbox1 := (hm1.block _ (lt_of_heap HBox.out) (fun h => h)).trans HBox.out
  obtain ⟨b0, b1, b2, b3⟩ := cells4 hbox1
  have HBox1 := hid hbox1
  have HN1 := hid (HN.out.ext hm1)
  have HM1 := hid (HM.out.trans hm1)
  clear hm1 hbox1
  go_wp2_with fail
  refine (HFt.out w1 HN1.out).mono ?_
  intro e w2 hA
  obtain ⟨he, hm2⟩ := hA
  subst he
  have hbox2 := (hm2.block _ (lt_of_heap HBox1.out) (fun h => h)).trans HBox1.out
  have HBox2 := hid hbox2
  have HN2 := hid (HN1.out.ext hm2)
  have HM2 := hid (HM1.out.trans hm2)
  clear b0 b1 b2 b3
  obtain ⟨b0, b1, b2, b3⟩ := cells4 hbox2
  clear hm2 hbox2
  cases hE : encOk n with
  | false =>
    clear hE
    go_wp2_with fail
    refine (wakes_yes _).mono ?_
    intro e w3 hA
    obtain ⟨he, hm3⟩ := hA
    subst he
    have HM3 := hid (HM2.out.trans hm3)
    clear hm3
    go_wp2_with fail
    go_ret
    exact ⟨rfl, HM3.out.below (Nat.le_refl _) (fun _ h => h.elim)⟩
  | true =>
    have HR := hid (rises_fit hE)
    clear hE
    have HP := hid (place_any key HN2.out HR.out)
    go_wp2_with fail
    refine HP.out.mono ?_
    intro e w3 hA
    obtain ⟨⟨i, ok, hat, hok, he⟩, hm3⟩ := hA
    subst he
    have hbox3 := (hm3.block _ (lt_of_heap HBox2.out) (fun h => h)).trans HBox2.out
    clear b0 b1 b2 b3
    obtain ⟨b0, b1, b2, b3⟩ := cells4 hbox3
    have HN3 := hid (HN2.out.ext hm3)
    have HM3 := hid (HM2.out.trans hm3)
    clear hm3 hbox3
    by_cases h0 : 0 < n.keys.length
    · have d0 : ((n.keys.length : Int) == 0) = false := by rw [beq_eq_false_iff_ne]; omega
      obtain ⟨A, x, hI, hA, hx, hxk, hgt, hnx⟩ := guide HR.out hat hok h0
      rw [hI]
      obtain ⟨g, off, ha, hc⟩ := HN3.out.k.one hx
      have HX := hid hx
      have HNx := hid hnx
      clear hat hok hI hx hnx
      have z1 : (A : Int) < (n.keys.length : Int) := by omega
      have z2 : decide ((n.keys.length : Int) ≤ (A : Int)) = false := by rw [decide_eq_false_iff_not]; omega
      have z3 : decide ((A : Int) < 0) = false := by rw [decide_eq_false_iff_not]; omega
      have hnil : ¬ n.keys = [] := fun h => by rw [h] at h0; simp at h0
      have wsub : IntKind.i64.wrap ((n.keys.length : Int) - 1) = (n.keys.length : Int) - 1 := IntWalk.i64_in _ (by omega)
      have fin : ∀ w', Hid (Mod (fun _ => False) W w') → Below W.heap.size W w' := fun w' h => h.out.below (Nat.le_refl _) (fun _ h => h.elim)
      have Fin := hid fin
      clear fin
      by_cases hlast : A + 1 < n.keys.length
      · have d1 : ((A : Int) == (n.keys.length : Int) - 1) = false := by rw [beq_eq_false_iff_ne]; omega
        obtain ⟨y, hy⟩ : ∃ y, n.keys[A + 1]? = some y := ⟨_, List.getElem?_eq_getElem hlast⟩
        obtain ⟨g2, off2, ha2, hc2⟩ := HN3.out.k.one hy
        rw [ha] at ha2
        cases ha2
        have hy2 := HNx.out y hy
        have z4 : (A : Int) + 1 < (n.keys.length : Int) := by omega
        clear hy
        by_cases hp : 0 < A
        · have d2 : decide ((0 : Int) < (A : Int)) = true := by rw [decide_eq_true_iff]; omega
          have hg := hgt hp
          clear hgt
          cases ok
          all_goals
            rw [ha] at b1 ⊢
            go_wp2_with fail
            all_goals first | (exfalso; omega) | contradiction | (go_ret; exact ⟨rfl, Fin.out _ HM3⟩)
        · obtain rfl : A = 0 := by omega
          rw [Nat.add_zero] at hc
          rw [Nat.zero_add] at hc2
          clear hgt
          cases ok
          all_goals
            rw [ha] at b1 ⊢
            go_wp2_with fail
            all_goals first | (exfalso; omega) | contradiction | (go_ret; exact ⟨rfl, Fin.out _ HM3⟩)
      · have d1 : ((A : Int) == (n.keys.length : Int) - 1) = true := by rw [beq_iff_eq]; omega
        by_cases hp : 0 < A
        · have d2 : decide ((0 : Int) < (A : Int)) = true := by rw [decide_eq_true_iff]; omega
          have hg := hgt hp
          clear hgt
          cases ok
          all_goals
            rw [ha] at b1 ⊢
            go_wp2_with fail
            all_goals first | (exfalso; omega) | contradiction | (go_ret; exact ⟨rfl, Fin.out _ HM3⟩)
        · obtain rfl : A = 0 := by omega
          rw [Nat.add_zero] at hc
          clear hgt
          cases ok
          all_goals
            rw [ha] at b1 ⊢
            go_wp2_with fail
            all_goals first | (exfalso; omega) | contradiction | (go_ret; exact ⟨rfl, Fin.out _ HM3⟩)
    · have d0 : ((n.keys.length : Int) == 0) = true := by rw [beq_iff_eq]; omega
      obtain rfl : i = 0 := by have := hat.le; omega
      have hno : ok = false := by
        cases ok with
        | false => rfl
        | true => have := (List.getElem?_eq_some_iff.1 (hok.1 rfl)).1; omega
      subst hno
      clear hat hok
      go_wp2_with fail
      go_ret
      exact ⟨rfl, HM3.out.below (Nat.le_refl _) (fun _ h => h.elim)⟩

theorem own : ownKnob Try.prog.godebug = none := by kernel_rfl
theorem laidOut : laidOutB Try.prog = true := by kernel_rfl

theorem contract (H : Type) (enc : TypeId × Value → H) (W : World) (base : Nat) (args : Array Value) (ds gs : List (DataW H)) (before : List MemPlace)
    (hval0 : ∀ (j : Nat) t v, Try.f4.params[j]? = some t → args[j]? = some v → Value.okWide Try.prog W .any base t v)
    (hW : DataW.Whole enc Try.prog Try.f4.params.toList Rows.nodeGuidesSpec.vars false W args.toList ds gs before) (hk : Rows.uptoSmall H (ds ++ gs) = true) :
    Calls Try.prog 4 args W fun e W' => ∃ v, e = .returned v ∧ Rows.nodeGuidesSpec.post enc Try.prog Try.f4 false true false false W args v W' := by
  have hbk := bulk_all hk
  have hval : ∀ (j : Nat) t v, Try.f4.params[j]? = some t → args[j]? = some v → Value.okWide Try.prog W .any base t v := hval0
  have hW' := hW
  obtain ⟨p, q, hA0, hV, rfl, hfz, hnd⟩ := hW
  have hA : DataW.TrodAll enc Try.prog W 0 (fun _ => true) true Try.f4.params.toList args.toList ds p := hA0
  rw [Try.params4] at hA hval
  obtain ⟨v0, vs0, d0, ds0, p0, q0, hargs, rfl, rfl, h0, r0⟩ := trodAll_cons hA
  obtain ⟨v1, vs1, d1, ds1, p1, q1, rfl, rfl, rfl, h1, r1⟩ := trodAll_cons r0
  obtain ⟨rfl, rfl, rfl⟩ := trodAll_nil r1
  obtain rfl : args = #[v0, v1] := by cases args; simp_all
  obtain ⟨rfl, rfl⟩ := trodVars_none hV
  have lt0 : ∀ x ∈ p0, x.block < W.heap.size := by obtain ⟨m, hm⟩ := h0; exact DataW.trod_lt m _ _ _ hm
  have lt1 : ∀ x ∈ p1, x.block < W.heap.size := by obtain ⟨m, hm⟩ := h1; exact DataW.trod_lt m _ _ _ hm
  obtain ⟨n0, rfl, at0, bk0⟩ := open_node (hval 0 26 v0 rfl rfl) h0 (hbk d0 (by simp))
  obtain ⟨s1, rfl, ws1⟩ := open_text (hval 1 9 v1 rfl rfl) h1 (hbk d1 (by simp))
  clear hA0 hval0
  refine (walk W n0 at0 bk0 s1 ws1).mono fun e W' ⟨he, bel⟩ => ?_
  subst he
  exact ⟨_, rfl, _, _, _, [], _, [], hW', trodAll_mk1 (shut_bool Try.underlying4 _), (trodAll_cons_mk (Below.trod laidOut (by kernel_rfl) (of_decide_eq_true (by kernel_rfl)) h0 bel lt0) (trodAll_cons_mk (Below.trod laidOut (by kernel_rfl) (of_decide_eq_true (by kernel_rfl)) h1 bel lt1) trodAll_mk0)), rfl, bel.frame _, fun h => by cases h⟩

set_option maxRecDepth 100000 in
theorem lifted (os : Os) (started : os.Started) (H : Type) (enc : TypeId × Value → H) (F : Stop.Interp) :
    ReturnsInHanded {} Try.checked os 4 .any ((Rows.OpenSpec.upto Rows.nodeGuidesSpec).pre6 enc Try.prog Try.f4 Rows.nodeGuidesUptoRow.domain false) (((Rows.OpenSpec.upto Rows.nodeGuidesSpec).at F).post enc Try.prog Try.f4 false true false false) := by
  refine returnsInHanded_of_cond (C := Try.checked) (s := Rows.OpenSpec.upto Rows.nodeGuidesSpec) (k := Rows.uptoSmall) rfl own started (by kernel_rfl) Try.func4
    (OpenSpec.witness (enc := enc) (C := Try.checked) (s := Rows.OpenSpec.upto Rows.nodeGuidesSpec) (k := Rows.uptoSmall) rfl false ⟨#[], #[.agg #[.bool false, .slice none 0 0, .slice none 0 0, .slice none 0 0], .string .empty], []⟩ 8 (by kernel_rfl) (by kernel_rfl) (by kernel_rfl)
      (x := ([.agg [.lit (.bool false), .nil, .nil, .nil], .lit (.string [])], [], [])) (by kernel_rfl) rfl (by kernel_rfl)) ?_
  intro W base args ds gs before hval hW _ hk _
  exact contract H enc W base args ds gs before hval hW hk

theorem proved : Rows.NodeGuidesUptoSaid :=
  OpenClaim.holds_of_cond 4 Try.f4 rfl rfl rfl rfl rfl rfl rfl ⟨rfl, rfl, rfl, rfl, rfl⟩ rfl rfl rfl rfl rfl (by kernel_rfl) Try.func4 (by kernel_rfl)
    (of_decide_eq_true (by kernel_rfl)) (by unfold Func.isWrapper; first | (rw [if_pos (by decide +kernel)]; kernel_rfl) | (rw [if_neg (by decide +kernel)]; exact ⟨rfl, rfl⟩))
    (fun os started H enc _ F => lifted os started H enc F)
#print axioms proved

end NodeGuides

theorem nodeGuides_holds : Rows.NodeGuidesUptoSaid := NodeGuides.proved
end Go.Proofs.Ythdopgejikcfbaa
