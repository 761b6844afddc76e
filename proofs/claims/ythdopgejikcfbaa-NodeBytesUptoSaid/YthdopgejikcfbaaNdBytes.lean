/- Every node has the document's bytes or is refused, and every weight is the document's: for every node of a bulk of 1048576 at the most; the argument reads afterwards as before. -/
import Derived.Test.YthdopgejikcfbaaRows
import Derived.Test.YthdopgejikcfbaaRef8
import Derived.Test.YthdopgejikcfbaaUp
import Derived.OpenShut
import Derived.JoinedCond
namespace Go.Proofs.Ythdopgejikcfbaa
open Go Go.RowKit

namespace NodeBytes
open Go.ChangeShapes Go.WideShapes Go.ChangeAt

theorem bytes_len {w : World} {n : Nd} (h : NdAt w n) : (bytesL n.leaf n.ents).length ≤ 11 + 4194304 * 8388628 := by
  have := rupL_len (leaf := n.leaf) (es := n.ents) (by rw [ents_len]; exact h.bk) (ents_ok h) n.ents.length
  rwa [rupL_all] at this

set_option maxRecDepth 100000 in
set_option maxHeartbeats 1000000 in
theorem walk (W : World) (n : Nd) (hn : NdAt W n) (hb : n.keys.length ≤ 1048576) :
    Calls Try.prog 5 #[.agg #[.bool n.leaf, .slice n.ka n.keys.length n.kc, .slice n.va n.values.length n.vc, .slice n.ia n.kids.length n.ic]] W fun e w' => e = .returned (.bool true) ∧ Below W.heap.size W w' := by
  have hm : Mod (fun _ => False) W (W.alloc (.cells #[.bool n.leaf, .slice n.ka n.keys.length n.kc, .slice n.va n.values.length n.vc, .slice n.ia n.kids.length n.ic] 26)) := (Mod.refl _ _).alloc _
  have hbox : (W.alloc (.cells #[.bool n.leaf, .slice n.ka n.keys.length n.kc, .slice n.va n.values.length n.vc, .slice n.ia n.kids.length n.ic] 26)).heap[W.heap.size]? = some (.cells #[.bool n.leaf, .slice n.ka n.keys.length n.kc, .slice n.va n.values.length n.vc, .slice n.ia n.kids.length n.ic] 26 (0, 0)) := heap_alloc_new _ _
  have HN := hid (hn.ext hm)
  have HEn := hid (encode_any (hn.ext hm))
  have HWt := hid (fun (w' : World) (h : NdAt w' n) => weight_any h)
  have HFt := hid (fun (w' : World) (h : NdAt w' n) => lfit_any h)
  have HRb := hid (fun (w' : World) (sa : Option Addr) (cap : Nat) (h : Lies w' 3 Ent.cs sa n.ents) => rbytes_any n.leaf cap h (by rw [ents_len]; exact hn.bk) (ents_ok hn))
  have HM := hid hm
  have HBox := hid hbox
  have hsz : (ba (bytesL n.leaf n.ents)).size = (bytesL n.leaf n.ents).length := ba_size _
  have hll : (bytesL n.leaf n.ents).length ≤ 11 + 4194304 * 8388628 := bytes_len hn
  generalize bytesL n.leaf n.ents = L at *
  clear hm hbox hn
  cases hE : encOk n
  all_goals
    rw [hE] at HEn HFt
    clear hE
    have hself : ((ba L).toList == (ba L).toList) = true := by simp
    have e0 : (⟨#[]⟩ : ByteArray).toList = [] := lit_toList _
    go_enter Try.func5, Try.ntmps5
    go_wp2_with fail
    generalize W.alloc (.cells #[.bool n.leaf, .slice n.ka n.keys.length n.kc, .slice n.va n.values.length n.vc, .slice n.ia n.kids.length n.ic] 26) = V at *
    refine HEn.out.mono ?_
    intro e w1 hA
    obtain ⟨he, hm1⟩ := hA
    subst he
    have hbox1 := (hm1.block _ (lt_of_heap HBox.out) (fun h => h)).trans HBox.out
    obtain ⟨b0, b1, b2, b3⟩ := cells4 hbox1
    have HBox1 := hid hbox1
    have HN1 := hid (HN.out.ext hm1)
    have HRf := hid (ref_any (HN.out.ext hm1))
    have HM1 := hid (HM.out.trans hm1)
    clear hm1 hbox1
    simp only [encV, if_true, if_false, Bool.false_eq_true]
    go_wp2_with fail
    refine HRf.out.mono ?_
    intro e w2 hA
    obtain ⟨sa, cap, he, hl2, hlo, hm2⟩ := hA
    subst he
    have hbox2 := (hm2.block _ (lt_of_heap HBox1.out) (fun h => h)).trans HBox1.out
    have HBox2 := hid hbox2
    have HRb2 := hid (HRb.out w2 sa cap hl2)
    have HN2 := hid (HN1.out.ext hm2)
    have HM2 := hid (HM1.out.trans hm2)
    clear hl2 hlo hm2 hbox2 b0 b1 b2 b3
    go_wp2_with fail
    refine HRb2.out.mono ?_
    intro e w3 hA
    obtain ⟨he, hm3⟩ := hA
    subst he
    have hbox3 := (hm3.block _ (lt_of_heap HBox2.out) (fun h => h)).trans HBox2.out
    have HBox3 := hid hbox3
    have HN3 := hid (HN2.out.ext hm3)
    have HM3 := hid (HM2.out.trans hm3)
    clear hm3 hbox3
    go_wp2_with fail
    refine (wakes_yes _).mono ?_
    intro e w4 hA
    obtain ⟨he, hm4⟩ := hA
    subst he
    have hbox4 := (hm4.block _ (lt_of_heap HBox3.out) (fun h => h)).trans HBox3.out
    obtain ⟨b0, b1, b2, b3⟩ := cells4 hbox4
    have HBox4 := hid hbox4
    have HN4 := hid (HN3.out.ext hm4)
    have HM4 := hid (HM3.out.trans hm4)
    clear hm4 hbox4
    go_wp2_with fail
    refine (HWt.out w4 HN4.out).mono ?_
    intro e w5 hA
    obtain ⟨he, hm5⟩ := hA
    subst he
    have hbox5 := (hm5.block _ (lt_of_heap HBox4.out) (fun h => h)).trans HBox4.out
    clear b0 b1 b2 b3
    obtain ⟨b0, b1, b2, b3⟩ := cells4 hbox5
    have HBox5 := hid hbox5
    have HN5 := hid (HN4.out.ext hm5)
    have HM5 := hid (HM4.out.trans hm5)
    clear hm5 hbox5
    go_wp2_with fail
    refine (HFt.out w5 HN5.out).mono ?_
    intro e w6 hA
    obtain ⟨he, hm6⟩ := hA
    subst he
    have HM6 := hid (HM5.out.trans hm6)
    clear hm6
    go_wp2_with fail
    go_ret
    exact ⟨rfl, HM6.out.below (Nat.le_refl _) (fun _ h => h.elim)⟩

theorem own : ownKnob Try.prog.godebug = none := by kernel_rfl
theorem laidOut : laidOutB Try.prog = true := by kernel_rfl

theorem contract (H : Type) (enc : TypeId × Value → H) (W : World) (base : Nat) (args : Array Value) (ds gs : List (DataW H)) (before : List MemPlace)
    (hval0 : ∀ (j : Nat) t v, Try.f5.params[j]? = some t → args[j]? = some v → Value.okWide Try.prog W .any base t v)
    (hW : DataW.Whole enc Try.prog Try.f5.params.toList Rows.nodeBytesSpec.vars false W args.toList ds gs before) (hk : Rows.uptoSmall H (ds ++ gs) = true) :
    Calls Try.prog 5 args W fun e W' => ∃ v, e = .returned v ∧ Rows.nodeBytesSpec.post enc Try.prog Try.f5 false true false false W args v W' := by
  have hbk := bulk_all hk
  have hval : ∀ (j : Nat) t v, Try.f5.params[j]? = some t → args[j]? = some v → Value.okWide Try.prog W .any base t v := hval0
  have hW' := hW
  obtain ⟨p, q, hA0, hV, rfl, hfz, hnd⟩ := hW
  have hA : DataW.TrodAll enc Try.prog W 0 (fun _ => true) true Try.f5.params.toList args.toList ds p := hA0
  rw [Try.params5] at hA hval
  obtain ⟨v0, vs0, d0, ds0, p0, q0, hargs, rfl, rfl, h0, r0⟩ := trodAll_cons hA
  obtain ⟨rfl, rfl, rfl⟩ := trodAll_nil r0
  obtain rfl : args = #[v0] := by cases args; simp_all
  obtain ⟨rfl, rfl⟩ := trodVars_none hV
  have lt0 : ∀ x ∈ p0, x.block < W.heap.size := by obtain ⟨m, hm⟩ := h0; exact DataW.trod_lt m _ _ _ hm
  obtain ⟨n0, rfl, at0, bk0⟩ := open_node (hval 0 26 v0 rfl rfl) h0 (hbk d0 (by simp))
  clear hA0 hval0
  refine (walk W n0 at0 bk0).mono fun e W' ⟨he, bel⟩ => ?_
  subst he
  exact ⟨_, rfl, _, _, _, [], _, [], hW', trodAll_mk1 (shut_bool Try.underlying4 _), (trodAll_cons_mk (Below.trod laidOut (by kernel_rfl) (of_decide_eq_true (by kernel_rfl)) h0 bel lt0) trodAll_mk0), rfl, bel.frame _, fun h => by cases h⟩

set_option maxRecDepth 100000 in
theorem lifted (os : Os) (started : os.Started) (H : Type) (enc : TypeId × Value → H) (F : Stop.Interp) :
    ReturnsInHanded {} Try.checked os 5 .any ((Rows.OpenSpec.upto Rows.nodeBytesSpec).pre6 enc Try.prog Try.f5 Rows.nodeBytesUptoRow.domain false) (((Rows.OpenSpec.upto Rows.nodeBytesSpec).at F).post enc Try.prog Try.f5 false true false false) := by
  refine returnsInHanded_of_cond (C := Try.checked) (s := Rows.OpenSpec.upto Rows.nodeBytesSpec) (k := Rows.uptoSmall) rfl own started (by kernel_rfl) Try.func5
    (OpenSpec.witness (enc := enc) (C := Try.checked) (s := Rows.OpenSpec.upto Rows.nodeBytesSpec) (k := Rows.uptoSmall) rfl false ⟨#[], #[.agg #[.bool false, .slice none 0 0, .slice none 0 0, .slice none 0 0]], []⟩ 8 (by kernel_rfl) (by kernel_rfl) (by kernel_rfl)
      (x := ([.agg [.lit (.bool false), .nil, .nil, .nil]], [], [])) (by kernel_rfl) rfl (by kernel_rfl)) ?_
  intro W base args ds gs before hval hW _ hk _
  exact contract H enc W base args ds gs before hval hW hk

theorem proved : Rows.NodeBytesUptoSaid :=
  OpenClaim.holds_of_cond 5 Try.f5 rfl rfl rfl rfl rfl rfl rfl ⟨rfl, rfl, rfl, rfl, rfl⟩ rfl rfl rfl rfl rfl (by kernel_rfl) Try.func5 (by kernel_rfl)
    (of_decide_eq_true (by kernel_rfl)) (by unfold Func.isWrapper; first | (rw [if_pos (by decide +kernel)]; kernel_rfl) | (rw [if_neg (by decide +kernel)]; exact ⟨rfl, rfl⟩))
    (fun os started H enc _ F => lifted os started H enc F)
#print axioms proved

end NodeBytes

theorem nodeBytes_holds : Rows.NodeBytesUptoSaid := NodeBytes.proved
end Go.Proofs.Ythdopgejikcfbaa
