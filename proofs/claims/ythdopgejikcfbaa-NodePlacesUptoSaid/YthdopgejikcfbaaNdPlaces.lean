/- Where a key belongs is the document's answer: for every keys and key of a bulk of 1048576 at the most; the arguments read afterwards as before. -/
import Derived.Test.YthdopgejikcfbaaRows
import Derived.Test.YthdopgejikcfbaaRef8
import Derived.Test.YthdopgejikcfbaaUp
import Derived.OpenShut
import Derived.JoinedCond
namespace Go.Proofs.Ythdopgejikcfbaa
open Go Go.RowKit

namespace NodePlaces
open Go.ChangeShapes Go.WideShapes Go.ChangeAt
attribute [local go_sem] binOp_string_geq

/-- The law's node. -/
def nd (ls : List ByteArray) (a : Option Addr) (cap : Nat) : Nd := ⟨true, ls, [], [], a, cap, none, 0, none, 0⟩

theorem at_range {ks : List ByteArray} {key : ByteArray} {i : Nat} (h : At ks key i) (ok : Bool) : (if ok = true then (i : Int) else ((i - 1 : Nat) : Int)) ≤ (ks.length : Int) := by
  have := h.le
  split <;> omega

set_option maxRecDepth 100000 in
set_option maxHeartbeats 1000000 in
theorem walk (W : World) (a : Option Addr) (cap : Nat) (ls : List ByteArray) (hl : Lies W 1 (fun x => [.string x]) a ls) (hq : ∀ x ∈ ls, x.size ≤ 1048576) (hz : ls.length ≤ 1048576) (key : ByteArray) (_hs : key.size ≤ 1048576) :
    Calls Try.prog 3 #[.slice a ls.length cap, .string key] W fun e w' => e = .returned (.bool true) ∧ Below W.heap.size W w' := by
  have HL := hid hl
  have HQ := hid hq
  clear hl hq
  go_enter Try.func3, Try.ntmps3
  go_wp2_with fail
  go_loopw [5] (fun c wr => ∃ k : Nat, k ≤ ls.length ∧ c = .int .i64 ((k + 1 : Nat) : Int) ∧ (∀ (i : Nat) (x y : ByteArray), i < k → ls[i]? = some x → ls[i + 1]? = some y → Op.bytesLess x.toList y.toList = true) ∧ Mod (fun _ => False) W wr) (fun c _ => ls.length + 2 - (intOf c).toNat)
  case atStart => exact ⟨0, Nat.zero_le _, rfl, fun i x y hi => by omega, Mod.refl _ _⟩
  case round =>
    obtain ⟨k, hk, rfl, hup, hmk⟩ := hrel
    have HUp := hid hup
    have HMk := hid hmk
    clear hup hmk
    by_cases hlt : k + 1 < ls.length
    · obtain ⟨x, hx⟩ : ∃ x, ls[k]? = some x := ⟨_, List.getElem?_eq_getElem (by omega)⟩
      obtain ⟨y, hy⟩ : ∃ y, ls[k + 1]? = some y := ⟨_, List.getElem?_eq_getElem hlt⟩
      obtain ⟨g, off, rfl, hc⟩ := (HL.out.ext HMk.out).one hx
      obtain ⟨g', off', he, hc2⟩ := (HL.out.ext HMk.out).one hy
      cases he
      have Hx := hid hx
      have Hy := hid hy
      clear hx hy
      cases hb : Op.bytesLess x.toList y.toList with
      | true =>
        have HB := hid hb
        go_wp2_with fail
        go_quiet (fail)
        go_wp2_with fail
        go_roundw
        case rel =>
          refine ⟨k + 1, by omega, by go_num, fun i u v hi hu hv => ?_, HMk.out.drewN _⟩
          rcases Nat.lt_or_ge i k with h | h
          · exact HUp.out i u v h hu hv
          · have : i = k := by omega
            subst this
            rw [Hx.out] at hu
            rw [Hy.out] at hv
            cases hu
            cases hv
            exact HB.out
        case measure => simp [intOf]; omega
      | false =>
        go_wp2_with fail
        go_quiet (fail)
        go_wp2_with fail
        refine (wakes_yes _).mono ?_
        rintro e w1 ⟨rfl, hm1⟩
        have HM1 := hid ((HMk.out.drewN _).trans hm1)
        clear hm1
        go_wp2_with fail
        go_ret
        exact ⟨rfl, HM1.out.below (Nat.le_refl _) (fun _ h => h.elim)⟩
    · have hr : Rises ls := rises_of (fun i x y hx hy => HUp.out i x y (by have := (List.getElem?_eq_some_iff.1 hy).1; omega) hx hy)
      have HR := hid hr
      clear hr
      have hm : Mod (fun _ => False) wr (wr.alloc (.cells #[.bool true, .slice a ls.length cap, .slice none 0 0, .slice none 0 0] 26)) := (Mod.refl _ _).alloc _
      have hbox : (wr.alloc (.cells #[.bool true, .slice a ls.length cap, .slice none 0 0, .slice none 0 0] 26)).heap[wr.heap.size]? = some (.cells #[.bool true, .slice a ls.length cap, .slice none 0 0, .slice none 0 0] 26 (0, 0)) := heap_alloc_new _ _
      have hn : NdAt wr (nd ls a cap) := ⟨HL.out.ext HMk.out, lies_nil _ _ _ _, lies_nil _ _ _ _, by simp only [nd]; omega, by simp [nd], by simp [nd], fun x hx => by have := HQ.out x hx; omega, fun x hx => by simp [nd] at hx, fun x hx => by simp [nd] at hx⟩
      have hP : Calls Try.prog 10 #[.agg #[.bool true, .slice a ls.length cap, .slice none 0 0, .slice none 0 0], .string key] (wr.alloc (.cells #[.bool true, .slice a ls.length cap, .slice none 0 0, .slice none 0 0] 26)) fun e w' => PlaceAns ls key e ∧ Mod (fun _ => False) (wr.alloc (.cells #[.bool true, .slice a ls.length cap, .slice none 0 0, .slice none 0 0] 26)) w' := place_any (n := nd ls a cap) key (hn.ext hm) HR.out
      have HP := hid hP
      have HN := hid (hn.ext hm)
      have HM := hid (HMk.out.trans hm)
      have HBox := hid hbox
      clear hm hbox hn hP
      go_wp2_with fail
      generalize wr.alloc (.cells #[.bool true, .slice a ls.length cap, .slice none 0 0, .slice none 0 0] 26) = V at *
      refine HP.out.mono ?_
      intro e w1 hA
      obtain ⟨⟨i, ok, hat, hok, he⟩, hm1⟩ := hA
      subst he
      have hR : Calls Try.prog 12 #[.agg #[.bool true, .slice a ls.length cap, .slice none 0 0, .slice none 0 0]] w1 fun e w' => OfAns4 w1 true (nd ls a cap).ents e w' := ref_any (n := nd ls a cap) (HN.out.ext hm1)
      have hbox1 := (hm1.block _ (lt_of_heap HBox.out) (fun h => h)).trans HBox.out
      obtain ⟨b0, b1, b2, b3⟩ := cells4 hbox1
      have HAt := hid hat
      have HOk := hid hok
      have HRf := hid hR
      have HM1 := hid (HM.out.trans hm1)
      have HL2 := hid (ents_len (nd ls a cap))
      have HSame := hid (fun (a' : Nat) (ok' : Bool) (h1 : LastLe (nd ls a cap).ents key (nd ls a cap).ents.length a') (h2 : ok' = true ↔ ∃ x, (nd ls a cap).ents[a']? = some x ∧ x.key = key) => place_same (n := nd ls a cap) HR.out hat hok h1 h2)
      have HI := hid (at_range hat ok)
      generalize (if ok = true then (i : Int) else ((i - 1 : Nat) : Int)) = I at *
      clear hat hok hR hm1 hbox1
      go_wp2_with fail
      refine HRf.out.mono ?_
      intro e w2 hA
      obtain ⟨sa, cap2, he, hl2, hlo, hm2⟩ := hA
      subst he
      have HRp := hid (rplace_any true cap2 key hl2 (by rw [HL2.out]; simp only [nd]; omega))
      have HM2 := hid (HM1.out.trans hm2)
      clear hl2 hlo hm2 b0 b1 b2 b3
      go_wp2_with fail
      refine HRp.out.mono ?_
      intro e w3 hA
      obtain ⟨⟨a', ok', h1, h2, he⟩, hm3⟩ := hA
      subst he
      obtain ⟨e1, e2⟩ := HSame.out a' ok' h1 h2
      subst e1
      subst e2
      have HM3 := hid (HM2.out.trans hm3)
      clear hm3 h1 h2
      go_wp2_with fail
      refine (wakes_yes _).mono ?_
      rintro e w4 ⟨rfl, hm4⟩
      have HM4 := hid (HM3.out.trans hm4)
      clear hm4
      cases ok
      all_goals
        go_wp2_with fail
        go_ret
        exact ⟨rfl, HM4.out.below (Nat.le_refl _) (fun _ h => h.elim)⟩

theorem own : ownKnob Try.prog.godebug = none := by kernel_rfl
theorem laidOut : laidOutB Try.prog = true := by kernel_rfl

theorem contract (H : Type) (enc : TypeId × Value → H) (W : World) (base : Nat) (args : Array Value) (ds gs : List (DataW H)) (before : List MemPlace)
    (hval0 : ∀ (j : Nat) t v, Try.f3.params[j]? = some t → args[j]? = some v → Value.okWide Try.prog W .any base t v)
    (hW : DataW.Whole enc Try.prog Try.f3.params.toList Rows.nodePlacesSpec.vars false W args.toList ds gs before) (hk : Rows.uptoSmall H (ds ++ gs) = true) :
    Calls Try.prog 3 args W fun e W' => ∃ v, e = .returned v ∧ Rows.nodePlacesSpec.post enc Try.prog Try.f3 false true false false W args v W' := by
  have hbk := bulk_all hk
  have hval : ∀ (j : Nat) t v, Try.f3.params[j]? = some t → args[j]? = some v → Value.okWide Try.prog W .any base t v := hval0
  have hW' := hW
  obtain ⟨p, q, hA0, hV, rfl, hfz, hnd⟩ := hW
  have hA : DataW.TrodAll enc Try.prog W 0 (fun _ => true) true Try.f3.params.toList args.toList ds p := hA0
  rw [Try.params3] at hA hval
  obtain ⟨v0, vs0, d0, ds0, p0, q0, hargs, rfl, rfl, h0, r0⟩ := trodAll_cons hA
  obtain ⟨v1, vs1, d1, ds1, p1, q1, rfl, rfl, rfl, h1, r1⟩ := trodAll_cons r0
  obtain ⟨rfl, rfl, rfl⟩ := trodAll_nil r1
  obtain rfl : args = #[v0, v1] := by cases args; simp_all
  obtain ⟨rfl, rfl⟩ := trodVars_none hV
  have lt0 : ∀ x ∈ p0, x.block < W.heap.size := by obtain ⟨m, hm⟩ := h0; exact DataW.trod_lt m _ _ _ hm
  have lt1 : ∀ x ∈ p1, x.block < W.heap.size := by obtain ⟨m, hm⟩ := h1; exact DataW.trod_lt m _ _ _ hm
  obtain ⟨a0, cap0, ls0, rfl, l0, q0, z0⟩ := open_keys (hval 0 22 v0 rfl rfl) h0 (hbk d0 (by simp))
  obtain ⟨s1, rfl, ws1⟩ := open_text (hval 1 9 v1 rfl rfl) h1 (hbk d1 (by simp))
  clear hA0 hval0
  refine (walk W a0 cap0 ls0 l0 q0 z0 s1 ws1).mono fun e W' ⟨he, bel⟩ => ?_
  subst he
  exact ⟨_, rfl, _, _, _, [], _, [], hW', trodAll_mk1 (shut_bool Try.underlying4 _), (trodAll_cons_mk (Below.trod laidOut (by kernel_rfl) (of_decide_eq_true (by kernel_rfl)) h0 bel lt0) (trodAll_cons_mk (Below.trod laidOut (by kernel_rfl) (of_decide_eq_true (by kernel_rfl)) h1 bel lt1) trodAll_mk0)), rfl, bel.frame _, fun h => by cases h⟩

set_option maxRecDepth 100000 in
theorem lifted (os : Os) (started : os.Started) (H : Type) (enc : TypeId × Value → H) (F : Stop.Interp) :
    ReturnsInHanded {} Try.checked os 3 .any ((Rows.OpenSpec.upto Rows.nodePlacesSpec).pre6 enc Try.prog Try.f3 Rows.nodePlacesUptoRow.domain false) (((Rows.OpenSpec.upto Rows.nodePlacesSpec).at F).post enc Try.prog Try.f3 false true false false) := by
  refine returnsInHanded_of_cond (C := Try.checked) (s := Rows.OpenSpec.upto Rows.nodePlacesSpec) (k := Rows.uptoSmall) rfl own started (by kernel_rfl) Try.func3
    (OpenSpec.witness (enc := enc) (C := Try.checked) (s := Rows.OpenSpec.upto Rows.nodePlacesSpec) (k := Rows.uptoSmall) rfl false ⟨#[], #[.slice none 0 0, .string .empty], []⟩ 8 (by kernel_rfl) (by kernel_rfl) (by kernel_rfl)
      (x := ([.nil, .lit (.string [])], [], [])) (by kernel_rfl) rfl (by kernel_rfl)) ?_
  intro W base args ds gs before hval hW _ hk _
  exact contract H enc W base args ds gs before hval hW hk

theorem proved : Rows.NodePlacesUptoSaid :=
  OpenClaim.holds_of_cond 3 Try.f3 rfl rfl rfl rfl rfl rfl rfl ⟨rfl, rfl, rfl, rfl, rfl⟩ rfl rfl rfl rfl rfl (by kernel_rfl) Try.func3 (by kernel_rfl)
    (of_decide_eq_true (by kernel_rfl)) (by unfold Func.isWrapper; first | (rw [if_pos (by decide +kernel)]; kernel_rfl) | (rw [if_neg (by decide +kernel)]; exact ⟨rfl, rfl⟩))
    (fun os started H enc _ F => lifted os started H enc F)
#print axioms proved

end NodePlaces

theorem nodePlaces_holds : Rows.NodePlacesUptoSaid := NodePlaces.proved
end Go.Proofs.Ythdopgejikcfbaa
