/- A definition that may run may run without its last step, if no other one waits for it: for every definition; the argument reads afterwards as before. No condition. -/
import Derived.Test.YthbfgeaojgfafaaRows
import Derived.Test.YthbfgeaojgfafaaChW
import Derived.Test.YthbfgeaojgfafaaChOpn
import Derived.OpenShut
import Derived.ShutString
namespace Go.Proofs.Ythbfgeaojgfafaa
open Go Go.RowKit

namespace CheckFewer

theorem toList_inj {a b : ByteArray} (h : a.toList = b.toList) : a = b := by
  rw [ByteArray.toList_eq, ByteArray.toList_eq] at h
  exact WideShapes.bytes_inj h

/-- The first steps of a list. -/
theorem DefAt.front {w : World} {a : Option Addr} {ss : List Stp} {z : Stp} (h : DefAt w a (ss ++ [z])) : DefAt w a ss := by
  refine ⟨⟨flat_length (f := Stp.cs) (n := 9) (fun _ => rfl) ss, fun ha => ?_, fun b hb j u hu => h.src.2.2 b hb j u ?_⟩, fun h0 => h.spot (by simp), fun k h0 => h.lt k (by simp), fun s hs => h.all s (List.mem_append_left _ hs), by have := h.bnd; simp at this; omega⟩
  · have := h.src.2.1 ha; simp at this
  · rw [List.flatMap_append, List.getElem?_append_left (List.getElem?_eq_some_iff.1 hu).1]; exact hu

def Rel1 (W1 : World) (ss : List Stp) (z : Stp) (c : Value) (wr : World) : Prop :=
  ∃ k : Nat, k ≤ ss.length ∧ c = .int .i64 k ∧ (∀ j, j < k → ∀ s, ss[j]? = some s → ∀ x ∈ s.after, x ≠ z.name) ∧ Mod (fun _ => False) W1 wr

set_option maxRecDepth 100000 in
set_option maxHeartbeats 1000000 in
theorem walk (W : World) (nm : ByteArray) (a : Option Addr) (cap : Nat) (ss : List Stp) (hd : DefAt W a ss) (_hn : ∀ s ∈ ss, Near s) (hcap : ss.length ≤ cap) (_hmax : cap ≤ maxLen) :
    Calls Try.prog 6 #[.agg #[.string nm, .slice a ss.length cap]] W fun e w' => e = .returned (.bool true) ∧ Below W.heap.size W w' := by
  have hb := hd.bnd
  have HD := hid hd
  have hm1 : Mod (fun _ => False) W (W.alloc (.cells #[.string nm, .slice a ss.length cap] 28)) := (Mod.refl _ _).alloc _
  have hbox : (W.alloc (.cells #[.string nm, .slice a ss.length cap] 28)).heap[W.heap.size]? = some (.cells #[.string nm, .slice a ss.length cap] 28 (0, 0)) := heap_alloc_new _ _
  have HD1 := hid (hd.mod hm1 (fun _ _ h => h))
  have Hm1 := hid hm1
  have Hbox := hid hbox
  clear hd hm1 hbox _hn _hmax
  by_cases h0 : ss.length = 0
  · have d0 : ((ss.length : Int) == 0) = true := by simp [h0]
    clear h0
    go_enter Try.func6, Try.ntmps6
    go_wp2_with (go_at_call 10; refine (wakes_yes _).mono ?_; rintro e w3 ⟨rfl, hm3⟩; have M3 := hid hm3; clear hm3)
    go_ret
    exact ⟨rfl, (Hm1.out.trans M3.out).below (Nat.le_refl _) (fun _ h => h.elim)⟩
  have d0 : ((ss.length : Int) == 0) = false := by rw [beq_eq_false_iff_ne]; omega
  by_cases h60 : 60 < ss.length
  · have d1 : decide ((60 : Int) < (ss.length : Int)) = true := by simp; omega
    go_enter Try.func6, Try.ntmps6
    go_wp2_with (go_at_call 10; refine (wakes_yes _).mono ?_; rintro e w3 ⟨rfl, hm3⟩; have M3 := hid hm3; clear hm3)
    go_ret
    exact ⟨rfl, (Hm1.out.trans M3.out).below (Nat.le_refl _) (fun _ h => h.elim)⟩
  have d1 : decide ((60 : Int) < (ss.length : Int)) = false := by simp; omega
  have HC := hid (check_any nm cap HD1.out)
  generalize hC : checkF ss = C at HC
  by_cases hC0 : C = 0
  · have e0 : (C != 0) = false := by simp [hC0]
    obtain ⟨pp, z, hz⟩ : ∃ pp z, ss = pp ++ [z] := by
      rcases List.eq_nil_or_concat ss with h | ⟨pp, z, h⟩
      · rw [h] at h0; simp at h0
      · exact ⟨pp, z, by simpa using h⟩
    obtain ⟨n, hn⟩ : ∃ n, ss.length = n + 1 := ⟨ss.length - 1, by omega⟩
    have hpn : pp.length = n := by rw [hz] at hn; simpa using hn
    have hzn : ss[n]? = some z := by rw [hz, ← hpn]; simp
    have HCC := hid (hC.trans hC0)
    obtain ⟨g, off, rfl⟩ := HD.out.some (by omega)
    have HZ := hid hz
    have HPN := hid hpn
    have HZN := hid hzn
    have HN := hid hn
    clear hC hC0 hz hpn hzn
    rw [hn] at HC Hbox HD1 d0 d1 hcap hb h0 h60 Hm1
    rw [hn]
    clear hn
    have d0' : ((n : Int) + 1 == 0) = false := by rw [beq_eq_false_iff_ne]; omega
    have d1' : decide ((60 : Int) < (n : Int) + 1) = false := by rw [decide_eq_false_iff_not]; omega
    clear d0 d1
    go_enter Try.func6, Try.ntmps6
    go_wp2_with fail
    generalize W.alloc (.cells #[.string nm, .slice (some ⟨g, off, none⟩) (n + 1) cap] 28) = W1 at *
    refine HC.out.mono ?_
    rintro e w2 ⟨rfl, hm2⟩
    have Hm2 := hid hm2
    have Hbox2 := hid ((hm2.block _ (lt_of_heap Hbox.out) (fun h => h)).trans Hbox.out)
    obtain ⟨v0, v1⟩ := cells2 Hbox2.out
    clear hm2
    go_wp2_with fail
    go_loopw [26] (fun c wr => Rel1 w2 ss z c wr) (fun c _ => n + 1 - (intOf c).toNat)
    case atStart => exact ⟨0, Nat.zero_le _, rfl, fun j hj => by omega, Mod.refl _ _⟩
    case round =>
      obtain ⟨k, hk, rfl, hno, hm⟩ := hrel
      have hk' : k ≤ n + 1 := by rw [← HN.out]; exact hk
      have Hno := hid hno
      have Hm := hid hm
      have HMW := hid ((Hm1.out.trans Hm2.out).trans hm)
      clear hno hm hk
      by_cases hlt : k < n + 1
      · obtain ⟨s, hs⟩ : ∃ s, ss[k]? = some s := ⟨_, List.getElem?_eq_getElem (by rw [HN.out]; exact hlt)⟩
        obtain ⟨q0, q1, q2, q3, q4, q5, q6, q7, q8⟩ := (HD.out.mod HMW.out (fun _ _ h => h)).cells hs
        have hok := HD.out.all s (List.mem_of_getElem? hs)
        have hbd := hok.bnd
        have HOk := hid hok
        have Hs := hid hs
        clear hs hok
        go_wp2_with fail
        have hm0 : Mod (fun _ => False) wr (wr.alloc (.cells #[.string s.name, .string s.verb, .string s.undo, .string s.event, .bool s.final, .int .i64 s.retry, .int .i64 s.every, .int .i64 s.within, .slice s.aa s.after.length s.ac] 31)) := (Mod.refl _ _).alloc _
        have Hm0 := hid hm0
        clear hm0 q0 q1 q2 q3 q4 q5 q6 q7 q8
        generalize wr.alloc (.cells #[.string s.name, .string s.verb, .string s.undo, .string s.event, .bool s.final, .int .i64 s.retry, .int .i64 s.every, .int .i64 s.within, .slice s.aa s.after.length s.ac] 31) = W4 at *
        have HM4 := hid (HMW.out.trans Hm0.out)
        obtain ⟨y0, y1⟩ := cells2 (((Hm.out.trans Hm0.out).block _ (lt_of_heap Hbox2.out) (fun h => h)).trans Hbox2.out)
        obtain ⟨z0, _⟩ := (HD.out.mod HM4.out (fun _ _ h => h)).cells HZN.out
        go_loop [33] (fun c => ∃ j : Nat, j ≤ s.after.length ∧ c = .int .i64 j ∧ ∀ i, i < j → ∀ x, s.after[i]? = some x → x ≠ z.name) (fun c => s.after.length - (intOf c).toNat)
        case atStart => exact ⟨0, Nat.zero_le _, rfl, fun i hi => by omega⟩
        case round =>
          obtain ⟨j, hj, rfl, hjn⟩ := hrel
          have Hjn := hid hjn
          clear hjn
          by_cases hjl : j < s.after.length
          · obtain ⟨x, hx⟩ : ∃ x, s.after[j]? = some x := ⟨_, List.getElem?_eq_getElem hjl⟩
            obtain ⟨ga, oa, haa⟩ := HOk.out.some (by omega)
            have hc := (HOk.out.mod HM4.out (fun _ _ h => h)).cell haa hx
            have Hx := hid hx
            rw [haa]
            have HA := hid haa
            clear haa hx
            by_cases hxz : x = z.name
            · have ex : (x.toList == z.name.toList) = true := by simp [hxz]
              clear hxz
              go_wp2_with (go_at_call 10; refine (wakes_yes _).mono ?_; rintro e w3 ⟨rfl, hm3⟩; have M3 := hid hm3; clear hm3)
              go_ret
              exact ⟨rfl, (HM4.out.trans M3.out).below (Nat.le_refl _) (fun _ h => h.elim)⟩
            · have ex : (x.toList == z.name.toList) = false := by
                cases h : (x.toList == z.name.toList)
                · rfl
                · exact absurd (toList_inj (by simpa using h)) hxz
              have Hxz := hid hxz
              clear hxz
              go_wp2_with fail
              go_round
              case rel =>
                refine ⟨j + 1, by omega, by go_num, fun i hi y hy => ?_⟩
                rcases Nat.lt_or_ge i j with h | h
                · exact Hjn.out i h y hy
                · have : i = j := by omega
                  subst this
                  rw [Hx.out] at hy
                  cases hy
                  exact Hxz.out
              case measure => simp [intOf]; omega
          · go_wp2_with fail
            go_roundw
            case rel =>
              refine ⟨k + 1, by rw [HN.out]; omega, by go_num, fun i hi t ht x hx => ?_, Hm.out.trans Hm0.out⟩
              rcases Nat.lt_or_ge i k with h | h
              · exact Hno.out i h t ht x hx
              · have : i = k := by omega
                subst this
                rw [Hs.out] at ht
                cases ht
                obtain ⟨j', hj'⟩ := List.getElem?_of_mem hx
                exact Hjn.out j' (by have := (List.getElem?_eq_some_iff.1 hj').1; omega) x hj'
            case measure => simp [intOf]; omega
      · obtain ⟨y0, y1⟩ := cells2 ((Hm.out.block _ (lt_of_heap Hbox2.out) (fun h => h)).trans Hbox2.out)
        have hfew : checkF pp = 0 := check_fewer (by rw [← HZ.out]; exact HCC.out) (fun s hs x hx => by
          rw [← HZ.out] at hs
          obtain ⟨i, hi⟩ := List.getElem?_of_mem hs
          exact Hno.out i (by have := (List.getElem?_eq_some_iff.1 hi).1; rw [HN.out] at this; omega) s hi x hx)
        have hDp : DefAt W (some ⟨g, off, none⟩) pp := DefAt.front (z := z) (by rw [← HZ.out]; exact HD.out)
        have HF : Hid (∀ x : Ext wr, Calls Try.prog 11 #[.agg #[.string nm, .slice (some ⟨g, off, none⟩) n cap]] x.val fun e w' => e = .returned (.int .i64 0) ∧ Mod (fun _ => False) x.val w') := fun x => by
          have := check_any nm cap (hDp.mod (HMW.out.trans x.mod) (fun _ _ h => h))
          rw [hfew, HPN.out] at this
          exact this
        have u0 : ∀ x : Ext wr, x.val.cell? ⟨W.heap.size, 0, none⟩ = some (.string nm) := fun x => x.cell y0
        have u1 : ∀ x : Ext wr, x.val.cell? ⟨W.heap.size, 1, none⟩ = some (.slice (some ⟨g, off, none⟩) (n + 1) cap) := fun x => x.cell y1
        clear hfew hDp y0 y1 v0 v1
        go_wp2_with fail
        refine wp_region_ext (by kernel_rfl) (by kernel_rfl) ?_
        repeat (go_big_quiet_step ((first | (go_at_call 10; exact ext_call (wakes_yes _)) | (go_at_call 11; exact ext_call (HF.out _)))))
        refine wpQuiet_nil ?_
        rintro _ ⟨x, rfl⟩
        go_wp2_with fail
        go_ret
        exact ⟨rfl, (HMW.out.trans x.mod).below (Nat.le_refl _) (fun _ h => h.elim)⟩
  · have e0 : (C != 0) = true := by simp [hC0]
    have HCC := hid hC
    clear hC hC0
    go_enter Try.func6, Try.ntmps6
    go_wp2_with fail
    refine HC.out.mono ?_
    rintro e w2 ⟨rfl, hm2⟩
    have Hm2 := hid hm2
    clear hm2
    go_wp2_with (go_at_call 10; refine (wakes_yes _).mono ?_; rintro e w3 ⟨rfl, hm3⟩; have M3 := hid hm3; clear hm3)
    go_ret
    exact ⟨rfl, ((Hm1.out.trans Hm2.out).trans M3.out).below (Nat.le_refl _) (fun _ h => h.elim)⟩

open Go.ChangeShapes Go.WideShapes Go.ChangeAt Go.ChangeMaps
theorem own : ownKnob Try.prog.godebug = none := by kernel_rfl
theorem laidOut : laidOutB Try.prog = true := by kernel_rfl

set_option maxRecDepth 100000 in
theorem lifted (os : Os) (started : os.Started) (H : Type) (enc : TypeId × Value → H) :
    ReturnsInHanded {} Try.checked os 6 .any (Rows.checkFewerSpec.pre6 enc Try.prog Try.f6 Rows.checkFewerRow.domain false) (Rows.checkFewerSpec.post enc Try.prog Try.f6 false true false false) := by
  refine returnsInHanded_of_change_sized (C := Try.checked) own started (by kernel_rfl) Try.func6
    (ChangeSpec.witness6 (enc := enc) (C := Try.checked) false ⟨#[], #[.agg #[.string ⟨#[]⟩, .slice none 0 0]], []⟩ 8 (by kernel_rfl) (by kernel_rfl) (by kernel_rfl) (by kernel_rfl)) ?_
  intro W base args ds gs before hval0 hW hcnd hsz0 _
  have hsz : (DataW.weightsEach Try.prog (Try.f6.params.toList ++ Rows.checkFewerSpec.plain.varTypes Try.prog) (ds ++ gs)).all (· ≤ reachBytes) = true := hsz0
  clear hsz0
  have hval : ∀ (j : Nat) t v, Try.f6.params[j]? = some t → args[j]? = some v → Value.okWide Try.prog W .any base t v := hval0
  have hW' := hW
  obtain ⟨p, q, hA0, hV, rfl, hfz, hnd⟩ := hW
  have hA : DataW.TrodAll enc Try.prog W 0 (fun _ => true) true Try.f6.params.toList args.toList ds p := hA0
  rw [Try.params6] at hA hval hsz
  obtain ⟨v0, vs0, d0, ds0, p0, q0, hargs, rfl, rfl, h0, r0⟩ := trodAll_cons hA
  obtain ⟨rfl, rfl, rfl⟩ := trodAll_nil r0
  obtain rfl : args = #[v0] := by cases args; simp_all
  obtain ⟨rfl, rfl⟩ := trodVars_none hV
  have lt0 : ∀ x ∈ p0, x.block < W.heap.size := by obtain ⟨m, hm⟩ := h0; exact DataW.trod_lt m _ _ _ hm
  have hsz' : (DataW.weightsEach Try.prog [28] [d0]).all (· ≤ reachBytes) = true := hsz
  obtain ⟨x0a, x0b, x0c, x0d, rfl, f0a, f0b, f0c, f0d⟩ := def_of (hval 0 28 v0 rfl rfl) h0 (fits_of_each hsz' (j := 0) rfl rfl)
  clear hA0 hval0
  refine (walk W x0a x0b x0c x0d f0a f0b f0c f0d).mono fun e W' ⟨he, bel⟩ => ?_
  subst he
  exact ⟨_, rfl, _, _, _, [], _, [], hW', trodAll_mk1 (shut_bool Try.underlying4 _), (trodAll_cons_mk (Below.trod laidOut (by kernel_rfl) (of_decide_eq_true (by kernel_rfl)) h0 bel lt0) trodAll_mk0), rfl, bel.frame _, fun h => by cases h⟩

theorem over : Rows.checkFewerRow.holds Try.pinned (OpenSpec.ofChange Rows.checkFewerSpec) :=
  OpenClaim.holds_of_wide 6 Try.f6 rfl rfl rfl rfl rfl rfl rfl ⟨rfl, rfl, rfl, rfl, rfl⟩ rfl rfl rfl rfl rfl (by kernel_rfl) Try.func6 (by kernel_rfl)
    (of_decide_eq_true (by kernel_rfl)) (by unfold Func.isWrapper; first | (rw [if_pos (by decide +kernel)]; kernel_rfl) | (rw [if_neg (by decide +kernel)]; exact ⟨rfl, rfl⟩))
    (fun os started H enc _ => lifted os started H enc)

theorem proved : Rows.CheckFewerSaid := over
#print axioms proved


end CheckFewer

theorem checkFewer_holds : Rows.CheckFewerSaid := CheckFewer.proved
#print axioms checkFewer_holds

end Go.Proofs.Ythbfgeaojgfafaa
