/- A bus takes just 4096 letters and refuses more; a nil bus refuses; a list that is answered is new memory: for every number; the argument reads afterwards as before. No condition. -/
import Derived.Test.YtppemlofjbblfaaRows
import Derived.Test.YtppemlofjbblfaaBusW
import Derived.Test.YtppemlofjbblfaaOpen
import Derived.OpenShut
import Derived.ShutString
namespace Go.Proofs.Ytppemlofjbblfaa
open Go Go.RowKit

namespace BusFull

def mk (i : Nat) : Let := ⟨i + 1, 0, i, 0, 0, 0, 0, ByteArray.empty⟩
def lsF (k : Nat) : List Let := (List.range k).map mk
theorem lsF_len (k : Nat) : (lsF k).length = k := by simp [lsF]
theorem lsF_succ (k : Nat) : lsF (k + 1) = lsF k ++ [mk k] := by simp [lsF, List.range_succ]
theorem lsF_get (k i : Nat) (h : i < k) : (lsF k)[i]? = some (mk i) := by simp [lsF, h]

theorem erased_len : ((lsF 4096).eraseIdx 7).length = 4095 := by rw [List.length_eraseIdx, lsF_len]; rfl
theorem erased_get : ((lsF 4096).eraseIdx 7)[0]? = some (mk 0) := by rw [List.getElem?_eraseIdx, if_pos (by omega), lsF_get _ _ (by omega)]

/-- A bus with these letters, in memory of the call's own. -/
def St (W w : World) (b : Nat) (ls : List Let) (next : Int) : Prop :=
  ∃ sa cap, BusAt 58 28 w b sa cap ls next ∧ (∀ k, busF b sa k → W.heap.size ≤ k) ∧ Mod (fun k => W.heap.size ≤ k) W w

theorem St.ext {W w w' : World} {b : Nat} {ls : List Let} {next : Int} (h : St W w b ls next) (hm : Mod (fun _ => False) w w') : St W w' b ls next := by
  obtain ⟨sa, cap, h1, h2, h3⟩ := h
  exact ⟨sa, cap, h1.mod hm (fun _ _ h => h), h2, h3.then hm (fun _ _ h => h.elim)⟩

theorem St.step {W w w' : World} {b : Nat} {sa : Option Addr} {cap : Nat} {ls ls' : List Let} {next next' : Int} (h1 : BusAt 58 28 w b sa cap ls next) (h2 : ∀ k, busF b sa k → W.heap.size ≤ k) (h3 : Mod (fun k => W.heap.size ≤ k) W w) (hs : BusStep 58 28 w w' b sa ls' next') : St W w' b ls' next' := by
  obtain ⟨sa', cap', hat, hm, hb⟩ := hs
  have hw := h3.size
  refine ⟨sa', cap', hat, fun k hk => ?_, h3.then hm (fun k _ h => h2 k h)⟩
  rcases hk with rfl | hk
  · exact h2 _ (Or.inl rfl)
  · rcases hb k hk with h | h
    · exact h2 k (Or.inr h)
    · omega

theorem St.opened {W w : World} {b : Nat} {ls : List Let} {next : Int} (h : St W w b ls next) : ∃ sa cap, BusAt 58 28 w b sa cap ls next ∧ (∀ k, busF b sa k → W.heap.size ≤ k) ∧ Mod (fun k => W.heap.size ≤ k) W w ∧ ∀ (w' : World) (ls' : List Let) (n' : Int), BusStep 58 28 w w' b sa ls' n' → St W w' b ls' n' := by
  obtain ⟨sa, cap, h1, h2, h3⟩ := h
  exact ⟨sa, cap, h1, h2, h3, fun _ _ _ hs => St.step h1 h2 h3 hs⟩

def R1 (W : World) (b : Nat) (c : Value) (wr : World) : Prop := ∃ k : Nat, k ≤ 4096 ∧ c = .int .i64 k ∧ St W wr b (lsF k) (k + 1)
def R2 (W : World) (b m : Nat) (c : Value) (wr : World) : Prop := ∃ k : Nat, k ≤ m ∧ c = .int .i64 k ∧ St W wr b (lsF 4096) 4097

set_option maxRecDepth 100000 in
set_option maxHeartbeats 2000000 in
theorem walk (W : World) (more : Int) (hlo : -9223372036854775808 ≤ more) (hhi : more ≤ 9223372036854775807) :
    Calls Try.prog 4 #[.int .i64 more] W fun e w' => e = .returned (.bool true) ∧ Below W.heap.size W w' := by
  have d0 : ((0 : Int) != 0) = false := by decide
  have d1 : ((1 : Int) != 1) = false := by decide
  have d2 : ((72 : Int) != 72) = false := by decide
  go_enter Try.func4, Try.ntmps4
  go_wp2_with (first | (go_at_call 11; refine (send_nil _ _ _ _ _ _ _ _ _).mono ?_; rintro e w1 ⟨rfl, hm1⟩; have M1 := hid hm1; clear hm1) | (go_at_call 14; refine (take_nil _ _).mono ?_; rintro e w2 ⟨rfl, hm2⟩; have M2 := hid hm2; clear hm2) | (go_at_call 13; refine (double_nil _ _).mono ?_; rintro e w' ⟨rfl, rfl⟩) | (go_at_call 9; refine (wakes_yes _).mono ?_; rintro e w3 ⟨rfl, hm3⟩; have M3 := hid hm3; clear hm3) | (go_at_call 15; refine (len_nil _).mono ?_; rintro e w' ⟨rfl, rfl⟩) | (go_at_call 16; refine (next_nil _).mono ?_; rintro e w' ⟨rfl, rfl⟩) | (go_at_call 12; refine (list_nil _).mono ?_; rintro e w' ⟨rfl, rfl⟩) | (go_at_call 10; refine (new_any _).mono ?_; rintro e w4 ⟨rfl, hat4, hm4⟩; have A4 := hid hat4; have M4 := hid hm4; clear hat4 hm4))
  have hs1 := M1.out.size
  have hs2 := M2.out.size
  have hs3 := M3.out.size
  have hs4 := M4.out.size
  simp only [World.size_alloc] at hs3
  have HS : Hid (St W w4 w3.heap.size [] 1) := ⟨none, 0, A4.out, fun k h => by rcases h with rfl | h; omega; exact (blk_none _ h).elim, ((((M1.out.trans M2.out).alloc _).trans M3.out).trans M4.out).mono fun _ _ h => h.elim⟩
  clear M1 M2 M3 M4 A4
  go_loopw [68] (fun c wr => R1 W w3.heap.size c wr) (fun c _ => 4096 - (intOf c).toNat)
  case atStart => exact ⟨0, by omega, rfl, HS.out⟩
  case round =>
    obtain ⟨k, hk, rfl, hst⟩ := hrel
    by_cases hlt : k < 4096
    · obtain ⟨sa, cap, h1, _, _, h2⟩ := hst.opened
      have HX := hid h2
      clear hst
      have Hs := hid (send_ok w3.heap.size sa cap ((k : Int) + 1) wr (lsF k) 0 0 k 0 0 0 0 ByteArray.empty h1 (by rw [lsF_len]; exact hlt) (by omega) (by omega))
      have e1 : ((k : Int) + 1 != (k : Int) + 1) = false := by simp
      clear h1 h2
      go_wp2_with (go_at_call 11; refine Hs.out.mono ?_; rintro e w5 ⟨rfl, hst5⟩; have HX5 := hid (HX.out _ _ _ hst5); clear hst5)
      go_roundw
      case rel => exact ⟨k + 1, by omega, by go_num, by rw [lsF_succ]; have := HX5.out; simpa [mk] using this⟩
      case measure => simp [intOf]; omega
    · obtain rfl : k = 4096 := by omega
      rw [show ((4096 : Nat) : Int) = 4096 from rfl]
      have Hst := hid hst
      clear hst
      by_cases hpos : 0 < more
      · have hmx : max 0 more = more := by omega
        go_wp2_with fail
        obtain ⟨m, hm⟩ : ∃ m : Nat, more % 5 = (m : Int) := ⟨(more % 5).toNat, by omega⟩
        rw [hm]
        have hm5 : m < 5 := by omega
        clear hm hmx
        go_loopw [90] (fun c wr => R2 W w3.heap.size m c wr) (fun c _ => m - (intOf c).toNat)
        case atStart => exact ⟨0, Nat.zero_le _, rfl, Hst.out⟩
        case round =>
          obtain ⟨k, hk, rfl, hst⟩ := hrel
          by_cases hlt : k < m
          · have c1 : decide ((k : Int) < (m : Int)) = true := by simp; omega
            obtain ⟨sa, cap, hb, _⟩ := hst.opened
            have Hst := hid hst
            have Hs := hid (send_full w3.heap.size sa cap 4097 wr (lsF 4096) 0 0 0 0 0 0 0 ByteArray.empty hb (by rw [lsF_len]; exact Nat.le_refl _))
            have HB := hid hb
            clear hst hb
            go_wp2_with (go_at_call 11; refine Hs.out.mono ?_; rintro e w5 ⟨rfl, hm5⟩; have M5 := hid hm5; clear hm5)
            refine (double_full (HB.out.mod M5.out (fun _ _ h => h)) 3 (by rw [lsF_len]; omega) (by rw [lsF_len]; exact Nat.le_refl _)).mono ?_
            rintro e w6 ⟨rfl, hm6⟩
            have M6 := hid hm6
            clear hm6
            go_wp2_with fail
            go_roundw
            case rel => exact ⟨k + 1, by omega, by go_num, (Hst.out.ext M5.out).ext M6.out⟩
            case measure => simp [intOf]; omega
          · have c1 : decide ((k : Int) < (m : Int)) = false := by simp; omega
            obtain ⟨sa, cap, hb, hF, hMW, _⟩ := hst.opened
            have HF := hid hF
            have HM := hid hMW
            have HB := hid hb
            have Hl := hid (list_any hb (by rw [lsF_len]; omega))
            clear hst hb hF hMW
            go_wp2_with fail
            refine Hl.out.mono ?_
            rintro e w6 ⟨la, lc, rfl, hown6, hm6, hbk6⟩
            obtain ⟨g, off, rfl⟩ := own_some hown6 (by rw [lsF_len]; omega)
            have hg := hbk6 g ⟨_, rfl, rfl⟩
            have t0 := hown6.elem Let.len (lsF_get 4096 7 (by omega)) (j := 2) rfl
            have t1 := hown6.frozen (off + 7 * 8 + 2)
            rw [lsF_len]
            have HB6 := hid (HB.out.mod hm6 (fun _ _ h => h))
            have HM6 := hid hm6
            clear hown6 hm6 hbk6
            have i1 : (7 : Int) < (4096 : Int) := by omega
            go_wp2_with fail
            have HB7 := hid (HB6.out.mod (S := fun k => k = g) (Mod.setCell (S := fun k => k = g) (Mod.refl _ w6) (p := ⟨g, off + 7 * 8 + 2, none⟩) (fun _ => rfl) (.int .i64 (-7))) (fun k h h2 => by have := HB.out.lt k h; omega))
            refine (take_ok HB7.out 7 (lsF_get 4096 7 (by omega)) (by rw [lsF_len]; exact Nat.le_refl _)).mono ?_
            rintro e w8 ⟨rfl, hst8⟩
            obtain ⟨sb, cb, hat8, hm8, hbk8⟩ := hst8
            have HB8 := hid hat8
            have HM8 : Hid (Mod (fun k => W.heap.size ≤ k) W w8) := by
              have hz := HM.out.size
              have h1 : Mod (fun k => W.heap.size ≤ k) W (w6.setCell ⟨g, off + 7 * 8 + 2, none⟩ (.int .i64 (-7))) := (HM.out.then HM6.out (fun _ _ h => h.elim)).setCell (fun _ => show W.heap.size ≤ g by omega) _
              exact h1.then hm8 (fun k _ h => HF.out k h)
            have hbF : ∀ k, busF w3.heap.size sb k → W.heap.size ≤ k := by
              rintro k (rfl | h)
              · omega
              · rcases hbk8 k h with h | h
                · exact HF.out k (Or.inr h)
                · have hz := HM.out.size
                  have hz6 := HM6.out.size
                  simp at h
                  omega
            have HbF := hid hbF
            have HL8 := hid (heap_alloc_new w8 (.cells #[.int .i64 8, .int .i64 0, .int .i64 7, .int .i64 0, .int .i64 0, .int .i64 0, .int .i64 0, .string ByteArray.empty] 28))
            clear hat8 hm8 hbk8 hbF
            go_wp2_with fail
            refine (double_ok (HB8.out.mod (S := fun _ => False) ((Mod.refl _ _).alloc _) (fun _ _ h => h)) 0 erased_get (by rw [erased_len]; omega) (by decide) (by decide)).mono ?_
            rintro e w9 ⟨rfl, sc, cc, hat9, hm9, hbk9⟩
            have hL9 := (hm9.block w8.heap.size (lt_of_heap HL8.out) (fun h => by have := HB8.out.lt _ h; omega)).trans HL8.out
            have l2 := (cells8 hL9).2.2.1
            have Hlen : Hid (Calls Try.prog 15 #[.pointer (some ⟨w3.heap.size, 0, none⟩)] w9 fun e w' => e = .returned (.int .i64 4096) ∧ w9 = w') := by have h := len_any hat9; rw [List.length_append, erased_len] at h; exact h
            have HM9 : Hid (Mod (fun k => W.heap.size ≤ k) W w9) := (HM8.out.alloc _).then hm9 (fun k _ h => HbF.out k h)
            clear hat9 hm9 hbk9 hL9
            go_wp2_with (go_at_call 15; refine Hlen.out.mono ?_; rintro e w' ⟨rfl, rfl⟩)
            go_ret
            exact ⟨rfl, HM9.out.below (Nat.le_refl _) (fun _ h => h)⟩
      · go_wp2_with fail
        go_loopw [90] (fun c wr => R2 W w3.heap.size 0 c wr) (fun c _ => 0 - (intOf c).toNat)
        case atStart => exact ⟨0, Nat.zero_le _, rfl, Hst.out⟩
        case round =>
          obtain ⟨k, hk, rfl, hst⟩ := hrel
          by_cases hlt : k < 0
          · exact absurd hlt (by omega)
          · have c1 : decide ((k : Int) < 0) = false := by simp
            obtain ⟨sa, cap, hb, hF, hMW, _⟩ := hst.opened
            have HF := hid hF
            have HM := hid hMW
            have HB := hid hb
            have Hl := hid (list_any hb (by rw [lsF_len]; omega))
            clear hst hb hF hMW
            go_wp2_with fail
            refine Hl.out.mono ?_
            rintro e w6 ⟨la, lc, rfl, hown6, hm6, hbk6⟩
            obtain ⟨g, off, rfl⟩ := own_some hown6 (by rw [lsF_len]; omega)
            have hg := hbk6 g ⟨_, rfl, rfl⟩
            have t0 := hown6.elem Let.len (lsF_get 4096 7 (by omega)) (j := 2) rfl
            have t1 := hown6.frozen (off + 7 * 8 + 2)
            rw [lsF_len]
            have HB6 := hid (HB.out.mod hm6 (fun _ _ h => h))
            have HM6 := hid hm6
            clear hown6 hm6 hbk6
            have i1 : (7 : Int) < (4096 : Int) := by omega
            go_wp2_with fail
            have HB7 := hid (HB6.out.mod (S := fun k => k = g) (Mod.setCell (S := fun k => k = g) (Mod.refl _ w6) (p := ⟨g, off + 7 * 8 + 2, none⟩) (fun _ => rfl) (.int .i64 (-7))) (fun k h h2 => by have := HB.out.lt k h; omega))
            refine (take_ok HB7.out 7 (lsF_get 4096 7 (by omega)) (by rw [lsF_len]; exact Nat.le_refl _)).mono ?_
            rintro e w8 ⟨rfl, hst8⟩
            obtain ⟨sb, cb, hat8, hm8, hbk8⟩ := hst8
            have HB8 := hid hat8
            have HM8 : Hid (Mod (fun k => W.heap.size ≤ k) W w8) := by
              have hz := HM.out.size
              have h1 : Mod (fun k => W.heap.size ≤ k) W (w6.setCell ⟨g, off + 7 * 8 + 2, none⟩ (.int .i64 (-7))) := (HM.out.then HM6.out (fun _ _ h => h.elim)).setCell (fun _ => show W.heap.size ≤ g by omega) _
              exact h1.then hm8 (fun k _ h => HF.out k h)
            have hbF : ∀ k, busF w3.heap.size sb k → W.heap.size ≤ k := by
              rintro k (rfl | h)
              · omega
              · rcases hbk8 k h with h | h
                · exact HF.out k (Or.inr h)
                · have hz := HM.out.size
                  have hz6 := HM6.out.size
                  simp at h
                  omega
            have HbF := hid hbF
            have HL8 := hid (heap_alloc_new w8 (.cells #[.int .i64 8, .int .i64 0, .int .i64 7, .int .i64 0, .int .i64 0, .int .i64 0, .int .i64 0, .string ByteArray.empty] 28))
            clear hat8 hm8 hbk8 hbF
            go_wp2_with fail
            refine (double_ok (HB8.out.mod (S := fun _ => False) ((Mod.refl _ _).alloc _) (fun _ _ h => h)) 0 erased_get (by rw [erased_len]; omega) (by decide) (by decide)).mono ?_
            rintro e w9 ⟨rfl, sc, cc, hat9, hm9, hbk9⟩
            have hL9 := (hm9.block w8.heap.size (lt_of_heap HL8.out) (fun h => by have := HB8.out.lt _ h; omega)).trans HL8.out
            have l2 := (cells8 hL9).2.2.1
            have Hlen : Hid (Calls Try.prog 15 #[.pointer (some ⟨w3.heap.size, 0, none⟩)] w9 fun e w' => e = .returned (.int .i64 4096) ∧ w9 = w') := by have h := len_any hat9; rw [List.length_append, erased_len] at h; exact h
            have HM9 : Hid (Mod (fun k => W.heap.size ≤ k) W w9) := (HM8.out.alloc _).then hm9 (fun k _ h => HbF.out k h)
            clear hat9 hm9 hbk9 hL9
            go_wp2_with (go_at_call 15; refine Hlen.out.mono ?_; rintro e w' ⟨rfl, rfl⟩)
            go_ret
            exact ⟨rfl, HM9.out.below (Nat.le_refl _) (fun _ h => h)⟩

open Go.ChangeShapes Go.WideShapes Go.ChangeAt
theorem own : ownKnob Try.prog.godebug = none := by kernel_rfl
theorem laidOut : laidOutB Try.prog = true := by kernel_rfl

set_option maxRecDepth 100000 in
theorem lifted (os : Os) (started : os.Started) (H : Type) (enc : TypeId × Value → H) :
    ReturnsInHanded {} Try.checked os 4 .any (Rows.busFullSpec.pre6 enc Try.prog Try.f4 Rows.busFullRow.domain false) (Rows.busFullSpec.post enc Try.prog Try.f4 false true false false) := by
  refine returnsInHanded_of_change_sized (C := Try.checked) own started (by kernel_rfl) Try.func4
    (ChangeSpec.witness6 (enc := enc) (C := Try.checked) false ⟨#[], #[.int .i64 0], []⟩ 8 (by kernel_rfl) (by kernel_rfl) (by kernel_rfl) (by kernel_rfl)) ?_
  intro W base args ds gs before hval0 hW hcnd hsz0 _
  have hsz : (DataW.weightsEach Try.prog (Try.f4.params.toList ++ Rows.busFullSpec.plain.varTypes Try.prog) (ds ++ gs)).all (· ≤ reachBytes) = true := hsz0
  clear hsz0
  have hval : ∀ (j : Nat) t v, Try.f4.params[j]? = some t → args[j]? = some v → Value.okWide Try.prog W .any base t v := hval0
  have hW' := hW
  obtain ⟨p, q, hA0, hV, rfl, hfz, hnd⟩ := hW
  have hA : DataW.TrodAll enc Try.prog W 0 (fun _ => true) true Try.f4.params.toList args.toList ds p := hA0
  rw [Try.params4] at hA hval hsz
  obtain ⟨v0, vs0, d0, ds0, p0, q0, hargs, rfl, rfl, h0, r0⟩ := trodAll_cons hA
  obtain ⟨rfl, rfl, rfl⟩ := trodAll_nil r0
  obtain rfl : args = #[v0] := by cases args; simp_all
  obtain ⟨rfl, rfl⟩ := trodVars_none hV
  have lt0 : ∀ x ∈ p0, x.block < W.heap.size := by obtain ⟨m, hm⟩ := h0; exact DataW.trod_lt m _ _ _ hm
  have hsz' : (DataW.weightsEach Try.prog [3] [d0]).all (· ≤ reachBytes) = true := hsz
  obtain ⟨n0, rfl, _, _, wf0⟩ := open_int Try.underlying3 (hval 0 3 v0 rfl rfl) h0
  have bd := bounds_i64 wf0
  clear hA0 hval0
  refine (walk W n0 bd.1 bd.2).mono fun e W' ⟨he, bel⟩ => ?_
  subst he
  exact ⟨_, rfl, _, _, _, [], _, [], hW', trodAll_mk1 (shut_bool Try.underlying4 _), (trodAll_cons_mk (Below.trod laidOut (by kernel_rfl) (of_decide_eq_true (by kernel_rfl)) h0 bel lt0) trodAll_mk0), rfl, bel.frame _, fun h => by cases h⟩

theorem over : Rows.busFullRow.holds Try.pinned (OpenSpec.ofChange Rows.busFullSpec) :=
  OpenClaim.holds_of_wide 4 Try.f4 rfl rfl rfl rfl rfl rfl rfl ⟨rfl, rfl, rfl, rfl, rfl⟩ rfl rfl rfl rfl rfl (by kernel_rfl) Try.func4 (by kernel_rfl)
    (of_decide_eq_true (by kernel_rfl)) (by unfold Func.isWrapper; first | (rw [if_pos (by decide +kernel)]; kernel_rfl) | (rw [if_neg (by decide +kernel)]; exact ⟨rfl, rfl⟩))
    (fun os started H enc _ => lifted os started H enc)

theorem proved : Rows.BusFullSaid := over


end BusFull

theorem busFull_holds : Rows.BusFullSaid := BusFull.proved
#print axioms busFull_holds

end Go.Proofs.Ytppemlofjbblfaa
