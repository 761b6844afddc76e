/- Every script of sends, takes, doublings and restorings over a new bus is answered as the document says, for every script, and the script reads afterwards as before. No condition. -/
import Derived.Test.YtppemlofjbblfaaRows
import Derived.Test.YtppemlofjbblfaaBusW
import Derived.Test.YtppemlofjbblfaaBusPl
import Derived.Test.YtppemlofjbblfaaBusOpn
import Derived.OpenShut
import Derived.ShutString
namespace Go.Proofs.Ytppemlofjbblfaa
open Go Go.RowKit

namespace BusPlays

set_option maxRecDepth 100000 in
theorem walk (W : World) (a : Option Addr) (cap : Nat) (os : List Opr) (hsrc : Src W 10 a os.length (os.flatMap Opr.cs)) (hsp : 0 < os.length → ∀ x, a = some x → x.spot = none) (hlt : ∀ k, 0 < os.length → blk a k → k < W.heap.size) (hr : os.length * 88 ≤ 140737488351232) :
    Calls Try.prog 5 #[.slice a os.length cap] W fun e w' => e = .returned (.bool true) ∧ Below W.heap.size W w' := by
  have Hsrc := hid hsrc
  have Hlt := hid hlt
  clear hsrc hlt
  go_enter Try.func5, Try.ntmps5
  go_wp2_with (first | (go_at_call 9; refine (wakes_yes _).mono ?_; rintro e w1 ⟨rfl, hm1⟩; have M1 := hid hm1; clear hm1) | (go_at_call 10; refine (new_any _).mono ?_; rintro e w2 ⟨rfl, hat2, hm2⟩; have A2 := hid hat2; have M2 := hid hm2; clear hat2 hm2))
  have hm3 : Mod (fun _ => False) w2 (w2.alloc (.cells #[.slice none 0 0, .int .i64 1] 47)) := (Mod.refl _ _).alloc _
  have hs1 := M1.out.size
  have hs2 := M2.out.size
  have hl2 := A2.out.lt _ (Or.inl rfl)
  have hM : Mod (fun _ => False) W (w2.alloc (.cells #[.slice none 0 0, .int .i64 1] 47)) := (M1.out.trans M2.out).trans hm3
  have hT : Two (w2.alloc (.cells #[.slice none 0 0, .int .i64 1] 47)) (fun k => k = w1.heap.size ∨ k = w2.heap.size) (w2.alloc (.cells #[.slice none 0 0, .int .i64 1] 47)) w1.heap.size none 0 [] 1 w2.heap.size none 0 [] 1 := by
    refine ⟨A2.out.mod hm3 (fun _ _ h => h), ⟨heap_alloc_new _ _, Own.nil _ _ _, blk_none _⟩, ?_, ?_, ?_, Mod.refl _ _⟩
    · rintro k (rfl | h) (h2 | h2)
      · omega
      · exact (blk_none _ h2).elim
      · exact (blk_none _ h).elim
      · exact (blk_none _ h).elim
    · rintro k (rfl | h)
      · exact Or.inl (Or.inl rfl)
      · exact (blk_none _ h).elim
    · rintro k (rfl | h)
      · exact Or.inl (Or.inr rfl)
      · exact (blk_none _ h).elim
  refine (play_yes (N := 1) hT ⟨rfl, by decide, by decide, by simp⟩ (by omega) (Hsrc.out.mod hM (fun _ _ h => h)) hsp ?_).mono ?_
  · intro h0 k hk h
    have := Hlt.out k h0 hk
    rcases h with h | h <;> omega
  rintro e w4 ⟨rfl, hans⟩
  have HA := hid hans
  have HM := hid hM
  clear hans hM hT hm3
  go_wp2
  go_ret
  obtain ⟨_, _, _, _, _, _, _, hT, _⟩ := HA.out
  refine ⟨rfl, ?_⟩
  have : Mod (fun k => W.heap.size ≤ k) W w4 := (HM.out.mono fun _ _ h => h.elim).then hT.mod (fun k _ h => by rcases h with h | h <;> omega)
  exact this.below (Nat.le_refl _) (fun k h => h)

open Go.ChangeShapes Go.WideShapes Go.ChangeAt
theorem own : ownKnob Try.prog.godebug = none := by kernel_rfl
theorem laidOut : laidOutB Try.prog = true := by kernel_rfl

set_option maxRecDepth 100000 in
theorem lifted (os : Os) (started : os.Started) (H : Type) (enc : TypeId × Value → H) :
    ReturnsInHanded {} Try.checked os 5 .any (Rows.busPlaysSpec.pre6 enc Try.prog Try.f5 Rows.busPlaysRow.domain false) (Rows.busPlaysSpec.post enc Try.prog Try.f5 false true false false) := by
  refine returnsInHanded_of_change_sized (C := Try.checked) own started (by kernel_rfl) Try.func5
    (ChangeSpec.witness6 (enc := enc) (C := Try.checked) false ⟨#[], #[.slice none 0 0], []⟩ 8 (by kernel_rfl) (by kernel_rfl) (by kernel_rfl) (by kernel_rfl)) ?_
  intro W base args ds gs before hval0 hW hcnd hsz0 _
  have hsz : (DataW.weightsEach Try.prog (Try.f5.params.toList ++ Rows.busPlaysSpec.plain.varTypes Try.prog) (ds ++ gs)).all (· ≤ reachBytes) = true := hsz0
  clear hsz0
  have hval : ∀ (j : Nat) t v, Try.f5.params[j]? = some t → args[j]? = some v → Value.okWide Try.prog W .any base t v := hval0
  have hW' := hW
  obtain ⟨p, q, hA0, hV, rfl, hfz, hnd⟩ := hW
  have hA : DataW.TrodAll enc Try.prog W 0 (fun _ => true) true Try.f5.params.toList args.toList ds p := hA0
  rw [Try.params5] at hA hval hsz
  obtain ⟨v0, vs0, d0, ds0, p0, q0, hargs, rfl, rfl, h0, r0⟩ := trodAll_cons hA
  obtain ⟨rfl, rfl, rfl⟩ := trodAll_nil r0
  obtain rfl : args = #[v0] := by cases args; simp_all
  obtain ⟨rfl, rfl⟩ := trodVars_none hV
  have lt0 : ∀ x ∈ p0, x.block < W.heap.size := by obtain ⟨m, hm⟩ := h0; exact DataW.trod_lt m _ _ _ hm
  have hsz' : (DataW.weightsEach Try.prog [22] [d0]).all (· ≤ reachBytes) = true := hsz
  obtain ⟨a0, len0, cap0, rfl⟩ := okWide_slice Try.underlying22 (hval 0 22 v0 rfl rfl)
  obtain ⟨os0, rfl, o1, o2, o3⟩ := open_ops h0
  have o4 := slice_reach hsz' (j := 0) rfl rfl Try.underlying22 h0
  have o5 : Try.prog.bytesOf 30 = 88 := by kernel_rfl
  rw [o5] at o4
  clear hA0 hval0
  refine (walk W a0 cap0 os0 o1 o2 o3 o4).mono fun e W' ⟨he, bel⟩ => ?_
  subst he
  exact ⟨_, rfl, _, _, _, [], _, [], hW', trodAll_mk1 (shut_bool Try.underlying4 _), (trodAll_cons_mk (Below.trod laidOut (by kernel_rfl) (of_decide_eq_true (by kernel_rfl)) h0 bel lt0) trodAll_mk0), rfl, bel.frame _, fun h => by cases h⟩

theorem over : Rows.busPlaysRow.holds Try.pinned (OpenSpec.ofChange Rows.busPlaysSpec) :=
  OpenClaim.holds_of_wide 5 Try.f5 rfl rfl rfl rfl rfl rfl rfl ⟨rfl, rfl, rfl, rfl, rfl⟩ rfl rfl rfl rfl rfl (by kernel_rfl) Try.func5 (by kernel_rfl)
    (of_decide_eq_true (by kernel_rfl)) (by unfold Func.isWrapper; first | (rw [if_pos (by decide +kernel)]; kernel_rfl) | (rw [if_neg (by decide +kernel)]; exact ⟨rfl, rfl⟩))
    (fun os started H enc _ => lifted os started H enc)

theorem proved : Rows.BusPlaysSaid := over

end BusPlays

theorem busPlays_holds : Rows.BusPlaysSaid := BusPlays.proved
#print axioms busPlays_holds

end Go.Proofs.Ytppemlofjbblfaa
