/- Every answer of every script of writes, reads, cuts and starts over a new disk is the document's, for every size and every script; the arguments read afterwards as before. No condition. -/
import Derived.Test.YtnbcihakabchgaaRows
import Derived.Test.YtnbcihakabchgaaSecStep
import Derived.Test.YtnbcihakabchgaaSecOpn
import Derived.OpenShut
import Derived.ShutString
namespace Go.Proofs.Ytnbcihakabchgaa
open Go Go.RowKit

namespace SectorPlays

def Rel (W : World) (b : Nat) (sa : Option Addr) (r : Nat) (ra : Option Addr) (m : Nat) (c : Value) (wr : World) : Prop :=
  ∃ (k : Nat) (D : Dsk) (R : Rsk), k ≤ m ∧ c = .int .i64 k ∧ Pair wr b sa D r ra R k ∧ Mod (fun k => W.heap.size ≤ k) W wr

set_option maxRecDepth 100000 in
set_option maxHeartbeats 2000000 in
theorem walk (W : World) (n : Int) (_hlo : -9223372036854775808 ≤ n) (_hhi : n ≤ 9223372036854775807) (a : Option Addr) (cap : Nat) (os : List Sop) (hsrc : Src W 3 a os.length (os.flatMap Sop.cs)) (hsp : 0 < os.length → ∀ x, a = some x → x.spot = none) (hlt : ∀ k, 0 < os.length → blk a k → k < W.heap.size) (hr : os.length * 32 ≤ 140737488351232) :
    Calls Try.prog 8 #[.int .i64 n, .slice a os.length cap] W fun e w' => e = .returned (.bool true) ∧ Below W.heap.size W w' := by
  have Hsrc := hid hsrc
  have Hlt := hid hlt
  clear hsrc hlt
  go_enter Try.func8, Try.ntmps8
  go_wp2_with fail
  refine (new_any n).mono ?_
  rintro e w1 ⟨b, sa, rfl, hb, hbk, hd1, hm1⟩
  have hF1 : ∀ k, diskF b sa k → W.heap.size ≤ k := by
    rintro k (rfl | h)
    · exact hb
    · exact hbk k h
  have D1 := hid hd1
  have M1 := hid hm1
  have F1 := hid hF1
  clear hd1 hm1 hF1 hbk
  go_wp2_with fail
  refine (rnew_any n).mono ?_
  rintro e w2 ⟨r, ra, rfl, hb2, hbk2, hd2, hm2⟩
  have hF2 : ∀ k, diskF r ra k → w1.heap.size ≤ k := by
    rintro k (rfl | h)
    · exact hb2
    · exact hbk2 k h
  have D2 := hid hd2
  have M2 := hid hm2
  have F2 := hid hF2
  have hsz := M1.out.size
  have P2 : Hid (Pair w2 b sa (newD n) r ra (rnewD n) 0) := ⟨D1.out.mod M2.out (fun _ _ h => h), D2.out, fun k hk h => by have := D1.out.lt k hk; have := F2.out k h; omega, alike_new n, ⟨by show (0 : Int) ≤ _; decide⟩⟩
  clear hd2 hm2 hF2 hbk2
  go_wp2_with (first | (go_at_call 10; refine (wakes_yes _).mono ?_; rintro e w3 ⟨rfl, hm3⟩; have M3 := hid hm3; clear hm3) | (go_at_call 20; refine (told_yes (P2.out.mod M3.out (fun _ _ h => h)) (by decide)).mono ?_; rintro e w4 ⟨rfl, hm4⟩; have M4 := hid hm4; clear hm4))
  have hMW : Mod (fun k => W.heap.size ≤ k) W w4 := (((M1.out.trans M2.out).trans M3.out).trans M4.out).mono fun _ _ h => h.elim
  have HMW := hid hMW
  have P4 := hid ((P2.out.mod M3.out (fun _ _ h => h)).mod M4.out (fun _ _ h => h))
  have HF : Hid (∀ k, pairF b sa r ra k → W.heap.size ≤ k) := by
    rintro k (h | h)
    · exact F1.out k h
    · have := F2.out k h; omega
  clear hMW P2
  go_loopw [23] (fun c wr => Rel W b sa r ra os.length c wr) (fun c _ => os.length - (intOf c).toNat)
  case atStart => exact ⟨0, _, _, Nat.zero_le _, rfl, P4.out, HMW.out⟩
  case round =>
    obtain ⟨k, D, R, hk, rfl, hP, hM⟩ := hrel
    by_cases hlt : k < os.length
    · obtain ⟨o, hx⟩ : ∃ x, os[k]? = some x := ⟨_, List.getElem?_eq_getElem hlt⟩
      obtain ⟨aa, rfl⟩ : ∃ aa, a = some aa := by
        cases a with
        | none => have := Hsrc.out.2.1 rfl; omega
        | some aa => exact ⟨aa, rfl⟩
      obtain ⟨g, off, sp⟩ := aa
      have hs' := hsp (by omega) _ rfl
      simp only at hs'
      subst hs'
      have hg := Hlt.out g (by omega) ⟨_, rfl, rfl⟩
      obtain ⟨q0, q1, q2⟩ := sop_cells (Hsrc.out.mod hM (fun j hj h => by have := Hlt.out j (by omega) hj; omega)) hx
      obtain ⟨kd, pl, da, k1, k2⟩ := o
      simp only at q0 q1 q2
      have HP := hid hP
      have HM := hid hM
      clear hP hM hx
      go_wp2_with fail
      have hm0 : Mod (fun _ => False) wr (wr.alloc (.cells #[.int .i64 kd, .int .i64 pl, .string da] 43)) := (Mod.refl _ _).alloc _
      have HM0 := hid hm0
      clear hm0
      generalize wr.alloc (.cells #[.int .i64 kd, .int .i64 pl, .string da] 43) = W1 at *
      refine (step_yes (HP.out.mod HM0.out (fun _ _ h => h)) (by omega) kd pl da k1 k2).mono ?_
      rintro e w5 ⟨rfl, D', R', hP', hM'⟩
      have HP' := hid hP'
      have HM' := hid hM'
      clear hP' hM' q0 q1 q2
      go_wp2_with (go_at_call 20; refine (told_yes HP'.out (by omega)).mono ?_; rintro e w6 ⟨rfl, hm6⟩; have M6 := hid hm6; clear hm6)
      go_roundw
      case rel => exact ⟨k + 1, D', R', by omega, by go_num, HP'.out.mod M6.out (fun _ _ h => h), ((HM.out.then HM0.out (fun _ _ h => h.elim)).then HM'.out (fun k _ h => HF.out k h)).then M6.out (fun _ _ h => h.elim)⟩
      case measure => simp [intOf]; omega
    · have HM := hid hM
      clear hP hM
      go_wp2
      go_ret
      exact ⟨rfl, HM.out.below (Nat.le_refl _) (fun _ h => h)⟩

open Go.ChangeShapes Go.WideShapes Go.ChangeAt
theorem own : ownKnob Try.prog.godebug = none := by kernel_rfl
theorem laidOut : laidOutB Try.prog = true := by kernel_rfl

set_option maxRecDepth 100000 in
theorem lifted (os : Os) (started : os.Started) (H : Type) (enc : TypeId × Value → H) :
    ReturnsInHanded {} Try.checked os 8 .any (Rows.sectorPlaysSpec.pre6 enc Try.prog Try.f8 Rows.sectorPlaysRow.domain false) (Rows.sectorPlaysSpec.post enc Try.prog Try.f8 false true false false) := by
  refine returnsInHanded_of_change_sized (C := Try.checked) own started (by kernel_rfl) Try.func8
    (ChangeSpec.witness6 (enc := enc) (C := Try.checked) false ⟨#[], #[.int .i64 0, .slice none 0 0], []⟩ 8 (by kernel_rfl) (by kernel_rfl) (by kernel_rfl) (by kernel_rfl)) ?_
  intro W base args ds gs before hval0 hW hcnd hsz0 _
  have hsz : (DataW.weightsEach Try.prog (Try.f8.params.toList ++ Rows.sectorPlaysSpec.plain.varTypes Try.prog) (ds ++ gs)).all (· ≤ reachBytes) = true := hsz0
  clear hsz0
  have hval : ∀ (j : Nat) t v, Try.f8.params[j]? = some t → args[j]? = some v → Value.okWide Try.prog W .any base t v := hval0
  have hW' := hW
  obtain ⟨p, q, hA0, hV, rfl, hfz, hnd⟩ := hW
  have hA : DataW.TrodAll enc Try.prog W 0 (fun _ => true) true Try.f8.params.toList args.toList ds p := hA0
  rw [Try.params8] at hA hval hsz
  obtain ⟨v0, vs0, d0, ds0, p0, q0, hargs, rfl, rfl, h0, r0⟩ := trodAll_cons hA
  obtain ⟨v1, vs1, d1, ds1, p1, q1, rfl, rfl, rfl, h1, r1⟩ := trodAll_cons r0
  obtain ⟨rfl, rfl, rfl⟩ := trodAll_nil r1
  obtain rfl : args = #[v0, v1] := by cases args; simp_all
  obtain ⟨rfl, rfl⟩ := trodVars_none hV
  have lt0 : ∀ x ∈ p0, x.block < W.heap.size := by obtain ⟨m, hm⟩ := h0; exact DataW.trod_lt m _ _ _ hm
  have lt1 : ∀ x ∈ p1, x.block < W.heap.size := by obtain ⟨m, hm⟩ := h1; exact DataW.trod_lt m _ _ _ hm
  have hsz' : (DataW.weightsEach Try.prog [3, 38] [d0, d1]).all (· ≤ reachBytes) = true := hsz
  obtain ⟨n0, rfl, rfl, rfl, wf0⟩ := open_int Try.underlying3 (hval 0 3 v0 rfl rfl) h0
  have lh0 := wf_i64 wf0
  obtain ⟨a1, len1, cap1, rfl⟩ := okWide_slice Try.underlying38 (hval 1 38 v1 rfl rfl)
  obtain ⟨os1, rfl, o11, o12, o13, _⟩ := open_sops h1
  have o14 := slice_reach hsz' (j := 1) rfl rfl Try.underlying38 h1
  have o15 : Try.prog.bytesOf 43 = 32 := by kernel_rfl
  rw [o15] at o14
  clear hA0 hval0
  refine (walk W n0 lh0.1 lh0.2 a1 cap1 os1 o11 o12 o13 o14).mono fun e W' ⟨he, bel⟩ => ?_
  subst he
  exact ⟨_, rfl, _, _, _, [], _, [], hW', trodAll_mk1 (shut_bool Try.underlying4 _), (trodAll_cons_mk (Below.trod laidOut (by kernel_rfl) (of_decide_eq_true (by kernel_rfl)) h0 bel lt0) (trodAll_cons_mk (Below.trod laidOut (by kernel_rfl) (of_decide_eq_true (by kernel_rfl)) h1 bel lt1) trodAll_mk0)), rfl, bel.frame _, fun h => by cases h⟩

theorem over : Rows.sectorPlaysRow.holds Try.pinned (OpenSpec.ofChange Rows.sectorPlaysSpec) :=
  OpenClaim.holds_of_wide 8 Try.f8 rfl rfl rfl rfl rfl rfl rfl ⟨rfl, rfl, rfl, rfl, rfl⟩ rfl rfl rfl rfl rfl (by kernel_rfl) Try.func8 (by kernel_rfl)
    (of_decide_eq_true (by kernel_rfl)) (by unfold Func.isWrapper; first | (rw [if_pos (by decide +kernel)]; kernel_rfl) | (rw [if_neg (by decide +kernel)]; exact ⟨rfl, rfl⟩))
    (fun os started H enc _ => lifted os started H enc)

theorem proved : Rows.SectorPlaysSaid := over
#print axioms proved


end SectorPlays

theorem sectorPlays_holds : Rows.SectorPlaysSaid := SectorPlays.proved
#print axioms sectorPlays_holds

end Go.Proofs.Ytnbcihakabchgaa
