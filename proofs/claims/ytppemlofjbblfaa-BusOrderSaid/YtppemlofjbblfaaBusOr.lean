/- The letters of a bus stand in the order of their numbers, each number once, all below the next one, whatever script is run; the script reads afterwards as before. No condition. -/
import Derived.Test.YtppemlofjbblfaaRows
import Derived.Test.YtppemlofjbblfaaBusW
import Derived.Test.YtppemlofjbblfaaBusRe
import Derived.Test.YtppemlofjbblfaaBusSt
import Derived.Test.YtppemlofjbblfaaBusOpn
import Derived.Deep.DeepCutAuto
import Derived.Deep.CutBlock
import Derived.OpenShut
import Derived.ShutString
namespace Go.Proofs.Ytppemlofjbblfaa
open Go Go.RowKit

namespace BusOrder

def Rel (W : World) (b : Nat) (os : List Opr) (g : Nat) (v c : Value) (wr : World) : Prop :=
  ∃ (k : Nat) (ls : List Let) (n last : Int), k + g = os.length ∧ c = .int .i64 k ∧ v = .int .i64 last ∧ BSt W wr b ls n ∧ Fit n ls (1 + k) ∧ last ≤ n

/-- What the call of the script has left. -/
def Mid (W : World) (b k : Nat) (n : Int) (wr : World) : Prop := ∃ (ls : List Let) (n' : Int), BSt W wr b ls n' ∧ Fit n' ls (1 + ((k + 1 : Nat) : Int)) ∧ n ≤ n'

def In (w : World) (ls : List Let) (g : Nat) (c : Value) (wr : World) : Prop := ∃ j : Nat, j + g = ls.length ∧ c = .int .i64 j ∧ Mod (fun _ => False) w wr

/-- Of a fit list each number is from 1 on, below the next one, and above the one ahead. -/
theorem ok_at {next : Int} : ∀ {ls : List Let} {last : Int} {i : Nat} {x : Let}, okList next last ls = true → ls[i]? = some x → last < x.id ∧ x.id < next := by
  intro ls
  induction ls with
  | nil => intro last i x _ h; simp at h
  | cons l r ih =>
    intro last i x h hx
    simp only [okList, Bool.and_eq_true, decide_eq_true_eq] at h
    cases i with
    | zero => simp at hx; subst hx; exact ⟨h.1, h.2.1⟩
    | succ i => have := ih h.2.2 (by simpa using hx); exact ⟨by omega, this.2⟩

theorem ok_two {next : Int} : ∀ {ls : List Let} {last : Int} {i : Nat} {x y : Let}, okList next last ls = true → ls[i]? = some x → ls[i + 1]? = some y → x.id < y.id := by
  intro ls
  induction ls with
  | nil => intro last i x y _ h; simp at h
  | cons l r ih =>
    intro last i x y h hx hy
    simp only [okList, Bool.and_eq_true, decide_eq_true_eq] at h
    cases i with
    | zero => simp at hx; subst hx; exact (ok_at h.2.2 (i := 0) (by simpa using hy)).1
    | succ i => exact ih h.2.2 (by simpa using hx) (by simpa using hy)

set_option maxRecDepth 100000 in
set_option maxHeartbeats 2000000 in
theorem walk (W : World) (a : Option Addr) (cap : Nat) (os : List Opr) (hsrc : Src W 10 a os.length (os.flatMap Opr.cs)) (hsp : 0 < os.length → ∀ x, a = some x → x.spot = none) (hlt : ∀ k, 0 < os.length → blk a k → k < W.heap.size) (hr : os.length * 88 ≤ 140737488351232) :
    Calls Try.prog 7 #[.slice a os.length cap] W fun e w' => e = .returned (.bool true) ∧ Below W.heap.size W w' := by
  have Hsrc := hid hsrc
  have Hlt := hid hlt
  have Hsp := hid hsp
  clear hsrc hlt hsp
  go_enter Try.func7, Try.ntmps7
  go_wp2_with (first | (go_at_call 9; refine (wakes_yes _).mono ?_; rintro e w1 ⟨rfl, hm1⟩; have M1 := hid hm1; clear hm1) | (go_at_call 10; refine (new_any _).mono ?_; rintro e w2 ⟨rfl, hat2, hm2⟩; have A2 := hid hat2; have M2 := hid hm2; clear hat2 hm2))
  have hs1 := M1.out.size
  have HS : Hid (BSt W w2 w1.heap.size [] 1) := ⟨none, 0, A2.out, fun k h => by rcases h with rfl | h; omega; exact (blk_none _ h).elim, (M1.out.trans M2.out).mono fun _ _ h => h.elim⟩
  clear M1 M2 A2
  go_loopg [4, 16] os.length (fun g v c wr => Rel W w1.heap.size os g v c wr)
  case atStart => exact ⟨0, [], 1, 1, Nat.zero_add _, rfl, rfl, HS.out, ⟨rfl, by decide, by decide, by simp⟩, Int.le_refl _⟩
  case round =>
    obtain ⟨k, ls, n, last, hk, rfl, rfl, hst, hfit, hlast⟩ := hrel
    by_cases hlt : k < os.length
    · obtain ⟨⟨kd, p, a0, a1, a2, a3, a4, a5, a6, s⟩, hx⟩ : ∃ x, os[k]? = some x := ⟨_, List.getElem?_eq_getElem hlt⟩
      obtain ⟨a, rfl⟩ : ∃ x, a = some x := by
        cases a with
        | none => have := Hsrc.out.2.1 rfl; omega
        | some a => exact ⟨a, rfl⟩
      obtain ⟨g, off, sp⟩ := a
      have hsp := Hsp.out (by omega) _ rfl
      simp only at hsp
      subst hsp
      obtain ⟨q0, q1, q2, q3, q4, q5, q6, q7, q8, q9⟩ := opr_cells rfl (Hsrc.out.mod hst.kept (fun k hk h2 => by have := Hlt.out k (by omega) hk; omega)) hx
      have HST := hid (hst.ext ((Mod.refl (fun _ => False) wr).alloc (.cells #[.int .i64 kd, .int .i64 p, .int .i64 a0, .int .i64 a1, .int .i64 a2, .int .i64 a3, .int .i64 a4, .int .i64 a5, .int .i64 a6, .string s] 30)))
      obtain ⟨sa, ca, hb, hX⟩ := HST.out.opened
      have HB := hid hb
      have HX := hid hX
      have Hfit := hid hfit
      have hnN : n ≤ 1 + (k : Int) := hfit.2.2.1
      clear hx hst hfit hb hX
      have c0 : decide ((k : Int) < (os.length : Int)) = true := by simp; omega
      go_upto_block 2 with fail
      go_cut [] (fun wx => Mid W w1.heap.size k n wx)
      case first =>
        clear hlast
        by_cases h1 : kd = 1
        · have c1 : (kd == 1) = true := by simp [h1]
          clear h1
          go_wp2_with fail
          by_cases hl : ls.length < 4096
          · refine (send_ok _ _ _ _ _ ls a0 a1 a2 a3 a4 a5 a6 s HB.out hl (by have := Hfit.out.2.1; omega) (by have := Hfit.out.2.2.1; omega)).mono ?_
            rintro e w5 ⟨rfl, hst5⟩
            have H5 := hid (HX.out _ _ _ hst5)
            clear hst5
            go_wp2_with fail
            go_meet
            case rel => exact ⟨_, _, H5.out, (by have := Hfit.out; rw [show (1 : Int) + ((k + 1 : Nat) : Int) = 1 + (k : Int) + 1 by omega]; exact Hfit.out.send hl rfl), by omega⟩
          · refine (send_full _ _ _ _ _ ls a0 a1 a2 a3 a4 a5 a6 s HB.out (by omega)).mono ?_
            rintro e w5 ⟨rfl, hm5⟩
            have H5 := hid (HST.out.ext hm5)
            clear hm5
            go_wp2_with fail
            go_meet
            case rel => exact ⟨_, _, H5.out, (by have := Hfit.out; rw [show (1 : Int) + ((k + 1 : Nat) : Int) = 1 + (k : Int) + 1 by omega]; exact Hfit.out.same), Int.le_refl _⟩
        · have c1 : (kd == 1) = false := by simp [h1]
          by_cases h3 : kd = 3
          · have c3 : (kd == 3) = true := by simp [h3]
            clear h1 h3
            go_wp2_with fail
            by_cases hp : 0 ≤ p ∧ p < ls.length
            · obtain ⟨i, rfl⟩ : ∃ i : Nat, p = i := ⟨p.toNat, by omega⟩
              have hi : i < ls.length := by omega
              obtain ⟨⟨y0, y1, y2, y3, y4, y5, y6, ys⟩, hy⟩ : ∃ x, ls[i]? = some x := ⟨_, List.getElem?_eq_getElem hi⟩
              by_cases hl : ls.length < 4096
              · refine (double_ok HB.out i hy hl (by have := Hfit.out.2.1; omega) (by have := Hfit.out.2.2.1; omega)).mono ?_
                rintro e w5 ⟨rfl, hst5⟩
                have H5 := hid (HX.out _ _ _ hst5)
                clear hst5 hy
                go_wp2_with fail
                go_meet
                case rel => exact ⟨_, _, H5.out, (by have := Hfit.out; rw [show (1 : Int) + ((k + 1 : Nat) : Int) = 1 + (k : Int) + 1 by omega]; exact Hfit.out.send hl rfl), by omega⟩
              · refine (double_full HB.out i hi (by omega)).mono ?_
                rintro e w5 ⟨rfl, hm5⟩
                have H5 := hid (HST.out.ext hm5)
                clear hm5 hy
                go_wp2_with fail
                go_meet
                case rel => exact ⟨_, _, H5.out, (by have := Hfit.out; rw [show (1 : Int) + ((k + 1 : Nat) : Int) = 1 + (k : Int) + 1 by omega]; exact Hfit.out.same), Int.le_refl _⟩
            · refine (double_bad HB.out p (by omega)).mono ?_
              rintro e w5 ⟨rfl, rfl⟩
              go_wp2_with fail
              go_meet
              case rel => exact ⟨_, _, HST.out, (by have := Hfit.out; rw [show (1 : Int) + ((k + 1 : Nat) : Int) = 1 + (k : Int) + 1 by omega]; exact Hfit.out.same), Int.le_refl _⟩
          · have c3 : (kd == 3) = false := by simp [h3]
            by_cases h2 : kd = 2
            · have c2 : (kd == 2) = true := by simp [h2]
              clear h1 h2 h3
              go_wp2_with fail
              by_cases hp : 0 ≤ p ∧ p < ls.length
              · obtain ⟨i, rfl⟩ : ∃ i : Nat, p = i := ⟨p.toNat, by omega⟩
                have hi : i < ls.length := by omega
                obtain ⟨⟨y0, y1, y2, y3, y4, y5, y6, ys⟩, hy⟩ : ∃ x, ls[i]? = some x := ⟨_, List.getElem?_eq_getElem hi⟩
                refine (take_ok HB.out i hy Hfit.out.2.2.2).mono ?_
                rintro e w5 ⟨rfl, hst5⟩
                have H5 := hid (HX.out _ _ _ hst5)
                clear hst5 hy
                go_wp2_with fail
                go_meet
                case rel => exact ⟨_, _, H5.out, (by have := Hfit.out; rw [show (1 : Int) + ((k + 1 : Nat) : Int) = 1 + (k : Int) + 1 by omega]; exact Hfit.out.take i), Int.le_refl _⟩
              · refine (take_bad HB.out p (by omega)).mono ?_
                rintro e w5 ⟨rfl, hm5⟩
                have H5 := hid (HST.out.ext hm5)
                clear hm5
                go_wp2_with fail
                go_meet
                case rel => exact ⟨_, _, H5.out, (by have := Hfit.out; rw [show (1 : Int) + ((k + 1 : Nat) : Int) = 1 + (k : Int) + 1 by omega]; exact Hfit.out.same), Int.le_refl _⟩
            · have c2 : (kd == 2) = false := by simp [h2]
              clear h1 h2 h3
              go_wp2_with fail
              go_meet
              case rel => exact ⟨_, _, HST.out, (by have := Hfit.out; rw [show (1 : Int) + ((k + 1 : Nat) : Int) = 1 + (k : Int) + 1 by omega]; exact Hfit.out.same), Int.le_refl _⟩
      case rest =>
        obtain ⟨ls', n', hst', hfit', hnn⟩ := hcut
        obtain ⟨sb, cb, hb', _⟩ := hst'.opened
        have Hl := hid (list_any hb' (by have := hfit'.2.2.2; omega))
        have HB' := hid hb'
        have HST' := hid hst'
        have Hfit' := hid hfit'
        clear hst' hfit' hb' q0 q1 q2 q3 q4 q5 q6 q7 q8 q9
        have hl4 : ls'.length ≤ 4096 := Hfit'.out.2.2.2
        have hln : ¬ n' < last := by omega
        have hdn : decide (n' < last) = false := by simp; omega
        go_wp2_with (go_at_call 12; refine Hl.out.mono ?_; rintro e w6 ⟨la, lc, rfl, hown6, hm6, hbk6⟩; have HO6 := hid hown6; have HM6 := hid hm6; clear hown6 hm6 hbk6)
        have HB6 := hid (HB'.out.mod HM6.out (fun _ _ h => h))
        obtain ⟨wo, rfl⟩ : ∃ wo : World, wo = wr := ⟨_, rfl⟩
        have Hk := hid hk
        have hkk : k + 1 + (gk - 1) = os.length := by omega
        obtain ⟨go, rfl⟩ : ∃ go : Nat, go = gk := ⟨_, rfl⟩
        go_loopg [44] ls'.length (fun g c wr => In w6 ls' g c wr)
        case atStart => exact ⟨0, Nat.zero_add _, rfl, Mod.refl _ _⟩
        case round =>
          obtain ⟨j, hj, rfl, hm⟩ := hrel
          by_cases hjl : j < ls'.length
          · obtain ⟨⟨x0, x1, x2, x3, x4, x5, x6, xs⟩, hx⟩ : ∃ x, ls'[j]? = some x := ⟨_, List.getElem?_eq_getElem hjl⟩
            obtain ⟨g2, off2, rfl⟩ := own_some HO6.out (by omega)
            have hown := HO6.out.mod hm (fun _ _ h => h)
            have t0 := (let_cells hown hx).1
            have hat := ok_at Hfit'.out.1 hx
            simp only at hat
            have b1 : decide (x0 < 1) = false := by simp; omega
            have b2 : decide (n' ≤ x0) = false := by simp; omega
            have i1 : (j : Int) < (ls'.length : Int) := by omega
            have HBr := hid (HB6.out.mod hm (fun _ _ h => h))
            have Hin := hid hm
            have bj : decide ((j : Int) < (ls'.length : Int)) = true := by simp; omega
            by_cases hj0 : j = 0
            · have b3 : decide (0 < (j : Int)) = false := by simp; omega
              have b4 : decide (0 < j) = false := by simp; omega
              clear hown hx hm hat hj0
              go_wp2_with fail
              go_quiet ((go_at_call 16; exact quiet_same (next_any (HBr.out.drewN _))))
              go_wp2_with fail
              go_roundg (gk - 1)
              case measure => omega
              case rel => exact ⟨j + 1, by omega, by go_num, (Hin.out.drewN _)⟩
            · obtain ⟨⟨y0, y1, y2, y3, y4, y5, y6, ys⟩, hy⟩ : ∃ x, ls'[j - 1]? = some x := ⟨_, List.getElem?_eq_getElem (by omega)⟩
              have hyx := ok_two Hfit'.out.1 hy (by rw [show j - 1 + 1 = j by omega]; exact hx)
              simp only at hyx
              have p0 := (let_cells hown hy).1
              have b3 : decide (0 < (j : Int)) = true := by simp; omega
              have b4 : decide (0 < j) = true := by simp; omega
              have b5 : decide (x0 ≤ y0) = false := by simp; omega
              have w1' : IntKind.i64.wrap ((j : Int) - 1) = (j : Int) - 1 := IntWalk.i64_in _ (by have := Hfit'.out.2.2.2; omega)
              have w2' : (0 : Int) ≤ (j : Int) - 1 := by omega
              have w3' : ((j : Int) - 1).toNat = j - 1 := by omega
              have w4' : (j : Int) - 1 < (ls'.length : Int) := by omega
              have w5' : (1 : Int) ≤ (j : Int) := by omega
              clear hown hx hm hat hj0 hy hyx
              go_wp2_with fail
              go_quiet ((go_at_call 16; exact quiet_same (next_any (HBr.out.drewN _))))
              go_wp2_with fail
              go_roundg (gk - 1)
              case measure => omega
              case rel => exact ⟨j + 1, by omega, by go_num, (Hin.out.drewN _)⟩
          · have HBr := hid (HB6.out.mod hm (fun _ _ h => h))
            have Hin := hid hm
            have bj : decide ((j : Int) < (ls'.length : Int)) = false := by simp; omega
            clear hm
            go_wp2_with (go_at_call 16; refine (next_any HBr.out).mono ?_; rintro e w' ⟨rfl, rfl⟩)
            go_roundg (go - 1)
            case measure => omega
            case rel => exact ⟨k + 1, ls', n', n', hkk, by go_num, rfl, (HST'.out.ext HM6.out).ext Hin.out, Hfit'.out, Int.le_refl _⟩
    · have c0 : decide ((k : Int) < (os.length : Int)) = false := by simp; omega
      obtain ⟨sb, cb, hb', _⟩ := hst.opened
      have Hl := hid (list_any hb' (by have := hfit.2.2.2; omega))
      have HB' := hid hb'
      have HST' := hid hst
      have Hfit' := hid hfit
      have hnN : n ≤ 1 + (k : Int) := hfit.2.2.1
      clear hst hfit hb'
      go_wp2_with (first | (go_at_call 16; refine (next_any HB'.out).mono ?_; rintro e w' ⟨rfl, rfl⟩) | (go_at_call 12; refine Hl.out.mono ?_; rintro e w6 ⟨la, lc, rfl, hown6, hm6, hbk6⟩; have HO6 := hid hown6; have HM6 := hid hm6; clear hown6 hm6 hbk6))
      refine (restore_in HO6.out n Hfit'.out.2.1 (by omega) Hfit'.out.2.2.2).mono ?_
      rintro e w7 (⟨_, b2, sa2, cap2, rfl, hat2, hm2, hF2⟩ | ⟨hno, _⟩)
      · have HB7 := hid (HB'.out.mod (HM6.out.trans hm2) (fun _ _ h => h))
        have HC7 := hid hat2
        have HM7 := hid hm2
        have e1 : ((ls.length : Int) == (ls.length : Int)) = true := by simp
        have e2 : (n == n) = true := by simp
        clear hat2 hm2 hF2
        go_wp2_with fail
        refine (len_any HC7.out).mono ?_
        rintro e w' ⟨rfl, rfl⟩
        go_wp2_with fail
        refine (len_any HB7.out).mono ?_
        rintro e w' ⟨rfl, rfl⟩
        go_wp2_with fail
        refine (next_any HC7.out).mono ?_
        rintro e w' ⟨rfl, rfl⟩
        go_wp2_with fail
        refine (next_any HB7.out).mono ?_
        rintro e w' ⟨rfl, rfl⟩
        go_wp2
        go_ret
        exact ⟨rfl, (HST'.out.kept.then (HM6.out.trans HM7.out) (fun _ _ h => h.elim)).below (Nat.le_refl _) (fun _ h => h)⟩
      · exact absurd (Hfit'.out.1.symm.trans hno) (by decide)

open Go.ChangeShapes Go.WideShapes Go.ChangeAt
theorem own : ownKnob Try.prog.godebug = none := by kernel_rfl
theorem laidOut : laidOutB Try.prog = true := by kernel_rfl

set_option maxRecDepth 100000 in
theorem lifted (os : Os) (started : os.Started) (H : Type) (enc : TypeId × Value → H) :
    ReturnsInHanded {} Try.checked os 7 .any (Rows.busOrderSpec.pre6 enc Try.prog Try.f7 Rows.busOrderRow.domain false) (Rows.busOrderSpec.post enc Try.prog Try.f7 false true false false) := by
  refine returnsInHanded_of_change_sized (C := Try.checked) own started (by kernel_rfl) Try.func7
    (ChangeSpec.witness6 (enc := enc) (C := Try.checked) false ⟨#[], #[.slice none 0 0], []⟩ 8 (by kernel_rfl) (by kernel_rfl) (by kernel_rfl) (by kernel_rfl)) ?_
  intro W base args ds gs before hval0 hW hcnd hsz0 _
  have hsz : (DataW.weightsEach Try.prog (Try.f7.params.toList ++ Rows.busOrderSpec.plain.varTypes Try.prog) (ds ++ gs)).all (· ≤ reachBytes) = true := hsz0
  clear hsz0
  have hval : ∀ (j : Nat) t v, Try.f7.params[j]? = some t → args[j]? = some v → Value.okWide Try.prog W .any base t v := hval0
  have hW' := hW
  obtain ⟨p, q, hA0, hV, rfl, hfz, hnd⟩ := hW
  have hA : DataW.TrodAll enc Try.prog W 0 (fun _ => true) true Try.f7.params.toList args.toList ds p := hA0
  rw [Try.params7] at hA hval hsz
  obtain ⟨v0, vs0, d0, ds0, p0, q0, hargs, rfl, rfl, h0, r0⟩ := trodAll_cons hA
  obtain ⟨rfl, rfl, rfl⟩ := trodAll_nil r0
  obtain rfl : args = #[v0] := by cases args; simp_all
  obtain ⟨rfl, rfl⟩ := trodVars_none hV
  have lt0 : ∀ x ∈ p0, x.block < W.heap.size := by obtain ⟨m, hm⟩ := h0; exact DataW.trod_lt m _ _ _ hm
  have hsz' : (DataW.weightsEach Try.prog [22] [d0]).all (· ≤ reachBytes) = true := hsz
  obtain ⟨a0, len0, cap0, rfl⟩ := okWide_slice Try.underlying22 (hval 0 22 v0 rfl rfl)
  obtain ⟨os0, rfl, o1, o2, o3, _⟩ := open_ops h0
  have o4 := slice_reach hsz' (j := 0) rfl rfl Try.underlying22 h0
  have o5 : Try.prog.bytesOf 30 = 88 := by kernel_rfl
  rw [o5] at o4
  clear hA0 hval0
  refine (walk W a0 cap0 os0 o1 o2 o3 o4).mono fun e W' ⟨he, bel⟩ => ?_
  subst he
  exact ⟨_, rfl, _, _, _, [], _, [], hW', trodAll_mk1 (shut_bool Try.underlying4 _), (trodAll_cons_mk (Below.trod laidOut (by kernel_rfl) (of_decide_eq_true (by kernel_rfl)) h0 bel lt0) trodAll_mk0), rfl, bel.frame _, fun h => by cases h⟩

theorem over : Rows.busOrderRow.holds Try.pinned (OpenSpec.ofChange Rows.busOrderSpec) :=
  OpenClaim.holds_of_wide 7 Try.f7 rfl rfl rfl rfl rfl rfl rfl ⟨rfl, rfl, rfl, rfl, rfl⟩ rfl rfl rfl rfl rfl (by kernel_rfl) Try.func7 (by kernel_rfl)
    (of_decide_eq_true (by kernel_rfl)) (by unfold Func.isWrapper; first | (rw [if_pos (by decide +kernel)]; kernel_rfl) | (rw [if_neg (by decide +kernel)]; exact ⟨rfl, rfl⟩))
    (fun os started H enc _ => lifted os started H enc)

theorem proved : Rows.BusOrderSaid := over


end BusOrder

theorem busOrder_holds : Rows.BusOrderSaid := BusOrder.proved
#print axioms busOrder_holds

end Go.Proofs.Ytppemlofjbblfaa
