/- Two disks, used in turns, have nothing to do with one another; a nil disk refuses: for every two scripts; the arguments read afterwards as before. No condition. -/
import Derived.Test.YtnbcihakabchgaaRows
import Derived.Test.YtnbcihakabchgaaSecStep
import Derived.Test.YtnbcihakabchgaaSecOpn
import Derived.Test.YtnbcihakabchgaaDiskNil
import Derived.OpenShut
import Derived.ShutString
namespace Go.Proofs.Ytnbcihakabchgaa
open Go Go.RowKit

namespace SectorTwins

/-- A pair of disks behind t calls, in memory made behind W. -/
def PairAt (w : World) (b : Nat) (sa : Option Addr) (r : Nat) (ra : Option Addr) (t : Nat) : Prop := ∃ D R, Pair w b sa D r ra R t

theorem PairAt.ext {w w' : World} {b : Nat} {sa : Option Addr} {r : Nat} {ra : Option Addr} {t : Nat} (h : PairAt w b sa r ra t) (hm : Mod (fun _ => False) w w') : PairAt w' b sa r ra t := by
  obtain ⟨D, R, h⟩ := h
  exact ⟨D, R, h.mod hm (fun _ _ h => h)⟩

theorem PairAt.far {S : Nat → Prop} {w w' : World} {b : Nat} {sa : Option Addr} {r : Nat} {ra : Option Addr} {t : Nat} (h : PairAt w b sa r ra t) (hm : Mod S w w') (hs : ∀ k, pairF b sa r ra k → ¬ S k) : PairAt w' b sa r ra t := by
  obtain ⟨D, R, h⟩ := h
  exact ⟨D, R, h.mod hm hs⟩

theorem PairAt.more {w : World} {b : Nat} {sa : Option Addr} {r : Nat} {ra : Option Addr} {t : Nat} (h : PairAt w b sa r ra t) : PairAt w b sa r ra (t + 1) := by
  obtain ⟨D, R, h⟩ := h
  exact ⟨D, R, h.more⟩

theorem PairAt.told {w : World} {b : Nat} {sa : Option Addr} {r : Nat} {ra : Option Addr} {t : Nat} (h : PairAt w b sa r ra t) (ht : t < 1125899906842624) :
    Calls Try.prog 20 #[.pointer (some ⟨b, 0, none⟩), .pointer (some ⟨r, 0, none⟩)] w fun e w' => e = .returned (.bool true) ∧ Mod (fun _ => False) w w' := by
  obtain ⟨D, R, h⟩ := h
  exact told_yes h ht

theorem PairAt.step {w : World} {b : Nat} {sa : Option Addr} {r : Nat} {ra : Option Addr} {t : Nat} (h : PairAt w b sa r ra t) (ht : t < 1125899906842624) (o : Sop) :
    Calls Try.prog 21 #[.pointer (some ⟨b, 0, none⟩), .pointer (some ⟨r, 0, none⟩), .agg #[.int .i64 o.kind, .int .i64 o.place, .string o.data]] w fun e w' => e = .returned (.bool true) ∧ PairAt w' b sa r ra (t + 1) ∧ Mod (pairF b sa r ra) w w' := by
  obtain ⟨D, R, h⟩ := h
  refine (step_yes h ht o.kind o.place o.data o.k1 o.k2).mono ?_
  rintro e w' ⟨rfl, D', R', h1, h2⟩
  exact ⟨rfl, ⟨D', R', h1⟩, h2⟩

def Rel (W : World) (b : Nat) (sa : Option Addr) (r : Nat) (ra : Option Addr) (b' : Nat) (sa' : Option Addr) (r' : Nat) (ra' : Option Addr) (m : Nat) (c : Value) (wr : World) : Prop :=
  ∃ k : Nat, k ≤ m ∧ c = .int .i64 k ∧ PairAt wr b sa r ra k ∧ PairAt wr b' sa' r' ra' k ∧ Mod (fun k => W.heap.size ≤ k) W wr

theorem opened {W : World} {a : Option Addr} {os : List Sop} (hsrc : Src W 3 a os.length (os.flatMap Sop.cs)) (hsp : 0 < os.length → ∀ x, a = some x → x.spot = none) (hlt : ∀ k, 0 < os.length → blk a k → k < W.heap.size) {wr : World} (hM : Mod (fun k => W.heap.size ≤ k) W wr) {k : Nat} (hk : k < os.length) :
    ∃ g off o, a = some ⟨g, off, none⟩ ∧ g < W.heap.size ∧ os[k]? = some o ∧ W.cell? ⟨g, off + k * 3, none⟩ = some (.int .i64 o.kind) ∧ W.cell? ⟨g, off + k * 3 + 1, none⟩ = some (.int .i64 o.place) ∧ W.cell? ⟨g, off + k * 3 + 2, none⟩ = some (.string o.data) ∧ wr.cell? ⟨g, off + k * 3, none⟩ = some (.int .i64 o.kind) ∧ wr.cell? ⟨g, off + k * 3 + 1, none⟩ = some (.int .i64 o.place) ∧ wr.cell? ⟨g, off + k * 3 + 2, none⟩ = some (.string o.data) := by
  cases a with
  | none => have := hsrc.2.1 rfl; omega
  | some aa =>
    obtain ⟨g, off, sp⟩ := aa
    have hs' := hsp (by omega) _ rfl
    simp only at hs'
    subst hs'
    have hg := hlt g (by omega) ⟨_, rfl, rfl⟩
    have hx : os[k]? = some os[k] := List.getElem?_eq_getElem hk
    obtain ⟨q0, q1, q2⟩ := sop_cells hsrc hx
    have hc : ∀ o, wr.cell? ⟨g, o, none⟩ = W.cell? ⟨g, o, none⟩ := fun o => hM.cell (p := ⟨g, o, none⟩) hg (by show ¬ W.heap.size ≤ g; omega)
    exact ⟨g, off, os[k], rfl, hg, hx, q0, q1, q2, (hc _).trans q0, (hc _).trans q1, (hc _).trans q2⟩

set_option maxRecDepth 100000 in
set_option maxHeartbeats 4000000 in
theorem walk (W : World) (a : Option Addr) (cap : Nat) (os : List Sop) (hsrc : Src W 3 a os.length (os.flatMap Sop.cs)) (hsp : 0 < os.length → ∀ x, a = some x → x.spot = none) (hlt : ∀ k, 0 < os.length → blk a k → k < W.heap.size) (hr : os.length * 32 ≤ 140737488351232)
    (a' : Option Addr) (cap' : Nat) (os' : List Sop) (hsrc' : Src W 3 a' os'.length (os'.flatMap Sop.cs)) (hsp' : 0 < os'.length → ∀ x, a' = some x → x.spot = none) (hlt' : ∀ k, 0 < os'.length → blk a' k → k < W.heap.size) (hr' : os'.length * 32 ≤ 140737488351232) :
    Calls Try.prog 9 #[.slice a os.length cap, .slice a' os'.length cap'] W fun e w' => e = .returned (.bool true) ∧ Below W.heap.size W w' := by
  have HS := hid (And.intro hsrc (And.intro hsp hlt))
  have HS' := hid (And.intro hsrc' (And.intro hsp' hlt'))
  clear hsrc hlt hsp hsrc' hlt' hsp'
  go_enter Try.func9, Try.ntmps9
  go_wp2_with fail
  refine (new_any 5).mono ?_
  rintro e w1 ⟨b, sa, rfl, hb, hbk, hd1, hm1⟩
  have F1 : Hid (∀ k, diskF b sa k → W.heap.size ≤ k) := by
    rintro k (rfl | h)
    · exact hb
    · exact hbk k h
  have D1 := hid hd1
  have M1 := hid hm1
  clear hd1 hm1 hbk
  go_wp2_with fail
  refine (new_any 3).mono ?_
  rintro e w2 ⟨b', sa', rfl, hb', hbk', hd2, hm2⟩
  have F2 : Hid (∀ k, diskF b' sa' k → w1.heap.size ≤ k) := by
    rintro k (rfl | h)
    · exact hb'
    · exact hbk' k h
  have D2 := hid hd2
  have M2 := hid hm2
  clear hd2 hm2 hbk'
  go_wp2_with fail
  refine (rnew_any 5).mono ?_
  rintro e w3 ⟨r, ra, rfl, hb3, hbk3, hd3, hm3⟩
  have F3 : Hid (∀ k, diskF r ra k → w2.heap.size ≤ k) := by
    rintro k (rfl | h)
    · exact hb3
    · exact hbk3 k h
  have D3 := hid hd3
  have M3 := hid hm3
  clear hd3 hm3 hbk3
  go_wp2_with fail
  refine (rnew_any 3).mono ?_
  rintro e w4 ⟨r', ra', rfl, hb4, hbk4, hd4, hm4⟩
  have F4 : Hid (∀ k, diskF r' ra' k → w3.heap.size ≤ k) := by
    rintro k (rfl | h)
    · exact hb4
    · exact hbk4 k h
  have D4 := hid hd4
  have M4 := hid hm4
  clear hd4 hm4 hbk4
  have s1 := M1.out.size
  have s2 := M2.out.size
  have s3 := M3.out.size
  have l1 := hid D1.out.lt
  have l2 := hid D2.out.lt
  have l3 := hid D3.out.lt
  have P1 : Hid (PairAt w4 b sa r ra 0) := ⟨_, _, ((D1.out.mod M2.out (fun _ _ h => h)).mod M3.out (fun _ _ h => h)).mod M4.out (fun _ _ h => h), D3.out.mod M4.out (fun _ _ h => h), fun k hk h => by have := l1.out k hk; have := F3.out k h; omega, alike_new 5, ⟨by show (0 : Int) ≤ _; decide⟩⟩
  have P2 : Hid (PairAt w4 b' sa' r' ra' 0) := ⟨_, _, (D2.out.mod M3.out (fun _ _ h => h)).mod M4.out (fun _ _ h => h), D4.out, fun k hk h => by have := l2.out k hk; have := F4.out k h; omega, alike_new 3, ⟨by show (0 : Int) ≤ _; decide⟩⟩
  have HX : Hid (∀ k, pairF b sa r ra k → ¬ pairF b' sa' r' ra' k) := by
    rintro k (h | h) (h' | h')
    · have := l1.out k h; have := F2.out k h'; omega
    · have := l1.out k h; have := F4.out k h'; omega
    · have := F3.out k h; have := l2.out k h'; omega
    · have := l3.out k h; have := F4.out k h'; omega
  have HF : Hid (∀ k, pairF b sa r ra k → W.heap.size ≤ k) := by
    rintro k (h | h)
    · exact F1.out k h
    · have := F3.out k h; omega
  have HF' : Hid (∀ k, pairF b' sa' r' ra' k → W.heap.size ≤ k) := by
    rintro k (h | h)
    · have := F2.out k h; omega
    · have := F4.out k h; omega
  have HM4 := hid (((M1.out.trans M2.out).trans M3.out).trans M4.out)
  clear F1 F2 F3 F4 D1 D2 D3 D4 l1 l2 l3 M1 M2 M3 M4
  go_wp2_with (first | (go_at_call 16; refine (cut_nil _ _).mono ?_; rintro e w' ⟨rfl, rfl⟩) | (go_at_call 18; refine (start_nil _).mono ?_; rintro e w' ⟨rfl, rfl⟩) | (go_at_call 15; refine (read_nil _ _).mono ?_; rintro e w' ⟨rfl, rfl⟩) | (go_at_call 10; refine (wakes_yes _).mono ?_; rintro e w5 ⟨rfl, hm5⟩; have M5 := hid hm5; clear hm5) | (go_at_call 12; refine (write_nil _ _ _).mono ?_; rintro e w' ⟨rfl, rfl⟩) | (go_at_call 22; refine (len_nil _).mono ?_; rintro e w' ⟨rfl, rfl⟩) | (go_at_call 14; refine (writes_nil _).mono ?_; rintro e w' ⟨rfl, rfl⟩) | (go_at_call 13; refine (highest_nil _).mono ?_; rintro e w' ⟨rfl, rfl⟩) | (go_at_call 17; refine (on_nil _).mono ?_; rintro e w' ⟨rfl, rfl⟩))
  have P1' := hid (P1.out.ext M5.out)
  have P2' := hid (P2.out.ext M5.out)
  have HM5 : Hid (Mod (fun k => W.heap.size ≤ k) W w5) := (HM4.out.trans M5.out).mono fun _ _ h => h.elim
  clear P1 P2
  go_loopw [12] (fun c wr => Rel W b sa r ra b' sa' r' ra' (max os.length os'.length) c wr) (fun c _ => max os.length os'.length - (intOf c).toNat)
  case atStart => exact ⟨0, Nat.zero_le _, rfl, P1'.out, P2'.out, HM5.out⟩
  case round =>
    obtain ⟨k, hk, rfl, hp1, hp2, hM⟩ := hrel
    have Q1 := hid hp1
    have Q2 := hid hp2
    have HM := hid hM
    clear hp1 hp2 hM
    by_cases hlt1 : k < os.length
    · obtain ⟨g, off, o, rfl, hg, hx, qa, qb, qc, q0, q1, q2⟩ := opened HS.out.1 HS.out.2.1 HS.out.2.2 HM.out hlt1
      clear hx qa qb qc
      have d1 : decide ((k : Int) < (os.length : Int)) = true := decide_eq_true (by omega)
      have d1' : decide (k < os.length) = true := decide_eq_true hlt1
      have HT1 := hid (Q1.out.step (by omega) o)
      by_cases hlt2 : k < os'.length
      · obtain ⟨g', off', o', rfl, hg', hx', qa, qb, qc, _, _, _⟩ := opened HS'.out.1 HS'.out.2.1 HS'.out.2.2 HM.out hlt2
        clear hx'
        have d2 : decide ((k : Int) < (os'.length : Int)) = true := decide_eq_true (by omega)
        have d2' : decide (k < os'.length) = true := decide_eq_true hlt2
        have HC : Hid (∀ w6, Mod (pairF b sa r ra) wr w6 → w6.cell? ⟨g', off' + k * 3, none⟩ = some (.int .i64 o'.kind) ∧ w6.cell? ⟨g', off' + k * 3 + 1, none⟩ = some (.int .i64 o'.place) ∧ w6.cell? ⟨g', off' + k * 3 + 2, none⟩ = some (.string o'.data)) := by
          intro w6 h6
          have h7 : Mod (fun k => W.heap.size ≤ k) W w6 := HM.out.then h6 (fun k _ h => HF.out k h)
          have hc : ∀ o, w6.cell? ⟨g', o, none⟩ = W.cell? ⟨g', o, none⟩ := fun o => h7.cell (p := ⟨g', o, none⟩) hg' (by show ¬ W.heap.size ≤ g'; omega)
          exact ⟨(hc _).trans qa, (hc _).trans qb, (hc _).trans qc⟩
        clear qa qb qc
        go_wp2_with fail
        refine HT1.out.mono ?_
        rintro e w6 ⟨rfl, hp6, hm6⟩
        obtain ⟨t0, t1, t2⟩ := HC.out w6 hm6
        have Q6 := hid hp6
        have M6 := hid hm6
        have R6 := hid (Q2.out.far hm6 (fun k hk h => HX.out k h hk))
        clear hp6 hm6 q0 q1 q2
        go_wp2_with fail
        refine (R6.out.step (by omega) o').mono ?_
        rintro e w7 ⟨rfl, hp7, hm7⟩
        have Q7 := hid (Q6.out.far hm7 (fun k hk h => HX.out k hk h))
        have R7 := hid hp7
        have M7 := hid hm7
        clear hp7 hm7 t0 t1 t2
        go_wp2_with fail
        go_roundw
        case rel => exact ⟨k + 1, by omega, by go_num, Q7.out, R7.out, (HM.out.then M6.out (fun k _ h => HF.out k h)).then M7.out (fun k _ h => HF'.out k h)⟩
        case measure => simp [intOf]; omega
      · have d2 : decide ((k : Int) < (os'.length : Int)) = false := decide_eq_false (by omega)
        have d2' : decide (k < os'.length) = false := decide_eq_false hlt2
        go_wp2_with fail
        refine HT1.out.mono ?_
        rintro e w6 ⟨rfl, hp6, hm6⟩
        have Q6 := hid hp6
        have M6 := hid hm6
        have R6 := hid (Q2.out.far hm6 (fun k hk h => HX.out k h hk))
        clear hp6 hm6 q0 q1 q2
        go_wp2_with fail
        go_roundw
        case rel => exact ⟨k + 1, by omega, by go_num, Q6.out, R6.out.more, HM.out.then M6.out (fun k _ h => HF.out k h)⟩
        case measure => simp [intOf]; omega
    · have d1 : decide ((k : Int) < (os.length : Int)) = false := decide_eq_false (by omega)
      have d1' : decide (k < os.length) = false := decide_eq_false hlt1
      by_cases hlt2 : k < os'.length
      · obtain ⟨g', off', o', rfl, hg', hx', _, _, _, q0, q1, q2⟩ := opened HS'.out.1 HS'.out.2.1 HS'.out.2.2 HM.out hlt2
        clear hx'
        have d2 : decide ((k : Int) < (os'.length : Int)) = true := decide_eq_true (by omega)
        have d2' : decide (k < os'.length) = true := decide_eq_true hlt2
        have HT2 := hid (Q2.out.step (by omega) o')
        go_wp2_with fail
        refine HT2.out.mono ?_
        rintro e w6 ⟨rfl, hp6, hm6⟩
        have Q6 := hid hp6
        have M6 := hid hm6
        have R6 := hid (Q1.out.far hm6 (fun k hk h => HX.out k hk h))
        clear hp6 hm6 q0 q1 q2
        go_wp2_with fail
        go_roundw
        case rel => exact ⟨k + 1, by omega, by go_num, R6.out.more, Q6.out, HM.out.then M6.out (fun k _ h => HF'.out k h)⟩
        case measure => simp [intOf]; omega
      · have d2 : decide ((k : Int) < (os'.length : Int)) = false := decide_eq_false (by omega)
        have d2' : decide (k < os'.length) = false := decide_eq_false hlt2
        go_wp2_with fail
        refine (Q1.out.told (by omega)).mono ?_
        rintro e w6 ⟨rfl, hm6⟩
        have M6 := hid hm6
        clear hm6
        go_wp2_with fail
        refine ((Q2.out.ext M6.out).told (by omega)).mono ?_
        rintro e w7 ⟨rfl, hm7⟩
        have M7 := hid hm7
        clear hm7
        go_wp2
        go_ret
        exact ⟨rfl, ((HM.out.then M6.out (fun _ _ h => h.elim)).then M7.out (fun _ _ h => h.elim)).below (Nat.le_refl _) (fun _ h => h)⟩

open Go.ChangeShapes Go.WideShapes Go.ChangeAt
theorem own : ownKnob Try.prog.godebug = none := by kernel_rfl
theorem laidOut : laidOutB Try.prog = true := by kernel_rfl

set_option maxRecDepth 100000 in
theorem lifted (os : Os) (started : os.Started) (H : Type) (enc : TypeId × Value → H) :
    ReturnsInHanded {} Try.checked os 9 .any (Rows.sectorTwinsSpec.pre6 enc Try.prog Try.f9 Rows.sectorTwinsRow.domain false) (Rows.sectorTwinsSpec.post enc Try.prog Try.f9 false true false false) := by
  refine returnsInHanded_of_change_sized (C := Try.checked) own started (by kernel_rfl) Try.func9
    (ChangeSpec.witness6 (enc := enc) (C := Try.checked) false ⟨#[], #[.slice none 0 0, .slice none 0 0], []⟩ 8 (by kernel_rfl) (by kernel_rfl) (by kernel_rfl) (by kernel_rfl)) ?_
  intro W base args ds gs before hval0 hW hcnd hsz0 _
  have hsz : (DataW.weightsEach Try.prog (Try.f9.params.toList ++ Rows.sectorTwinsSpec.plain.varTypes Try.prog) (ds ++ gs)).all (· ≤ reachBytes) = true := hsz0
  clear hsz0
  have hval : ∀ (j : Nat) t v, Try.f9.params[j]? = some t → args[j]? = some v → Value.okWide Try.prog W .any base t v := hval0
  have hW' := hW
  obtain ⟨p, q, hA0, hV, rfl, hfz, hnd⟩ := hW
  have hA : DataW.TrodAll enc Try.prog W 0 (fun _ => true) true Try.f9.params.toList args.toList ds p := hA0
  rw [Try.params9] at hA hval hsz
  obtain ⟨v0, vs0, d0, ds0, p0, q0, hargs, rfl, rfl, h0, r0⟩ := trodAll_cons hA
  obtain ⟨v1, vs1, d1, ds1, p1, q1, rfl, rfl, rfl, h1, r1⟩ := trodAll_cons r0
  obtain ⟨rfl, rfl, rfl⟩ := trodAll_nil r1
  obtain rfl : args = #[v0, v1] := by cases args; simp_all
  obtain ⟨rfl, rfl⟩ := trodVars_none hV
  have lt0 : ∀ x ∈ p0, x.block < W.heap.size := by obtain ⟨m, hm⟩ := h0; exact DataW.trod_lt m _ _ _ hm
  have lt1 : ∀ x ∈ p1, x.block < W.heap.size := by obtain ⟨m, hm⟩ := h1; exact DataW.trod_lt m _ _ _ hm
  have hsz' : (DataW.weightsEach Try.prog [38, 38] [d0, d1]).all (· ≤ reachBytes) = true := hsz
  obtain ⟨a0, len0, cap0, rfl⟩ := okWide_slice Try.underlying38 (hval 0 38 v0 rfl rfl)
  obtain ⟨os0, rfl, o01, o02, o03, _⟩ := open_sops h0
  have o04 := slice_reach hsz' (j := 0) rfl rfl Try.underlying38 h0
  have o05 : Try.prog.bytesOf 43 = 32 := by kernel_rfl
  rw [o05] at o04
  obtain ⟨a1, len1, cap1, rfl⟩ := okWide_slice Try.underlying38 (hval 1 38 v1 rfl rfl)
  obtain ⟨os1, rfl, o11, o12, o13, _⟩ := open_sops h1
  have o14 := slice_reach hsz' (j := 1) rfl rfl Try.underlying38 h1
  have o15 : Try.prog.bytesOf 43 = 32 := by kernel_rfl
  rw [o15] at o14
  clear hA0 hval0
  refine (walk W a0 cap0 os0 o01 o02 o03 o04 a1 cap1 os1 o11 o12 o13 o14).mono fun e W' ⟨he, bel⟩ => ?_
  subst he
  exact ⟨_, rfl, _, _, _, [], _, [], hW', trodAll_mk1 (shut_bool Try.underlying4 _), (trodAll_cons_mk (Below.trod laidOut (by kernel_rfl) (of_decide_eq_true (by kernel_rfl)) h0 bel lt0) (trodAll_cons_mk (Below.trod laidOut (by kernel_rfl) (of_decide_eq_true (by kernel_rfl)) h1 bel lt1) trodAll_mk0)), rfl, bel.frame _, fun h => by cases h⟩

theorem over : Rows.sectorTwinsRow.holds Try.pinned (OpenSpec.ofChange Rows.sectorTwinsSpec) :=
  OpenClaim.holds_of_wide 9 Try.f9 rfl rfl rfl rfl rfl rfl rfl ⟨rfl, rfl, rfl, rfl, rfl⟩ rfl rfl rfl rfl rfl (by kernel_rfl) Try.func9 (by kernel_rfl)
    (of_decide_eq_true (by kernel_rfl)) (by unfold Func.isWrapper; first | (rw [if_pos (by decide +kernel)]; kernel_rfl) | (rw [if_neg (by decide +kernel)]; exact ⟨rfl, rfl⟩))
    (fun os started H enc _ => lifted os started H enc)

theorem proved : Rows.SectorTwinsSaid := over
#print axioms proved


end SectorTwins

theorem sectorTwins_holds : Rows.SectorTwinsSaid := SectorTwins.proved
#print axioms sectorTwins_holds

end Go.Proofs.Ytnbcihakabchgaa
