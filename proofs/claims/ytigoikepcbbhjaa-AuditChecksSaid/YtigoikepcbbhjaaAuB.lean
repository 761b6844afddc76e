/- Live, bounds (law 5) and Check -/
import Derived.Test.YtigoikepcbbhjaaAuV2
import Derived.Test.YtigoikepcbbhjaaAuM
import Derived.Deep.Cut
namespace Go.Proofs.Ytigoikepcbbhjaa
open Go Go.RowKit

variable {v0 v1 v2 v3 v4 v5 v6 v7 v8 v9 v10 v11 v12 v13 v14 : Value}

set_option maxRecDepth 100000 in
set_option maxHeartbeats 2000000 in
theorem live_any {w : World} {ia : Option Addr} {ins : List In} (ic : Nat) (hi : Lies w 6 In.cs ia ins) (hn : ins.length ≤ 140737488351232) :
    Calls Try.prog 9 #[.agg #[v0, v1, v2, v3, v4, v5, v6, v7, v8, v9, v10, v11, v12, v13, .slice ia ins.length ic]] w fun e w' => e = .returned (.int .i64 (liveP (ins.map In.pl) : Int)) ∧ Mod (fun _ => False) w w' := by
  have hma : Mod (fun _ => False) w (w.alloc (.cells #[v0, v1, v2, v3, v4, v5, v6, v7, v8, v9, v10, v11, v12, v13, .slice ia ins.length ic] 35)) := (Mod.refl _ _).alloc _
  have HM := hid hma
  have HI := hid (hi.ext hma)
  have hcb : (w.alloc (.cells #[v0, v1, v2, v3, v4, v5, v6, v7, v8, v9, v10, v11, v12, v13, .slice ia ins.length ic] 35)).heap[w.heap.size]? = some (.cells #[v0, v1, v2, v3, v4, v5, v6, v7, v8, v9, v10, v11, v12, v13, .slice ia ins.length ic] 35 (0, 0)) := heap_alloc_new _ _
  have b14 := row_at (j := 14) (v := .slice ia ins.length ic) hcb rfl
  clear hma hi hcb
  go_enter Try.func9, Try.ntmps9
  go_wp2_with fail
  clear b14
  generalize w.alloc (.cells #[v0, v1, v2, v3, v4, v5, v6, v7, v8, v9, v10, v11, v12, v13, .slice ia ins.length ic] 35) = C at *
  go_loopw [3, 9] (fun n c wr => ∃ k : Nat, k ≤ ins.length ∧ c = .int .i64 (k : Int) ∧ n = .int .i64 (liveP ((ins.map In.pl).take k) : Int) ∧ Mod (fun _ => False) C wr) (fun _ c _ => ins.length - (intOf c).toNat)
  case atStart => exact ⟨0, Nat.zero_le _, rfl, rfl, Mod.refl _ _⟩
  case round =>
    obtain ⟨k, hk, rfl, rfl, hm⟩ := hrel
    have HMr := hid hm
    clear hm
    by_cases hlt : k < ins.length
    case neg =>
      have hke : k = ins.length := by omega
      subst hke
      have HV : Hid ((ins.map In.pl).take ins.length = ins.map In.pl) := hid (List.take_of_length_le (by simp))
      go_wp2_with fail
      go_ret
      exact ⟨by rw [HV.out]; rfl, HM.out.trans HMr.out⟩
    case pos =>
      obtain ⟨x, hx⟩ : ∃ x, ins[k]? = some x := ⟨_, List.getElem?_eq_getElem hlt⟩
      have hlc := HI.out.ext HMr.out
      have HT := hid (live_succ (pl_at (f := In.pl) hx))
      have hle := live_le (ins.map In.pl) k
      obtain ⟨xo, xs, xp, xma, xml, xmc, xta, xtl, xtc, xf⟩ := x
      obtain ⟨g, off, rfl⟩ := hlc.some (by omega)
      have q0 := hlc.cell In.len hx (j := 0) rfl
      have q1 := hlc.cell In.len hx (j := 1) rfl
      have q2 := hlc.cell In.len hx (j := 2) rfl
      have q3 := hlc.cell In.len hx (j := 3) rfl
      have q4 := hlc.cell In.len hx (j := 4) rfl
      have q5 := hlc.cell In.len hx (j := 5) rfl
      rw [Nat.add_zero] at q0
      simp only [In.pl] at q0 q1 q2 q3 q4 q5 HT
      have hmb : Mod (fun _ => False) wr (wr.alloc (.cells #[.int .i64 xo, .int .i64 xs, .bool xp, .slice xma xml xmc, .slice xta xtl xtc, .string xf] 85)) := (Mod.refl _ _).alloc _
      have hcx : (wr.alloc (.cells #[.int .i64 xo, .int .i64 xs, .bool xp, .slice xma xml xmc, .slice xta xtl xtc, .string xf] 85)).heap[wr.heap.size]? = some (.cells #[.int .i64 xo, .int .i64 xs, .bool xp, .slice xma xml xmc, .slice xta xtl xtc, .string xf] 85 (0, 0)) := heap_alloc_new _ _
      have c1 := row_at (j := 1) (v := .int .i64 xs) hcx rfl
      have HMb := hid (HMr.out.trans hmb)
      generalize liveP ((ins.map In.pl).take k) = n at *
      clear hx hlc hmb hcx
      by_cases s0 : xs = 0
      · subst s0
        have HE : Hid (liveP ((ins.map In.pl).take (k + 1)) = n + 1) := hid (by rw [HT.out]; rfl)
        go_wp2_with fail
        go_roundw
        case rel => exact ⟨k + 1, by omega, by go_num, by rw [HE.out]; go_num, HMb.out⟩
        case measure => simp [intOf]; omega
      · have y0 : (xs == 0) = false := by simpa using s0
        by_cases s1 : xs = 1
        · subst s1
          have HE : Hid (liveP ((ins.map In.pl).take (k + 1)) = n + 1) := hid (by rw [HT.out]; rfl)
          clear s0
          go_wp2_with fail
          go_roundw
          case rel => exact ⟨k + 1, by omega, by go_num, by rw [HE.out]; go_num, HMb.out⟩
          case measure => simp [intOf]; omega
        · have y1 : (xs == 1) = false := by simpa using s1
          have HE : Hid (liveP ((ins.map In.pl).take (k + 1)) = n) := hid (by rw [HT.out]; simp [isLive, y0, y1])
          clear s0 s1
          go_wp2_with fail
          go_roundw
          case rel => exact ⟨k + 1, by omega, by go_num, by rw [HE.out], HMb.out⟩
          case measure => simp [intOf]; omega

theorem row8 {V : World} {b : Nat} {T : TypeId} {u0 u1 u2 u3 u4 u5 u6 u7 : Value} (h : V.heap[b]? = some (.cells #[u0, u1, u2, u3, u4, u5, u6, u7] T (0, 0))) :
    V.cell? ⟨b, 0, none⟩ = some u0 ∧ V.cell? ⟨b, 1, none⟩ = some u1 ∧ V.cell? ⟨b, 2, none⟩ = some u2 ∧ V.cell? ⟨b, 3, none⟩ = some u3 ∧ V.cell? ⟨b, 4, none⟩ = some u4 ∧ V.cell? ⟨b, 5, none⟩ = some u5 ∧ V.cell? ⟨b, 6, none⟩ = some u6 ∧ V.cell? ⟨b, 7, none⟩ = some u7 :=
  ⟨row_at h rfl, row_at h rfl, row_at h rfl, row_at h rfl, row_at h rfl, row_at h rfl, row_at h rfl, row_at h rfl⟩

theorem bound_bad {ts : List KP} {next : Int} {live k : Nat} (hk : k < ts.length) (h : okAt ts next k = false) : boundP ts next live = false := by
  have : (List.range ts.length).all (okAt ts next) = false := by
    rw [List.all_eq_false]
    exact ⟨k, List.mem_range.2 hk, by rw [h]; simp⟩
  unfold boundP
  rw [this, Bool.and_false]

theorem bound_good {ts : List KP} {next : Int} {live : Nat} (h : ∀ j, j < ts.length → okAt ts next j = true) : boundP ts next live = (decide (live ≤ 16) && decide (ts.length ≤ 4096)) := by
  have : (List.range ts.length).all (okAt ts next) = true := by
    rw [List.all_eq_true]
    intro j hj
    exact h j (List.mem_range.1 hj)
  unfold boundP
  rw [this, Bool.and_true]

theorem ok_zero {ts : List KP} {next : Int} {x : KP} (h : ts[0]? = some x) : okAt ts next 0 = decide (x.i < next) := by
  unfold okAt
  rw [h]
  simp
theorem ok_succ {ts : List KP} {next : Int} {k : Nat} {x y : KP} (h : ts[k + 1]? = some x) (hy : ts[k]? = some y) : okAt ts next (k + 1) = (decide (x.i < next) && decide (y.i < x.i)) := by
  unfold okAt
  rw [h]
  simp only [hy]

set_option maxRecDepth 100000 in
set_option maxHeartbeats 4000000 in
theorem bounds_any {w : World} {ta ia : Option Addr} {ts : List Lt} {ins : List In} (tc ic : Nat) (next : Int) (ht : Lies w 8 Lt.cs ta ts) (hi : Lies w 6 In.cs ia ins) (hn : ins.length ≤ 140737488351232) (htn : ts.length ≤ 140737488351232) :
    Calls Try.prog 16 #[.agg #[v0, v1, v2, v3, v4, v5, v6, v7, v8, v9, v10, .int .i64 next, .slice ta ts.length tc, v13, .slice ia ins.length ic]] w fun e w' => e = .returned (.bool (boundP (ts.map Lt.pl) next (liveP (ins.map In.pl)))) ∧ Mod (fun _ => False) w w' := by
  have hma : Mod (fun _ => False) w (w.alloc (.cells #[v0, v1, v2, v3, v4, v5, v6, v7, v8, v9, v10, .int .i64 next, .slice ta ts.length tc, v13, .slice ia ins.length ic] 35)) := (Mod.refl _ _).alloc _
  have HM := hid hma
  have HI := hid (hi.ext hma)
  have HL := hid (ht.ext hma)
  have hcb : (w.alloc (.cells #[v0, v1, v2, v3, v4, v5, v6, v7, v8, v9, v10, .int .i64 next, .slice ta ts.length tc, v13, .slice ia ins.length ic] 35)).heap[w.heap.size]? = some (.cells #[v0, v1, v2, v3, v4, v5, v6, v7, v8, v9, v10, .int .i64 next, .slice ta ts.length tc, v13, .slice ia ins.length ic] 35 (0, 0)) := heap_alloc_new _ _
  have HB := hid hcb
  have b12 := row_at (j := 12) (v := .slice ta ts.length tc) hcb rfl
  clear hma hi ht hcb
  go_enter Try.func16, Try.ntmps16
  go_wp2_with fail
  clear b12
  generalize w.alloc (.cells #[v0, v1, v2, v3, v4, v5, v6, v7, v8, v9, v10, .int .i64 next, .slice ta ts.length tc, v13, .slice ia ins.length ic] 35) = C at *
  go_loopw [8] (fun c wr => ∃ k : Nat, k ≤ ts.length ∧ c = .int .i64 (k : Int) ∧ (∀ j, j < k → okAt (ts.map Lt.pl) next j = true) ∧ Mod (fun _ => False) C wr) (fun c _ => ts.length - (intOf c).toNat)
  case atStart => exact ⟨0, Nat.zero_le _, rfl, (fun j h => by omega), Mod.refl _ _⟩
  case round =>
    obtain ⟨k, hk, rfl, hok, hm⟩ := hrel
    have HOk := hid hok
    have HMr := hid hm
    clear hm hok
    by_cases hlt : k < ts.length
    case neg =>
      have hke : k = ts.length := by omega
      subst hke
      have HLv := hid (live_any (v0 := v0) (v1 := v1) (v2 := v2) (v3 := v3) (v4 := v4) (v5 := v5) (v6 := v6) (v7 := v7) (v8 := v8) (v9 := v9) (v10 := v10) (v11 := .int .i64 next) (v12 := .slice ta ts.length tc) (v13 := v13) ic (HI.out.ext HMr.out) hn)
      have hgood : boundP (ts.map Lt.pl) next (liveP (ins.map In.pl)) = (decide (liveP (ins.map In.pl) ≤ 16) && decide ((ts.map Lt.pl).length ≤ 4096)) := bound_good (fun j hj => HOk.out j (by simpa using hj))
      rw [List.length_map] at hgood
      have HG := hid hgood
      clear hgood
      obtain ⟨n, hne⟩ : ∃ n, liveP (ins.map In.pl) = n := ⟨_, rfl⟩
      rw [hne] at HLv HG
      have HNe := hid hne
      clear hne
      obtain ⟨b0, b1, b2, b3, b4, b5, b6, b7, b8, b9, b10, b11, b12, b13, b14⟩ := row15 ((HMr.out.block _ (lt_of_heap HB.out) (fun h => h)).trans HB.out)
      by_cases h16 : n ≤ 16
      · have d1 : decide ((n : Int) ≤ 16) = true := decide_eq_true (by omega)
        have HW : Hid ((decide (n ≤ 16) && decide (ts.length ≤ 4096)) = decide ((ts.length : Int) ≤ 4096)) := hid (by rw [decide_eq_true h16, Bool.true_and]; exact decide_eq_decide.2 (by omega))
        have HR2 := hid ((congrArg (boundP (ts.map Lt.pl) next) HNe.out).trans (HG.out.trans HW.out))
        have HBw := hid (fun (v : World) (hv : Mod (fun _ => False) wr v) => row_at (j := 12) (v := .slice ta ts.length tc) (((HMr.out.trans hv).block _ (lt_of_heap HB.out) (fun h => h)).trans HB.out) rfl)
        clear h16
        go_wp2_with (first | (go_at_call 9; refine HLv.out.mono ?_; rintro e w2 ⟨rfl, hm2⟩; have HM2 := hid hm2; have c12 := HBw.out _ hm2; clear hm2 b0 b1 b2 b3 b4 b5 b6 b7 b8 b9 b10 b11 b12 b13 b14))
        go_ret
        exact ⟨by rw [HR2.out]; rfl, HM.out.trans (HMr.out.trans HM2.out)⟩
      · have d1 : decide ((n : Int) ≤ 16) = false := decide_eq_false (by omega)
        have HW : Hid ((decide (n ≤ 16) && decide (ts.length ≤ 4096)) = false) := hid (by rw [decide_eq_false h16]; rfl)
        have HR2 := hid ((congrArg (boundP (ts.map Lt.pl) next) HNe.out).trans (HG.out.trans HW.out))
        clear h16
        go_wp2_with (first | (go_at_call 9; refine HLv.out.mono ?_; rintro e w2 ⟨rfl, hm2⟩; have HM2 := hid hm2; clear hm2 b0 b1 b2 b3 b4 b5 b6 b7 b8 b9 b10 b11 b12 b13 b14))
        go_ret
        exact ⟨by rw [HR2.out]; rfl, HM.out.trans (HMr.out.trans HM2.out)⟩
    case pos =>
      obtain ⟨x, hx⟩ : ∃ x, ts[k]? = some x := ⟨_, List.getElem?_eq_getElem hlt⟩
      have hlc := HL.out.ext HMr.out
      have HX := hid (pl_at (f := Lt.pl) hx)
      have hx0 := hx
      obtain ⟨xi, xa, xb, xc, xd, xe, xf, xs⟩ := x
      obtain ⟨g, off, rfl⟩ := hlc.some (by omega)
      have q0 := hlc.cell Lt.len hx (j := 0) rfl
      have q1 := hlc.cell Lt.len hx (j := 1) rfl
      have q2 := hlc.cell Lt.len hx (j := 2) rfl
      have q3 := hlc.cell Lt.len hx (j := 3) rfl
      have q4 := hlc.cell Lt.len hx (j := 4) rfl
      have q5 := hlc.cell Lt.len hx (j := 5) rfl
      have q6 := hlc.cell Lt.len hx (j := 6) rfl
      have q7 := hlc.cell Lt.len hx (j := 7) rfl
      rw [Nat.add_zero] at q0
      simp only at q0 q1 q2 q3 q4 q5 q6 q7
      have hmb : Mod (fun _ => False) wr (wr.alloc (.cells #[.int .i64 xi, .int .i64 xa, .int .i64 xb, .int .i64 xc, .int .i64 xd, .int .i64 xe, .int .i64 xf, .string xs] 78)) := (Mod.refl _ _).alloc _
      have hcx : (wr.alloc (.cells #[.int .i64 xi, .int .i64 xa, .int .i64 xb, .int .i64 xc, .int .i64 xd, .int .i64 xe, .int .i64 xf, .string xs] 78)).heap[wr.heap.size]? = some (.cells #[.int .i64 xi, .int .i64 xa, .int .i64 xb, .int .i64 xc, .int .i64 xd, .int .i64 xe, .int .i64 xf, .string xs] 78 (0, 0)) := heap_alloc_new _ _
      have HMb := hid (HMr.out.trans hmb)
      have HCx := hid hcx
      have HLb := hid (hlc.ext hmb)
      have HBb := hid ((hmb.block _ (lt_of_heap ((HMr.out.block _ (lt_of_heap HB.out) (fun h => h)).trans HB.out)) (fun h => h)).trans ((HMr.out.block _ (lt_of_heap HB.out) (fun h => h)).trans HB.out))
      clear hx hlc hmb hcx
      go_upto_region 4 with fail
      clear q0 q1 q2 q3 q4 q5 q6 q7
      generalize wr.alloc (.cells #[.int .i64 xi, .int .i64 xa, .int .i64 xb, .int .i64 xc, .int .i64 xd, .int .i64 xe, .int .i64 xf, .string xs] 78) = D at *
      have g0 := fun y : Ext D => y.cell (row_at (j := 0) (v := .int .i64 xi) HCx.out rfl)
      have g1 := fun y : Ext D => y.cell (row_at (j := 11) (v := .int .i64 next) HBb.out rfl)
      have g2 := fun y : Ext D => y.cell (row_at (j := 12) (v := .slice (some ⟨g, off, none⟩) ts.length tc) HBb.out rfl)
      cases k with
      | zero =>
        have HE : Hid (okAt (ts.map Lt.pl) next 0 = decide (xi < next)) := hid (ok_zero HX.out)
        by_cases hnx : xi < next
        · have d1 : decide (next ≤ xi) = false := decide_eq_false (by omega)
          have HG : Hid (okAt (ts.map Lt.pl) next 0 = true) := hid (by rw [HE.out]; exact decide_eq_true hnx)
          clear hnx hx0
          refine wp_region_ext (by kernel_rfl) (by kernel_rfl) ?_
          repeat (go_big_quiet_step (fail))
          refine wpQuiet_nil ?_
          rintro _ ⟨y, rfl⟩
          clear g0 g1 g2
          go_wp2_with fail
          go_roundw
          case rel => exact ⟨1, by omega, by go_num, (fun j hj => by have : j = 0 := by omega
                                                                     subst this; exact HG.out), HMb.out.trans y.mod⟩
          case measure => simp [intOf]; omega
        · have d1 : decide (next ≤ xi) = true := decide_eq_true (by omega)
          have HG : Hid (boundP (ts.map Lt.pl) next (liveP (ins.map In.pl)) = false) := hid (bound_bad (k := 0) (by simpa using hlt) (by rw [HE.out]; exact decide_eq_false hnx))
          clear hnx hx0
          refine wp_region_ext (by kernel_rfl) (by kernel_rfl) ?_
          repeat (go_big_quiet_step (fail))
          refine wpQuiet_nil ?_
          rintro _ ⟨y, rfl⟩
          clear g0 g1 g2
          go_wp2_with fail
          go_ret
          exact ⟨by rw [HG.out]; rfl, HM.out.trans (HMb.out.trans y.mod)⟩
      | succ k =>
        obtain ⟨z, hz⟩ : ∃ z, ts[k]? = some z := ⟨_, List.getElem?_eq_getElem (by omega)⟩
        have HE : Hid (okAt (ts.map Lt.pl) next (k + 1) = (decide (xi < next) && decide (z.i < xi))) := hid (ok_succ HX.out (pl_at (f := Lt.pl) hz))
        have g3 := fun y : Ext D => y.cell (HLb.out.cell Lt.len hz (j := 0) rfl)
        rw [Nat.add_zero] at g3
        obtain ⟨zi, za, zb, zc, zd, ze, zf, zs⟩ := z
        simp only at g3 HE
        have i0 : ((k + 1 : Nat) : Int) = (k : Int) + 1 := by omega
        have i1 : (0 : Int) ≤ (k : Int) := by omega
        have i2 : (k : Int) < (ts.length : Int) := by omega
        have i3 : decide ((0 : Int) < (k : Int) + 1) = true := decide_eq_true (by omega)
        have i4 : IntKind.i64.wrap ((k : Int) + 1 - 1) = (k : Int) := by rw [IntKind.wrap_i64]; omega
        have i5 : wrap64 ((k : Int) + 1 - 1) = (k : Int) := by unfold wrap64; omega
        clear hz hx0
        by_cases hord : zi < xi
        · have d2 : decide (xi ≤ zi) = false := decide_eq_false (by omega)
          by_cases hnx : xi < next
          · have d1 : decide (next ≤ xi) = false := decide_eq_false (by omega)
            have HG : Hid (okAt (ts.map Lt.pl) next (k + 1) = true) := hid (by rw [HE.out, decide_eq_true hnx, decide_eq_true hord]; rfl)
            clear hnx hord
            refine wp_region_ext (by kernel_rfl) (by kernel_rfl) ?_
            repeat (go_big_quiet_step (fail))
            refine wpQuiet_nil ?_
            rintro _ ⟨y, rfl⟩
            clear g0 g1 g2 g3
            go_wp2_with fail
            go_roundw
            case rel => exact ⟨k + 1 + 1, by omega, by go_num, (fun j hj => by
              by_cases hjk : j = k + 1
              · subst hjk; exact HG.out
              · exact HOk.out j (by omega)), HMb.out.trans y.mod⟩
            case measure => simp [intOf]; omega
          · have d1 : decide (next ≤ xi) = true := decide_eq_true (by omega)
            have HG : Hid (boundP (ts.map Lt.pl) next (liveP (ins.map In.pl)) = false) := hid (bound_bad (k := k + 1) (by simpa using hlt) (by rw [HE.out, decide_eq_false hnx]; rfl))
            clear hnx hord
            refine wp_region_ext (by kernel_rfl) (by kernel_rfl) ?_
            repeat (go_big_quiet_step (fail))
            refine wpQuiet_nil ?_
            rintro _ ⟨y, rfl⟩
            clear g0 g1 g2 g3
            go_wp2_with fail
            go_ret
            exact ⟨by rw [HG.out]; rfl, HM.out.trans (HMb.out.trans y.mod)⟩
        · have d2 : decide (xi ≤ zi) = true := decide_eq_true (by omega)
          have HG : Hid (boundP (ts.map Lt.pl) next (liveP (ins.map In.pl)) = false) := hid (bound_bad (k := k + 1) (by simpa using hlt) (by rw [HE.out, decide_eq_false hord, Bool.and_false]))
          clear hord
          refine wp_region_ext (by kernel_rfl) (by kernel_rfl) ?_
          repeat (go_big_quiet_step (fail))
          refine wpQuiet_nil ?_
          rintro _ ⟨y, rfl⟩
          clear g0 g1 g2 g3
          go_wp2_with fail
          go_ret
          exact ⟨by rw [HG.out]; rfl, HM.out.trans (HMb.out.trans y.mod)⟩

end Go.Proofs.Ytigoikepcbbhjaa
