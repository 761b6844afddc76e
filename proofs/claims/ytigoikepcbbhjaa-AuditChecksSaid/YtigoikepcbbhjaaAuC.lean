/- count: what the goods in some states come to, of an item -/
import Derived.Test.YtigoikepcbbhjaaAuI
namespace Go.Proofs.Ytigoikepcbbhjaa
open Go Go.RowKit

set_option maxRecDepth 100000 in
theorem idxS_any {w : World} {a : Option Addr} {l : List Int} (cap : Nat) (v : Int) (hl : Lies w 1 oneI a l) (hn : l.length ≤ 140737488351232) :
    Calls Try.prog 42 #[.slice a l.length cap, .int .i64 v] w fun e w' => e = .returned (.int .i64 (idxP (fun x => v == x) l)) ∧ w = w' := by
  have HL := hid hl
  clear hl
  go_enter Try.func42, Try.ntmps42
  go_wp2
  go_loop [8] (fun c => ∃ k : Nat, k ≤ l.length ∧ c = .int .i64 (k : Int) ∧ ∀ j y, j < k → l[j]? = some y → (v == y) = false) (fun c => l.length - (intOf c).toNat)
  case atStart => exact ⟨0, Nat.zero_le _, rfl, fun j y h => by omega⟩
  case round =>
    obtain ⟨k, hk, rfl, hno⟩ := hrel
    have HNo := hid hno
    clear hno
    by_cases hlt : k < l.length
    · obtain ⟨x, hx⟩ : ∃ x, l[k]? = some x := ⟨_, List.getElem?_eq_getElem hlt⟩
      obtain ⟨g, off, rfl⟩ := HL.out.some (by omega)
      have q0 := HL.out.cell oneI_len hx (j := 0) rfl
      rw [Nat.add_zero, Nat.mul_one] at q0
      have HX := hid hx
      clear hx
      cases hp : (v == x) with
      | true =>
        have HV : Hid (idxP (fun x => v == x) l = (k : Int)) := hid (idx_hit HNo.out HX.out hp)
        go_wp2_with fail
        go_ret
        exact ⟨by rw [HV.out]; rfl, rfl⟩
      | false =>
        have HP := hid hp
        go_wp2_with fail
        go_round
        case rel =>
          refine ⟨k + 1, by omega, by go_num, fun j y hj hy => ?_⟩
          by_cases hjk : j = k
          · subst hjk
            rw [HX.out] at hy
            cases hy
            exact HP.out
          · exact HNo.out j y (by omega) hy
        case measure => simp [intOf]; omega
    · have hke : k = l.length := by omega
      subst hke
      have HV : Hid (idxP (fun x => v == x) l = -1) := hid (idx_miss HNo.out)
      go_wp2_with fail
      go_ret
      exact ⟨by rw [HV.out]; rfl, rfl⟩

set_option maxRecDepth 100000 in
theorem conS_any {w : World} {a : Option Addr} {l : List Int} (cap : Nat) (v : Int) (hl : Lies w 1 oneI a l) (hn : l.length ≤ 140737488351232) :
    Calls Try.prog 35 #[.slice a l.length cap, .int .i64 v] w fun e w' => e = .returned (.bool (conP l v)) ∧ w = w' := by
  have HI := hid (idxS_any cap v hl hn)
  have HV := hid (idx_any (fun x => v == x) l)
  clear hl
  go_enter Try.func35, Try.ntmps35
  go_wp2_with fail
  refine HI.out.mono ?_
  rintro e w2 ⟨rfl, rfl⟩
  go_wp2_with fail
  go_ret
  exact ⟨by rw [HV.out]; rfl, rfl⟩

variable {v0 v1 v2 v3 v4 v5 v6 v7 v8 v9 v10 v11 v12 v13 v14 : Value}

/-- Goods, as they lie, with their lines. -/
structure GL (w : World) (ga : Option Addr) (gs : List Gd) : Prop where
  g : Lies w 3 Gd.cs ga gs
  l : ∀ x ∈ gs, Lies w 2 Ln.cs x.la x.ls ∧ x.ls.length ≤ 140737488351232

theorem GL.ext {w w' : World} {ga : Option Addr} {gs : List Gd} (h : GL w ga gs) (hm : Mod (fun _ => False) w w') : GL w' ga gs :=
  ⟨h.g.ext hm, fun x hx => ⟨(h.l x hx).1.ext hm, (h.l x hx).2⟩⟩

theorem pl_at {α β : Type} {f : α → β} {l : List α} {k : Nat} {x : α} (h : l[k]? = some x) : (l.map f)[k]? = some (f x) := by rw [List.getElem?_map, h]; rfl

theorem row_at {V : World} {b j : Nat} {cs : Array Value} {T : TypeId} {v : Value} (h : V.heap[b]? = some (.cells cs T (0, 0))) (hv : cs[j]? = some v) : V.cell? ⟨b, j, none⟩ = some v := by
  rw [cell_of_row _ _ _ _ _ _ h]; exact hv

set_option maxRecDepth 100000 in
set_option maxHeartbeats 4000000 in
theorem count_any {w : World} {ga sa : Option Addr} {gs : List Gd} {sts : List Int} (gc sc : Nat) (item : Int) (hg : GL w ga gs) (hs : Lies w 1 oneI sa sts) (hn : gs.length ≤ 140737488351232) (hsn : sts.length ≤ 1000) :
    Calls Try.prog 22 #[.agg #[v0, v1, v2, v3, v4, .slice ga gs.length gc, v6, v7, v8, v9, v10, v11, v12, v13, v14], .int .i64 item, .slice sa sts.length sc] w fun e w' => e = .returned (.int .i64 (tally (conP sts) item (gs.map Gd.pl))) ∧ Mod (fun _ => False) w w' := by
  have hma : Mod (fun _ => False) w (w.alloc (.cells #[v0, v1, v2, v3, v4, .slice ga gs.length gc, v6, v7, v8, v9, v10, v11, v12, v13, v14] 35)) := (Mod.refl _ _).alloc _
  have HM := hid hma
  have HG := hid (hg.ext hma)
  have HS := hid (hs.ext hma)
  have hcb : (w.alloc (.cells #[v0, v1, v2, v3, v4, .slice ga gs.length gc, v6, v7, v8, v9, v10, v11, v12, v13, v14] 35)).heap[w.heap.size]? = some (.cells #[v0, v1, v2, v3, v4, .slice ga gs.length gc, v6, v7, v8, v9, v10, v11, v12, v13, v14] 35 (0, 0)) := heap_alloc_new _ _
  have b5 := row_at (j := 5) (v := .slice ga gs.length gc) hcb rfl
  clear hma hg hs hcb
  go_enter Try.func22, Try.ntmps22
  go_wp2_with fail
  clear b5
  generalize w.alloc (.cells #[v0, v1, v2, v3, v4, .slice ga gs.length gc, v6, v7, v8, v9, v10, v11, v12, v13, v14] 35) = C at *
  go_loopw [7, 15] (fun n c wr => ∃ k : Nat, k ≤ gs.length ∧ c = .int .i64 (k : Int) ∧ n = .int .i64 (tally (conP sts) item ((gs.map Gd.pl).take k)) ∧ Mod (fun _ => False) C wr) (fun _ c _ => gs.length - (intOf c).toNat)
  case atStart => exact ⟨0, Nat.zero_le _, rfl, rfl, Mod.refl _ _⟩
  case round =>
    obtain ⟨k, hk, rfl, rfl, hm⟩ := hrel
    have HMr := hid hm
    clear hm
    obtain ⟨wo, rfl⟩ : ∃ y : World, y = wr := ⟨wr, rfl⟩
    by_cases hlt : k < gs.length
    case neg =>
      have hke : k = gs.length := by omega
      subst hke
      have HV : Hid ((gs.map Gd.pl).take gs.length = gs.map Gd.pl) := hid (List.take_of_length_le (by simp))
      go_wp2_with fail
      go_ret
      exact ⟨by rw [HV.out]; rfl, HM.out.trans HMr.out⟩
    case pos =>
      obtain ⟨x, hx⟩ : ∃ x, gs[k]? = some x := ⟨_, List.getElem?_eq_getElem hlt⟩
      have hlc := (HG.out.ext HMr.out)
      have HX := hid hx
      have HT := hid (tally_succ (conP sts) item (pl_at (f := Gd.pl) hx))
      have hll := hlc.l x (List.mem_of_getElem? hx)
      have hgl := hlc.g
      obtain ⟨o, s, la, lc, ls⟩ := x
      obtain ⟨g, off, rfl⟩ := hgl.some (by omega)
      have q0 := hgl.cell Gd.len hx (j := 0) rfl
      have q1 := hgl.cell Gd.len hx (j := 1) rfl
      have q2 := hgl.cell Gd.len hx (j := 2) rfl
      rw [Nat.add_zero] at q0
      simp only at q0 q1 q2 hll
      have hmb : Mod (fun _ => False) wo (wo.alloc (.cells #[.int .i64 o, .int .i64 s, .slice la ls.length lc] 63)) := (Mod.refl _ _).alloc _
      have hcx : (wo.alloc (.cells #[.int .i64 o, .int .i64 s, .slice la ls.length lc] 63)).heap[wo.heap.size]? = some (.cells #[.int .i64 o, .int .i64 s, .slice la ls.length lc] 63 (0, 0)) := heap_alloc_new _ _
      have HCx := hid hcx
      have c2 := row_at (j := 2) (v := .slice la ls.length lc) hcx rfl
      have HMb := hid (HMr.out.trans hmb)
      have HL := hid (hll.1.ext hmb)
      have hln := hll.2
      have HSc := hid ((HS.out.ext HMr.out).ext hmb)
      clear hx hlc hll hgl hmb hcx
      go_wp2_with fail
      clear q0 q1 q2 c2
      generalize wo.alloc (.cells #[.int .i64 o, .int .i64 s, .slice la ls.length lc] 63) = D at *
      go_loopw [7, 22] (fun n c wr => ∃ j : Nat, j ≤ ls.length ∧ c = .int .i64 (j : Int) ∧ n = .int .i64 (tallyL (conP sts) item s (tally (conP sts) item ((gs.map Gd.pl).take k)) (ls.take j)) ∧ Mod (fun _ => False) D wr) (fun _ c _ => ls.length - (intOf c).toNat)
      case atStart => exact ⟨0, Nat.zero_le _, rfl, rfl, Mod.refl _ _⟩
      case round =>
        obtain ⟨j, hj, rfl, rfl, hm⟩ := hrel
        have HMi := hid hm
        clear hm
        by_cases hlj : j < ls.length
        case neg =>
          have hke : j = ls.length := by omega
          subst hke
          have HV : Hid (ls.take ls.length = ls) := hid (List.take_of_length_le (Nat.le_refl _))
          go_wp2_with fail
          go_roundw
          case rel => exact ⟨k + 1, by omega, by go_num, by rw [HT.out, HV.out]; rfl, HMb.out.trans HMi.out⟩
          case measure => simp [intOf]; omega
        case pos =>
          obtain ⟨y, hy⟩ : ∃ y, ls[j]? = some y := ⟨_, List.getElem?_eq_getElem hlj⟩
          have HTj := hid (tallyL_succ (conP sts) item s (tally (conP sts) item ((gs.map Gd.pl).take k)) hy)
          have hlc := HL.out.ext HMi.out
          obtain ⟨g2, off2, rfl⟩ := hlc.some (by omega)
          obtain ⟨yi, yq⟩ := y
          have r0 := hlc.cell Ln.len hy (j := 0) rfl
          have r1 := hlc.cell Ln.len hy (j := 1) rfl
          rw [Nat.add_zero] at r0
          simp only at r0 r1
          have hmc : Mod (fun _ => False) wr (wr.alloc (.cells #[.int .i64 yi, .int .i64 yq] 95)) := (Mod.refl _ _).alloc _
          have HMc := hid (HMi.out.trans hmc)
          have c1 := row_at (j := 1) (v := .int .i64 s) ((HMc.out.block _ (lt_of_heap HCx.out) (fun h => h)).trans HCx.out) rfl
          have HK := hid (conS_any sc s (HSc.out.ext HMc.out) (by omega))
          generalize tallyL (conP sts) item s (tally (conP sts) item ((gs.map Gd.pl).take k)) (ls.take j) = n0 at *
          clear hy hlc hmc
          by_cases hit : yi = item
          · subst hit
            have d0 : (yi == yi) = true := by simp
            cases hcs : conP sts s with
            | true =>
              have HE : Hid (stepL (conP sts) yi s n0 ⟨yi, yq⟩ = wrap64 (n0 + yq)) := hid (by unfold stepL; rw [if_pos ⟨rfl, hcs⟩])
              rw [hcs] at HK
              clear hcs
              go_wp2_with (first | (go_at_call 35; refine HK.out.mono ?_; rintro e w2 ⟨rfl, rfl⟩))
              go_roundw
              case rel => exact ⟨j + 1, by omega, by go_num, by rw [HTj.out, HE.out], HMc.out⟩
              case measure => simp [intOf]; omega
            | false =>
              have HE : Hid (stepL (conP sts) yi s n0 ⟨yi, yq⟩ = n0) := hid (by unfold stepL; rw [if_neg (by simp [hcs])])
              rw [hcs] at HK
              clear hcs
              go_wp2_with (first | (go_at_call 35; refine HK.out.mono ?_; rintro e w2 ⟨rfl, rfl⟩))
              go_roundw
              case rel => exact ⟨j + 1, by omega, by go_num, by rw [HTj.out, HE.out], HMc.out⟩
              case measure => simp [intOf]; omega
          · have d0 : (yi == item) = false := by simpa using hit
            have HE : Hid (stepL (conP sts) item s n0 ⟨yi, yq⟩ = n0) := hid (by unfold stepL; rw [if_neg (fun h => hit h.1)])
            clear hit
            go_wp2_with fail
            go_roundw
            case rel => exact ⟨j + 1, by omega, by go_num, by rw [HTj.out, HE.out], HMc.out⟩
            case measure => simp [intOf]; omega

end Go.Proofs.Ytigoikepcbbhjaa
