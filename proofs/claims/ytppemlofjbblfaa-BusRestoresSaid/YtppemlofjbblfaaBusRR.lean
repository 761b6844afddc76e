/- Restore of the document -/
import Derived.Test.YtppemlofjbblfaaBusRe
import Derived.Test.YtppemlofjbblfaaBusR
namespace Go.Proofs.Ytppemlofjbblfaa
open Go Go.RowKit

theorem rrestore_range {w : World} {sa : Option Addr} {cap n : Nat} (next : Int) (h : next < 1 ∨ 1152921504606846976 < next ∨ 4096 < n) (hn : n * 72 ≤ 140737488355328) :
    Calls Try.prog 20 #[.int .i64 next, .slice sa n cap] w fun e w' => e = .returned (.tuple #[.pointer none, .int .i64 2]) ∧ w = w' := by
  by_cases h1 : next < 1
  · have d1 : decide (next < 1) = true := by simpa using h1
    go_enter Try.func20, Try.ntmps20
    go_wp2
    go_ret2
    exact ⟨rfl, rfl⟩
  · have d1 : decide (next < 1) = false := by simpa using h1
    by_cases h2 : 1152921504606846976 < next
    · have d2 : decide (1152921504606846976 < next) = true := by simpa using h2
      go_enter Try.func20, Try.ntmps20
      go_wp2
      go_ret2
      exact ⟨rfl, rfl⟩
    · have d2 : decide (1152921504606846976 < next) = false := by simpa using h2
      have d3 : (4096 : Int) < (n : Int) := by omega
      go_enter Try.func20, Try.ntmps20
      go_wp2
      go_ret2
      exact ⟨rfl, rfl⟩

def lastOf (ls : List Let) : Nat → Int
  | 0 => 0
  | k + 1 => (ls.getD k Let.zero).id

def RRestRel (w : World) (next : Int) (ls : List Let) (c : Value) (wr : World) : Prop :=
  ∃ (k : Nat) (la : Option Addr) (lc : Nat), k ≤ ls.length ∧ c = .int .i64 k ∧ okList next 0 ls = okList next (lastOf ls k) (ls.drop k) ∧ 0 ≤ lastOf ls k ∧ Mod (fun _ => False) w wr ∧
    BusAt 47 50 wr w.heap.size la lc (ls.take k) next ∧ (∀ j, busF w.heap.size la j → w.heap.size ≤ j)

/-- The world at the append: facts on it. -/
theorem rest_world {T E : TypeId} {b : Nat} {sa : Option Addr} {cap : Nat} {next : Int} {w : World} {ls : List Let} (hbus : BusAt T E w b sa cap ls next) (C : List Value) (hC : C.length = 8) (W : World)
    (hW : W = (w.alloc (.cells C.toArray E)).drew) :
    W.heap[b]? = some (.cells #[.slice sa ls.length cap, .int .i64 next] T (0, 0)) ∧ Mod (fun k => k = b) w W ∧ Own W E 8 sa ls.length cap (ls.flatMap Let.cs) ∧ Src W 8 (some ⟨w.heap.size, 0, none⟩) 1 C ∧
    (∀ w1, Mod (blk sa) W w1 → w1.cell? ⟨b, 0, none⟩ = some (.slice sa ls.length cap) ∧ w1.frozen? ⟨b, 0, none⟩ = false) := by
  obtain ⟨hb, hown, hne⟩ := hbus
  have hbl := lt_of_heap hb
  have hWb : W.heap[b]? = some (.cells #[.slice sa ls.length cap, .int .i64 next] T (0, 0)) := by
    rw [hW, heap_drew, Below.heap_alloc _ _ _ hbl]
    exact hb
  have hW0 : W.heap[w.heap.size]? = some (.cells C.toArray E) := by
    rw [hW, heap_drew]
    exact heap_alloc_new _ _
  have hWm : Mod (fun k => k = b) w W := by
    rw [hW]; exact ((Mod.refl _ w).alloc _).drew
  refine ⟨hWb, hWm, hown.mod hWm (fun k hk => by rintro rfl; exact hne hk), src_new hW0 (by rw [hC]), ?_⟩
  intro w1 hm
  have e1 := (hm.block b (lt_of_heap hWb) hne).trans hWb
  exact ⟨by rw [cell_of_row _ _ _ _ _ _ e1]; rfl, frozen_of_row _ _ _ _ _ e1⟩

set_option maxRecDepth 100000 in
set_option maxHeartbeats 800000 in
theorem rrestore_in {w : World} {sa : Option Addr} {cap : Nat} {ls : List Let} (hown : Own w 50 8 sa ls.length cap (ls.flatMap Let.cs)) (next : Int) (h1 : 1 ≤ next) (h2 : next ≤ 1152921504606846976) (h3 : ls.length ≤ 4096) :
    Calls Try.prog 20 #[.int .i64 next, .slice sa ls.length cap] w fun e w' =>
      (okList next 0 ls = true ∧ Restored 47 50 w ls next e w') ∨ (okList next 0 ls = false ∧ e = .returned (.tuple #[.pointer none, .int .i64 2]) ∧ Mod (fun _ => False) w w') := by
  obtain ⟨i0, hi0, hz0, hz1, hz2⟩ := info_parts infoRLetS
  have d1 : decide (next < 1) = false := by simp; omega
  have d2 : decide (1152921504606846976 < next) = false := by simp; omega
  have d3 : decide (4096 < (ls.length : Int)) = false := by simp; omega
  have d4 : decide (4096 < ls.length) = false := by simp; omega
  have Hown := hid hown
  clear hown
  go_enter Try.func20, Try.ntmps20
  go_wp2
  go_loopw [7] (fun c wr => RRestRel w next ls c wr) (fun c _ => ls.length - (intOf c).toNat)
  case atStart => exact ⟨0, none, 0, Nat.zero_le _, rfl, rfl, Int.le_refl _, (Mod.refl _ _).alloc _, ⟨heap_alloc_new _ _, Own.nil _ _ _, blk_none _⟩, fun j h => by rcases h with h | h; omega; exact (blk_none _ h).elim⟩
  case round =>
    obtain ⟨k, la, lc, hk, rfl, hok, hl0, hm, hbus, hF⟩ := hrel
    have hown := Hown.out.mod hm (fun _ _ h => h)
    have hsz := hm.size
    have Hok := hid hok
    have Hm := hid hm
    have HF := hid hF
    clear hok hm hF
    by_cases hlt : k < ls.length
    · obtain ⟨⟨x0, x1, x2, x3, x4, x5, x6, xs⟩, hx⟩ : ∃ x, ls[k]? = some x := ⟨_, List.getElem?_eq_getElem hlt⟩
      obtain ⟨g, off, rfl⟩ := own_some hown (by omega)
      obtain ⟨q0, q1, q2, q3, q4, q5, q6, q7⟩ := let_cells hown hx
      have Hs := hid (okList_step (next := next) (last := lastOf ls k) hx)
      have Hbus := hid hbus
      have Hx := hid hx
      have Hl0 := hid hl0
      have hi1 : (k : Int) < (ls.length : Int) := by omega
      by_cases hc1 : x0 < 1
      · have b1 : decide (x0 < 1) = true := by simpa using hc1
        clear hown hx hbus hl0
        go_wp2
        go_quiet (fail)
        go_wp2
        go_ret2
        refine Or.inr ⟨?_, rfl, Hm.out.drewN _⟩
        rw [Hok.out, Hs.out]
        have := Hl0.out
        simp; intro h; omega
      · have b1 : decide (x0 < 1) = false := by simpa using hc1
        by_cases hc2 : next ≤ x0
        · have b2 : decide (next ≤ x0) = true := by simpa using hc2
          clear hown hx hbus hl0
          go_wp2
          go_quiet (fail)
          go_wp2
          go_ret2
          refine Or.inr ⟨?_, rfl, Hm.out.drewN _⟩
          rw [Hok.out, Hs.out]
          simp; intro _ h; omega
        · have b2 : decide (next ≤ x0) = false := by simpa using hc2
          obtain ⟨r0, r1, r2, r3⟩ := hbus.cells
          have hlen : (ls.take k).length = k := by rw [List.length_take]; omega
          rw [hlen] at r0
          by_cases hk0 : k = 0
          · have b3 : decide (0 < (k : Int)) = false := by simp; omega
            have b4 : decide (0 < k) = false := by simp; omega
            have Hnx : Hid (okList next 0 ls = okList next (lastOf ls (k + 1)) (ls.drop (k + 1)) ∧ 0 ≤ lastOf ls (k + 1)) := by
              have e1 : lastOf ls (k + 1) = x0 := by simp [lastOf, hx]
              rw [e1, Hok.out, Hs.out]
              have e2 : lastOf ls k = 0 := by rw [hk0]; rfl
              have e3 : decide (lastOf ls k < x0) = true := by rw [e2]; simp; omega
              have e4 : decide (x0 < next) = true := by simp; omega
              exact ⟨by simp [e3, e4], by omega⟩
            clear hown hx hbus hl0 hk0 hlen
            go_wp2
            go_quiet (fail)
            go_wp2
            have hW0m : Mod (fun _ => False) wr (wr.drewN nq) := (Mod.refl _ _).drewN nq
            have HbusW := hid (Hbus.out.mod hW0m (fun _ _ h => h))
            have HmW := hid (Hm.out.trans hW0m)
            have z0 : (wr.drewN nq).cell? ⟨w.heap.size, 0, none⟩ = _ := r0
            have z1 : (wr.drewN nq).frozen? ⟨w.heap.size, 0, none⟩ = _ := r2
            have s0 : (wr.drewN nq).cell? ⟨g, off + k * 8, none⟩ = _ := q0
            have s1 : (wr.drewN nq).cell? ⟨g, off + k * 8 + 1, none⟩ = _ := q1
            have s2 : (wr.drewN nq).cell? ⟨g, off + k * 8 + 2, none⟩ = _ := q2
            have s3 : (wr.drewN nq).cell? ⟨g, off + k * 8 + 3, none⟩ = _ := q3
            have s4 : (wr.drewN nq).cell? ⟨g, off + k * 8 + 4, none⟩ = _ := q4
            have s5 : (wr.drewN nq).cell? ⟨g, off + k * 8 + 5, none⟩ = _ := q5
            have s6 : (wr.drewN nq).cell? ⟨g, off + k * 8 + 6, none⟩ = _ := q6
            have s7 : (wr.drewN nq).cell? ⟨g, off + k * 8 + 7, none⟩ = _ := q7
            have hgl : g < (wr.drewN nq).heap.size := World.block_lt_of_cell? _ _ s0
            clear hW0m r0 r1 r2 r3 q0 q1 q2 q3 q4 q5 q6 q7 hsz
            generalize wr.drewN nq = W0 at *
            have hsz := HmW.out.size
            have hbl : w.heap.size < W0.heap.size := lt_of_heap HbusW.out.1
            obtain ⟨hWb, hWm, hWown, hWsrc, hlate⟩ := rest_world HbusW.out [.int .i64 x0, .int .i64 x1, .int .i64 x2, .int .i64 x3, .int .i64 x4, .int .i64 x5, .int .i64 x6, .string xs] rfl _ rfl
            have hlen : (ls.take k).length = k := by rw [List.length_take]; omega
            rw [hlen] at hWb hWown hlate
            have HWb := hid hWb
            have HWm := hid hWm
            have HWown := hid hWown
            have HWsrc := hid hWsrc
            have Hlate := hid hlate
            have Hone := hid (Let.one ⟨x0, x1, x2, x3, x4, x5, x6, xs⟩)
            have Hne := hid HbusW.out.2.2
            clear hWb hWm hWown hWsrc hlate hlen
            go_region_law (refine step_append_Own rfl (.tmp 65) (.tmp 70) 45 rfl 50 i0 _ 8 72 Try.underlying45 hi0 hz0 hz1 hz2 rfl la k lc _ (by simp [Act.eval]) HWown.out (some ⟨W0.heap.size, 0, none⟩) 1 1 _ (by simp [Act.eval]) HWsrc.out Hone.out (by unfold maxLen; omega) (by omega) ?_; intro la' lc' w1 hown1 hm1 hb1 hn1 hr1; obtain ⟨k0, k1⟩ := Hlate.out w1 hm1; have Hm1 := hid hm1; have Hown1 := hid hown1; have Hb1 := hid hb1; clear hm1 hown1 hb1 hn1 hr1)
            all_goals
              go_wp2
              go_roundw
              case rel =>
                have e2 : ls.take (k + 1) = ls.take k ++ [(⟨x0, x1, x2, x3, x4, x5, x6, xs⟩ : Let)] := by rw [List.take_add_one, Hx.out]; rfl
                have e3 : (ls.take (k + 1)).length = k + 1 := by rw [List.length_take]; omega
                obtain ⟨ha, hb, hc⟩ := bus_appended_at (T := 47) (E := 50) (ls' := ls.take (k + 1)) HWm.out HWb.out Hne.out Hm1.out (by rw [e3, e2, List.flatMap_append]; exact Hown1.out) Hb1.out
                rw [e3] at ha hb
                refine ⟨k + 1, la', lc', by omega, by go_num, Hnx.out.1, Hnx.out.2, ?_, ha, ?_⟩
                · exact HmW.out.then hb (fun j hj h => by have := HF.out j h; omega)
                · rintro j (rfl | h)
                  · omega
                  · rcases hc j h with h | h
                    · exact HF.out j (Or.inr h)
                    · omega
              case measure => simp [intOf]; omega
          · obtain ⟨⟨y0, y1, y2, y3, y4, y5, y6, ys⟩, hy⟩ : ∃ x, ls[k - 1]? = some x := ⟨_, List.getElem?_eq_getElem (by omega)⟩
            have b3 : decide (0 < (k : Int)) = true := by simp; omega
            have b4 : decide (0 < k) = true := by simp; omega
            have p0 := (let_cells hown hy).1
            have w1 : IntKind.i64.wrap ((k : Int) - 1) = (k : Int) - 1 := IntWalk.i64_in _ (by omega)
            have w2 : (0 : Int) ≤ (k : Int) - 1 := by omega
            have w3 : ((k : Int) - 1).toNat = k - 1 := by omega
            have w4 : (k : Int) - 1 < (ls.length : Int) := by omega
            have w5 : (1 : Int) ≤ (k : Int) := by omega
            have Hy := hid hy
            have Hk0 := hid hk0
            clear hown hx hbus hl0 hk0 hlen hy
            by_cases hc3 : x0 ≤ y0
            · have b5 : decide (x0 ≤ y0) = true := by simpa using hc3
              go_wp2
              go_quiet (fail)
              go_wp2
              go_ret2
              refine Or.inr ⟨?_, rfl, Hm.out.drewN _⟩
              obtain ⟨j, rfl⟩ : ∃ j, k = j + 1 := ⟨k - 1, by have := Hk0.out; omega⟩
              have e1 : lastOf ls (j + 1) = y0 := by have := Hy.out; simp at this; simp [lastOf, this]
              rw [Hok.out, Hs.out, e1]
              simp; intro h; omega
            · have b5 : decide (x0 ≤ y0) = false := by simpa using hc3
              have Hnx : Hid (okList next 0 ls = okList next (lastOf ls (k + 1)) (ls.drop (k + 1)) ∧ 0 ≤ lastOf ls (k + 1)) := by
                have hx := Hx.out
                have e1 : lastOf ls (k + 1) = x0 := by simp [lastOf, hx]
                rw [e1, Hok.out, Hs.out]
                obtain ⟨j, rfl⟩ : ∃ j, k = j + 1 := ⟨k - 1, by have := Hk0.out; omega⟩
                have e2 : lastOf ls (j + 1) = y0 := by have := Hy.out; simp at this; simp [lastOf, this]
                have e3 : decide (lastOf ls (j + 1) < x0) = true := by rw [e2]; simp; omega
                have e4 : decide (x0 < next) = true := by simp; omega
                exact ⟨by simp [e3, e4], by omega⟩
              go_wp2
              go_quiet (fail)
              go_wp2
              clear p0 w1 w2 w3 w4 w5
              have hW0m : Mod (fun _ => False) wr (wr.drewN nq) := (Mod.refl _ _).drewN nq
              have HbusW := hid (Hbus.out.mod hW0m (fun _ _ h => h))
              have HmW := hid (Hm.out.trans hW0m)
              have z0 : (wr.drewN nq).cell? ⟨w.heap.size, 0, none⟩ = _ := r0
              have z1 : (wr.drewN nq).frozen? ⟨w.heap.size, 0, none⟩ = _ := r2
              have s0 : (wr.drewN nq).cell? ⟨g, off + k * 8, none⟩ = _ := q0
              have s1 : (wr.drewN nq).cell? ⟨g, off + k * 8 + 1, none⟩ = _ := q1
              have s2 : (wr.drewN nq).cell? ⟨g, off + k * 8 + 2, none⟩ = _ := q2
              have s3 : (wr.drewN nq).cell? ⟨g, off + k * 8 + 3, none⟩ = _ := q3
              have s4 : (wr.drewN nq).cell? ⟨g, off + k * 8 + 4, none⟩ = _ := q4
              have s5 : (wr.drewN nq).cell? ⟨g, off + k * 8 + 5, none⟩ = _ := q5
              have s6 : (wr.drewN nq).cell? ⟨g, off + k * 8 + 6, none⟩ = _ := q6
              have s7 : (wr.drewN nq).cell? ⟨g, off + k * 8 + 7, none⟩ = _ := q7
              have hgl : g < (wr.drewN nq).heap.size := World.block_lt_of_cell? _ _ s0
              clear hW0m r0 r1 r2 r3 q0 q1 q2 q3 q4 q5 q6 q7 hsz
              generalize wr.drewN nq = W0 at *
              have hsz := HmW.out.size
              have hbl : w.heap.size < W0.heap.size := lt_of_heap HbusW.out.1
              obtain ⟨hWb, hWm, hWown, hWsrc, hlate⟩ := rest_world HbusW.out [.int .i64 x0, .int .i64 x1, .int .i64 x2, .int .i64 x3, .int .i64 x4, .int .i64 x5, .int .i64 x6, .string xs] rfl _ rfl
              have hlen : (ls.take k).length = k := by rw [List.length_take]; omega
              rw [hlen] at hWb hWown hlate
              have HWb := hid hWb
              have HWm := hid hWm
              have HWown := hid hWown
              have HWsrc := hid hWsrc
              have Hlate := hid hlate
              have Hone := hid (Let.one ⟨x0, x1, x2, x3, x4, x5, x6, xs⟩)
              have Hne := hid HbusW.out.2.2
              clear hWb hWm hWown hWsrc hlate hlen
              go_region_law (refine step_append_Own rfl (.tmp 65) (.tmp 70) 45 rfl 50 i0 _ 8 72 Try.underlying45 hi0 hz0 hz1 hz2 rfl la k lc _ (by simp [Act.eval]) HWown.out (some ⟨W0.heap.size, 0, none⟩) 1 1 _ (by simp [Act.eval]) HWsrc.out Hone.out (by unfold maxLen; omega) (by omega) ?_; intro la' lc' w1 hown1 hm1 hb1 hn1 hr1; obtain ⟨k0, k1⟩ := Hlate.out w1 hm1; have Hm1 := hid hm1; have Hown1 := hid hown1; have Hb1 := hid hb1; clear hm1 hown1 hb1 hn1 hr1)
              all_goals
                go_wp2
                go_roundw
                case rel =>
                  have e2 : ls.take (k + 1) = ls.take k ++ [(⟨x0, x1, x2, x3, x4, x5, x6, xs⟩ : Let)] := by rw [List.take_add_one, Hx.out]; rfl
                  have e3 : (ls.take (k + 1)).length = k + 1 := by rw [List.length_take]; omega
                  obtain ⟨ha, hb, hc⟩ := bus_appended_at (T := 47) (E := 50) (ls' := ls.take (k + 1)) HWm.out HWb.out Hne.out Hm1.out (by rw [e3, e2, List.flatMap_append]; exact Hown1.out) Hb1.out
                  rw [e3] at ha hb
                  refine ⟨k + 1, la', lc', by omega, by go_num, Hnx.out.1, Hnx.out.2, ?_, ha, ?_⟩
                  · exact HmW.out.then hb (fun j hj h => by have := HF.out j h; omega)
                  · rintro j (rfl | h)
                    · omega
                    · rcases hc j h with h | h
                      · exact HF.out j (Or.inr h)
                      · omega
                case measure => simp [intOf]; omega
    · have hkn : k = ls.length := by omega
      have ht : ls.take k = ls := by rw [hkn, List.take_length]
      rw [ht] at hbus
      have Hbus := hid hbus
      clear hown hbus ht hl0
      go_wp2
      go_ret2
      refine Or.inl ⟨?_, w.heap.size, la, lc, rfl, Hbus.out, Hm.out, HF.out⟩
      rw [Hok.out, hkn, List.drop_length]; rfl

end Go.Proofs.Ytppemlofjbblfaa
