/- Double and Take of package bus -/
import Derived.Test.YtppemlofjbblfaaBusO
namespace Go.Proofs.Ytppemlofjbblfaa
open Go Go.RowKit

/-- The letter at a place of an owned slice, cell by cell. -/
theorem let_cells {w : World} {E : TypeId} {g off n cap : Nat} {ls : List Let} {i : Nat} {a0 a1 a2 a3 a4 a5 a6 : Int} {s : ByteArray} (hown : Own w E 8 (some ⟨g, off, none⟩) n cap (ls.flatMap Let.cs)) (hx : ls[i]? = some ⟨a0, a1, a2, a3, a4, a5, a6, s⟩) :
    w.cell? ⟨g, off + i * 8, none⟩ = some (.int .i64 a0) ∧ w.cell? ⟨g, off + i * 8 + 1, none⟩ = some (.int .i64 a1) ∧ w.cell? ⟨g, off + i * 8 + 2, none⟩ = some (.int .i64 a2) ∧ w.cell? ⟨g, off + i * 8 + 3, none⟩ = some (.int .i64 a3) ∧
    w.cell? ⟨g, off + i * 8 + 4, none⟩ = some (.int .i64 a4) ∧ w.cell? ⟨g, off + i * 8 + 5, none⟩ = some (.int .i64 a5) ∧ w.cell? ⟨g, off + i * 8 + 6, none⟩ = some (.int .i64 a6) ∧ w.cell? ⟨g, off + i * 8 + 7, none⟩ = some (.string s) :=
  ⟨hown.elem Let.len hx (j := 0) rfl, hown.elem Let.len hx (j := 1) rfl, hown.elem Let.len hx (j := 2) rfl, hown.elem Let.len hx (j := 3) rfl, hown.elem Let.len hx (j := 4) rfl, hown.elem Let.len hx (j := 5) rfl, hown.elem Let.len hx (j := 6) rfl, hown.elem Let.len hx (j := 7) rfl⟩

theorem own_some {w : World} {e : TypeId} {size : Nat} {sa : Option Addr} {n cap : Nat} {xs : List Value} (h : Own w e size sa n cap xs) (hn : 0 < n) : ∃ g off, sa = some ⟨g, off, none⟩ := by
  rcases h.2.2.2 with ⟨_, hc⟩ | ⟨g, off, cur, rfl, _⟩
  · have := h.2.1; omega
  · exact ⟨g, off, rfl⟩

theorem cells8 {w : World} {g : Nat} {t : TypeId} {fr : Nat × Nat} {v0 v1 v2 v3 v4 v5 v6 v7 : Value} (h : w.heap[g]? = some (.cells #[v0, v1, v2, v3, v4, v5, v6, v7] t fr)) :
    w.cell? ⟨g, 0, none⟩ = some v0 ∧ w.cell? ⟨g, 1, none⟩ = some v1 ∧ w.cell? ⟨g, 2, none⟩ = some v2 ∧ w.cell? ⟨g, 3, none⟩ = some v3 ∧ w.cell? ⟨g, 4, none⟩ = some v4 ∧ w.cell? ⟨g, 5, none⟩ = some v5 ∧ w.cell? ⟨g, 6, none⟩ = some v6 ∧ w.cell? ⟨g, 7, none⟩ = some v7 :=
  ⟨by rw [cell_of_row _ _ _ _ _ _ h]; rfl, by rw [cell_of_row _ _ _ _ _ _ h]; rfl, by rw [cell_of_row _ _ _ _ _ _ h]; rfl, by rw [cell_of_row _ _ _ _ _ _ h]; rfl, by rw [cell_of_row _ _ _ _ _ _ h]; rfl, by rw [cell_of_row _ _ _ _ _ _ h]; rfl, by rw [cell_of_row _ _ _ _ _ _ h]; rfl, by rw [cell_of_row _ _ _ _ _ _ h]; rfl⟩

theorem mod_set8 (W : World) (n : Nat) (v0 v1 v2 v3 v4 v5 v6 v7 : Value) : Mod (fun k => k = n) W ((((((((W.setCell ⟨n, 0, none⟩ v0).setCell ⟨n, 1, none⟩ v1).setCell ⟨n, 2, none⟩ v2).setCell ⟨n, 3, none⟩ v3).setCell ⟨n, 4, none⟩ v4).setCell ⟨n, 5, none⟩ v5).setCell ⟨n, 6, none⟩ v6).setCell ⟨n, 7, none⟩ v7) := by
  iterate 8 refine Mod.setCell (S := fun k => k = n) ?_ (fun _ => rfl) _
  exact Mod.refl _ _

set_option maxRecDepth 100000 in
theorem double_ok {b : Nat} {sa : Option Addr} {cap : Nat} {next : Int} {w : World} {ls : List Let} (hbus : BusAt 58 28 w b sa cap ls next) (i : Nat) {a0 a1 a2 a3 a4 a5 a6 : Int} {s : ByteArray} (hx : ls[i]? = some ⟨a0, a1, a2, a3, a4, a5, a6, s⟩)
    (hl : ls.length < 4096) (hn : 0 ≤ next) (hn2 : next < 4611686018427387904) :
    Calls Try.prog 13 #[.pointer (some ⟨b, 0, none⟩), .int .i64 i] w fun e w' => e = .returned (.tuple #[.int .i64 next, .int .i64 0]) ∧ BusStep 58 28 w w' b sa (ls ++ [⟨next, a1, a2, a3, a4, a5, a6, s⟩]) (next + 1) := by
  have hi : i < ls.length := (List.getElem?_eq_some_iff.1 hx).1
  obtain ⟨h0, h1, f0, f1⟩ := hbus.cells
  obtain ⟨g, off, rfl⟩ := own_some hbus.2.1 (by omega)
  obtain ⟨c0, c1, c2, c3, c4, c5, c6, c7⟩ := let_cells hbus.2.1 hx
  have Hs := hid (send_ok b _ cap next w ls a0 a1 a2 a3 a4 a5 a6 s hbus hl hn hn2)
  have H := hid (has_ok hbus i hi)
  clear hbus hx hn hn2
  generalize ls.length = len at *
  go_enter Try.func13, Try.ntmps13
  go_wp2_with (first | (go_at_call 23; refine H.out.mono ?_; rintro e w' ⟨rfl, rfl⟩) | (go_at_call 11; refine Hs.out.mono ?_; rintro e w' ⟨rfl, hq⟩; have Hq := hid hq; clear hq))
  go_ret2
  exact ⟨rfl, Hq.out⟩

set_option maxRecDepth 100000 in
theorem double_full {b : Nat} {sa : Option Addr} {cap : Nat} {next : Int} {w : World} {ls : List Let} (hbus : BusAt 58 28 w b sa cap ls next) (i : Nat) (hi : i < ls.length)
    (hl : 4096 ≤ ls.length) :
    Calls Try.prog 13 #[.pointer (some ⟨b, 0, none⟩), .int .i64 i] w fun e w' => e = .returned (.tuple #[.int .i64 0, .int .i64 72]) ∧ Mod (fun _ => False) w w' := by
  obtain ⟨⟨a0, a1, a2, a3, a4, a5, a6, s⟩, hx⟩ : ∃ x, ls[i]? = some x := ⟨_, List.getElem?_eq_getElem hi⟩
  obtain ⟨h0, h1, f0, f1⟩ := hbus.cells
  obtain ⟨g, off, rfl⟩ := own_some hbus.2.1 (by omega)
  obtain ⟨c0, c1, c2, c3, c4, c5, c6, c7⟩ := let_cells hbus.2.1 hx
  have Hs := hid (send_full b _ cap next w ls a0 a1 a2 a3 a4 a5 a6 s hbus hl)
  have H := hid (has_ok hbus i hi)
  clear hbus hx
  generalize ls.length = len at *
  go_enter Try.func13, Try.ntmps13
  go_wp2_with (first | (go_at_call 23; refine H.out.mono ?_; rintro e w' ⟨rfl, rfl⟩) | (go_at_call 11; refine Hs.out.mono ?_; rintro e w' ⟨rfl, hq⟩; have Hq := hid hq; clear hq))
  go_ret2
  exact ⟨rfl, Hq.out⟩

set_option maxRecDepth 100000 in
theorem take_ok {b : Nat} {sa : Option Addr} {cap : Nat} {next : Int} {w : World} {ls : List Let} (hbus : BusAt 58 28 w b sa cap ls next) (i : Nat) {a0 a1 a2 a3 a4 a5 a6 : Int} {s : ByteArray} (hx : ls[i]? = some ⟨a0, a1, a2, a3, a4, a5, a6, s⟩)
    (hl : ls.length ≤ 4096) :
    Calls Try.prog 14 #[.pointer (some ⟨b, 0, none⟩), .int .i64 i] w fun e w' => e = .returned (.tuple #[.agg #[.int .i64 a0, .int .i64 a1, .int .i64 a2, .int .i64 a3, .int .i64 a4, .int .i64 a5, .int .i64 a6, .string s], .int .i64 0]) ∧ BusStep 58 28 w w' b sa (ls.eraseIdx i) next := by
  have hi : i < ls.length := (List.getElem?_eq_some_iff.1 hx).1
  obtain ⟨h0, h1, f0, f1⟩ := hbus.cells
  have hbl : b < w.heap.size := hbus.lt b (Or.inl rfl)
  obtain ⟨g, off, rfl⟩ := own_some hbus.2.1 (by omega)
  have hgl : g < w.heap.size := hbus.lt g (Or.inr ⟨_, rfl, rfl⟩)
  obtain ⟨c0, c1, c2, c3, c4, c5, c6, c7⟩ := let_cells hbus.2.1 hx
  have Hbus := hid hbus
  have Hh : Hid (∀ w1, Mod (fun _ => False) w w1 → Calls Try.prog 23 #[.pointer (some ⟨b, 0, none⟩), .int .i64 i] w1 fun e w' => e = .returned (.int .i64 0) ∧ w1 = w') := fun w1 hm => has_ok (hbus.mod hm (fun _ _ h => h)) i hi
  have Hd : Hid (∀ W, Mod (fun _ => False) w W → Calls Try.prog 24 #[.slice (some ⟨g, off, none⟩) ls.length cap, .int .i64 i, .int .i64 (i + 1)] W fun e w' => e = .returned (.slice (some ⟨g, off, none⟩) (ls.length - 1) cap) ∧ Own w' 28 8 (some ⟨g, off, none⟩) (ls.eraseIdx i).length cap ((ls.eraseIdx i).flatMap Let.cs) ∧ Mod (blk (some ⟨g, off, none⟩)) W w') := by
    intro W hW
    refine (delete_one g off ls.length cap i _ W (hbus.2.1.mod hW (fun _ _ h => h)) (flat_one Let.one ls) hi (by omega)).mono ?_
    rintro e w' ⟨he, hown, hm⟩
    refine ⟨he, ?_, hm⟩
    have e1 : (ls.eraseIdx i).length = ls.length - 1 := by rw [List.length_eraseIdx, if_pos hi]
    have e2 : (ls.eraseIdx i).flatMap Let.cs = (ls.flatMap Let.cs).take (i * 8) ++ (ls.flatMap Let.cs).drop (i * 8 + 8) := by
      rw [flat_take Let.len, show i * 8 + 8 = (i + 1) * 8 by omega, flat_drop Let.len, List.eraseIdx_eq_take_drop_succ, List.flatMap_append]
    rw [e1, e2]
    exact hown
  clear hbus hx
  go_enter Try.func14, Try.ntmps14
  go_wp2_with (go_at_call 23; refine (Hh.out _ (by exact (Mod.refl _ _).alloc _)).mono ?_; rintro e w' ⟨rfl, rfl⟩)
  refine (Hd.out _ (by exact ((Mod.refl _ _).alloc _).alloc _)).mono ?_
  rintro e w1 ⟨rfl, hown1, hm1⟩
  have hz0 := (hm1.block w.heap.size (by simp; omega) (by rw [blk_some]; omega)).trans (heap_alloc2_old _ _ _)
  have hz1 := (hm1.block (w.heap.size + 1) (by simp) (by rw [blk_some]; omega)).trans (heap_alloc2_new _ _ _)
  have hgb : ¬ blk (some ⟨g, off, none⟩) b := Hbus.out.2.2
  have hz2 := (hm1.block b (by simp; omega) hgb).trans ((Below.heap_alloc _ _ _ (by simp; omega)).trans ((Below.heap_alloc _ _ _ hbl).trans Hbus.out.1))
  obtain ⟨k0, k1, k2, k3, k4, k5, k6, k7⟩ := cells8 hz1
  obtain ⟨j0, j1, j2, j3, j4, j5, j6, j7⟩ := cells8 hz0
  have fz := fun o => frozen_of_row w1 w.heap.size o _ _ hz0
  have b0 : w1.cell? ⟨b, 0, none⟩ = some (.slice (some ⟨g, off, none⟩) ls.length cap) := by rw [cell_of_row _ _ _ _ _ _ hz2]; rfl
  have fb := frozen_of_row w1 b 0 _ _ hz2
  have Hown1 := hid hown1
  have Hm1 := hid hm1
  have Hz0 := hid hz0
  have Hz2 := hid hz2
  clear hown1 hm1 hz0 hz1 hz2 c0 c1 c2 c3 c4 c5 c6 c7
  go_wp2
  refine bodyPost_ret (v := .tuple #[.agg #[.int .i64 a0, .int .i64 a1, .int .i64 a2, .int .i64 a3, .int .i64 a4, .int .i64 a5, .int .i64 a6, .string s], .int .i64 0]) (by simp only [results, Try.results14]; go_simp) rfl ⟨rfl, some ⟨g, off, none⟩, cap, ?_⟩
  have e1 : (ls.eraseIdx i).length = ls.length - 1 := by rw [List.length_eraseIdx, if_pos hi]
  have hbs := bus_appended_at (T := 58) (E := 28) (w := w) (ls' := ls.eraseIdx i) (((Mod.refl _ _).alloc _).alloc _) ((Below.heap_alloc _ _ _ (by simp; omega)).trans ((Below.heap_alloc _ _ _ hbl).trans Hbus.out.1)) hgb Hm1.out Hown1.out (fun k h => Or.inl h)
  rw [e1] at hbs
  have hmm := fun W : World => mod_set8 W w.heap.size (.int .i64 a0) (.int .i64 a1) (.int .i64 a2) (.int .i64 a3) (.int .i64 a4) (.int .i64 a5) (.int .i64 a6) (.string s)
  refine ⟨hbs.1.mod (hmm _) ?_, hbs.2.1.then (hmm _) (fun k hk h => by omega), hbs.2.2⟩
  rintro k (rfl | h) h2
  · omega
  · rw [blk_some] at h; omega

set_option maxRecDepth 100000 in
theorem take_bad {b : Nat} {sa : Option Addr} {cap : Nat} {next : Int} {w : World} {ls : List Let} (hbus : BusAt 58 28 w b sa cap ls next) (i : Int) (hi : i < 0 ∨ ls.length ≤ i) :
    Calls Try.prog 14 #[.pointer (some ⟨b, 0, none⟩), .int .i64 i] w fun e w' => e = .returned (.tuple #[.agg #[.int .i64 0, .int .i64 0, .int .i64 0, .int .i64 0, .int .i64 0, .int .i64 0, .int .i64 0, .string ByteArray.empty], .int .i64 70]) ∧ Mod (fun _ => False) w w' := by
  have Hh : Hid (∀ w1, Mod (fun _ => False) w w1 → Calls Try.prog 23 #[.pointer (some ⟨b, 0, none⟩), .int .i64 i] w1 fun e w' => e = .returned (.int .i64 70) ∧ w1 = w') := fun w1 hm => has_bad (hbus.mod hm (fun _ _ h => h)) i hi
  clear hbus hi
  go_enter Try.func14, Try.ntmps14
  go_wp2_with (go_at_call 23; refine (Hh.out _ (by exact (Mod.refl _ _).alloc _)).mono ?_; rintro e w' ⟨rfl, rfl⟩)
  refine bodyPost_ret (v := .tuple #[.agg #[.int .i64 0, .int .i64 0, .int .i64 0, .int .i64 0, .int .i64 0, .int .i64 0, .int .i64 0, .string ByteArray.empty], .int .i64 70]) (by simp only [results, Try.results14]; go_simp; rfl) rfl ⟨rfl, ?_⟩
  exact (Mod.refl _ _).alloc _

set_option maxRecDepth 100000 in
theorem take_nil (w : World) (i : Int) :
    Calls Try.prog 14 #[.pointer none, .int .i64 i] w fun e w' => e = .returned (.tuple #[.agg #[.int .i64 0, .int .i64 0, .int .i64 0, .int .i64 0, .int .i64 0, .int .i64 0, .int .i64 0, .string ByteArray.empty], .int .i64 1]) ∧ Mod (fun _ => False) w w' := by
  go_enter Try.func14, Try.ntmps14
  go_wp2_with (go_at_call 23; refine (has_nil _ _).mono ?_; rintro e w' ⟨rfl, rfl⟩)
  refine bodyPost_ret (v := .tuple #[.agg #[.int .i64 0, .int .i64 0, .int .i64 0, .int .i64 0, .int .i64 0, .int .i64 0, .int .i64 0, .string ByteArray.empty], .int .i64 1]) (by simp only [results, Try.results14]; go_simp; rfl) rfl ⟨rfl, ?_⟩
  exact (Mod.refl _ _).alloc _

end Go.Proofs.Ytppemlofjbblfaa
