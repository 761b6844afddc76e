/- The document's Take -/
import Derived.Test.YtppemlofjbblfaaBusR
namespace Go.Proofs.Ytppemlofjbblfaa
open Go Go.RowKit

theorem erase_same {α : Type} (ls : List α) (i : Nat) : (ls.take (i + 1)).eraseIdx i = (ls.take i).eraseIdx i := by
  rw [List.eraseIdx_eq_take_drop_succ, List.eraseIdx_eq_take_drop_succ, List.take_take, List.take_take, Nat.min_eq_left (by omega), Nat.min_self,
    List.drop_of_length_le (by rw [List.length_take]; omega), List.drop_of_length_le (by rw [List.length_take]; omega)]

theorem erase_other {α : Type} (ls : List α) (i k : Nat) (x : α) (hx : ls[k]? = some x) (hne : k ≠ i) : (ls.take (k + 1)).eraseIdx i = (ls.take k).eraseIdx i ++ [x] := by
  have hk : k < ls.length := (List.getElem?_eq_some_iff.1 hx).1
  have e : ls.take (k + 1) = ls.take k ++ [x] := by rw [List.take_add_one, hx]; rfl
  rw [e]
  by_cases h : i < k
  · rw [List.eraseIdx_append_of_lt_length (by rw [List.length_take]; omega)]
  · have h2 : k < i := by omega
    rw [List.eraseIdx_of_length_le (by simp; omega), List.eraseIdx_of_length_le (by rw [List.length_take]; omega)]

/-- What holds at the head of Take's loop. -/
def TakeRel (w : World) (ls : List Let) (i : Nat) (v c : Value) (wr : World) : Prop :=
  ∃ (k : Nat) (la : Option Addr) (lc : Nat), k ≤ ls.length ∧ c = .int .i64 k ∧ v = .slice la ((ls.take k).eraseIdx i).length lc ∧ Own wr 50 8 la ((ls.take k).eraseIdx i).length lc (((ls.take k).eraseIdx i).flatMap Let.cs) ∧
    Mod (fun _ => False) w wr ∧ (∀ j, blk la j → w.heap.size ≤ j)

theorem takeRel_start (w : World) (ls : List Let) (i : Nat) : TakeRel w ls i (.slice none 0 0) (.int .i64 0) w :=
  ⟨0, none, 0, Nat.zero_le _, rfl, by simp, by simpa using Own.nil w 50 8, Mod.refl _ _, fun j h => (blk_none j h).elim⟩

set_option maxRecDepth 100000 in
set_option maxHeartbeats 400000 in
theorem rtake_ok {b : Nat} {sa : Option Addr} {cap : Nat} {next : Int} {w : World} {ls : List Let} (hbus : BusAt 47 50 w b sa cap ls next) (i : Nat) {a0 a1 a2 a3 a4 a5 a6 : Int} {s : ByteArray} (hx : ls[i]? = some ⟨a0, a1, a2, a3, a4, a5, a6, s⟩)
    (hl : ls.length ≤ 4096) :
    Calls Try.prog 26 #[.pointer (some ⟨b, 0, none⟩), .int .i64 i] w fun e w' => e = .returned (.tuple #[.agg #[.int .i64 a0, .int .i64 a1, .int .i64 a2, .int .i64 a3, .int .i64 a4, .int .i64 a5, .int .i64 a6, .string s], .int .i64 0]) ∧ BusStep 47 50 w w' b sa (ls.eraseIdx i) next := by
  have hi : i < ls.length := (List.getElem?_eq_some_iff.1 hx).1
  obtain ⟨i0, hi0, hz0, hz1, hz2⟩ := info_parts infoRLetS
  obtain ⟨h0, h1, f0, f1⟩ := hbus.cells
  have hbl : b < w.heap.size := hbus.lt b (Or.inl rfl)
  obtain ⟨g, off, rfl⟩ := own_some hbus.2.1 (by omega)
  have hgl : g < w.heap.size := hbus.lt g (Or.inr ⟨_, rfl, rfl⟩)
  obtain ⟨c0, c1, c2, c3, c4, c5, c6, c7⟩ := let_cells hbus.2.1 hx
  have Hbus := hid hbus
  clear hbus hx
  have hd1 : decide ((i : Int) < 0) = false := by simp
  have hd2 : decide (ls.length ≤ i) = false := by simp; omega
  go_enter Try.func26, Try.ntmps26
  go_wp2
  clear c0 c1 c2 c3 c4 c5 c6 c7
  generalize hW : (w.alloc (Obj.cells #[Value.int IntKind.i64 0, Value.int IntKind.i64 0, Value.int IntKind.i64 0, Value.int IntKind.i64 0, Value.int IntKind.i64 0, Value.int IntKind.i64 0, Value.int IntKind.i64 0, Value.string { data := #[] }] 50)).alloc _ = W
  have HW := hid hW
  clear hW
  go_loopw [7, 8] (fun v c wr => TakeRel W ls i v c wr) (fun _ c _ => ls.length - (intOf c).toNat)
  case atStart => exact takeRel_start W ls i
  case round =>
    obtain ⟨k, la, lc, hk, rfl, rfl, hown, hm, hbk⟩ := hrel
    have hwW : Mod (fun _ => False) w W := by rw [← HW.out]; exact ((Mod.refl _ _).alloc _).alloc _
    have hWs : W.heap.size = w.heap.size + 2 := by rw [← HW.out]; simp
    have hbr := Hbus.out.mod (hwW.trans hm) (fun _ _ h => h)
    obtain ⟨r0, r1, r2, r3⟩ := hbr.cells
    have hsz := hm.size
    clear h0 h1 f0 f1
    by_cases hlt : k < ls.length
    · obtain ⟨⟨x0, x1, x2, x3, x4, x5, x6, xs⟩, hx⟩ : ∃ x, ls[k]? = some x := ⟨_, List.getElem?_eq_getElem hlt⟩
      obtain ⟨d0, d1, d2, d3, d4, d5, d6, d7⟩ := let_cells hbr.2.1 hx
      have Hm := hid hm
      have Hown := hid hown
      have Hbk := hid hbk
      by_cases hki : k = i
      · have hb1 : ((k : Int) != (i : Int)) = false := by simp [hki]
        have Hki := hid hki
        clear hm hown hbk hbr hx hwW hWs hki
        go_wp2
        go_roundw
        case rel =>
          have e := erase_same ls i
          have hki := Hki.out
          subst hki
          refine ⟨k + 1, la, lc, by omega, by go_num, by rw [e], by rw [e]; exact Hown.out, Hm.out, Hbk.out⟩
        case measure => simp [intOf]; omega
      · have hb1 : ((k : Int) != (i : Int)) = true := by rw [bne_iff_ne]; omega
        have Hx := hid hx
        have Hki := hid hki
        have Hsrc := hid (src_new (size := 8) (m := 1) (heap_alloc_new wr (.cells #[.int .i64 x0, .int .i64 x1, .int .i64 x2, .int .i64 x3, .int .i64 x4, .int .i64 x5, .int .i64 x6, .string xs] 50)) rfl)
        have Hone := hid (Let.one ⟨x0, x1, x2, x3, x4, x5, x6, xs⟩)
        have hle : ((ls.take k).eraseIdx i).length ≤ 4096 := by
          have := List.length_eraseIdx_le (ls.take k) i
          rw [List.length_take] at this
          omega
        have Hown' := hid (hown.mod (S := fun _ => False) ((Mod.refl _ wr).alloc (.cells #[.int .i64 x0, .int .i64 x1, .int .i64 x2, .int .i64 x3, .int .i64 x4, .int .i64 x5, .int .i64 x6, .string xs] 50)) (fun _ _ h => h))
        clear hm hown hbk hbr hx hwW hWs hki
        generalize hT : ((ls.take k).eraseIdx i).length = m at *
        have HT := hid hT
        clear hT
        go_wp2_with (at_builtin; refine wpList_append_Own rfl (.tmp 40) (.tmp 48) 45 rfl 50 i0 _ 8 72 Try.underlying45 hi0 hz0 hz1 hz2 rfl la m lc _ rfl Hown'.out (some ⟨wr.heap.size, 0, none⟩) 1 1 _ rfl Hsrc.out Hone.out (by unfold maxLen; omega) (by omega) ?_; intro la' lc' w1 hown1 hm1 hb1 hn1 hr1; have Hm1 := hid hm1; have Hown1 := hid hown1; have Hb1 := hid hb1; clear hm1 hown1 hb1 hn1 hr1)
        go_roundw
        case rel =>
          have e := erase_other ls i k _ Hx.out Hki.out
          have el : ((ls.take (k + 1)).eraseIdx i).length = m + 1 := by rw [e, List.length_append, HT.out]; rfl
          refine ⟨k + 1, la', lc', by omega, by go_num, by rw [el], ?_, ?_, ?_⟩
          · rw [el, e, List.flatMap_append]; exact Hown1.out
          · exact (Hm.out.alloc _).then Hm1.out (fun j hj h => by have := Hbk.out j h; omega)
          · intro j hj
            rcases Hb1.out j hj with h | h
            · exact Hbk.out j h
            · simp at h; omega
        case measure => simp [intOf]; omega
    · have hkn : k = ls.length := by omega
      have hT : (ls.take k).eraseIdx i = ls.eraseIdx i := by rw [hkn, List.take_length]
      rw [hT] at hown ⊢
      have hz0 := (hm.block w.heap.size (by omega) (fun h => h)).trans ((congrArg (fun W : World => W.heap[w.heap.size]?) HW.out.symm).trans (heap_alloc2_old _ _ _))
      have hz1 := (hm.block (w.heap.size + 1) (by omega) (fun h => h)).trans ((congrArg (fun W : World => W.heap[w.heap.size + 1]?) HW.out.symm).trans (heap_alloc2_new _ _ _))
      obtain ⟨k0, k1, k2, k3, k4, k5, k6, k7⟩ := cells8 hz1
      obtain ⟨j0, j1, j2, j3, j4, j5, j6, j7⟩ := cells8 hz0
      have fz := fun o => frozen_of_row wr w.heap.size o _ _ hz0
      have Hown := hid hown
      have Hbr := hid hbr
      have HwW := hid hwW
      have Hm := hid hm
      have Hbk := hid hbk
      have HWs := hid hWs
      clear hz0 hz1 hbr hwW hm hown hT hWs hbk
      generalize hL : (ls.eraseIdx i).length = m at *
      have HL := hid hL
      clear hL hkn
      go_wp2
      refine bodyPost_ret (v := .tuple #[.agg #[.int .i64 a0, .int .i64 a1, .int .i64 a2, .int .i64 a3, .int .i64 a4, .int .i64 a5, .int .i64 a6, .string s], .int .i64 0]) (by simp only [results, Try.results26]; go_simp) rfl ⟨rfl, la, lc, ?_⟩
      have hbl2 : wr.heap[b]? = _ := Hbr.out.1
      have hmm := fun W : World => mod_set8 W w.heap.size (.int .i64 a0) (.int .i64 a1) (.int .i64 a2) (.int .i64 a3) (.int .i64 a4) (.int .i64 a5) (.int .i64 a6) (.string s)
      have hnb : ∀ k, blk la k → w.heap.size + 2 ≤ k := fun k h => by have := Hbk.out k h; have := HWs.out; omega
      have hst : Mod (fun k => k = b) wr (wr.setCell ⟨b, 0, none⟩ (.slice la m lc)) := Mod.setCell (S := fun k => k = b) (Mod.refl _ _) (fun _ => rfl) _
      have hat : BusAt 47 50 (wr.setCell ⟨b, 0, none⟩ (.slice la m lc)) b la lc (ls.eraseIdx i) next := by
        refine ⟨?_, ?_, fun h => by have := hnb b h; omega⟩
        · rw [heap_setCell_same wr b 0 _ 47 _ hbl2, HL.out]; rfl
        · rw [HL.out]; exact Hown.out.mod hst (fun k h h2 => by have := hnb k h; omega)
      refine ⟨hat.mod (hmm _) ?_, ?_, fun k h => Or.inr (by have := hnb k h; omega)⟩
      · rintro k (rfl | h) h2
        · omega
        · have := hnb k h; omega
      · refine ((((HwW.out.trans Hm.out).mono fun k _ h => h.elim).then (hst.mono fun k _ h => Or.inl h) fun k _ h => h)).then (hmm _) (fun k hk h => by omega)

end Go.Proofs.Ytppemlofjbblfaa
