/- The law's lines and same -/
import Derived.Test.YtigoikepcbbhjaaAuK
namespace Go.Proofs.Ytigoikepcbbhjaa
open Go Go.RowKit

theorem infoRLine : (Try.prog.info? 96).map (fun i => (i.zero, i.size, i.bytes)) = some (some (.agg #[.int .i64 0, .int .i64 0]), 2, 16) := by kernel_rfl

theorem flat_succ {α : Type} (f : α → List Value) {l : List α} {k : Nat} {x : α} (hx : l[k]? = some x) : (l.take (k + 1)).flatMap f = (l.take k).flatMap f ++ f x := by
  obtain ⟨hk, he⟩ := List.getElem?_eq_some_iff.1 hx
  rw [List.take_succ_eq_append_getElem hk, List.flatMap_append, he]
  simp

theorem Ln.one (x : Ln) : ∀ u ∈ x.cs, u.oneCell' = true := by
  intro u hu
  simp only [Ln.cs, List.mem_cons, List.not_mem_nil, or_false] at hu
  rcases hu with rfl | rfl <;> rfl

set_option maxRecDepth 100000 in
set_option maxHeartbeats 4000000 in
theorem lines_any {w : World} {la : Option Addr} {ls : List Ln} (lc : Nat) (hl : Lies w 2 Ln.cs la ls) (hn : ls.length * 16 ≤ 140737488351232) :
    Calls Try.prog 11 #[.slice la ls.length lc] w fun e w' => ∃ sa cap, e = .returned (.slice sa ls.length cap) ∧ Lies w' 2 Ln.cs sa ls ∧ (∀ b, blk sa b → w.heap.size ≤ b) ∧ Mod (fun _ => False) w w' := by
  obtain ⟨i0, hi0, hz0, hz1, hz2⟩ := info_parts infoRLine
  have HL := hid hl
  clear hl
  go_enter Try.func11, Try.ntmps11
  go_wp2_with fail
  go_loopw [3, 8] (fun s c wr => ∃ (k : Nat) (sa : Option Addr) (cap : Nat), k ≤ ls.length ∧ c = .int .i64 (k : Int) ∧ s = .slice sa k cap ∧ Own wr 96 2 sa k cap ((ls.take k).flatMap Ln.cs) ∧ (∀ b, blk sa b → w.heap.size ≤ b) ∧ Mod (fun _ => False) w wr) (fun _ c _ => ls.length - (intOf c).toNat)
  case atStart => exact ⟨0, none, 0, Nat.zero_le _, rfl, rfl, Own.nil _ _ _, (fun b hb => (blk_none b hb).elim), Mod.refl _ _⟩
  case round =>
    obtain ⟨k, sa, cap, hk, rfl, rfl, hown, hnew, hm⟩ := hrel
    have HOw := hid hown
    have HNw := hid hnew
    have HMr := hid hm
    clear hown hnew hm
    by_cases hlt : k < ls.length
    case neg =>
      have hke : k = ls.length := by omega
      subst hke
      have HV : Hid (ls.take ls.length = ls) := hid (List.take_of_length_le (Nat.le_refl _))
      go_wp2_with fail
      go_ret
      exact ⟨sa, cap, rfl, by have := HOw.out; rw [HV.out] at this; exact this.lies, HNw.out, HMr.out⟩
    case pos =>
      obtain ⟨x, hx⟩ : ∃ x, ls[k]? = some x := ⟨_, List.getElem?_eq_getElem hlt⟩
      have HFl := hid (flat_succ Ln.cs hx)
      have hlc := HL.out.ext HMr.out
      obtain ⟨xi, xq⟩ := x
      obtain ⟨g, off, rfl⟩ := hlc.some (by omega)
      have q0 := hlc.cell Ln.len hx (j := 0) rfl
      have q1 := hlc.cell Ln.len hx (j := 1) rfl
      rw [Nat.add_zero] at q0
      simp only at q0 q1
      have hma : Mod (fun _ => False) wr ((wr.alloc (.cells #[.int .i64 xi, .int .i64 xq] 95)).alloc (.cells #[.int .i64 xi, .int .i64 xq] 96)) := ((Mod.refl _ _).alloc _).alloc _
      have HMa := hid (HMr.out.trans hma)
      have HOa := hid (HOw.out.mod hma (fun _ _ h => h))
      have HSa : Hid (Src ((wr.alloc (.cells #[.int .i64 xi, .int .i64 xq] 95)).alloc (.cells #[.int .i64 xi, .int .i64 xq] 96)) 2 (some ⟨wr.heap.size + 1, 0, none⟩) 1 (Ln.cs ⟨xi, xq⟩)) := hid (src_new (by have := heap_alloc_new (wr.alloc (.cells #[.int .i64 xi, .int .i64 xq] 95)) (.cells #[.int .i64 xi, .int .i64 xq] 96); rw [World.size_alloc] at this; exact this) rfl)
      have HSz := hid (Nat.le_trans HMr.out.size hma.size)
      clear hx hlc hma
      go_wp2_with (at_builtin; refine wpList_append_Own rfl (.tmp 12) (.tmp 18) 64 rfl 96 i0 _ 2 16 Try.underlying64 hi0 hz0 hz1 hz2 rfl sa k cap _ rfl HOa.out (some ⟨wr.heap.size + 1, 0, none⟩) 1 1 _ rfl HSa.out (Ln.one _) (by unfold maxLen; omega) (by omega) ?_; intro sa' cap' w6 hown6 hm6 hb6 hn6 hr6; have HO6 := hid hown6; have HM6 := hid hm6; have HB6 := hid hb6; clear hown6 hm6 hb6 hn6 hr6)
      go_roundw
      case rel =>
        refine ⟨k + 1, sa', cap', by omega, by go_num, rfl, by rw [HFl.out]; exact HO6.out, (fun b hb => ?_), HMa.out.then HM6.out (fun i hi h => by have := HNw.out i h; omega)⟩
        rcases HB6.out b hb with h | h
        · exact HNw.out b h
        · exact Nat.le_trans HSz.out h
      case measure => simp [intOf]; omega

/-- Are the texts of numbers alike? -/
theorem same_true {w : World} {a b : Option Addr} {l : List Int} (c1 c2 : Nat) (h1 : Lies w 1 oneI a l) (h2 : Lies w 1 oneI b l) (hn : l.length ≤ 1000) :
    Calls Try.prog 6 #[.slice a l.length c1, .slice b l.length c2] w fun e w' => e = .returned (.bool true) ∧ Mod (fun _ => False) w w' := by
  have H1 := hid h1
  have H2 := hid h2
  have e0 : ((l.length : Int) != (l.length : Int)) = false := by simp
  clear h1 h2
  go_enter Try.func6, Try.ntmps6
  go_wp2_with fail
  go_loopw [13] (fun c wr => ∃ k : Nat, k ≤ l.length ∧ c = .int .i64 (k : Int) ∧ Mod (fun _ => False) w wr) (fun c _ => l.length - (intOf c).toNat)
  case atStart => exact ⟨0, Nat.zero_le _, rfl, Mod.refl _ _⟩
  case round =>
    obtain ⟨k, hk, rfl, hm⟩ := hrel
    have HMr := hid hm
    clear hm
    by_cases hlt : k < l.length
    · obtain ⟨x, hx⟩ : ∃ x, l[k]? = some x := ⟨_, List.getElem?_eq_getElem hlt⟩
      have l1 := H1.out.ext HMr.out
      have l2 := H2.out.ext HMr.out
      obtain ⟨g, off, rfl⟩ := l1.some (by omega)
      obtain ⟨g2, off2, rfl⟩ := l2.some (by omega)
      have q0 := l1.cell oneI_len hx (j := 0) rfl
      have r0 := l2.cell oneI_len hx (j := 0) rfl
      rw [Nat.add_zero, Nat.mul_one] at q0 r0
      have g0 := fun y : Ext wr => y.cell q0
      have g1 := fun y : Ext wr => y.cell r0
      have i1 : (0 : Int) ≤ (k : Int) := by omega
      have i2 : (k : Int) < (l.length : Int) := by omega
      clear hx l1 l2 q0 r0
      go_wp2_with fail
      refine wp_region_ext (by kernel_rfl) (by kernel_rfl) ?_
      repeat (go_big_quiet_step (fail))
      refine wpQuiet_nil ?_
      rintro _ ⟨y, rfl⟩
      clear g0 g1
      go_wp2_with fail
      go_roundw
      case rel => exact ⟨k + 1, by omega, by go_num, HMr.out.trans y.mod⟩
      case measure => simp [intOf]; omega
    · have hke : k = l.length := by omega
      subst hke
      go_wp2_with fail
      go_ret
      exact ⟨rfl, HMr.out⟩

end Go.Proofs.Ytigoikepcbbhjaa
