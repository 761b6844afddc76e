/- The law's rowRef: a row as the document has it -/
import Derived.Test.YtoclecpedhbokaaRwZ
namespace Go.Proofs.Ytoclecpedhbokaa
open Go Go.RowKit

theorem infoRVal : (Try.prog.info? 63).map (fun i => (i.zero, i.size, i.bytes)) = some (some (.agg #[.int .i64 0, .string ⟨#[]⟩]), 2, 24) := by kernel_rfl

theorem vl_take (cs : List Vl) (k : Nat) (hk : k < cs.length) : (cs.take (k + 1)).flatMap Vl.cs = (cs.take k).flatMap Vl.cs ++ cs[k].cs := by
  rw [List.take_succ_eq_append_getElem hk, List.flatMap_append]
  simp

set_option maxRecDepth 100000 in
set_option maxHeartbeats 2000000 in
theorem rowRef_any {w : World} {a : Option Addr} (cap0 : Nat) {cs : List Vl} (hc : Lies w 2 Vl.cs a cs) (hl : cs.length * 24 ≤ 140737488351232) :
    Calls Try.prog 10 #[.slice a cs.length cap0] w fun e w' => ∃ la cap, e = .returned (.slice la cs.length cap) ∧ Lies w' 2 Vl.cs la cs ∧ (∀ b, blk la b → w.heap.size ≤ b) ∧ Mod (fun _ => False) w w' := by
  obtain ⟨i0, hi, hz0, hz1, hz2⟩ := info_parts infoRVal
  have HC := hid hc
  have hn : cs.length ≤ 5864062014634 := by omega
  clear hc hl
  go_enter Try.func10, Try.ntmps10
  go_wp2_with fail
  go_loopw [3, 8] (fun sl sc wr => ∃ (k : Nat) (la : Option Addr) (cap : Nat), k ≤ cs.length ∧ sl = .slice la k cap ∧ sc = .int .i64 (k : Int) ∧ Own wr 63 2 la k cap ((cs.take k).flatMap Vl.cs) ∧ (∀ b, blk la b → w.heap.size ≤ b) ∧ Mod (fun _ => False) w wr) (fun _ sc _ => cs.length - (intOf sc).toNat)
  case atStart => exact ⟨0, none, 0, Nat.zero_le _, rfl, rfl, Own.nil _ _ _, (fun k hk => (blk_none k hk).elim), Mod.refl _ _⟩
  case round =>
    obtain ⟨k, la, cap, hk, rfl, rfl, r1, r2, r3⟩ := hrel
    have HO := hid r1
    have HB := hid r2
    have HM := hid r3
    clear r1 r2 r3
    by_cases hlt : k < cs.length
    · obtain ⟨x, hx⟩ : ∃ x, cs[k]? = some x := ⟨_, List.getElem?_eq_getElem hlt⟩
      have hxe : cs[k] = x := by rw [List.getElem?_eq_getElem hlt] at hx; exact Option.some.inj hx
      have hcw := HC.out.ext HM.out
      obtain ⟨g, off, rfl⟩ := HC.out.some (by omega)
      have hq0 := hcw.cell vl_len hx (j := 0) rfl
      have hq1 := hcw.cell vl_len hx (j := 1) rfl
      simp only [Nat.add_zero] at hq0
      have HTk : Hid ((cs.take (k + 1)).flatMap Vl.cs = (cs.take k).flatMap Vl.cs ++ x.cs) := hid (by rw [vl_take cs k hlt, hxe])
      obtain ⟨pos, data⟩ := x
      simp only [Vl.cs] at hq0 hq1 HTk
      have hma : Mod (fun _ => False) wr (wr.alloc (.cells #[.int .i64 pos, .string data] 50)) := (Mod.refl _ _).alloc _
      have hcb : (wr.alloc (.cells #[.int .i64 pos, .string data] 50)).heap[wr.heap.size]? = some (.cells #[.int .i64 pos, .string data] 50 (0, 0)) := heap_alloc_new _ _
      have HMa := hid (HM.out.trans hma)
      have HOa := hid (HO.out.mod hma (fun _ _ h => h))
      have hsz := hma.size
      have HSz := hid hsz
      have c0 : (wr.alloc (.cells #[.int .i64 pos, .string data] 50)).cell? ⟨wr.heap.size, 0, none⟩ = some (.int .i64 pos) := by rw [cell_of_row _ _ _ _ _ _ hcb]; rfl
      have c1 : (wr.alloc (.cells #[.int .i64 pos, .string data] 50)).cell? ⟨wr.heap.size, 1, none⟩ = some (.string data) := by rw [cell_of_row _ _ _ _ _ _ hcb]; rfl
      clear hx hxe hcb hcw hma hsz
      have hs1 : (wr.alloc (.cells #[.int .i64 pos, .string data] 50)).heap.size = wr.heap.size + 1 := Array.size_push _
      have HS1 := hid hs1
      have HSr : Hid (Src ((wr.alloc (.cells #[.int .i64 pos, .string data] 50)).alloc (.cells #[.int .i64 pos, .string data] 63)) 2 (some ⟨wr.heap.size + 1, 0, none⟩) 1 [.int .i64 pos, .string data]) := hid (by
        have := heap_alloc_new (wr.alloc (.cells #[.int .i64 pos, .string data] 50)) (.cells #[.int .i64 pos, .string data] 63)
        rw [hs1] at this
        exact src_new this rfl)
      have HOb := hid (HOa.out.mod (S := fun _ => False) ((Mod.refl _ (wr.alloc (.cells #[.int .i64 pos, .string data] 50))).alloc (.cells #[.int .i64 pos, .string data] 63)) (fun _ _ h => h))
      have HMb := hid (HMa.out.alloc (.cells #[.int .i64 pos, .string data] 63))
      clear hs1
      go_wp2_with (at_builtin; refine wpList_append_Own rfl (.tmp 12) (.tmp 18) 39 rfl 63 i0 _ 2 24 Try.underlying39 hi hz0 hz1 hz2 rfl la k cap _ rfl HOb.out (some ⟨wr.heap.size + 1, 0, none⟩) 1 1 _ rfl HSr.out (by intro u hu; simp at hu; rcases hu with rfl | rfl <;> rfl) (by unfold maxLen; omega) (by omega) ?_; intro la' cap' w5 hown5 hm5 hb5 hn5 hr5; have Hown5 := hid hown5; have Hm5 := hid hm5; have Hb5 := hid hb5; clear hown5 hm5 hb5 hn5 hr5)
      go_roundw
      case rel =>
        refine ⟨k + 1, la', cap', by omega, rfl, by go_num, by rw [HTk.out]; exact Hown5.out, fun b hb => ?_, HMb.out.then Hm5.out (fun b hlt h => by have := HB.out b h; omega)⟩
        · rcases Hb5.out b hb with h | h
          · exact HB.out b h
          · have := HMb.out.size; omega
      case measure => simp [intOf]; omega
    · have hke : k = cs.length := by omega
      subst hke
      have HOl : Hid (Own wr 63 2 la cs.length cap (cs.flatMap Vl.cs)) := hid (by have := HO.out; rwa [List.take_length] at this)
      go_wp2_with fail
      go_ret
      exact ⟨la, cap, rfl, HOl.out.lies, HB.out, HM.out⟩

end Go.Proofs.Ytoclecpedhbokaa
