/- wakes -/
import Derived.Test.YtppemlofjbblfaaBusL
namespace Go.Proofs.Ytppemlofjbblfaa
open Go Go.RowKit

set_option maxRecDepth 100000 in
set_option maxHeartbeats 400000 in
theorem wakes_yes (w : World) : Calls Try.prog 9 #[] w fun e w' => e = .returned (.bool true) ∧ Mod (fun _ => False) w w' := by
  go_enter Try.func9, Try.ntmps9
  go_wp2_with (go_at_call 10; refine (new_any _).mono ?_; rintro e w1 ⟨rfl, hat, hm⟩; have H1 := hid hat; have M1 := hid hm; clear hat hm)
  refine (send_ok _ _ _ _ _ _ _ _ _ _ _ _ _ _ H1.out (by decide) (by decide) (by decide)).mono ?_
  rintro e w2 ⟨rfl, sa2, cap2, h2, m2, b2⟩
  have H2 := hid h2
  have M2 : Hid (Mod (fun _ => False) w w2) := M1.out.then m2 (fun k hk h => by rcases h with h | h; omega; exact (blk_none _ h).elim)
  have B2 : Hid (∀ k, blk sa2 k → w.heap.size ≤ k) := fun k hk => by
    rcases b2 k hk with h | h
    · exact (blk_none _ h).elim
    · have := M1.out.size; omega
  clear h2 m2 b2
  go_wp2_with fail
  refine (send_ok _ _ _ _ _ _ _ _ _ _ _ _ _ _ H2.out (by decide) (by decide) (by decide)).mono ?_
  rintro e w3 ⟨rfl, sa3, cap3, h3, m3, b3⟩
  have H3 := hid h3
  have M3 : Hid (Mod (fun _ => False) w w3) := M2.out.then m3 (fun k hk h => by rcases h with h | h; omega; have := B2.out k h; omega)
  have B3 : Hid (∀ k, blk sa3 k → w.heap.size ≤ k) := fun k hk => by
    rcases b3 k hk with h | h
    · exact B2.out k h
    · have := M2.out.size; omega
  clear h3 m3 b3
  go_wp2_with fail
  refine (double_ok H3.out 0 rfl (by decide) (by decide) (by decide)).mono ?_
  rintro e w4 ⟨rfl, sa4, cap4, h4, m4, b4⟩
  have H4 := hid h4
  have M4 : Hid (Mod (fun _ => False) w w4) := M3.out.then m4 (fun k hk h => by rcases h with h | h; omega; have := B3.out k h; omega)
  have B4 : Hid (∀ k, blk sa4 k → w.heap.size ≤ k) := fun k hk => by
    rcases b4 k hk with h | h
    · exact B3.out k h
    · have := M3.out.size; omega
  clear h4 m4 b4
  go_wp2_with fail
  refine (take_ok H4.out 1 rfl (by decide)).mono ?_
  rintro e w5 ⟨rfl, sa5, cap5, h5, m5, b5⟩
  have M5 : Hid (Mod (fun _ => False) w w5) := M4.out.then m5 (fun k hk h => by rcases h with h | h; omega; have := B4.out k h; omega)
  have Hl : Hid (∀ w', Mod (fun _ => False) w5 w' → Calls Try.prog 15 #[.pointer (some ⟨w.heap.size, 0, none⟩)] w' fun e w'' => e = .returned (.int .i64 2) ∧ w' = w'') := fun w' hm => len_any (h5.mod hm (fun _ _ h => h))
  clear h5 m5 b5
  go_wp2_with (go_at_call 15; refine (Hl.out _ (by exact (Mod.refl _ _).alloc _)).mono ?_; rintro e w' ⟨rfl, rfl⟩)
  go_ret
  exact ⟨rfl, M5.out.alloc _⟩

end Go.Proofs.Ytppemlofjbblfaa
