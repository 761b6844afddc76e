/- slices.Delete at letters -/
import Derived.Test.YtppemlofjbblfaaProg
import Derived.Test.YtppemlofjbblfaaMem
namespace Go.Proofs.Ytppemlofjbblfaa
open Go Go.RowKit
theorem infoLet : (Try.prog.info? 28).map (fun i => (i.zero, i.size, i.bytes)) = some (some (.agg #[.int .i64 0, .int .i64 0, .int .i64 0, .int .i64 0, .int .i64 0, .int .i64 0, .int .i64 0, .string ByteArray.empty]), 8, 72) := by kernel_rfl

set_option maxRecDepth 100000 in
theorem delete_one (g off n cap i : Nat) (xs : List Value) (w : World) (hown : Own w 28 8 (some ⟨g, off, none⟩) n cap xs) (h1 : ∀ u ∈ xs, u.oneCell' = true) (hi : i < n) (hn : n < 1000000) :
    Calls Try.prog 24 #[.slice (some ⟨g, off, none⟩) n cap, .int .i64 i, .int .i64 (i + 1)] w fun e w' => e = .returned (.slice (some ⟨g, off, none⟩) (n - 1) cap) ∧ Own w' 28 8 (some ⟨g, off, none⟩) (n - 1) cap (xs.take (i * 8) ++ xs.drop (i * 8 + 8)) ∧ Mod (blk (some ⟨g, off, none⟩)) w w' := by
  obtain ⟨i0, hi0, hz0, hz1, hz2⟩ := info_parts infoLet
  have hnc : n ≤ cap := hown.2.1
  have hcm : cap ≤ maxLen := hown.2.2.1
  unfold maxLen at hcm
  have hne : ((i : Int) == (i : Int) + 1) = false := by simp; omega
  have Hone := hid (fun u (hu : u ∈ xs.drop (i * 8 + 8)) => h1 u (List.mem_of_mem_drop hu))
  clear h1
  have q1 : i ≤ cap := by omega
  have q2 : (0 : Int) ≤ (i : Int) + 1 := by omega
  have q3 : (i : Int) + 1 ≤ (n : Int) := by omega
  have q4 : ((i : Int) + 1).toNat = i + 1 := by omega
  obtain ⟨A, hA, hsrc⟩ : ∃ A, (if cap = i + 1 then some (⟨g, off, none⟩ : Addr) else some ⟨g, off + (i + 1) * 8, none⟩) = some A ∧ Src w.drew 8 (some A) (n - (i + 1)) (xs.drop (i * 8 + 8)) := by
    by_cases hc : cap = i + 1
    · have : n = i + 1 := by omega
      subst this
      refine ⟨_, if_pos hc, by simp [hown.1]; omega, (fun h => nomatch h), fun a ha j u hu => ?_⟩
      rw [List.drop_of_length_le (by rw [hown.1]; omega)] at hu
      cases hu
    · refine ⟨_, if_neg hc, by simp [hown.1]; omega, (fun h => nomatch h), fun a ha j u hu => ?_⟩
      cases ha
      have h := hown.src.2.2 _ rfl (i * 8 + 8 + j) u (by rw [List.getElem?_drop] at hu; exact hu)
      rw [Addr.add_lit] at h ⊢
      show w.cell? _ = _
      rw [← h]; congr 2; omega
  have hown0 : Own w.drew 28 8 (some ⟨g, off, none⟩) i cap (xs.take (i * 8)) := by
    refine ⟨by simp [hown.1]; omega, q1, by unfold maxLen; exact hcm, ?_⟩
    rcases hown.2.2.2 with ⟨h, _⟩ | ⟨g', off', cur, h1, h2, h3, h4⟩
    · cases h
    · refine .inr ⟨g', off', cur, h1, h2, h3, ?_⟩
      rw [← h4, List.take_take, Nat.min_eq_left (by omega)]
  have Hown := hid hown0
  have Hsrc := hid hsrc
  clear hown0 hsrc
  have H0 := hid hown
  clear hown
  go_enter Try.func24, Try.ntmps24
  go_wp2
  go_region_law (refine step_append_Own rfl (.tmp 22) (.tmp 25) 35 rfl 28 i0 _ 8 72 Try.underlying35 hi0 hz0 hz1 hz2 rfl (some ⟨g, off, none⟩) i cap _ (by simp [Act.eval, Act.put]) Hown.out (some A) (n - (i + 1)) (cap - (i + 1)) _ (by simp [Act.eval, Act.put]) Hsrc.out Hone.out (by unfold maxLen; omega) (by omega) ?_; intro sa' cap' w1 hown1 hm1 hb1 hn1 hr1; obtain ⟨rfl, rfl⟩ := hr1 (by omega); have Hm1 := hid hm1; have Hown1 := hid hown1; clear hm1 hown1 hb1 hn1 hr1)
  go_wp2_with (refine wpList_clear_tail rfl (.tmp 31) 35 rfl 28 i0 _ 8 Try.underlying35 hi0 hz0 rfl (by simp [Value.oneCell', Value.cells]) (by decide) g off (i + (n - (i + 1))) cap' _ Hown1.out _ _ rfl (by omega) ?_; intro w2 hown2 hm2; have Hown2 := hid hown2; have Hm2 := hid hm2; clear hown2 hm2)
  go_ret
  have e1 : i + (n - (i + 1)) = n - 1 := by omega
  have hm2 := Hm2.out
  have hm1 := Hm1.out
  refine ⟨by rw [← e1]; rfl, by rw [← e1]; exact Hown2.out, ?_⟩
  exact ((Mod.refl _ w).drew.trans hm1).trans (hm2.mono fun k _ h => by rw [blk_some]; exact h.symm)
end Go.Proofs.Ytppemlofjbblfaa
