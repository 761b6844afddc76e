/- wakes -/
import Derived.Test.YtbfdmglmolkloaaGreatDoorJrS
namespace Go.Proofs.YtbfdmglmolkloaaGreatDoor
open Go Go.RowKit

def wk : List Chg := [⟨0, ⟨#[97]⟩⟩, ⟨2, ⟨#[98]⟩⟩]
theorem wk_s : ∀ c ∈ wk, c.data.size ≤ 1024 := by
  intro c hc
  simp only [wk, List.mem_cons, List.mem_nil_iff, or_false] at hc
  rcases hc with rfl | rfl <;> decide
theorem wk_p : ∀ c ∈ wk, -9223372036854775808 ≤ c.pos ∧ c.pos ≤ 9223372036854775807 := by
  intro c hc
  simp only [wk, List.mem_cons, List.mem_nil_iff, or_false] at hc
  rcases hc with rfl | rfl <;> decide
theorem wk_jlen : jlen 4 (newD 10) = 5 := rfl
theorem pair_of {p : Int × Dsk} (h : p.1 = 0) : p = (0, p.2) := Prod.ext h rfl
theorem wk_took : ∃ D', commitF 4 wk (newD 10) = (0, D') ∧ Took 4 wk (newD 10) D' 0 := by
  have h := commit_ok (lit_new 10) (room := 4) (by decide) wk (by decide) (by simp [wk]) (by rw [wk_jlen]; simp [wk, checkL, ByteArray.size])
  exact ⟨_, pair_of h.1, h.2⟩
theorem wk_read {D' : Dsk} (t : Took 4 wk (newD 10) D' 0) : readJ 4 D' 2 = (pad ⟨#[98]⟩, 0) := by
  have hl : D'.secs.length = 10 := t.len
  have e : jlen 4 D' = 5 := by unfold jlen; rw [hl]
  unfold readJ
  rw [e, if_neg (by decide)]
  have h7 := t.lit.read 7 (by omega)
  have hn := t.new ⟨2, ⟨#[98]⟩⟩ (by simp [wk])
  rw [show (4 + 1 + (⟨2, ⟨#[98]⟩⟩ : Chg).pos.toNat) = 7 from rfl] at hn
  rw [hn] at h7
  exact h7
theorem wk_pad : (pad ⟨#[98]⟩).extract 0 2 = ⟨#[98, 0]⟩ := by
  apply ba_ext
  rw [ByteArray.data_extract, Array.toList_extract, pad_list]
  rfl

set_option maxRecDepth 100000 in
theorem wakes_yes (w : World) : Calls Tryz.prog 6 #[] w fun e w' => e = .returned (.bool true) ∧ Mod (fun _ => False) w w' := by
  have hp : (pad ⟨#[98]⟩).size = 1024 := pad_size (by decide)
  have hq := wk_pad
  obtain ⟨wD, hT0, hT⟩ := wk_took
  have hR := wk_read hT
  have hn : wD.secs.length = 10 := hT.len
  have hw : wD.writes = 6 := by rw [hT.writes]; rfl
  have HB := hid hT.lit.b
  have HT0 := hid hT0
  have HR := hid hR
  clear hT hT0 hR
  generalize pad ⟨#[98]⟩ = P at *
  go_enter Tryz.func6, Tryz.ntmps6
  go_wp2_with fail
  refine (st_new (Mod.refl (fun k => w.heap.size ≤ k) w) 10).mono ?_
  rintro e w1 ⟨b, rfl, hs⟩
  have HS := hid hs
  clear hs
  go_wp2_with fail
  refine (js_open (room := 4) HS.out (lit_new 10) (by decide) (by decide) (by decide) (by decide) (clear_new 10)).mono ?_
  rintro e w2 ⟨j, rfl, hs⟩
  have HJ := hid hs
  clear hs
  go_wp2_with fail
  refine (js_len HJ.out (by decide) (by decide)).mono ?_
  rintro e w3 ⟨rfl, hs, _⟩
  rw [wk_jlen]
  have HJ3 := hid hs
  clear hs
  go_wp2_with fail
  have HCm : Hid (Calls Tryz.prog 12 #[.pointer (some ⟨j, 0, none⟩), .slice (some ⟨w3.heap.size, 0, none⟩) 2 2] (w3.alloc (.cells #[.int .i64 0, .string ⟨#[97]⟩, .int .i64 2, .string ⟨#[98]⟩] 65)) fun e w' => e = .returned (.int .i64 0) ∧ JSt w w' b j 4 wD ∧ Mod (fun k => w.heap.size ≤ k) w3 w') := hid (by
    have := js_commit_new (n := 2) HJ3.out (lit_new 10).b (by decide) (by decide) wk rfl wk_s wk_p (arr := #[.int .i64 0, .string ⟨#[97]⟩, .int .i64 2, .string ⟨#[98]⟩]) rfl (by decide)
    rw [HT0.out] at this
    exact this)
  refine HCm.out.mono ?_
  rintro e w4 ⟨rfl, hs, _⟩
  have HJ4 := hid hs
  clear hs
  go_wp2_with fail
  refine (js_read HJ4.out (by rw [hn]; decide) (by decide) 2).mono ?_
  rintro e w5 ⟨rfl, hs, _⟩
  rw [HR.out]
  have HJ5 := hid hs
  clear hs
  go_wp2_with (go_at_call 14; refine (st_writes HJ5.out.st).mono ?_; rintro e w' ⟨rfl, rfl⟩; rw [hw])
  go_ret
  exact ⟨rfl, (Mod.refl _ w).then HJ5.out.mod (fun i hi h => by omega)⟩

end Go.Proofs.YtbfdmglmolkloaaGreatDoor
