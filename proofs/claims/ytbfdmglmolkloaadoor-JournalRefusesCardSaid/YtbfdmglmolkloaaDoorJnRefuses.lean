/- The walk of JournalRefuses -/
import Derived.Test.YtbfdmglmolkloaaDoorJrX
import Derived.Test.YtbfdmglmolkloaaDoorJnRooms
namespace Go.Proofs.YtbfdmglmolkloaaDoor
open Go Go.RowKit

namespace JournalRefuses

set_option maxRecDepth 100000 in
set_option maxHeartbeats 2000000 in
theorem walk (W : World) (a : Option Addr) (cap : Nat) (cs : List Chg) (hc : ChAt W a cs) (hlt : 0 < cs.length → ∀ k, blk a k → k < W.heap.size) (hl : cs.length * 24 ≤ 140737488351232) :
    Calls Tryd.prog 6 #[.slice a cs.length cap] W fun e w' => e = .returned (.bool true) ∧ Below W.heap.size W w' := by
  obtain ⟨i0, hi, hz0, hzs, hzb⟩ := info_parts info_str
  have HC := hid hc
  have HLt := hid hlt
  have HL := hid (lit_new 12)
  have HCl := hid (clear_new 12)
  have HHo := hid (holds_new 3 12)
  have HN := hid (st_new (Mod.refl (fun k => W.heap.size ≤ k) W) 12)
  have hlen : (newD 12).secs.length = 12 := rfl
  have hwr : (newD 12).writes = 0 := rfl
  have hjl : jlen 3 (newD 12) = 8 := rfl
  rw [hjl] at HHo
  have hcl := commit_lit HL.out (room := 3) (by decide) cs
  have HCm := hid (fun (w : World) (b j : Nat) (sa : Option Addr) (hj : JS W w b sa j 3 (newD 12)) => hj.commit HL.out.b (by decide) (by decide) cap (hc.mod hj.m (fun h0 k hk h => by have := hlt h0 k hk; omega)) (fun h0 k hk hf => by have := hlt h0 k hk; have := hj.f k hf; omega) (by unfold maxLen; omega))
  have HC1 : Hid (∀ (w : World) (b j : Nat), JSt W w b j 3 (newD 12) → Calls Tryd.prog 13 #[.pointer (some ⟨j, 0, none⟩), .slice (some ⟨w.heap.size, 0, none⟩) 1 1] (w.alloc (.cells #[.int .i64 1, .string ⟨#[120]⟩] 35)) fun e w' => e = .returned (.int .i64 0) ∧ Below W.heap.size W w') := hid (fun w b j hs => by
    have := js_commit_new (n := 1) hs HL.out.b (by decide) (by decide) (JournalRooms.one 1) rfl (JournalRooms.one_s 1) (JournalRooms.one_p 1 (by decide)) (arr := #[.int .i64 1, .string ⟨#[120]⟩]) rfl (by show 1 ≤ 500; decide)
    have hok := (commit_ok HL.out (room := 3) (by decide) (JournalRooms.one 1) (by show 1 ≤ 3; decide) (by simp [JournalRooms.one]) (JournalRooms.one_check (by rw [hjl]; decide))).1
    rw [hok] at this
    refine this.mono ?_
    rintro e w' ⟨rfl, h2, _⟩
    exact ⟨rfl, h2.below⟩)
  have HJl : Hid (∀ (w : World) (b j : Nat) (sa : Option Addr), JS W w b sa j 3 (newD 12) → Calls Tryd.prog 14 #[.pointer (some ⟨j, 0, none⟩)] w fun e w' => e = .returned (.int .i64 8) ∧ JS W w' b sa j 3 (newD 12) ∧ Mod (fun _ => False) w w') := hid (fun w b j sa hj => by
    have := hj.len (by rw [hlen]; decide) (by decide)
    rw [hjl] at this
    exact this)
  have hmk := fun W : World => run_makeSlice (P := Tryd.prog) W 38 9 i0 (.string ⟨#[]⟩) Tryd.underlying38 hi hz0 .i64 .i64 8 8 (by decide) (Int.le_refl _) (by rw [hzs]; decide) (by rw [hzb]; decide) (by decide)
  rw [hzs] at hmk
  have e8 : (8 : Int).toNat = 8 := rfl
  simp only [e8, Nat.mul_one] at hmk
  have HOm := hid (fun w : World => own_made w 8 (by decide))
  have hrl : (List.replicate 8 (⟨#[]⟩ : ByteArray)).length = 8 := rfl
  have HHy := hid (fun (w : World) (b j : Nat) (sa : Option Addr) (na : Option Addr) (hj : JS W w b sa j 3 (newD 12)) (ho : Own w 9 1 na (List.replicate 8 (⟨#[]⟩ : ByteArray)).length 8 ((List.replicate 8 (⟨#[]⟩ : ByteArray)).map .string)) (hn : ∀ k, blk na k → ¬ diskF b sa k) => holds_yes hj HL.out (by decide) ho hn HHo.out)
  generalize hcf : commitF 3 cs (newD 12) = F at *
  have HCf := hid hcf
  have HO := hid (fun (w : World) (b : Nat) (hs : St W w b (newD 12)) => js_open (room := 3) hs HL.out (by decide) (by decide) (by decide) (by decide) HCl.out)
  generalize newD 12 = D at *
  clear hc hlt hcf
  go_enter Tryd.func6, Tryd.ntmps6
  go_wp2_with fail
  refine HN.out.mono ?_
  rintro e w1 ⟨b, rfl, hs⟩
  have HS := hid hs
  clear hs
  go_wp2_with fail
  refine (HO.out w1 b HS.out).mono ?_
  rintro e w2 ⟨j, rfl, hs⟩
  have HJ := hid hs
  clear hs
  go_wp2_with fail
  refine (wakes_yes w2).mono ?_
  rintro e w3 ⟨rfl, hm⟩
  obtain ⟨sa, hjs⟩ := (HJ.out.ext hm).js
  have HJ3 := hid hjs
  clear hm hjs
  go_wp2_with fail
  refine (HCm.out w3 b j sa HJ3.out).mono ?_
  rintro e w4 ⟨rfl, hj, _⟩
  rcases hcl with ⟨c1, c2, c3⟩ | ⟨c1, _⟩
  · rw [c2] at hj
    have HJ4 := hid hj
    have f0 : (F.1 == 0) = false := by simpa using c1
    have HW := hid (fun (w : World) (hj : JS W w b sa j 3 D) => hj.writes)
    clear hj c1 c2
    have hcs : ((F.1 != 31) = false) ∨ ((F.1 != 31) = true ∧ (F.1 != 10) = false) ∨ ((F.1 != 31) = true ∧ (F.1 != 10) = true ∧ (F.1 != 11) = false) ∨ ((F.1 != 31) = true ∧ (F.1 != 10) = true ∧ (F.1 != 11) = true ∧ (F.1 != 30) = false) := by
      rcases c3 with h | h | h | h <;> rw [h] <;> decide
    clear c3
    have fin : ∀ (w5 : World), w5 = w4 → True := fun _ _ => trivial
    clear fin
    rcases hcs with f1 | ⟨f1, f2⟩ | ⟨f1, f2, f3⟩ | ⟨f1, f2, f3, f4⟩
    all_goals
      go_wp2_with fail
      refine (HW.out w4 HJ4.out).mono ?_
      rintro e w5 ⟨rfl, rfl⟩
      rw [hwr]
      go_wp2_with fail
      refine (HJl.out w4 b j sa HJ4.out).mono ?_
      rintro e w6 ⟨rfl, hj, _⟩
      have HJ6 := hid hj
      clear hj
      go_wp2_with fail
      have hma : Mod (fun _ => False) w6 (w6.alloc (.cells (madeCells #[.string ⟨#[]⟩] 8) 9)) := (Mod.refl _ _).alloc _
      have HJ7 := hid (HJ6.out.ext hma)
      have HO7 := hid (HOm.out w6)
      have HNa : Hid (∀ k, blk (some ⟨w6.heap.size, 0, none⟩) k → ¬ diskF b sa k) := hid (fun k hk hf => by rw [blk_some] at hk; have := HJ6.out.d.lt k hf; omega)
      have HHq := hid (HHy.out _ b j sa _ HJ7.out HO7.out HNa.out)
      rw [hrl] at HHq
      generalize w6.alloc (.cells (madeCells #[.string ⟨#[]⟩] 8) 9) = w7 at *
      clear hma
      refine HHq.out.mono ?_
      rintro e w8 ⟨rfl, hj, _⟩
      have HJ8 := hid hj
      clear hj
      go_wp2_with fail
      refine (HC1.out w8 b j HJ8.out.st).mono ?_
      rintro e w9 ⟨rfl, hb⟩
      have HB := hid hb
      clear hb
      go_wp2_with fail
      go_ret
      exact ⟨rfl, HB.out⟩
  · have HJ4 := hid hj
    have f0 : (F.1 == 0) = true := by simpa using c1
    clear hj c1
    go_wp2_with fail
    go_ret
    exact ⟨rfl, HJ4.out.st.below⟩

end JournalRefuses
end Go.Proofs.YtbfdmglmolkloaaDoor
