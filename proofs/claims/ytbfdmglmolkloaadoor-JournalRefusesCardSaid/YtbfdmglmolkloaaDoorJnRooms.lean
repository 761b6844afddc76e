/- The walk of JournalRooms -/
import Derived.Test.YtbfdmglmolkloaaDoorJrW
namespace Go.Proofs.YtbfdmglmolkloaaDoor
open Go Go.RowKit

namespace JournalRooms

theorem readJ_bad {room : Nat} {D : Dsk} {i : Int} (h : i < 0 ∨ (jlen room D : Int) ≤ i) : readJ room D i = (⟨#[]⟩, 10) := by unfold readJ; rw [if_pos h]

theorem open_empty {D : Dsk} {k room : Nat} (h : Lit D k) (h0 : D.secs.length = 0) : openF room D = (10, D) := by
  have hr : readyF D 0 = 10 := by unfold readyF; rw [h.off, h0]; rfl
  have e : readF D 0 = (⟨#[]⟩, 10) := by unfold readF; rw [hr]; rfl
  unfold openF
  rw [e]
  rfl

def one (p : Nat) : List Chg := [⟨(p : Int), ⟨#[120]⟩⟩]
theorem one_s (p : Nat) : ∀ c ∈ one p, c.data.size ≤ 1024 := by
  intro c hc
  simp only [one, List.mem_cons, List.mem_nil_iff, or_false] at hc
  subst hc
  show (1 : Nat) ≤ 1024
  decide
theorem one_p (p : Nat) (hp : p ≤ 16384) : ∀ c ∈ one p, -9223372036854775808 ≤ c.pos ∧ c.pos ≤ 9223372036854775807 := by
  intro c hc
  simp only [one, List.mem_cons, List.mem_nil_iff, or_false] at hc
  subst hc
  simp only
  omega
theorem one_check {len p : Nat} (h : p < len) : checkL len [] (one p) = 0 := by
  unfold one
  rw [check_step, if_neg (by simp only; omega), if_neg (by show ¬ 1024 < 1; decide), if_neg (by simp)]
  rfl

set_option maxRecDepth 100000 in
set_option maxHeartbeats 2000000 in
theorem walk (W : World) (n room : Int) (hr1 : -9223372036854775808 ≤ room) (hr2 : room ≤ 9223372036854775807) :
    Calls Tryd.prog 7 #[.int .i64 n, .int .i64 room] W fun e w' => e = .returned (.bool true) ∧ Below W.heap.size W w' := by
  have HL := hid (lit_new n)
  have HCl := hid (clear_new n)
  have HN := hid (st_new (Mod.refl (fun k => W.heap.size ≤ k) W) n)
  have hlen := HL.out.b.n
  generalize newD n = D at *
  by_cases hr : room < 1 ∨ 500 < room
  · have HO := hid (fun (w : World) (b : Nat) => open_arg (w := w) (d := b) room hr)
    rcases hr with hr | hr
    · have d1 : decide (room < 1) = true := by simpa using hr
      clear hr
      go_enter Tryd.func7, Tryd.ntmps7
      go_wp2_with fail
      refine HN.out.mono ?_
      rintro e w1 ⟨b, rfl, hs⟩
      have HS := hid hs
      clear hs
      go_wp2_with fail
      refine (HO.out w1 b).mono ?_
      rintro e w2 ⟨rfl, rfl⟩
      go_wp2_with fail
      refine (wakes_yes w1).mono ?_
      rintro e w3 ⟨rfl, hm⟩
      have HS3 := hid (HS.out.ext hm)
      clear hm
      go_wp2_with fail
      go_ret
      exact ⟨rfl, HS3.out.below⟩
    · have d1 : decide (room < 1) = false := by rw [decide_eq_false_iff_not]; omega
      have d2 : decide (500 < room) = true := by simpa using hr
      clear hr
      go_enter Tryd.func7, Tryd.ntmps7
      go_wp2_with fail
      refine HN.out.mono ?_
      rintro e w1 ⟨b, rfl, hs⟩
      have HS := hid hs
      clear hs
      go_wp2_with fail
      refine (HO.out w1 b).mono ?_
      rintro e w2 ⟨rfl, rfl⟩
      go_wp2_with fail
      refine (wakes_yes w1).mono ?_
      rintro e w3 ⟨rfl, hm⟩
      have HS3 := hid (HS.out.ext hm)
      clear hm
      go_wp2_with fail
      go_ret
      exact ⟨rfl, HS3.out.below⟩
  · obtain ⟨r, rfl⟩ := Int.eq_ofNat_of_zero_le (show 0 ≤ room by omega)
    have h1 : 1 ≤ r := by omega
    have h5 : r ≤ 500 := by omega
    have d1 : decide ((r : Int) < 1) = false := by rw [decide_eq_false_iff_not]; omega
    have d2 : decide (500 < (r : Int)) = false := by rw [decide_eq_false_iff_not]; omega
    clear hr
    by_cases h0 : D.secs.length = 0
    · have hoe := open_empty (room := r) HL.out h0
      have HO : Hid (∀ w b, St W w b D → Calls Tryd.prog 10 #[.pointer (some ⟨b, 0, none⟩), .int .i64 (r : Int)] w fun e w' => e = .returned (.tuple #[.pointer none, .int .i64 10]) ∧ St W w' b D) := hid (fun w b hs => by
        have := st_open hs HL.out.b (by decide) h1 h5
        rw [hoe] at this
        refine this.mono ?_
        rintro e w' (⟨h, _⟩ | ⟨_, h2, h3⟩)
        · cases h
        · exact ⟨h2, h3⟩)
      clear hoe
      go_enter Tryd.func7, Tryd.ntmps7
      go_wp2_with fail
      refine HN.out.mono ?_
      rintro e w1 ⟨b, rfl, hs⟩
      have HS := hid hs
      clear hs
      go_wp2_with fail
      refine (HO.out w1 b HS.out).mono ?_
      rintro e w2 ⟨rfl, hs⟩
      have HS2 := hid hs
      clear hs
      go_wp2_with fail
      refine (wakes_yes w2).mono ?_
      rintro e w3 ⟨rfl, hm⟩
      have HS3 := hid (HS2.out.ext hm)
      clear hm
      go_wp2_with fail
      refine (st_len HS3.out).mono ?_
      rintro e w4 ⟨rfl, rfl⟩
      rw [h0]
      go_wp2_with fail
      go_ret
      exact ⟨rfl, HS3.out.below⟩
    · have hv := jlen_int r D
      have HRb := hid (readJ_bad (room := r) (D := D) (i := (jlen r D : Int)) (.inr (Int.le_refl _)))
      have HRn := hid (readJ_bad (room := r) (D := D) (i := -1) (.inl (by decide)))
      have hjl : jlen r D ≤ 16384 := by unfold jlen; omega
      have HO := hid (fun (w : World) (b : Nat) (hs : St W w b D) => js_open (room := r) hs HL.out (by decide) h1 h5 (by omega) HCl.out)
      have HJl := hid (fun (w : World) (b j : Nat) (hs : JSt W w b j r D) => js_len hs hlen h5)
      have HRd := hid (fun (w : World) (b j : Nat) (hs : JSt W w b j r D) => js_read hs hlen h5)
      have HLn := hid (fun (w : World) (b : Nat) (hs : St W w b D) => st_len hs)
      have HCm : Hid (∀ (w : World) (b j p : Nat), p < jlen r D → JSt W w b j r D → Calls Tryd.prog 13 #[.pointer (some ⟨j, 0, none⟩), .slice (some ⟨w.heap.size, 0, none⟩) 1 1] (w.alloc (.cells #[.int .i64 (p : Int), .string ⟨#[120]⟩] 35)) fun e w' => e = .returned (.int .i64 0) ∧ Below W.heap.size W w') := hid (fun w b j p hp hs => by
        have := js_commit_new (n := 1) hs HL.out.b (by decide) h5 (one p) rfl (one_s p) (one_p p (by omega)) (arr := #[.int .i64 (p : Int), .string ⟨#[120]⟩]) rfl (by show 1 ≤ 500; decide)
        have hok := (commit_ok HL.out h5 (one p) (by show 1 ≤ r; omega) (by simp [one]) (one_check hp)).1
        rw [hok] at this
        refine this.mono ?_
        rintro e w' ⟨rfl, h2, _⟩
        exact ⟨rfl, h2.below⟩)
      have hL1 : 0 < D.secs.length := by omega
      generalize hjj : jlen r D = J at *
      generalize D.secs.length = L at *
      clear h0 hjj
      go_enter Tryd.func7, Tryd.ntmps7
      go_wp2_with fail
      refine HN.out.mono ?_
      rintro e w1 ⟨b, rfl, hs⟩
      have HS := hid hs
      clear hs
      go_wp2_with fail
      refine (HO.out w1 b HS.out).mono ?_
      rintro e w2 ⟨j, rfl, hs⟩
      have HJ := hid hs
      clear hs
      go_wp2_with fail
      refine (wakes_yes w2).mono ?_
      rintro e w3 ⟨rfl, hm⟩
      have HJ3 := hid (HJ.out.ext hm)
      clear hm
      go_wp2_with fail
      refine (HLn.out w3 b HJ3.out.st).mono ?_
      rintro e w4 ⟨rfl, rfl⟩
      go_wp2_with fail
      refine (HJl.out w3 b j HJ3.out).mono ?_
      rintro e w4 ⟨rfl, hs, _⟩
      have HJ4 := hid hs
      clear hs
      go_wp2_with fail
      refine (HLn.out w4 b HJ4.out.st).mono ?_
      rintro e w5 ⟨rfl, rfl⟩
      go_wp2_with fail
      refine (HJl.out w4 b j HJ4.out).mono ?_
      rintro e w5 ⟨rfl, hs, _⟩
      have HJ5 := hid hs
      clear hs
      go_wp2_with fail
      refine (HRd.out w5 b j HJ5.out (J : Int)).mono ?_
      rintro e w6 ⟨rfl, hs, _⟩
      rw [HRb.out]
      have HJ6 := hid hs
      clear hs
      go_wp2_with fail
      refine (HRd.out w6 b j HJ6.out (-1)).mono ?_
      rintro e w7 ⟨rfl, hs, _⟩
      rw [HRn.out]
      have HJ7 := hid hs
      clear hs
      by_cases hz : J = 0
      · have e1 : ((J : Int) == 0) = true := by rw [beq_iff_eq]; omega
        clear hz
        go_wp2_with fail
        refine (HJl.out w7 b j HJ7.out).mono ?_
        rintro e w8 ⟨rfl, hs, _⟩
        have HJ8 := hid hs
        clear hs
        go_wp2_with fail
        go_ret
        exact ⟨rfl, HJ8.out.below⟩
      · have e1 : ((J : Int) == 0) = false := by rw [beq_eq_false_iff_ne]; omega
        obtain ⟨p, hp⟩ : ∃ p : Nat, (J : Int) - 1 = (p : Int) := ⟨J - 1, by omega⟩
        have hpJ : p < J := by omega
        clear hz
        go_wp2_with fail
        refine (HJl.out w7 b j HJ7.out).mono ?_
        rintro e w8 ⟨rfl, hs, _⟩
        have HJ8 := hid hs
        clear hs
        go_wp2_with fail
        refine (HJl.out w8 b j HJ8.out).mono ?_
        rintro e w9 ⟨rfl, hs, _⟩
        have HJ9 := hid hs
        clear hs
        go_wp2_with fail
        refine (HCm.out w9 b j p hpJ HJ9.out).mono ?_
        rintro e w10 ⟨rfl, hb⟩
        have HBl := hid hb
        clear hb
        go_wp2_with fail
        go_ret
        exact ⟨rfl, HBl.out⟩

end JournalRooms
end Go.Proofs.YtbfdmglmolkloaaDoor
