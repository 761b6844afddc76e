/- The walk of JournalHeads -/
import Derived.Test.YtbfdmglmolkloaaDoorJrX
namespace Go.Proofs.YtbfdmglmolkloaaDoor
open Go Go.RowKit

namespace JournalHeads

theorem write_lit {D : Dsk} {k : Nat} (h : Lit D k) (i : Int) (s : ByteArray) : Lit (writeF D i s).2 (k + 1) ∧ (writeF D i s).2.secs.length = D.secs.length := by
  refine ⟨⟨h.b.write i s, ?_, ?_⟩, writeF_len D i s⟩
  · rw [writeF_up h.off h.left]
    split
    · exact h.off
    · split
      · exact h.off
      · exact h.off
  · rw [writeF_up h.off h.left]
    split
    · exact h.left
    · split
      · exact h.left
      · simp [Dsk.put, h.left]

/-- What Open says of such a disk, and what it leaves. -/
def Heads (D : Dsk) (R : Int × Dsk) : Prop :=
  (R.1 ≠ 0 ∧ R.1 = 32 ∧ R.2.writes = D.writes) ∨
  (R.1 = 0 ∧ Lit R.2 100 ∧ R.2.secs.length = 20 ∧ openF 4 R.2 = (0, R.2) ∧ -9000 ≤ R.2.writes ∧ R.2.writes ≤ 9000 ∧ ((R.2.writes - D.writes == 1) = false) ∧ (decide (5 < R.2.writes - D.writes) = false) ∧ -9000 ≤ D.writes ∧ D.writes ≤ 9000)

theorem heads_of {D : Dsk} (h : Lit D 5) (hl : D.secs.length = 20) : Heads D (openF 4 D) := by
  have w0 := h.b.w0
  have w1 := h.b.w1
  rcases open_heads (room := 4) h (by omega) with e | e | ⟨m, D', e, m1, m2, l1, l2, l3, l4⟩
  · rw [e]; exact .inl ⟨show (32 : Int) ≠ 0 by decide, rfl, rfl⟩
  · rw [e]
    refine .inr ⟨rfl, h.le (by omega), hl, e, by simp only; omega, by simp only; omega, ?_, ?_, by omega, by omega⟩
    · rw [beq_eq_false_iff_ne]; simp only; omega
    · rw [decide_eq_false_iff_not]; simp only; omega
  · rw [e]
    refine .inr ⟨rfl, l1.le (by omega), by rw [l4, hl], open_lit l1 (show 0 < D'.secs.length by rw [l4, hl]; decide) l3, by simp only; omega, by simp only; omega, ?_, ?_, by omega, by omega⟩
    · rw [beq_eq_false_iff_ne]; simp only; omega
    · rw [decide_eq_false_iff_not]; simp only; omega

set_option maxRecDepth 100000 in
set_option maxHeartbeats 2000000 in
theorem walk (W : World) (hd : ByteArray) (hds : hd.size ≤ maxLen) (a : Option Addr) (cap : Nat) (ss : List ByteArray) (hss : Lies W 1 (fun s : ByteArray => [.string s]) a ss) (hsz : ∀ s ∈ ss, s.size ≤ maxLen) (hl : ss.length * 16 ≤ 140737488351232) :
    Calls Tryd.prog 5 #[.string hd, .slice a ss.length cap] W fun e w' => e = .returned (.bool true) ∧ Below W.heap.size W w' := by
  have HSs := hid hss
  have HSz := hid hsz
  have hN := fun (w : World) (hm : Mod (fun k => W.heap.size ≤ k) W w) => st_new hm 20
  have hL0 := lit_new 20
  have hlen : (newD 20).secs.length = 20 := rfl
  have HWr := hid (fun (w : World) (b : Nat) (D : Dsk) (k : Nat) (hs : St W w b D) (h : Lit D k) (hk : k ≤ 100) (i : Int) (s : ByteArray) (hs2 : s.size ≤ maxLen) => st_write hs (h.b.ok (by omega)) i s hs2)
  have HN := hid hN
  have HL0 := hid hL0
  generalize newD 20 = D0 at *
  clear hss hsz hN hL0
  have hnl : ss.length ≤ 8796093021952 := by omega
  go_enter Tryd.func5, Tryd.ntmps5
  go_wp2_with fail
  refine (wakes_yes W).mono ?_
  rintro e w0 ⟨rfl, hm⟩
  have HM0 := hid (hm.mono (T := fun k => W.heap.size ≤ k) (fun _ _ h => h.elim))
  clear hm
  go_wp2_with fail
  refine (HN.out w0 HM0.out).mono ?_
  rintro e w1 ⟨b, rfl, hs⟩
  have HS := hid hs
  clear hs
  go_wp2_with fail
  refine (HWr.out w1 b D0 0 HS.out HL0.out (by decide) 0 hd hds).mono ?_
  rintro e w2 ⟨rfl, hs⟩
  obtain ⟨hl1, hl2⟩ := write_lit HL0.out 0 hd
  rw [hlen] at hl2
  generalize (writeF D0 0 hd).2 = D1 at *
  have HS1 := hid hs
  have HL1 := hid hl1
  clear hs hl1
  go_wp2_with fail
  go_loopw [6] (fun c wr => ∃ (k : Nat) (D : Dsk), k ≤ 4 ∧ k ≤ ss.length ∧ c = .int .i64 (k : Int) ∧ St W wr b D ∧ Lit D (1 + k) ∧ D.secs.length = 20) (fun c _ => 4 - (intOf c).toNat)
  case atStart => exact ⟨0, D1, by decide, Nat.zero_le _, rfl, HS1.out, HL1.out, hl2⟩
  case round =>
    obtain ⟨k, D, hk4, hk, rfl, hs, hlD, hDl⟩ := hrel
    have HSr := hid hs
    have HLr := hid hlD
    clear hs hlD
    by_cases hlt : k < ss.length ∧ k < 4
    · obtain ⟨hlt, hlt4⟩ := hlt
      obtain ⟨x, hx⟩ : ∃ x, ss[k]? = some x := ⟨_, List.getElem?_eq_getElem hlt⟩
      obtain ⟨g, off, rfl⟩ := HSs.out.some (by omega)
      have hc := (HSs.out.old HSr.out.mod (fun k h => h)).cell (size := 1) (fun _ => rfl) hx (j := 0) rfl
      simp only [Nat.add_zero, Nat.mul_one] at hc
      have hxs := HSz.out x (List.mem_of_getElem? hx)
      have d1 : decide ((k : Int) < 4) = true := by rw [decide_eq_true_iff]; omega
      have HC := hid (HWr.out wr b D (1 + k) HSr.out HLr.out (by omega) (1 + (k : Int)) x hxs)
      obtain ⟨hw1, hw2⟩ := write_lit HLr.out (1 + (k : Int)) x
      rw [hDl] at hw2
      have HW1 := hid hw1
      clear hx hxs hw1
      go_wp2_with fail
      refine HC.out.mono ?_
      rintro e w3 ⟨rfl, hs⟩
      have HS3 := hid hs
      clear hs hc
      go_wp2_with fail
      go_roundw
      case rel => exact ⟨k + 1, _, by omega, by omega, by go_num, HS3.out, HW1.out.le (by omega), hw2⟩
      case measure => simp [intOf]; omega
    · have HH := heads_of (HLr.out.le (m := 5) (by omega)) hDl
      have HOp := hid (st_open (room := 4) HSr.out HLr.out.b (by omega) (by decide) (by decide))
      have HWs := hid (fun (w : World) (D : Dsk) (hs : St W w b D) => st_writes hs)
      generalize openF 4 D = R at *
      by_cases hkl : k < ss.length
      · have hk4' : k = 4 := by omega
        have d1 : decide ((k : Int) < 4) = false := by rw [decide_eq_false_iff_not]; omega
        clear hlt hk4'
        go_wp2_with fail
        refine (HWs.out wr D HSr.out).mono ?_
        rintro e w4 ⟨rfl, rfl⟩
        go_wp2_with fail
        refine HOp.out.mono ?_
        rintro e w5 (⟨_, j, rfl, hj⟩ | ⟨hne, rfl, hs⟩)
        · rcases HH with ⟨h0, _⟩ | ⟨h0, h1, h2, h3, h4, h5, h6, h7, h8, h9⟩
          · exact absurd (by assumption) h0
          · have HJ := hid hj
            have HR := hid h3
            have HL2 := hid h1
            have w1 : IntKind.i64.wrap (R.2.writes - D.writes) = R.2.writes - D.writes := by rw [IntKind.wrap_i64]; omega
            clear hj h0 h1 h3
            go_wp2_with fail
            refine (HWs.out w5 R.2 HJ.out.st).mono ?_
            rintro e w6 ⟨rfl, rfl⟩
            go_wp2_with fail
            refine (HWs.out w5 R.2 HJ.out.st).mono ?_
            rintro e w6 ⟨rfl, rfl⟩
            go_wp2_with fail
            have hop := st_open (room := 4) HJ.out.st HL2.out.b (by decide) (by decide) (by decide)
            rw [HR.out] at hop
            refine hop.mono ?_
            rintro e w7 (⟨_, j2, rfl, hj2⟩ | ⟨hne, _⟩)
            · have HJ2 := hid hj2
              clear hj2 hop
              go_wp2_with fail
              refine (HWs.out w7 R.2 HJ2.out.st).mono ?_
              rintro e w8 ⟨rfl, rfl⟩
              go_wp2_with fail
              go_ret
              exact ⟨rfl, HJ2.out.below⟩
            · exact absurd rfl hne
        · rcases HH with ⟨h0, h1, h2⟩ | ⟨h0, _⟩
          · have HS5 := hid hs
            rw [h1]
            clear hs h0 h1
            go_wp2_with fail
            refine (HWs.out w5 R.2 HS5.out).mono ?_
            rintro e w6 ⟨rfl, rfl⟩
            rw [h2]
            go_wp2_with fail
            go_ret
            exact ⟨rfl, HS5.out.below⟩
          · exact absurd h0 hne
      · have hk4' : k = ss.length := by omega
        clear hlt
        go_wp2_with fail
        refine (HWs.out wr D HSr.out).mono ?_
        rintro e w4 ⟨rfl, rfl⟩
        go_wp2_with fail
        refine HOp.out.mono ?_
        rintro e w5 (⟨_, j, rfl, hj⟩ | ⟨hne, rfl, hs⟩)
        · rcases HH with ⟨h0, _⟩ | ⟨h0, h1, h2, h3, h4, h5, h6, h7, h8, h9⟩
          · exact absurd (by assumption) h0
          · have HJ := hid hj
            have HR := hid h3
            have HL2 := hid h1
            have w1 : IntKind.i64.wrap (R.2.writes - D.writes) = R.2.writes - D.writes := by rw [IntKind.wrap_i64]; omega
            clear hj h0 h1 h3
            go_wp2_with fail
            refine (HWs.out w5 R.2 HJ.out.st).mono ?_
            rintro e w6 ⟨rfl, rfl⟩
            go_wp2_with fail
            refine (HWs.out w5 R.2 HJ.out.st).mono ?_
            rintro e w6 ⟨rfl, rfl⟩
            go_wp2_with fail
            have hop := st_open (room := 4) HJ.out.st HL2.out.b (by decide) (by decide) (by decide)
            rw [HR.out] at hop
            refine hop.mono ?_
            rintro e w7 (⟨_, j2, rfl, hj2⟩ | ⟨hne, _⟩)
            · have HJ2 := hid hj2
              clear hj2 hop
              go_wp2_with fail
              refine (HWs.out w7 R.2 HJ2.out.st).mono ?_
              rintro e w8 ⟨rfl, rfl⟩
              go_wp2_with fail
              go_ret
              exact ⟨rfl, HJ2.out.below⟩
            · exact absurd rfl hne
        · rcases HH with ⟨h0, h1, h2⟩ | ⟨h0, _⟩
          · have HS5 := hid hs
            rw [h1]
            clear hs h0 h1
            go_wp2_with fail
            refine (HWs.out w5 R.2 HS5.out).mono ?_
            rintro e w6 ⟨rfl, rfl⟩
            rw [h2]
            go_wp2_with fail
            go_ret
            exact ⟨rfl, HS5.out.below⟩
          · exact absurd h0 hne

end JournalHeads
end Go.Proofs.YtbfdmglmolkloaaDoor
