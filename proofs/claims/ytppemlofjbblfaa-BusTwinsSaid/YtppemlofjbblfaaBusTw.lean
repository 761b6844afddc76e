/- Two buses, used in turns by two scripts, answer each as the document's bus does, as if it were alone; the scripts read afterwards as before. No condition. -/
import Derived.Test.YtppemlofjbblfaaRows
import Derived.Test.YtppemlofjbblfaaBusW
import Derived.Test.YtppemlofjbblfaaBusPl
import Derived.Test.YtppemlofjbblfaaBusOpn
import Derived.OpenShut
import Derived.ShutString
namespace Go.Proofs.Ytppemlofjbblfaa
open Go Go.RowKit

namespace BusTwins

/-- Two pairs of buses, each in memory of its own. -/
def FourSt (W w : World) (a r b s : Nat) (N1 N2 : Int) : Prop :=
  ∃ (sa : Option Addr) (ca : Nat) (ra : Option Addr) (rca : Nat) (ls : List Let) (n : Int) (sb : Option Addr) (cb : Nat) (ss : Option Addr) (css : Nat) (ls' : List Let) (n' : Int),
    BusAt 58 28 w a sa ca ls n ∧ BusAt 47 50 w r ra rca ls n ∧ BusAt 58 28 w b sb cb ls' n' ∧ BusAt 47 50 w s ss css ls' n' ∧
    (∀ k, busF a sa k → ¬ busF r ra k) ∧ (∀ k, busF b sb k → ¬ busF s ss k) ∧ (∀ k, (busF a sa k ∨ busF r ra k) → ¬ (busF b sb k ∨ busF s ss k)) ∧
    Fit n ls N1 ∧ Fit n' ls' N2 ∧ (∀ k, (busF a sa k ∨ busF r ra k) ∨ (busF b sb k ∨ busF s ss k) → W.heap.size ≤ k) ∧ Mod (fun k => W.heap.size ≤ k) W w

theorem FourSt.swap {W w : World} {a r b s : Nat} {N1 N2 : Int} (h : FourSt W w a r b s N1 N2) : FourSt W w b s a r N2 N1 := by
  obtain ⟨sa, ca, ra, rca, ls, n, sb, cb, ss, css, ls', n', h1, h2, h3, h4, d1, d2, d3, f1, f2, hF, hm⟩ := h
  exact ⟨sb, cb, ss, css, ls', n', sa, ca, ra, rca, ls, n, h3, h4, h1, h2, d2, d1, fun k hk hk2 => d3 k hk2 hk, f2, f1, fun k hk => hF k hk.symm, hm⟩

theorem FourSt.ext {W w w' : World} {a r b s : Nat} {N1 N2 : Int} (h : FourSt W w a r b s N1 N2) (hx : Mod (fun _ => False) w w') : FourSt W w' a r b s N1 N2 := by
  obtain ⟨sa, ca, ra, rca, ls, n, sb, cb, ss, css, ls', n', h1, h2, h3, h4, d1, d2, d3, f1, f2, hF, hm⟩ := h
  exact ⟨sa, ca, ra, rca, ls, n, sb, cb, ss, css, ls', n', h1.mod hx (fun _ _ h => h), h2.mod hx (fun _ _ h => h), h3.mod hx (fun _ _ h => h), h4.mod hx (fun _ _ h => h), d1, d2, d3, f1, f2, hF, hm.then hx (fun _ _ h => h.elim)⟩

theorem FourSt.more {W w : World} {a r b s : Nat} {N1 N2 M1 M2 : Int} (h : FourSt W w a r b s N1 N2) (h1 : N1 ≤ M1) (h2 : N2 ≤ M2) : FourSt W w a r b s M1 M2 := by
  obtain ⟨sa, ca, ra, rca, ls, n, sb, cb, ss, css, ls', n', k1, k2, k3, k4, d1, d2, d3, f1, f2, hF, hm⟩ := h
  exact ⟨sa, ca, ra, rca, ls, n, sb, cb, ss, css, ls', n', k1, k2, k3, k4, d1, d2, d3, ⟨f1.1, f1.2.1, by have := f1.2.2.1; omega, f1.2.2.2⟩, ⟨f2.1, f2.2.1, by have := f2.2.2.1; omega, f2.2.2.2⟩, hF, hm⟩

theorem four_play {W w : World} {a r b s : Nat} {N1 N2 : Int} (h : FourSt W w a r b s N1 N2) (hN : N1 < 4000000000000000000) {g off xc : Nat} {o : Opr} (ho : o.kind ≠ 4) (hsrc : Src w 10 (some ⟨g, off, none⟩) 1 o.cs) (hg : g < W.heap.size) :
    Calls Try.prog 17 #[.pointer (some ⟨a, 0, none⟩), .pointer (some ⟨r, 0, none⟩), .slice (some ⟨g, off, none⟩) 1 xc] w fun e w' => e = .returned (.bool true) ∧ FourSt W w' a r b s (N1 + 1) N2 := by
  obtain ⟨sa, ca, ra, rca, ls, n, sb, cb, ss, css, ls', n', h1, h2, h3, h4, d1, d2, d3, f1, f2, hF, hm⟩ := h
  have hws := hm.size
  have hT : Two w (fun k => busF a sa k ∨ busF r ra k) w a sa ca ls n r ra rca ls n := ⟨h1, h2, d1, fun k hk => Or.inl (Or.inl hk), fun k hk => Or.inl (Or.inr hk), Mod.refl _ _⟩
  have := play_yes (os := [o]) (xc := xc) hT f1 (by simp; omega) (by simpa using hsrc) (fun _ a ha => by cases ha; rfl) (fun _ k hk hk2 => by
    rw [blk_some] at hk
    have := hF k (Or.inl hk2)
    omega)
  refine this.mono ?_
  rintro e w' ⟨rfl, b', sa', cap', ra', rcap', ls2, n2, hT', hf', hsame⟩
  have hb : b' = a := hsame (by simpa using ho)
  subst hb
  refine ⟨rfl, sa', cap', ra', rcap', ls2, n2, sb, cb, ss, css, ls', n', hT'.bus, hT'.ref, ?_, ?_, hT'.dis, d2, ?_, by simpa using hf', f2, ?_, ?_⟩
  · exact h3.mod hT'.mod (fun k hk hk2 => d3 k hk2 (Or.inl hk))
  · exact h4.mod hT'.mod (fun k hk hk2 => d3 k hk2 (Or.inr hk))
  · intro k hk hk2
    have hk' : (busF b' sa k ∨ busF r ra k) ∨ w.heap.size ≤ k := by
      rcases hk with hk | hk
      · exact hT'.fb k hk
      · exact hT'.fr k hk
    rcases hk' with hk' | hk'
    · exact d3 k hk' hk2
    · rcases hk2 with hk2 | hk2
      · have := h3.lt k hk2; omega
      · have := h4.lt k hk2; omega
  · intro k hk
    rcases hk with hk | hk
    · have hk' : (busF b' sa k ∨ busF r ra k) ∨ w.heap.size ≤ k := by
        rcases hk with hk | hk
        · exact hT'.fb k hk
        · exact hT'.fr k hk
      rcases hk' with hk' | hk'
      · exact hF k (Or.inl hk')
      · omega
    · exact hF k (Or.inr hk)
  · exact hm.then hT'.mod (fun k hk h => hF k (Or.inl h))

/-- The call at a place, as a script of one call. -/
theorem one_of {w : World} {g off n i : Nat} {os : List Opr} {o : Opr} (hs : Src w 10 (some ⟨g, off, none⟩) n (os.flatMap Opr.cs)) (hx : os[i]? = some o) : Src w 10 (some ⟨g, off + i * 10, none⟩) 1 o.cs := by
  refine ⟨rfl, (fun h => nomatch h), fun a ha j u hu => ?_⟩
  cases ha
  have hj : j < 10 := (List.getElem?_eq_some_iff.1 hu).1
  have := hs.2.2 _ rfl (i * 10 + j) u (by rw [flat_get Opr.len os i j hj, hx]; exact hu)
  rw [Addr.add_lit, ← Nat.add_assoc] at this
  rw [Addr.add_lit]
  exact this

theorem kind_of {w : World} {g off n i : Nat} {os : List Opr} {o : Opr} (hs : Src w 10 (some ⟨g, off, none⟩) n (os.flatMap Opr.cs)) (hx : os[i]? = some o) : w.cell? ⟨g, off + i * 10, none⟩ = some (.int .i64 o.kind) := by
  have := (one_of hs hx).2.2 _ rfl 0 _ rfl
  simpa [Addr.add] using this

def TwRel (W w1 w2 : World) (os1 os2 : List Opr) (c : Value) (wr : World) : Prop :=
  ∃ k : Nat, k ≤ os1.length + os2.length ∧ c = .int .i64 k ∧ FourSt W wr W.heap.size w2.heap.size w1.heap.size (w2.heap.size + 1) (1 + k) (1 + k)

theorem addr_lit {w : World} {a : Option Addr} {n : Nat} {xs : List Value} (hs : Src w 10 a n xs) (hp : 0 < n → ∀ x, a = some x → x.spot = none) (h : 0 < n) : ∃ g off, a = some ⟨g, off, none⟩ := by
  cases a with
  | none => have := hs.2.1 rfl; omega
  | some x =>
    obtain ⟨g, off, sp⟩ := x
    have := hp h _ rfl
    simp only at this
    subst this
    exact ⟨g, off, rfl⟩

theorem src_kept {W w : World} {a : Option Addr} {n : Nat} {xs : List Value} (hs : Src W 10 a n xs) (hl : ∀ k, 0 < n → blk a k → k < W.heap.size) (hm : Mod (fun k => W.heap.size ≤ k) W w) : Src w 10 a n xs := by
  rcases Nat.eq_zero_or_pos n with h | h
  · subst h
    refine ⟨hs.1, hs.2.1, fun a ha j u hu => ?_⟩
    have : xs = [] := List.eq_nil_of_length_eq_zero (by simpa using hs.1)
    subst this
    cases hu
  · exact hs.mod hm (fun k hk h2 => by have := hl k h hk; omega)

set_option maxRecDepth 100000 in
set_option maxHeartbeats 4000000 in
theorem walk (W : World) (a1 : Option Addr) (cap1 : Nat) (os1 : List Opr) (a2 : Option Addr) (cap2 : Nat) (os2 : List Opr)
    (hs1 : Src W 10 a1 os1.length (os1.flatMap Opr.cs)) (hp1 : 0 < os1.length → ∀ x, a1 = some x → x.spot = none) (hl1 : ∀ k, 0 < os1.length → blk a1 k → k < W.heap.size) (hc1 : os1.length ≤ cap1) (hr1 : os1.length * 88 ≤ 140737488351232) (hm1 : cap1 ≤ maxLen)
    (hs2 : Src W 10 a2 os2.length (os2.flatMap Opr.cs)) (hp2 : 0 < os2.length → ∀ x, a2 = some x → x.spot = none) (hl2 : ∀ k, 0 < os2.length → blk a2 k → k < W.heap.size) (hc2 : os2.length ≤ cap2) (hr2 : os2.length * 88 ≤ 140737488351232) (hm2 : cap2 ≤ maxLen) :
    Calls Try.prog 8 #[.slice a1 os1.length cap1, .slice a2 os2.length cap2] W fun e w' => e = .returned (.bool true) ∧ Below W.heap.size W w' := by
  unfold maxLen at hm1 hm2
  have A1 : Hid (0 < os1.length → ∃ g off, a1 = some ⟨g, off, none⟩) := fun h => addr_lit hs1 hp1 h
  have A2 : Hid (0 < os2.length → ∃ g off, a2 = some ⟨g, off, none⟩) := fun h => addr_lit hs2 hp2 h
  have S1 : Hid (∀ w, Mod (fun k => W.heap.size ≤ k) W w → Src w 10 a1 os1.length (os1.flatMap Opr.cs)) := fun w hm => src_kept hs1 hl1 hm
  have S2 : Hid (∀ w, Mod (fun k => W.heap.size ≤ k) W w → Src w 10 a2 os2.length (os2.flatMap Opr.cs)) := fun w hm => src_kept hs2 hl2 hm
  have L1 : Hid (∀ {g off}, 0 < os1.length → a1 = some ⟨g, off, none⟩ → g < W.heap.size) := fun h e => hl1 _ h ⟨_, e, rfl⟩
  have L2 : Hid (∀ {g off}, 0 < os2.length → a2 = some ⟨g, off, none⟩ → g < W.heap.size) := fun h e => hl2 _ h ⟨_, e, rfl⟩
  clear hs1 hs2 hp1 hp2 hl1 hl2
  go_enter Try.func8, Try.ntmps8
  go_wp2_with fail
  refine (new_any _).mono ?_
  rintro e w1 ⟨rfl, hat1, hm1'⟩
  have B1 := hid hat1
  have M1 := hid hm1'
  clear hat1 hm1'
  go_wp2_with fail
  refine (new_any _).mono ?_
  rintro e w2 ⟨rfl, hat2, hm2'⟩
  have B2 := hid hat2
  have M2 := hid hm2'
  clear hat2 hm2'
  have hz1 := M1.out.size
  have hz2 := M2.out.size
  have hy1 := B1.out.lt _ (Or.inl rfl)
  have hy2 := B2.out.lt _ (Or.inl rfl)
  go_wp2_with fail
  have HS : Hid (FourSt W ((w2.alloc (.cells #[.slice none 0 0, .int .i64 1] 47)).alloc (.cells #[.slice none 0 0, .int .i64 1] 47)) W.heap.size w2.heap.size w1.heap.size (w2.heap.size + 1) 1 1) := by
    have hx : Mod (fun _ => False) w2 ((w2.alloc (.cells #[.slice none 0 0, .int .i64 1] 47)).alloc (.cells #[.slice none 0 0, .int .i64 1] 47)) := ((Mod.refl _ _).alloc _).alloc _
    refine ⟨none, 0, none, 0, [], 1, none, 0, none, 0, [], 1, (B1.out.mod M2.out (fun _ _ h => h)).mod hx (fun _ _ h => h), ⟨heap_alloc2_old _ _ _, Own.nil _ _ _, blk_none _⟩, B2.out.mod hx (fun _ _ h => h), ⟨heap_alloc2_new _ _ _, Own.nil _ _ _, blk_none _⟩, ?_, ?_, ?_, ⟨rfl, by decide, by decide, by simp⟩, ⟨rfl, by decide, by decide, by simp⟩, ?_, ((M1.out.trans M2.out).trans hx).mono fun _ _ h => h.elim⟩
    · intro k h h'; simp only [busF, blk_none, or_false] at h h'; omega
    · intro k h h'; simp only [busF, blk_none, or_false] at h h'; omega
    · intro k h h'; simp only [busF, blk_none, or_false] at h h'; omega
    · intro k h; simp only [busF, blk_none, or_false] at h; omega
  refine (wakes_yes _).mono ?_
  rintro e w3 ⟨rfl, hm3⟩
  have HS3 := hid (HS.out.ext hm3)
  clear hm3
  go_wp2_with fail
  go_loopw [9] (fun c wr => TwRel W w1 w2 os1 os2 c wr) (fun c _ => os1.length + os2.length - (intOf c).toNat)
  case atStart => exact ⟨0, Nat.zero_le _, rfl, by simpa using HS3.out⟩
  case round =>
    obtain ⟨k, hk, rfl, hF⟩ := hrel
    have HF := hid hF
    obtain ⟨_, _, _, _, _, _, _, _, _, _, _, _, _, _, _, _, _, _, _, _, _, _, hM⟩ := hF
    by_cases h1 : k < os1.length
    · obtain ⟨o1, hx1⟩ : ∃ x, os1[k]? = some x := ⟨_, List.getElem?_eq_getElem h1⟩
      have X1 := hid hx1
      clear hx1
      obtain ⟨g1, off1, rfl⟩ := A1.out (by omega)
      by_cases K1 : o1.kind ≠ 4
      · by_cases h2 : k < os2.length
        · obtain ⟨o2, hx2⟩ : ∃ x, os2[k]? = some x := ⟨_, List.getElem?_eq_getElem h2⟩
          have X2 := hid hx2
          clear hx2
          obtain ⟨g2, off2, rfl⟩ := A2.out (by omega)
          by_cases K2 : o2.kind ≠ 4
          · have c1 : decide ((k : Int) < (os1.length : Int)) = true := by simp; omega
            have c1' : decide (k < os1.length) = true := by simp; omega
            have c1'' : (k : Int) < (os1.length : Int) := by omega
            have t1 := kind_of (S1.out _ hM) X1.out
            have k1 : (o1.kind != 4) = true := by simpa using K1
            have e1 : ¬ cap1 = k := by omega
            have c2 : decide ((k : Int) < (os2.length : Int)) = true := by simp; omega
            have c2' : decide (k < os2.length) = true := by simp; omega
            have c2'' : (k : Int) < (os2.length : Int) := by omega
            have t2 := kind_of (S2.out _ hM) X2.out
            have k2 : (o2.kind != 4) = true := by simpa using K2
            have e2 : ¬ cap2 = k := by omega
            have HM := hid hM
            clear hM
            go_wp2_with fail
            refine (four_play (HF.out) (by omega) (o := o1) K1 (one_of (S1.out _ HM.out) X1.out) (L1.out (by omega) rfl)).mono ?_
            rintro e w1p ⟨rfl, hF1⟩
            have F1 := hid hF1
            obtain ⟨_, _, _, _, _, _, _, _, _, _, _, _, _, _, _, _, _, _, _, _, _, _, hM1⟩ := hF1
            have HM := hid hM1
            clear hM1
            have t2 := kind_of (S2.out _ HM.out) X2.out
            go_wp2_with fail
            refine (four_play (F1.out.swap) (by omega) (o := o2) K2 (one_of (S2.out _ HM.out) X2.out) (L2.out (by omega) rfl)).mono ?_
            rintro e w2p ⟨rfl, hF2⟩
            have F2 := hid hF2.swap
            obtain ⟨_, _, _, _, _, _, _, _, _, _, _, _, _, _, _, _, _, _, _, _, _, _, hM2⟩ := hF2
            have HM := hid hM2
            clear hM2
            go_wp2_with fail
            go_roundw
            case rel => exact ⟨k + 1, by omega, by go_num, F2.out.more (by omega) (by omega)⟩
            case measure => simp [intOf]; omega
          · have c1 : decide ((k : Int) < (os1.length : Int)) = true := by simp; omega
            have c1' : decide (k < os1.length) = true := by simp; omega
            have c1'' : (k : Int) < (os1.length : Int) := by omega
            have t1 := kind_of (S1.out _ hM) X1.out
            have k1 : (o1.kind != 4) = true := by simpa using K1
            have e1 : ¬ cap1 = k := by omega
            have c2 : decide ((k : Int) < (os2.length : Int)) = true := by simp; omega
            have c2' : decide (k < os2.length) = true := by simp; omega
            have c2'' : (k : Int) < (os2.length : Int) := by omega
            have t2 := kind_of (S2.out _ hM) X2.out
            have k2 : (o2.kind != 4) = false := by simpa using K2
            have HM := hid hM
            clear hM
            go_wp2_with fail
            refine (four_play (HF.out) (by omega) (o := o1) K1 (one_of (S1.out _ HM.out) X1.out) (L1.out (by omega) rfl)).mono ?_
            rintro e w1p ⟨rfl, hF1⟩
            have F1 := hid hF1
            obtain ⟨_, _, _, _, _, _, _, _, _, _, _, _, _, _, _, _, _, _, _, _, _, _, hM1⟩ := hF1
            have HM := hid hM1
            clear hM1
            have t2 := kind_of (S2.out _ HM.out) X2.out
            go_wp2_with fail
            go_roundw
            case rel => exact ⟨k + 1, by omega, by go_num, F1.out.more (by omega) (by omega)⟩
            case measure => simp [intOf]; omega
        · have c1 : decide ((k : Int) < (os1.length : Int)) = true := by simp; omega
          have c1' : decide (k < os1.length) = true := by simp; omega
          have c1'' : (k : Int) < (os1.length : Int) := by omega
          have t1 := kind_of (S1.out _ hM) X1.out
          have k1 : (o1.kind != 4) = true := by simpa using K1
          have e1 : ¬ cap1 = k := by omega
          have c2 : decide ((k : Int) < (os2.length : Int)) = false := by simp; omega
          have c2' : decide (k < os2.length) = false := by simp; omega
          have HM := hid hM
          clear hM
          go_wp2_with fail
          refine (four_play (HF.out) (by omega) (o := o1) K1 (one_of (S1.out _ HM.out) X1.out) (L1.out (by omega) rfl)).mono ?_
          rintro e w1p ⟨rfl, hF1⟩
          have F1 := hid hF1
          obtain ⟨_, _, _, _, _, _, _, _, _, _, _, _, _, _, _, _, _, _, _, _, _, _, hM1⟩ := hF1
          have HM := hid hM1
          clear hM1
          go_wp2_with fail
          go_roundw
          case rel => exact ⟨k + 1, by omega, by go_num, F1.out.more (by omega) (by omega)⟩
          case measure => simp [intOf]; omega
      · by_cases h2 : k < os2.length
        · obtain ⟨o2, hx2⟩ : ∃ x, os2[k]? = some x := ⟨_, List.getElem?_eq_getElem h2⟩
          have X2 := hid hx2
          clear hx2
          obtain ⟨g2, off2, rfl⟩ := A2.out (by omega)
          by_cases K2 : o2.kind ≠ 4
          · have c1 : decide ((k : Int) < (os1.length : Int)) = true := by simp; omega
            have c1' : decide (k < os1.length) = true := by simp; omega
            have c1'' : (k : Int) < (os1.length : Int) := by omega
            have t1 := kind_of (S1.out _ hM) X1.out
            have k1 : (o1.kind != 4) = false := by simpa using K1
            have c2 : decide ((k : Int) < (os2.length : Int)) = true := by simp; omega
            have c2' : decide (k < os2.length) = true := by simp; omega
            have c2'' : (k : Int) < (os2.length : Int) := by omega
            have t2 := kind_of (S2.out _ hM) X2.out
            have k2 : (o2.kind != 4) = true := by simpa using K2
            have e2 : ¬ cap2 = k := by omega
            have HM := hid hM
            clear hM
            go_wp2_with fail
            refine (four_play (HF.out.swap) (by omega) (o := o2) K2 (one_of (S2.out _ HM.out) X2.out) (L2.out (by omega) rfl)).mono ?_
            rintro e w1p ⟨rfl, hF1⟩
            have F1 := hid hF1.swap
            obtain ⟨_, _, _, _, _, _, _, _, _, _, _, _, _, _, _, _, _, _, _, _, _, _, hM1⟩ := hF1
            have HM := hid hM1
            clear hM1
            go_wp2_with fail
            go_roundw
            case rel => exact ⟨k + 1, by omega, by go_num, F1.out.more (by omega) (by omega)⟩
            case measure => simp [intOf]; omega
          · have c1 : decide ((k : Int) < (os1.length : Int)) = true := by simp; omega
            have c1' : decide (k < os1.length) = true := by simp; omega
            have c1'' : (k : Int) < (os1.length : Int) := by omega
            have t1 := kind_of (S1.out _ hM) X1.out
            have k1 : (o1.kind != 4) = false := by simpa using K1
            have c2 : decide ((k : Int) < (os2.length : Int)) = true := by simp; omega
            have c2' : decide (k < os2.length) = true := by simp; omega
            have c2'' : (k : Int) < (os2.length : Int) := by omega
            have t2 := kind_of (S2.out _ hM) X2.out
            have k2 : (o2.kind != 4) = false := by simpa using K2
            have HM := hid hM
            clear hM
            go_wp2_with fail
            go_roundw
            case rel => exact ⟨k + 1, by omega, by go_num, HF.out.more (by omega) (by omega)⟩
            case measure => simp [intOf]; omega
        · have c1 : decide ((k : Int) < (os1.length : Int)) = true := by simp; omega
          have c1' : decide (k < os1.length) = true := by simp; omega
          have c1'' : (k : Int) < (os1.length : Int) := by omega
          have t1 := kind_of (S1.out _ hM) X1.out
          have k1 : (o1.kind != 4) = false := by simpa using K1
          have c2 : decide ((k : Int) < (os2.length : Int)) = false := by simp; omega
          have c2' : decide (k < os2.length) = false := by simp; omega
          have HM := hid hM
          clear hM
          go_wp2_with fail
          go_roundw
          case rel => exact ⟨k + 1, by omega, by go_num, HF.out.more (by omega) (by omega)⟩
          case measure => simp [intOf]; omega
    · by_cases h2 : k < os2.length
      · obtain ⟨o2, hx2⟩ : ∃ x, os2[k]? = some x := ⟨_, List.getElem?_eq_getElem h2⟩
        have X2 := hid hx2
        clear hx2
        obtain ⟨g2, off2, rfl⟩ := A2.out (by omega)
        by_cases K2 : o2.kind ≠ 4
        · have c1 : decide ((k : Int) < (os1.length : Int)) = false := by simp; omega
          have c1' : decide (k < os1.length) = false := by simp; omega
          have c2 : decide ((k : Int) < (os2.length : Int)) = true := by simp; omega
          have c2' : decide (k < os2.length) = true := by simp; omega
          have c2'' : (k : Int) < (os2.length : Int) := by omega
          have t2 := kind_of (S2.out _ hM) X2.out
          have k2 : (o2.kind != 4) = true := by simpa using K2
          have e2 : ¬ cap2 = k := by omega
          have HM := hid hM
          clear hM
          go_wp2_with fail
          refine (four_play (HF.out.swap) (by omega) (o := o2) K2 (one_of (S2.out _ HM.out) X2.out) (L2.out (by omega) rfl)).mono ?_
          rintro e w1p ⟨rfl, hF1⟩
          have F1 := hid hF1.swap
          obtain ⟨_, _, _, _, _, _, _, _, _, _, _, _, _, _, _, _, _, _, _, _, _, _, hM1⟩ := hF1
          have HM := hid hM1
          clear hM1
          go_wp2_with fail
          go_roundw
          case rel => exact ⟨k + 1, by omega, by go_num, F1.out.more (by omega) (by omega)⟩
          case measure => simp [intOf]; omega
        · have c1 : decide ((k : Int) < (os1.length : Int)) = false := by simp; omega
          have c1' : decide (k < os1.length) = false := by simp; omega
          have c2 : decide ((k : Int) < (os2.length : Int)) = true := by simp; omega
          have c2' : decide (k < os2.length) = true := by simp; omega
          have c2'' : (k : Int) < (os2.length : Int) := by omega
          have t2 := kind_of (S2.out _ hM) X2.out
          have k2 : (o2.kind != 4) = false := by simpa using K2
          have HM := hid hM
          clear hM
          go_wp2_with fail
          go_roundw
          case rel => exact ⟨k + 1, by omega, by go_num, HF.out.more (by omega) (by omega)⟩
          case measure => simp [intOf]; omega
      · have c1 : decide ((k : Int) < (os1.length : Int)) = false := by simp; omega
        have c1' : decide (k < os1.length) = false := by simp; omega
        have c2 : decide ((k : Int) < (os2.length : Int)) = false := by simp; omega
        have c2' : decide (k < os2.length) = false := by simp; omega
        clear hM
        obtain ⟨sa, ca, ra, rca, ls, n, sb, cb, ss, css, ls', n', q1, q2, q3, q4, d1, d2, d3, f1, f2, hF, hm⟩ := HF.out
        have Q1 := hid q1
        have Q2 := hid q2
        have Q3 := hid q3
        have Q4 := hid q4
        have F1 := hid f1
        have F2 := hid f2
        have HM := hid hm
        clear q1 q2 q3 q4 d1 d2 d3 f1 f2 hF hm
        go_wp2_with fail
        refine (alike_yes Q1.out Q2.out F1.out.2.2.2).mono ?_
        rintro e w8 ⟨rfl, hm8⟩
        have M8 := hid hm8
        clear hm8
        go_wp2_with fail
        refine (alike_yes (Q3.out.mod M8.out (fun _ _ h => h)) (Q4.out.mod M8.out (fun _ _ h => h)) F2.out.2.2.2).mono ?_
        rintro e w9 ⟨rfl, hm9⟩
        have M9 := hid hm9
        clear hm9
        go_wp2
        go_ret
        exact ⟨rfl, (HM.out.then (M8.out.trans M9.out) (fun _ _ h => h.elim)).below (Nat.le_refl _) (fun _ h => h)⟩

open Go.ChangeShapes Go.WideShapes Go.ChangeAt
theorem own : ownKnob Try.prog.godebug = none := by kernel_rfl
theorem laidOut : laidOutB Try.prog = true := by kernel_rfl

set_option maxRecDepth 100000 in
theorem lifted (os : Os) (started : os.Started) (H : Type) (enc : TypeId × Value → H) :
    ReturnsInHanded {} Try.checked os 8 .any (Rows.busTwinsSpec.pre6 enc Try.prog Try.f8 Rows.busTwinsRow.domain false) (Rows.busTwinsSpec.post enc Try.prog Try.f8 false true false false) := by
  refine returnsInHanded_of_change_sized (C := Try.checked) own started (by kernel_rfl) Try.func8
    (ChangeSpec.witness6 (enc := enc) (C := Try.checked) false ⟨#[], #[.slice none 0 0, .slice none 0 0], []⟩ 8 (by kernel_rfl) (by kernel_rfl) (by kernel_rfl) (by kernel_rfl)) ?_
  intro W base args ds gs before hval0 hW hcnd hsz0 _
  have hsz : (DataW.weightsEach Try.prog (Try.f8.params.toList ++ Rows.busTwinsSpec.plain.varTypes Try.prog) (ds ++ gs)).all (· ≤ reachBytes) = true := hsz0
  clear hsz0
  have hval : ∀ (j : Nat) t v, Try.f8.params[j]? = some t → args[j]? = some v → Value.okWide Try.prog W .any base t v := hval0
  have hW' := hW
  obtain ⟨p, q, hA0, hV, rfl, hfz, hnd⟩ := hW
  have hA : DataW.TrodAll enc Try.prog W 0 (fun _ => true) true Try.f8.params.toList args.toList ds p := hA0
  rw [Try.params8] at hA hval hsz
  obtain ⟨v0, vs0, d0, ds0, p0, q0, hargs, rfl, rfl, h0, r0⟩ := trodAll_cons hA
  obtain ⟨v1, vs1, d1, ds1, p1, q1, rfl, rfl, rfl, h1, r1⟩ := trodAll_cons r0
  obtain ⟨rfl, rfl, rfl⟩ := trodAll_nil r1
  obtain rfl : args = #[v0, v1] := by cases args; simp_all
  obtain ⟨rfl, rfl⟩ := trodVars_none hV
  have lt0 : ∀ x ∈ p0, x.block < W.heap.size := by obtain ⟨m, hm⟩ := h0; exact DataW.trod_lt m _ _ _ hm
  have lt1 : ∀ x ∈ p1, x.block < W.heap.size := by obtain ⟨m, hm⟩ := h1; exact DataW.trod_lt m _ _ _ hm
  have hsz' : (DataW.weightsEach Try.prog [22, 22] [d0, d1]).all (· ≤ reachBytes) = true := hsz
  obtain ⟨a0, len0, cap0, rfl⟩ := okWide_slice Try.underlying22 (hval 0 22 v0 rfl rfl)
  obtain ⟨a1, len1, cap1, rfl⟩ := okWide_slice Try.underlying22 (hval 1 22 v1 rfl rfl)
  obtain ⟨os0, rfl, o1, o2, o3, o4, o5⟩ := open_ops h0
  obtain ⟨os1, rfl, u1, u2, u3, u4, u5⟩ := open_ops h1
  have o6 := slice_reach hsz' (j := 0) rfl rfl Try.underlying22 h0
  have u6 := slice_reach hsz' (j := 1) rfl rfl Try.underlying22 h1
  have hby : Try.prog.bytesOf 30 = 88 := by kernel_rfl
  rw [hby] at o6 u6
  clear hA0 hval0
  refine (walk W a0 cap0 os0 a1 cap1 os1 o1 o2 o3 o4 o6 o5 u1 u2 u3 u4 u6 u5).mono fun e W' ⟨he, bel⟩ => ?_
  subst he
  exact ⟨_, rfl, _, _, _, [], _, [], hW', trodAll_mk1 (shut_bool Try.underlying4 _), (trodAll_cons_mk (Below.trod laidOut (by kernel_rfl) (of_decide_eq_true (by kernel_rfl)) h0 bel lt0) (trodAll_cons_mk (Below.trod laidOut (by kernel_rfl) (of_decide_eq_true (by kernel_rfl)) h1 bel lt1) trodAll_mk0)), rfl, bel.frame _, fun h => by cases h⟩

theorem over : Rows.busTwinsRow.holds Try.pinned (OpenSpec.ofChange Rows.busTwinsSpec) :=
  OpenClaim.holds_of_wide 8 Try.f8 rfl rfl rfl rfl rfl rfl rfl ⟨rfl, rfl, rfl, rfl, rfl⟩ rfl rfl rfl rfl rfl (by kernel_rfl) Try.func8 (by kernel_rfl)
    (of_decide_eq_true (by kernel_rfl)) (by unfold Func.isWrapper; first | (rw [if_pos (by decide +kernel)]; kernel_rfl) | (rw [if_neg (by decide +kernel)]; exact ⟨rfl, rfl⟩))
    (fun os started H enc _ => lifted os started H enc)

theorem proved : Rows.BusTwinsSaid := over


end BusTwins

theorem busTwins_holds : Rows.BusTwinsSaid := BusTwins.proved
#print axioms busTwins_holds

end Go.Proofs.Ytppemlofjbblfaa
