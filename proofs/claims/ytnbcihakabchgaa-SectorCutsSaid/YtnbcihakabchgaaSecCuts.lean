/- Of writes that are done one behind the other, just so many are done as the cut leaves, each of them whole: for every list of texts and every cut; the arguments read afterwards as before. No condition. -/
import Derived.Test.YtnbcihakabchgaaRows
import Derived.Test.YtnbcihakabchgaaDiskP
import Derived.Test.YtnbcihakabchgaaOpen1
import Derived.OpenShut
import Derived.ShutString
namespace Go.Proofs.Ytnbcihakabchgaa
open Go Go.RowKit

namespace SectorCuts

def cutT (x : ByteArray) : ByteArray := x.extract 0 (min x.size 1024)
theorem cutT_small (x : ByteArray) : (cutT x).size ≤ 1024 := by unfold cutT; rw [ByteArray.size_extract]; omega
theorem cutT_size (x : ByteArray) : (cutT x).size = min x.size 1024 := by unfold cutT; rw [ByteArray.size_extract]; omega

/-- What the sector i holds in the end, less its zeros. -/
def want (ns : List Txt) (L i : Nat) : ByteArray := if i < L then cutT (((ns[i]?).map (·.1)).getD ⟨#[]⟩) else ⟨#[]⟩

/-- The disk behind k writes, where L are left of n. -/
structure Cs (ns : List Txt) (n L k : Nat) (D : Dsk) : Prop where
  len : D.secs.length = n
  off : D.off = decide (L < k)
  left : D.left = (L : Int) + 1 - (min k L : Nat)
  wr : D.writes = (min k L : Nat)
  h0 : 0 ≤ D.high
  h1 : D.high ≤ n
  all : ∀ i, full ((D.secs[i]?).getD ⟨#[]⟩) = pad (want ns (min k L) i)

theorem Cs.ok {ns : List Txt} {n L k : Nat} {D : Dsk} (h : Cs ns n L k D) (hn : n ≤ 200) (hL : L < n + 2) : D.Ok :=
  ⟨by rw [h.len]; omega, by rw [h.wr]; omega, by rw [h.wr]; omega, h.h0, by have := h.h1; omega, by rw [h.left]; omega, by rw [h.left]; omega⟩

theorem cs_new (ns : List Txt) (n L : Nat) (hn : n ≤ 200) (hL : L < n + 2) : Cs ns n L 0 ((newD n).cut L) := by
  have hl : (newD n).secs.length = n := by simp [newD]; omega
  have hm : min 0 L = 0 := by omega
  refine ⟨hl, by rw [decide_eq_false (by omega)]; rfl, ?_, by rw [hm]; rfl, Int.le_refl _, by show (0 : Int) ≤ n; omega, fun i => ?_⟩
  · show max 0 (min (L : Int) 1152921504606846976) + 1 = _; omega
  · have e : ((((newD n).cut L).secs[i]?).getD ⟨#[]⟩) = ⟨#[]⟩ := by
      show (((List.replicate (max 0 (min (n : Int) 16384)).toNat (⟨#[]⟩ : ByteArray))[i]?).getD ⟨#[]⟩) = ⟨#[]⟩
      rw [List.getElem?_replicate]
      split <;> rfl
    rw [e, full_nil, hm]
    unfold want
    rw [if_neg (by omega), pad_nil]

theorem Cs.ready {ns : List Txt} {n L k : Nat} {D : Dsk} (h : Cs ns n L k D) (hk : k < n) : readyF D k = if L < k then 12 else 0 := by
  unfold readyF
  rw [h.off, h.len]
  by_cases hl : L < k
  · simp [hl]
  · simp [hl]; omega

theorem Cs.step {ns : List Txt} {n L k : Nat} {D : Dsk} (h : Cs ns n L k D) (hk : k < n) {x : Txt} (hx : ns[k]? = some x) :
    (writeF D k (cutT x.1)).1 = (if k < L then 0 else 12) ∧ Cs ns n L (k + 1) (writeF D k (cutT x.1)).2 := by
  have hs := cutT_small x.1
  unfold writeF
  rw [h.ready hk]
  by_cases hl : L < k
  · rw [if_pos hl, if_pos (by decide), if_neg (by omega)]
    have e1 : min k L = L := by omega
    have e2 : min (k + 1) L = L := by omega
    refine ⟨rfl, h.len, ?_, ?_, ?_, h.h0, h.h1, ?_⟩
    · rw [h.off]; simp; omega
    · rw [h.left, e1, e2]
    · rw [h.wr, e1, e2]
    · rw [e2, ← e1]; exact h.all
  · rw [if_neg hl, if_neg (by decide), if_neg (by omega)]
    by_cases he : k = L
    · subst he
      have e1 : min k k = k := by omega
      have e2 : min (k + 1) k = k := by omega
      rw [if_pos (by rw [h.left, e1]; omega), if_neg (by omega)]
      refine ⟨rfl, h.len, ?_, ?_, ?_, h.h0, h.h1, ?_⟩
      · show true = _; simp
      · show D.left = _; rw [h.left, e1, e2]
      · show D.writes = _; rw [h.wr, e1, e2]
      · show ∀ i, full ((D.secs[i]?).getD ⟨#[]⟩) = _; rw [e2]; have := h.all; rw [e1] at this; exact this
    · have e1 : min k L = k := by omega
      have e2 : min (k + 1) L = k + 1 := by omega
      have hlf := h.left
      have hwr := h.wr
      have hh1 := h.h1
      have hh0 := h.h0
      rw [e1] at hlf hwr
      rw [if_neg (by rw [hlf]; omega), if_pos (by omega), show (k : Int).toNat = k by omega]
      refine ⟨rfl, by rw [put_len]; exact h.len, ?_, ?_, ?_, ?_, ?_, fun i => ?_⟩
      · show D.off = _; rw [h.off]; simp; omega
      · simp only [Dsk.put]; rw [if_neg (by omega), hlf, e2]; omega
      · simp only [Dsk.put]; rw [hwr, e2]; omega
      · simp only [Dsk.put]; split <;> omega
      · simp only [Dsk.put]; split <;> omega
      · rw [put_full D k i _ (by rw [h.len]; exact hk) hs, e2]
        have ha := h.all i
        rw [e1] at ha
        unfold want at ha ⊢
        split
        · subst i; rw [if_pos (by omega), hx]; rfl
        · rw [ha]
          congr 1
          by_cases hi : i < k
          · rw [if_pos hi, if_pos (by omega)]
          · rw [if_neg hi, if_neg (by omega)]

theorem want_small (ns : List Txt) (L i : Nat) : (want ns L i).size ≤ 1024 := by
  unfold want
  split
  · exact cutT_small _
  · decide

theorem want_min (ns : List Txt) (L : Nat) {i k : Nat} (h : i < k) : want ns (min k L) i = want ns L i := by
  unfold want
  by_cases hL : i < L
  · rw [if_pos hL, if_pos (by omega)]
  · rw [if_neg hL, if_neg (by omega)]

theorem St.drewN {W w : World} {b : Nat} {D : Dsk} (h : St W w b D) (n : Nat) : St W (w.drewN n) b D := by
  obtain ⟨sa, k1, k2, k3⟩ := h
  exact ⟨sa, k1.mod ((Mod.refl (fun _ => False) w).drewN n) (fun _ _ h => h), k2, k3.drewN n⟩

theorem pad_zero {s : ByteArray} {j : Nat} (h : j < (pad s).size) (hj : s.size ≤ j) : (pad s)[j] = 0 := by
  have : (pad s).data.toList[j]? = some ((pad s)[j]) := by
    rw [Array.getElem?_toList]; exact Array.getElem?_eq_getElem h
  rw [pad_list, List.getElem?_append_right (by rw [Array.length_toList]; exact hj), List.getElem?_replicate] at this
  split at this
  · exact (Option.some.inj this).symm
  · cases this

theorem pad_zeros (s : ByteArray) (j : Nat) (h : j < (pad s).size) (hj : s.size ≤ j) : (((pad s)[j]'h).toNat : Int) = 0 := by rw [pad_zero h hj]; rfl

theorem cutT_eq {x : ByteArray} {m : Nat} (hm : min (x.size : Int) 1024 = m) : cutT x = x.extract 0 m := by
  unfold cutT
  rw [show min x.size 1024 = m by omega]

theorem want_in {ns : List Txt} {L q : Nat} (hq : q < L) {x : ByteArray} {hx : x.size ≤ maxLen} (h : ns[q]? = some ⟨x, hx⟩) : want ns L q = cutT x := by
  unfold want
  rw [if_pos hq, h]
  rfl

theorem want_out (ns : List Txt) {L q : Nat} (hq : ¬ q < L) : want ns L q = ⟨#[]⟩ := by
  unfold want
  rw [if_neg hq]

def Rel1 (W : World) (b : Nat) (ns : List Txt) (n L : Nat) (c : Value) (wr : World) : Prop :=
  ∃ (k : Nat) (D : Dsk), k ≤ n ∧ c = .int .i64 k ∧ St W wr b D ∧ Cs ns n L k D
def Rel2 (W : World) (b : Nat) (D : Dsk) (n : Nat) (c : Value) (wr : World) : Prop :=
  ∃ (k : Nat), k ≤ n ∧ c = .int .i64 k ∧ St W wr b D

set_option maxRecDepth 100000 in
set_option maxHeartbeats 6000000 in
theorem walk (W : World) (a : Option Addr) (cap : Nat) (ns : List Txt) (hsrc : Src W 1 a ns.length (ns.flatMap fun n => [.string n.1])) (hsp : 0 < ns.length → ∀ x, a = some x → x.spot = none) (hlt : ∀ k, 0 < ns.length → blk a k → k < W.heap.size) (hr : ns.length * 16 ≤ 140737488351232) (left : Int) (hlo : -9223372036854775808 ≤ left) (hhi : left ≤ 9223372036854775807) :
    Calls Try.prog 6 #[.slice a ns.length cap, .int .i64 left] W fun e w' => e = .returned (.bool true) ∧ Below W.heap.size W w' := by
  have Hsrc := hid hsrc
  have Hlt := hid hlt
  clear hsrc hlt
  obtain ⟨n, hn, hn2, hnl⟩ : ∃ n : Nat, min (ns.length : Int) 200 = n ∧ n ≤ 200 ∧ n ≤ ns.length := ⟨min ns.length 200, by omega, by omega, by omega⟩
  have hq0 : 0 ≤ max 0 left := by omega
  obtain ⟨L, hL, hL2⟩ : ∃ L : Nat, max 0 left % ((n : Int) + 2) = L ∧ L < n + 2 := ⟨(max 0 left % ((n : Int) + 2)).toNat, by have := Int.emod_nonneg (max 0 left) (b := (n : Int) + 2) (by omega); omega, by have := Int.emod_lt_of_pos (max 0 left) (b := (n : Int) + 2) (by omega); omega⟩
  go_enter Try.func6, Try.ntmps6
  go_wp2_with (first | (go_at_call 10; refine (wakes_yes _).mono ?_; rintro e w1 ⟨rfl, hm1⟩; have M1 := hid hm1; clear hm1) | (go_at_call 11; refine (st_new (W := W) (M1.out.mono fun _ _ h => h.elim) n).mono ?_; rintro e w2 ⟨b, rfl, _, hst⟩; have S0 := hid hst; clear hst) | (go_at_call 16; refine (st_cut S0.out L).mono ?_; rintro e w3 ⟨rfl, hst⟩; have S1 := hid hst; clear hst))
  have HN := hid (And.intro hn hL)
  clear hn hL
  go_loopw [30] (fun c wr => Rel1 W b ns n L c wr) (fun c _ => n - (intOf c).toNat)
  case atStart => exact ⟨0, _, Nat.zero_le _, rfl, S1.out, cs_new ns n L hn2 hL2⟩
  case round =>
    obtain ⟨k, D, hk, rfl, hst, hcs⟩ := hrel
    by_cases hlt : k < n
    · obtain ⟨x, hx⟩ : ∃ x, ns[k]? = some x := ⟨_, List.getElem?_eq_getElem (by omega)⟩
      obtain ⟨aa, rfl⟩ : ∃ aa, a = some aa := by
        cases a with
        | none => have := Hsrc.out.2.1 rfl; omega
        | some aa => exact ⟨aa, rfl⟩
      obtain ⟨g, off, sp⟩ := aa
      have hs' := hsp (by omega) _ rfl
      simp only at hs'
      subst hs'
      have q0 : wr.cell? ⟨g, off + k, none⟩ = some (.string x.1) := hst.cell (Hsrc.out.one (f := fun n : Txt => .string n.1) hx)
      obtain ⟨hw1, hw2⟩ := hcs.step hlt hx
      have hst' : St W wr.drew b D := by
        obtain ⟨sa, k1, k2, k3⟩ := hst
        exact ⟨sa, k1.mod (Mod.refl (fun _ => False) wr).drew (fun _ _ h => h), k2, k3.drew⟩
      have HW := hid (st_write hst' (hcs.ok hn2 hL2) k (cutT x.1) (by have := cutT_small x.1; unfold maxLen; omega))
      rw [hw1] at HW
      have Hcs := hid hw2
      clear hst hcs hw1 hw2 hst'
      obtain ⟨⟨x, hx1⟩, rfl⟩ : ∃ y : Txt, y = x := ⟨_, rfl⟩
      clear hx
      simp only at q0 HW Hcs
      unfold maxLen at hx1
      obtain ⟨m, hm, hm2⟩ : ∃ m : Nat, min (x.size : Int) 1024 = m ∧ m ≤ x.size := ⟨min x.size 1024, by omega, by omega⟩
      have hct : cutT x = x.extract 0 m := by unfold cutT; congr 1; omega
      rw [hct] at HW Hcs
      clear hct
      have i1 : (k : Int) < (ns.length : Int) := by omega
      have i2 : k < ns.length := by omega
      by_cases hkL : k < L
      · rw [if_pos hkL] at HW
        have d1 : decide ((k : Int) < (L : Int)) = true := by simp; omega
        go_wp2_with fail
        go_region_with ((go_at_call 12; refine HW.out.mono ?_; rintro e w4 ⟨rfl, hst⟩; have S4 := hid hst; clear hst))
        all_goals (
          go_wp2_with fail
          go_roundw
          case rel => exact ⟨k + 1, _, by omega, by go_num, S4.out, Hcs.out⟩
          case measure => simp [intOf]; omega)
      · rw [if_neg hkL] at HW
        have d1 : decide ((k : Int) < (L : Int)) = false := by simp; omega
        go_wp2_with fail
        go_region_with ((go_at_call 12; refine HW.out.mono ?_; rintro e w4 ⟨rfl, hst⟩; have S4 := hid hst; clear hst))
        all_goals (
          go_wp2_with fail
          go_roundw
          case rel => exact ⟨k + 1, _, by omega, by go_num, S4.out, Hcs.out⟩
          case measure => simp [intOf]; omega)
    · obtain rfl : k = n := by omega
      have hoff := hcs.off
      have hwr := hcs.wr
      have Hst := hid hst
      have hk0 : decide (k < k) = false := by simp
      have e1 : (!D.off) = decide ((k : Int) ≤ (L : Int)) := by rw [hoff, Bool.eq_iff_iff]; simp
      have e2 : D.writes = min (L : Int) (k : Int) := by rw [hwr]; omega
      have HE := hid (And.intro e1 e2)
      have Hcs := hid hcs
      clear hst hcs hoff hwr e1 e2
      have f1 : (decide ((k : Int) ≤ (L : Int)) != decide ((k : Int) ≤ (L : Int))) = false := by simp
      have f2 : (min (L : Int) (k : Int) != min (L : Int) (k : Int)) = false := by simp
      go_wp2_with (first | (go_at_call 17; refine (st_on Hst.out).mono ?_; rintro e w' ⟨rfl, rfl⟩; rw [HE.out.1]) | (go_at_call 14; refine (st_writes Hst.out).mono ?_; rintro e w' ⟨rfl, rfl⟩; rw [HE.out.2]) | (go_at_call 18; refine (st_start Hst.out).mono ?_; rintro e w5 ⟨rfl, hst⟩; have S5 := hid hst; clear hst))
      have hup : Up { D with off := false, left := 0 } k := ⟨rfl, rfl, by show 0 ≤ D.writes; rw [Hcs.out.wr]; omega, by show D.writes ≤ _; rw [Hcs.out.wr]; omega, Hcs.out.h0, by show D.high ≤ (D.secs.length : Int); rw [Hcs.out.len]; exact Hcs.out.h1⟩
      have Hup := hid hup
      have Hlen : Hid (({ D with off := false, left := 0 } : Dsk).secs.length = k) := Hcs.out.len
      have Hall : Hid (∀ i : Nat, i < k → full ((({ D with off := false, left := 0 } : Dsk).secs[i]?).getD ⟨#[]⟩) = pad (want ns L i)) := by
        intro i hi
        have := Hcs.out.all i
        rw [want_min ns L hi] at this
        exact this
      clear hup Hcs
      generalize ({ D with off := false, left := 0 } : Dsk) = D5 at *
      clear HE f1 f2 hk0
      obtain ⟨wo, hwo⟩ : ∃ wo : World, wo = w5 := ⟨_, rfl⟩
      rw [← hwo] at S5 ⊢
      clear hwo
      go_loopw [70] (fun c wr => Rel2 W b D5 k c wr) (fun c _ => k - (intOf c).toNat)
      case atStart => exact ⟨0, Nat.zero_le _, rfl, S5.out⟩
      case round =>
        obtain ⟨q, hq, rfl, hst⟩ := hrel
        by_cases hlt2 : q < k
        · obtain ⟨x, hx⟩ : ∃ x, ns[q]? = some x := ⟨_, List.getElem?_eq_getElem (by omega)⟩
          obtain ⟨aa, rfl⟩ : ∃ aa, a = some aa := by
            cases a with
            | none => have := Hsrc.out.2.1 rfl; omega
            | some aa => exact ⟨aa, rfl⟩
          obtain ⟨g, off, sp⟩ := aa
          have hs' := hsp (by omega) _ rfl
          simp only at hs'
          subst hs'
          have HQ : Hid (∀ w6, St W w6 b D5 → w6.cell? ⟨g, off + q, none⟩ = some (.string x.1)) := fun w6 h => h.cell (Hsrc.out.one (f := fun n : Txt => .string n.1) hx)
          have hrf := readF_up Hup.out q (by omega) (by rw [Hlen.out]; omega)
          rw [show (q : Int).toNat = q by omega, Hall.out q hlt2] at hrf
          have HR := hid (st_read hst q)
          rw [hrf] at HR
          clear hst hrf
          have i1 : (q : Int) < (ns.length : Int) := by omega
          have i2 : q < ns.length := by omega
          by_cases hqL : q < L
          · obtain ⟨x, hx1⟩ := x
            rw [want_in hqL hx] at HR
            clear hx
            have q1 := HQ.out
            clear HQ
            have HQ : Hid (∀ w6, St W w6 b D5 → w6.cell? ⟨g, off + q, none⟩ = some (.string x)) := q1
            clear q1
            unfold maxLen at hx1
            obtain ⟨m, hm, hm2⟩ : ∃ m : Nat, min (x.size : Int) 1024 = m ∧ m ≤ x.size := ⟨min x.size 1024, by omega, by omega⟩
            have hsm := cutT_small x
            rw [cutT_eq hm] at HR hsm
            have Hpt := hid (pad_take hsm)
            have p2 := pad_size hsm
            have HZ := hid (pad_zeros (x.extract 0 m))
            have d1 : decide ((q : Int) < (L : Int)) = true := by simp; omega
            generalize hP : pad (x.extract 0 m) = P at *
            have HP := hid hP
            clear hP
            go_wp2_with (go_at_call 15; refine HR.out.mono ?_; rintro e w6 ⟨rfl, hst⟩; have S6 := hid hst; have q0 := HQ.out _ hst; clear hst)
            go_quiet (fail)
            generalize x.extract 0 m = wn at *
            have p1 := Hpt.out
            have b1 : (wn.size : Int) ≤ 1024 := by omega
            clear Hpt q0
            go_wp2_with fail
            go_loop [13] (fun c => ∃ j : Nat, wn.size ≤ j ∧ j ≤ 1024 ∧ c = .int .i64 j) (fun c => 1024 - (intOf c).toNat)
            case atStart => exact ⟨_, Nat.le_refl _, hsm, rfl⟩
            case round =>
              obtain ⟨j, hj1, hj2, rfl⟩ := hrel
              by_cases hj : j < 1024
              · have c1 : decide ((j : Int) < 1024) = true := by simp; omega
                have z1 : ∀ h, ((P[j]'h).toNat : Int) = 0 := fun h => HZ.out j h hj1
                go_wp2_with fail
                go_round
                case rel => exact ⟨j + 1, by omega, by omega, by go_num⟩
                case measure => simp [intOf]; omega
              · have c1 : decide ((j : Int) < 1024) = false := by simp; omega
                go_wp2_with fail
                go_roundw
                case rel => exact ⟨q + 1, by omega, by go_num, SectorCuts.St.drewN S6.out _⟩
                case measure => simp [intOf]; omega
          · rw [want_out ns hqL] at HR
            clear hx
            have p2 : (pad ⟨#[]⟩).size = 1024 := pad_size (by decide)
            have p1 : (pad ⟨#[]⟩).extract 0 0 = ⟨#[]⟩ := pad_take (s := ⟨#[]⟩) (by decide)
            have HZ := hid (pad_zeros ⟨#[]⟩)
            have d1 : decide ((q : Int) < (L : Int)) = false := by simp; omega
            generalize pad ⟨#[]⟩ = P at *
            go_wp2_with (go_at_call 15; refine HR.out.mono ?_; rintro e w6 ⟨rfl, hst⟩; have S6 := hid hst; clear hst)
            go_loop [13] (fun c => ∃ j : Nat, 0 ≤ j ∧ j ≤ 1024 ∧ c = .int .i64 j) (fun c => 1024 - (intOf c).toNat)
            case atStart => exact ⟨_, Nat.le_refl _, by omega, rfl⟩
            case round =>
              obtain ⟨j, hj1, hj2, rfl⟩ := hrel
              by_cases hj : j < 1024
              · have c1 : decide ((j : Int) < 1024) = true := by simp; omega
                have z1 : ∀ h, ((P[j]'h).toNat : Int) = 0 := fun h => HZ.out j h hj1
                go_wp2_with fail
                go_round
                case rel => exact ⟨j + 1, by omega, by omega, by go_num⟩
                case measure => simp [intOf]; omega
              · have c1 : decide ((j : Int) < 1024) = false := by simp; omega
                go_wp2_with fail
                go_roundw
                case rel => exact ⟨q + 1, by omega, by go_num, S6.out⟩
                case measure => simp [intOf]; omega
        · have Hst6 := hid hst
          clear hst
          go_wp2
          go_ret
          exact ⟨rfl, Hst6.out.below⟩

open Go.ChangeShapes Go.WideShapes Go.ChangeAt
theorem own : ownKnob Try.prog.godebug = none := by kernel_rfl
theorem laidOut : laidOutB Try.prog = true := by kernel_rfl

set_option maxRecDepth 100000 in
theorem lifted (os : Os) (started : os.Started) (H : Type) (enc : TypeId × Value → H) :
    ReturnsInHanded {} Try.checked os 6 .any (Rows.sectorCutsSpec.pre6 enc Try.prog Try.f6 Rows.sectorCutsRow.domain false) (Rows.sectorCutsSpec.post enc Try.prog Try.f6 false true false false) := by
  refine returnsInHanded_of_change_sized (C := Try.checked) own started (by kernel_rfl) Try.func6
    (ChangeSpec.witness6 (enc := enc) (C := Try.checked) false ⟨#[], #[.slice none 0 0, .int .i64 0], []⟩ 8 (by kernel_rfl) (by kernel_rfl) (by kernel_rfl) (by kernel_rfl)) ?_
  intro W base args ds gs before hval0 hW hcnd hsz0 _
  have hsz : (DataW.weightsEach Try.prog (Try.f6.params.toList ++ Rows.sectorCutsSpec.plain.varTypes Try.prog) (ds ++ gs)).all (· ≤ reachBytes) = true := hsz0
  clear hsz0
  have hval : ∀ (j : Nat) t v, Try.f6.params[j]? = some t → args[j]? = some v → Value.okWide Try.prog W .any base t v := hval0
  have hW' := hW
  obtain ⟨p, q, hA0, hV, rfl, hfz, hnd⟩ := hW
  have hA : DataW.TrodAll enc Try.prog W 0 (fun _ => true) true Try.f6.params.toList args.toList ds p := hA0
  rw [Try.params6] at hA hval hsz
  obtain ⟨v0, vs0, d0, ds0, p0, q0, hargs, rfl, rfl, h0, r0⟩ := trodAll_cons hA
  obtain ⟨v1, vs1, d1, ds1, p1, q1, rfl, rfl, rfl, h1, r1⟩ := trodAll_cons r0
  obtain ⟨rfl, rfl, rfl⟩ := trodAll_nil r1
  obtain rfl : args = #[v0, v1] := by cases args; simp_all
  obtain ⟨rfl, rfl⟩ := trodVars_none hV
  have lt0 : ∀ x ∈ p0, x.block < W.heap.size := by obtain ⟨m, hm⟩ := h0; exact DataW.trod_lt m _ _ _ hm
  have lt1 : ∀ x ∈ p1, x.block < W.heap.size := by obtain ⟨m, hm⟩ := h1; exact DataW.trod_lt m _ _ _ hm
  have hsz' : (DataW.weightsEach Try.prog [30, 3] [d0, d1]).all (· ≤ reachBytes) = true := hsz
  obtain ⟨a0, len0, cap0, rfl⟩ := okWide_slice Try.underlying30 (hval 0 30 v0 rfl rfl)
  obtain ⟨os0, rfl, o01, o02, o03, _⟩ := open_txts h0
  have o04 := slice_reach hsz' (j := 0) rfl rfl Try.underlying30 h0
  have o05 : Try.prog.bytesOf 9 = 16 := by kernel_rfl
  rw [o05] at o04
  obtain ⟨n1, rfl, rfl, rfl, wf1⟩ := open_int Try.underlying3 (hval 1 3 v1 rfl rfl) h1
  have lh1 := wf_i64 wf1
  clear hA0 hval0
  refine (walk W a0 cap0 os0 o01 o02 o03 o04 n1 lh1.1 lh1.2).mono fun e W' ⟨he, bel⟩ => ?_
  subst he
  exact ⟨_, rfl, _, _, _, [], _, [], hW', trodAll_mk1 (shut_bool Try.underlying4 _), (trodAll_cons_mk (Below.trod laidOut (by kernel_rfl) (of_decide_eq_true (by kernel_rfl)) h0 bel lt0) (trodAll_cons_mk (Below.trod laidOut (by kernel_rfl) (of_decide_eq_true (by kernel_rfl)) h1 bel lt1) trodAll_mk0)), rfl, bel.frame _, fun h => by cases h⟩

theorem over : Rows.sectorCutsRow.holds Try.pinned (OpenSpec.ofChange Rows.sectorCutsSpec) :=
  OpenClaim.holds_of_wide 6 Try.f6 rfl rfl rfl rfl rfl rfl rfl ⟨rfl, rfl, rfl, rfl, rfl⟩ rfl rfl rfl rfl rfl (by kernel_rfl) Try.func6 (by kernel_rfl)
    (of_decide_eq_true (by kernel_rfl)) (by unfold Func.isWrapper; first | (rw [if_pos (by decide +kernel)]; kernel_rfl) | (rw [if_neg (by decide +kernel)]; exact ⟨rfl, rfl⟩))
    (fun os started H enc _ => lifted os started H enc)

theorem proved : Rows.SectorCutsSaid := over
#print axioms proved


end SectorCuts

theorem sectorCuts_holds : Rows.SectorCutsSaid := SectorCuts.proved
#print axioms sectorCuts_holds

end Go.Proofs.Ytnbcihakabchgaa
