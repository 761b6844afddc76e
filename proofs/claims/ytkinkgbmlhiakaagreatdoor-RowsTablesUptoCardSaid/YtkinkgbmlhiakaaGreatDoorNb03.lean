/- merged: DiskR DiskN Dk RdL RdB Trim JrL JrU -/
import Derived.Test.YtkinkgbmlhiakaaGreatDoorNb02
import Derived.Lib.MinMax
import Derived.Laws.OwnMore
import Derived.Test.YtkinkgbmlhiakaaGreatDoorNb01
import Derived.Deep.QuietTactic
import Derived.BigQuiet
namespace Go.Proofs.YtkinkgbmlhiakaaGreatDoor
section
open Go Go.RowKit
def qDe (D : Dsk) (i : Int) : ByteArray × Int :=
 if qBc D i ≠ 0 then (⟨#[]⟩, qBc D i) else if ((D.secs[i.toNat]?).getD ⟨#[]⟩).toList.isEmpty = true then (qBz, 0) else ((D.secs[i.toNat]?).getD ⟨#[]⟩, 0)
theorem qUx {w : World} {b : Nat} {sa : Option Addr} {D : Dsk} (h : qAr w b sa D) (i : Int) (hr : qBc D i ≠ 0) : Calls Tryz.prog 43 #[.pointer (some ⟨b, 0, none⟩), .int .i64 i] w fun e w' => e = .returned (.tuple #[.string ⟨#[]⟩, .int .i64 (qBc D i)]) /\ w = w' := by
 have HR := hid (qDo h i); generalize qBc D i = r at *; have e1 : (r != 0) = true := by simpa using hr
 clear h hr; go_enter Tryz.func43, Tryz.ntmps43
 go_wp2_with (go_at_call 83; refine HR.out.mono ?_; rintro e w' ⟨rfl, rfl⟩)
 go_ret2; exact ⟨rfl, rfl⟩
set_option maxRecDepth 100000
theorem qUy {w : World} {b : Nat} {sa : Option Addr} {D : Dsk} (h : qAr w b sa D) (i : Nat) (hi : i < D.secs.length) (hr : qBc D i = 0) (hb : D.secs[i].toList.isEmpty = true) : Calls Tryz.prog 43 #[.pointer (some ⟨b, 0, none⟩), .int .i64 i] w fun e w' => e = .returned (.tuple #[.string qBz, .int .i64 0]) /\ qAr w' b sa D /\ Mod (qBg b sa) w w' := by
 have HR := hid (qDo h i); rw [hr] at HR; obtain ⟨cap, blank, done, h1, h2, h3⟩ := h; obtain ⟨g, off, rfl⟩ := Own.some_lit h2 (by omega)
 have t0 : w.cell? ⟨b, 0, none⟩ = some (.slice (some ⟨g, off, none⟩) D.secs.length cap) := by rw [cell_of_row _ _ _ _ _ _ h1.1]; rfl
 have t1 := Own.one h2 hi; have HZ := hid (qJx (w := w) h1); have H2 := hid h2; have H3 := hid h3; have i1 : (i : Int) < (D.secs.length : Int) := by omega
 clear h1 h2 h3 hr; go_enter Tryz.func43, Tryz.ntmps43
 go_wp2_with (first | (go_at_call 83; refine HR.out.mono ?_; rintro e w' ⟨rfl, rfl⟩) | (go_at_call 84; refine HZ.out.mono ?_; rintro e w1 ⟨rfl, hd, hm⟩; have Hd := hid hd; have Hm := hid hm; clear hd hm))
 go_ret2; exact ⟨rfl, ⟨cap, qBz, true, Hd.out, H2.out.mod Hm.out (fun k hk h => H3.out (h ▸ hk)), H3.out⟩, Hm.out.mono fun k _ h => Or.inl h⟩
theorem qXs {w : World} {b : Nat} {sa : Option Addr} {D : Dsk} (h : qAr w b sa D) (i : Nat) (hi : i < D.secs.length) (hr : qBc D i = 0) (hb : D.secs[i].toList.isEmpty = false) : Calls Tryz.prog 43 #[.pointer (some ⟨b, 0, none⟩), .int .i64 i] w fun e w' => e = .returned (.tuple #[.string D.secs[i], .int .i64 0]) /\ w = w' := by
 have HR := hid (qDo h i); rw [hr] at HR; obtain ⟨cap, blank, done, h1, h2, h3⟩ := h; obtain ⟨g, off, rfl⟩ := Own.some_lit h2 (by omega)
 have t0 : w.cell? ⟨b, 0, none⟩ = some (.slice (some ⟨g, off, none⟩) D.secs.length cap) := by rw [cell_of_row _ _ _ _ _ _ h1.1]; rfl
 have t1 := Own.one h2 hi; have i1 : (i : Int) < (D.secs.length : Int) := by omega
 clear h1 h2 h3 hr; go_enter Tryz.func43, Tryz.ntmps43
 go_wp2_with (first | (go_at_call 83; refine HR.out.mono ?_; rintro e w' ⟨rfl, rfl⟩))
 go_ret2; exact ⟨rfl, rfl⟩
theorem qNh {w : World} {b : Nat} {sa : Option Addr} {D : Dsk} (h : qAr w b sa D) (i : Int) : Calls Tryz.prog 43 #[.pointer (some ⟨b, 0, none⟩), .int .i64 i] w fun e w' => e = .returned (.tuple #[.string (qDe D i).1, .int .i64 (qDe D i).2]) /\ qAr w' b sa D /\ Mod (qBg b sa) w w' := by
 unfold qDe; by_cases hr : qBc D i = 0
 ·rw [if_neg (by simp [hr])]
  obtain ⟨_, i0, i1⟩ := qKg hr; obtain ⟨j, rfl⟩ := Int.eq_ofNat_of_zero_le i0; have hj : j < D.secs.length := by omega
  have e1 : (D.secs[(j : Int).toNat]?).getD ⟨#[]⟩ = D.secs[j] := by simp [hj]
  rw [e1]; cases hb : D.secs[j].toList.isEmpty
  ·refine (qXs h j hj hr hb).mono ?_; rintro e w' ⟨rfl, rfl⟩; exact ⟨rfl, h, Mod.refl _ _⟩
  ·exact qUy h j hj hr hb
 ·rw [if_pos hr]; refine (qUx h i hr).mono ?_; rintro e w' ⟨rfl, rfl⟩; exact ⟨rfl, h, Mod.refl _ _⟩
end
section
open Go Go.RowKit
def newD (n : Int) : Dsk := { secs := List.replicate (max 0 (min n 16384)).toNat ⟨#[]⟩, writes := 0, high := 0, left := 0, off := false }
theorem jDf : (Tryz.prog.info? 9).map (fun i => (i.zero, i.size, i.bytes)) = some (some (.string ⟨#[]⟩), 1, 16) := by kernel_rfl
theorem jFt {w : World} (n : Int) : Calls Tryz.prog 8 #[.int .i64 n] w fun e w' => ∃ b sa, e = .returned (.pointer (some ⟨b, 0, none⟩)) /\ w.heap.size <= b /\ (∀ k, blk sa k -> w.heap.size <= k) /\ qAr w' b sa (newD n) /\ Mod (fun _ => False) w w' := by
 obtain ⟨i0, hi, hz0, hz1, hz2⟩ := info_parts jDf; obtain ⟨x, hx⟩ : ∃ x, max 0 (min n 16384) = x := ⟨_, rfl⟩; have b1 : 0 <= x := by omega
 have b2 : x <= 16384 := by omega
 have hmk := fun W : World => run_makeSlice (P := Tryz.prog) W 68 9 i0 (.string ⟨#[]⟩) Tryz.underlying68 hi hz0 .i64 .i64 x x b1 (Int.le_refl _) (by rw [hz1]; omega) (by rw [hz2]; omega) (by omega)
 rw [hz1] at hmk; go_enter Tryz.func8, Tryz.ntmps8
 go_wp2
 go_ret; have e1 : (max 0 (min n 16384)).toNat = x.toNat := by rw [hx]
 refine ⟨w.heap.size + 1, some ⟨w.heap.size, 0, none⟩, rfl, by omega, ?_, ⟨x.toNat, ⟨#[]⟩, false, ⟨?_, fun h => by cases h⟩, ?_, ?_⟩, (Mod.refl _ w).alloc _ |>.alloc _⟩
 ·rintro k ⟨a, ha, rfl⟩; cases ha
  exact Nat.le_refl _
 ·show ((w.heap.push _).push _)[w.heap.size + 1]? = _; rw [Array.getElem?_push, if_pos (by simp)]
  simp [newD, e1, u32]
 ·refine ⟨by simp [newD], by simp [newD, e1], ?_, .inr ⟨w.heap.size, 0, madeCells #[Value.string ⟨#[]⟩] x.toNat, rfl, ?_, ?_, ?_⟩⟩
  ·unfold maxLen; omega
  ·show ((w.heap.push _).push _)[w.heap.size]? = _; rw [Array.getElem?_push, if_neg (by simp), Array.getElem?_push, if_pos rfl]
  ·rw [size_madeCells]; omega
  ·rw [toList_madeCells_one]; simp [newD, e1]
 ·rintro ⟨a, ha, hb⟩; cases ha
  simp at hb
end
section
open Go Go.RowKit
theorem qKf (b : UInt8) : ∀ c, Lib.repeatL [b] c = List.replicate c b
 | 0 => rfl
 | c + 1 => by rw [Lib.repeatL, qKf b c]; rfl
theorem qGm : qBz.data.toList = List.replicate 1024 0 := by
 unfold qBz; rw [List.toList_toArray, qKf]
theorem qNm {s : ByteArray} (h : s.size <= 1024) : (pad s).size = 1024 := by
 unfold pad; rw [ByteArray.size_append, ByteArray.size_extract, qFf]; omega
theorem qNn (s : ByteArray) : (pad s).data.toList = s.data.toList ++ List.replicate (1024 - s.size) 0 := by
 unfold pad; rw [ByteArray.data_append, ByteArray.data_extract, Array.toList_append, Array.toList_extract, qGm, qFf, List.extract_eq_take_drop, List.drop_replicate, List.take_replicate, Nat.min_self]
theorem jCd {s : ByteArray} (h : s.size <= 1024) : (pad s).toList.isEmpty = false := by
 have hs := qNm h; rw [Lib.toList_data]; cases hl : (pad s).data.toList with
 | nil =>
  have : (pad s).data.size = 0 := by rw [<- Array.length_toList, hl]; rfl
  have e : (pad s).size = (pad s).data.size := rfl; omega
 | cons x r => rfl
def full (s : ByteArray) : ByteArray := if s.toList.isEmpty = true then qBz else s
theorem jDo {s : ByteArray} (h : s.size <= 1024) : full (pad s) = pad s := by
 unfold full; rw [if_neg (by rw [jCd h]; decide)]
theorem qSu (D : Dsk) (i : Int) : qDe D i = if qBc D i ≠ 0 then (⟨#[]⟩, qBc D i) else (full ((D.secs[i.toNat]?).getD ⟨#[]⟩), 0) := by
 unfold qDe full; split
 ·rfl
 ·split <;> rfl
theorem qFi (D : Dsk) (i : Nat) (s : ByteArray) : (D.put i s).secs.length = D.secs.length := by simp [Dsk.put]
theorem jDp : full ⟨#[]⟩ = qBz := by
 unfold full; rw [if_pos (by rw [Lib.toList_data]; rfl)]
theorem jFk (D : Dsk) (i j : Nat) (s : ByteArray) (hi : i < D.secs.length) : ((D.put i s).secs[j]?).getD ⟨#[]⟩ = if j = i then pad s else (D.secs[j]?).getD ⟨#[]⟩ := by
 simp only [Dsk.put, List.getElem?_set]; by_cases h : i = j
 ·subst h; simp [hi]
 ·rw [if_neg h, if_neg (fun e => h e.symm)]
theorem jCb (D : Dsk) (i j : Nat) (s : ByteArray) (hi : i < D.secs.length) (hs : s.size <= 1024) : full (((D.put i s).secs[j]?).getD ⟨#[]⟩) = if j = i then pad s else full ((D.secs[j]?).getD ⟨#[]⟩) := by
 rw [jFk D i j s hi]; split
 ·exact jDo hs
 ·rfl
end
section
structure RU where
 v : Nat
 n : Nat
 e : Nat
def rdU : Nat -> List UInt8 -> RU
 | _, [] => ⟨0, 0, 20⟩
 | i, b :: r => if (i = 9 /\ 1 < b.toNat) \/ (0 < i /\ b.toNat = 0) \/ 9 < i then ⟨0, 0, 21⟩ else if b.toNat < 128 then ⟨b.toNat, 1, 0⟩ else if (rdU (i + 1) r).e = 0 then ⟨b.toNat - 128 + 128 * (rdU (i + 1) r).v, (rdU (i + 1) r).n + 1, 0⟩ else ⟨0, 0, (rdU (i + 1) r).e⟩
def ahead (v i : Nat) (x : RU) : RU := if x.e = 0 then ⟨v + 128 ^ i * x.v, i + x.n, 0⟩ else ⟨0, 0, x.e⟩
theorem qQw (i : Nat) : rdU i [] = ⟨0, 0, 20⟩ := by simp [rdU]
theorem qQx {i : Nat} {b : UInt8} {r : List UInt8} (h : (i = 9 /\ 1 < b.toNat) \/ (0 < i /\ b.toNat = 0)) : rdU i (b :: r) = ⟨0, 0, 21⟩ := by
 rw [rdU, if_pos]; rcases h with h | h
 ·exact .inl h
 ·exact .inr (.inl h)
theorem qKh {i : Nat} {b : UInt8} {r : List UInt8} (h1 : ¬ (i = 9 /\ 1 < b.toNat)) (h2 : ¬ (0 < i /\ b.toNat = 0)) (h3 : i <= 9) (h4 : b.toNat < 128) : rdU i (b :: r) = ⟨b.toNat, 1, 0⟩ := by
 rw [rdU, if_neg (by rintro (h | h | h); exact h1 h; exact h2 h; omega), if_pos h4]
theorem qSv {i : Nat} {b : UInt8} {r : List UInt8} (h3 : i < 9) (h4 : ¬ b.toNat < 128) : rdU i (b :: r) = if (rdU (i + 1) r).e = 0 then ⟨b.toNat - 128 + 128 * (rdU (i + 1) r).v, (rdU (i + 1) r).n + 1, 0⟩ else ⟨0, 0, (rdU (i + 1) r).e⟩ := by
 rw [rdU, if_neg (by rintro (h | h | h) <;> omega), if_neg h4]
theorem qWf (x : RU) (h : x.e ≠ 0 -> x = ⟨0, 0, x.e⟩) : ahead 0 0 x = x := by
 unfold ahead; split
 ·next h0 => cases x; simp at h0 ⊢; exact h0.symm
 ·next h0 => exact (h h0).symm
theorem jBz : ∀ (i : Nat) (l : List UInt8), (rdU i l).e ≠ 0 -> rdU i l = ⟨0, 0, (rdU i l).e⟩
 | i, [] => by simp [rdU]
 | i, b :: r => by
  rw [rdU]; split
  ·simp
  ·split
   ·simp
   ·split <;> simp
theorem qWg {v i : Nat} {b : UInt8} {r : List UInt8} (h3 : i < 9) (h4 : ¬ b.toNat < 128) : ahead v i (rdU i (b :: r)) = ahead (v + 128 ^ i * (b.toNat - 128)) (i + 1) (rdU (i + 1) r) := by
 rw [qSv h3 h4]; unfold ahead; by_cases h : (rdU (i + 1) r).e = 0
 ·simp only [h, if_true]; rw [RU.mk.injEq]; refine ⟨?_, by omega, rfl⟩
  rw [Nat.mul_add, Nat.pow_succ, Nat.mul_assoc]; omega
 ·simp only [h, if_false]
def qEu : Nat := 2 ^ 64
theorem qOx : 0 < qEu := Nat.two_pow_pos 64
theorem qFr : ∀ (l : List UInt8) (i : Nat), (rdU i l).n <= l.length /\ ((rdU i l).e = 0 -> 1 <= (rdU i l).n) /\ ((rdU i l).e = 0 \/ (rdU i l).e = 20 \/ (rdU i l).e = 21) /\ (i <= 9 -> (rdU i l).v * 128 ^ i < qEu)
 | [], i => by
  rw [qQw]; refine ⟨Nat.le_refl _, fun h => by simp at h, .inr (.inl rfl), fun _ => ?_⟩
  rw [Nat.zero_mul]; exact Nat.two_pow_pos 64
 | b :: r, i => by
  obtain ⟨h1, h2, h3, h4⟩ := qFr r (i + 1); rw [rdU]; have hb := b.toNat_lt; split
  ·exact ⟨by simp, fun h => by simp at h, .inr (.inr rfl), fun _ => by rw [Nat.zero_mul]; exact qOx⟩
  ·next hc =>
   have hi : i <= 9 := by omega
   split
   ·next hlt =>
    refine ⟨by simp, by simp, by simp, fun _ => ?_⟩
    by_cases h9 : i = 9
    ·subst h9; have : b.toNat <= 1 := by omega
     show b.toNat * 128 ^ 9 < qEu; have : qEu = 2 * 128 ^ 9 := by decide
     rw [this]; exact Nat.mul_lt_mul_of_pos_right (by omega) (Nat.pow_pos (by omega))
    ·have : 128 ^ i <= 128 ^ 8 := Nat.pow_le_pow_right (by omega) (by omega)
     show b.toNat * 128 ^ i < qEu; have h7 : b.toNat * 128 ^ i <= 127 * 128 ^ 8 := Nat.mul_le_mul (by omega) this
     have h8 : 127 * 128 ^ 8 < qEu := by decide
     omega
   ·next hge =>
    split
    ·next he =>
     have h9 : i < 9 := by
      rcases Nat.lt_or_ge i 9 with h | h
      ·exact h
      ·have : i = 9 := by omega
       omega
     refine ⟨by simp; omega, by simp, by simp, fun _ => ?_⟩
     show (b.toNat - 128 + 128 * (rdU (i + 1) r).v) * 128 ^ i < qEu; have h5 := h4 (by omega)
     rw [Nat.pow_succ] at h5; have hp : (0 : Nat) < 128 ^ i := Nat.pow_pos (by omega)
     have h6 : (b.toNat - 128 + 128 * (rdU (i + 1) r).v) * 128 ^ i < (128 * ((rdU (i + 1) r).v + 1)) * 128 ^ i := Nat.mul_lt_mul_of_pos_right (by omega) hp
     have h7 : (rdU (i + 1) r).v * (128 ^ i * 128) + 128 ^ i * 128 <= qEu := by
      have d : 128 ^ i * 128 ∣ qEu := by
       unfold qEu; rw [<- Nat.pow_succ, show (128 : Nat) = 2 ^ 7 from rfl, <- Nat.pow_mul]
       exact Nat.pow_dvd_pow 2 (by omega)
      obtain ⟨q, hq⟩ := d; rw [hq] at h5 ⊢; rw [Nat.mul_comm] at h5; have h8 := Nat.lt_of_mul_lt_mul_left h5; rw [<- Nat.succ_mul, Nat.mul_comm]; exact Nat.mul_le_mul_left _ h8
     have h8 : (128 * ((rdU (i + 1) r).v + 1)) * 128 ^ i = (rdU (i + 1) r).v * (128 ^ i * 128) + 128 ^ i * 128 := by
      rw [Nat.mul_comm 128, Nat.mul_assoc, Nat.mul_comm 128, Nat.add_mul, Nat.one_mul]
     omega
    ·next he =>
     refine ⟨by simp, fun h => absurd h he, ?_, fun _ => by rw [Nat.zero_mul]; exact qOx⟩
     rcases h3 with h | h | h
     ·exact absurd h he
     ·exact .inr (.inl h)
     ·exact .inr (.inr h)
end
section
open Go Go.RowKit
theorem jBy (r : List UInt8) : ∀ (k n i : Nat), n <= k -> n * 128 ^ i < qEu -> (0 < i -> 0 < n) -> rdU i (uvar n ++ r) = ⟨n, (uvar n).length, 0⟩ := by
 intro k; induction k with
 | zero =>
  intro n i hk hn h0; obtain rfl : n = 0 := by omega
  have hi : i = 0 := by omega
  subst hi; rw [qCb (by omega), List.singleton_append, qKh (by omega) (by omega) (by omega) (by decide)]
  rfl
 | succ k ih =>
  intro n i hk hn h0; have hi9 : i <= 9 /\ (i = 9 -> n <= 1) /\ (128 <= n -> i < 9) := by
   have t9 : qEu = 2 * 128 ^ 9 := by decide
   rw [t9] at hn; by_cases hz : n = 0
   ·subst hz; have : i = 0 := by omega
    subst this; omega
   ·have hle : i <= 9 := by
     rcases Nat.lt_or_ge 9 i with h | h
     ·have h1 : 128 ^ 10 <= 128 ^ i := Nat.pow_le_pow_right (by omega) h
      have h2 : 1 * 128 ^ 10 <= n * 128 ^ i := Nat.mul_le_mul (by omega) h1
      have h3 : 2 * 128 ^ 9 < 1 * 128 ^ 10 := by decide
      omega
     ·exact h
    refine ⟨hle, fun h => ?_, fun h => ?_⟩
    ·subst h; have := Nat.lt_of_mul_lt_mul_right hn; omega
    ·rcases Nat.lt_or_ge i 9 with h2 | h2
     ·exact h2
     ·have : i = 9 := by omega
      subst this; have := Nat.lt_of_mul_lt_mul_right hn; omega
  by_cases hlt : n <= 127
  ·rw [qCb hlt, List.singleton_append]; have e := qEy n (by omega)
   rw [qKh (by rw [e]; rintro ⟨h1, h2⟩; have := hi9.2.1 h1; omega) (by rw [e]; rintro ⟨h1, h2⟩; have := h0 h1; omega) hi9.1 (by rw [e]; omega), e]
   rfl
  ·rw [qJm hlt, List.cons_append]; have e := qEy (n % 128 + 128) (by omega)
   have hd : n / 128 * 128 ^ (i + 1) < qEu := by
    rw [Nat.pow_succ]; refine Nat.lt_of_le_of_lt ?_ hn; rw [Nat.mul_comm (128 ^ i), <- Nat.mul_assoc]; exact Nat.mul_le_mul_right _ (Nat.div_mul_le_self n 128)
   have ihn := ih (n / 128) (i + 1) (by omega) hd (fun _ => by omega)
   rw [qSv (hi9.2.2 (by omega)) (by rw [e]; omega), ihn, e]
   simp only [if_true, List.length_cons]; rw [RU.mk.injEq]; exact ⟨by omega, rfl, rfl⟩
theorem jEo {s : ByteArray} {a n : Nat} {r : List UInt8} (h : s.data.toList.drop a = uvar n ++ r) (hn : n < qEu) : rdU 0 (s.data.toList.drop a) = ⟨n, (uvar n).length, 0⟩ := by
 rw [h]; exact jBy r n n 0 (Nat.le_refl _) (by rw [Nat.pow_zero, Nat.mul_one]; exact hn) (fun h => by omega)
theorem qIt {s : ByteArray} {a : Nat} {p r : List UInt8} (h : s.data.toList.drop a = p ++ r) : s.data.toList.drop (a + p.length) = r := by
 rw [<- List.drop_drop, h, List.drop_left]
end
section
open Go Go.RowKit
def trL (l : List UInt8) : List UInt8 := l.dropWhile (· == 0)
def trR (l : List UInt8) : List UInt8 := (l.reverse.dropWhile (· == 0)).reverse
theorem qSm {l : List UInt8} {b : UInt8} (h : b.toNat = 0) : trL (b :: l) = trL l := by
 have : b = 0 := UInt8.toNat_inj.1 h; unfold trL; rw [this, List.dropWhile_cons_of_pos (by rfl)]
theorem qSn {l : List UInt8} {b : UInt8} (h : b.toNat ≠ 0) : trL (b :: l) = b :: l := by
 unfold trL; rw [List.dropWhile_cons_of_neg]
 intro hb; exact h (by rw [beq_iff_eq.1 hb]; rfl)
theorem jBf {l : List UInt8} {b : UInt8} (h : b.toNat = 0) : trR (l ++ [b]) = trR l := by
 have : b = 0 := UInt8.toNat_inj.1 h; unfold trR; rw [this, List.reverse_append, List.reverse_singleton, List.singleton_append, List.dropWhile_cons_of_pos (by rfl)]
theorem jBg {l : List UInt8} {b : UInt8} (h : b.toNat ≠ 0) : trR (l ++ [b]) = l ++ [b] := by
 unfold trR; rw [List.reverse_append, List.reverse_singleton, List.singleton_append, List.dropWhile_cons_of_neg, List.reverse_cons, List.reverse_reverse]
 intro hb; exact h (by rw [beq_iff_eq.1 hb]; rfl)
def AllZ (l : List UInt8) : Prop := ∀ b ∈ l, b = 0
theorem jFa {l : List UInt8} : trL l = [] ↔ AllZ l := by
 induction l with
 | nil => exact ⟨fun _ b hb => (by cases hb), fun _ => rfl⟩
 | cons b r ih =>
  by_cases h : b.toNat = 0
  ·rw [qSm h, ih]; have : b = 0 := UInt8.toNat_inj.1 h; exact ⟨fun h2 x hx => by rcases List.mem_cons.1 hx with rfl | hx; exact this; exact h2 x hx, fun h2 x hx => h2 x (List.mem_cons_of_mem _ hx)⟩
  ·rw [qSn h]; exact ⟨fun h2 => (by cases h2), fun h2 => absurd (by rw [h2 b List.mem_cons_self]; rfl) h⟩
theorem jBi {l : List UInt8} : AllZ (trR l) ↔ AllZ l := by
 constructor
 ·intro h b hb; have : l.reverse = l.reverse.takeWhile (· == 0) ++ l.reverse.dropWhile (· == 0) := (List.takeWhile_append_dropWhile).symm; have hb' : b ∈ l.reverse := List.mem_reverse.2 hb; rw [this] at hb'; rcases List.mem_append.1 hb' with h1 | h1
  ·exact beq_iff_eq.1 (List.all_eq_true.1 List.all_takeWhile b h1)
  ·exact h b (List.mem_reverse.2 h1)
 ·intro h b hb; exact h b (List.mem_reverse.1 ((List.dropWhile_suffix _).subset (List.mem_reverse.1 hb)))
theorem jBd (l : List UInt8) : trL (trR l) = [] ↔ AllZ l := jFa.trans jBi
def mkB (l : List UInt8) : ByteArray := ⟨l.toArray⟩
theorem qTg {t : ByteArray} {l : List UInt8} (h : t.data.toList = l) : t = mkB l := by
 unfold mkB; rw [<- h]
theorem qXc {t : ByteArray} (h : 0 < t.size) : t.data.toList = t[0] :: (t.extract 1 t.size).data.toList := by
 have e : t.data.toList.length = t.size := rfl; rw [ByteArray.data_extract, Array.toList_extract, List.extract_eq_take_drop, List.take_of_length_le (by rw [List.length_drop]; omega)]
 have := List.drop_eq_getElem_cons (l := t.data.toList) (i := 0) (by omega)
 rw [List.drop_zero] at this; exact this
theorem qYr {t : ByteArray} (h : 0 < t.size) : t.data.toList = (t.extract 0 (t.size - 1)).data.toList ++ [t[t.size - 1]] := by
 have e : t.data.toList.length = t.size := rfl; rw [ByteArray.data_extract, Array.toList_extract, List.extract_eq_take_drop, List.drop_zero, Nat.sub_zero]; have := List.take_succ_eq_append_getElem (l := t.data.toList) (i := t.size - 1) (by omega)
 rw [show t.size - 1 + 1 = t.size by omega, List.take_of_length_le (by omega)] at this
 exact this
set_option maxRecDepth 100000
theorem qOy (s : ByteArray) (w : World) (_hs : s.size <= maxLen) : Calls Tryz.prog 47 #[.string s, .int .u8 0] w fun e w' => e = .returned (.string (mkB (trL s.data.toList))) /\ w = w' := by
 go_enter Tryz.func47, Tryz.ntmps47
 go_wp2
 go_loop [0] (fun c => ∃ t : ByteArray, t.size <= s.size /\ c = .string t /\ trL t.data.toList = trL s.data.toList) (fun c => match c with | .string t => t.size | _ => 0)
 case atStart => exact ⟨s, Nat.le_refl _, rfl, rfl⟩
 case round =>
  obtain ⟨t, hle, rfl, hq⟩ := hrel; have HQ := hid hq; clear hq; by_cases h0 : 0 < t.size
  ·have hl := qXc h0; have HL := hid hl; clear hl; by_cases hz : t[0].toNat = 0
   ·have z : ((t[0].toNat : Int) == 0) = true := by rw [beq_iff_eq]; omega
    have HN : Hid (trL (t.extract 1 t.size).data.toList = trL s.data.toList) := hid (by rw [<- HQ.out, HL.out, qSm hz])
    clear hz; go_wp2_with fail
    go_round
    case rel => exact ⟨_, by rw [ByteArray.size_extract]; omega, rfl, HN.out⟩
    case measure => simp; omega
   ·have z : ((t[0].toNat : Int) == 0) = false := by rw [beq_eq_false_iff_ne]; omega
    have HA : Hid (t = mkB (trL s.data.toList)) := hid (qTg (by rw [<- HQ.out, HL.out, qSn hz]))
    clear hz; go_wp2_with fail
    go_ret; exact ⟨congrArg (fun x => Ending.returned (.string x)) HA.out, rfl⟩
  ·have HA : Hid (t = mkB (trL s.data.toList)) := hid (qTg (by rw [<- HQ.out, Array.toList_eq_nil_iff.2 (Array.eq_empty_of_size_eq_zero (by have : t.data.size = t.size := rfl; omega))]; rfl))
   go_wp2_with fail
   go_ret; exact ⟨congrArg (fun x => Ending.returned (.string x)) HA.out, rfl⟩
theorem qNb (s : ByteArray) (w : World) (hs : s.size <= maxLen) : Calls Tryz.prog 48 #[.string s, .int .u8 0] w fun e w' => e = .returned (.string (mkB (trR s.data.toList))) /\ w = w' := by
 unfold maxLen at hs; go_enter Tryz.func48, Tryz.ntmps48
 go_wp2
 go_loop [0] (fun c => ∃ t : ByteArray, t.size <= s.size /\ c = .string t /\ trR t.data.toList = trR s.data.toList) (fun c => match c with | .string t => t.size | _ => 0)
 case atStart => exact ⟨s, Nat.le_refl _, rfl, rfl⟩
 case round =>
  obtain ⟨t, hle, rfl, hq⟩ := hrel; have HQ := hid hq; clear hq; by_cases h0 : 0 < t.size
  ·have hl := qYr h0; have HL := hid hl; clear hl; have i1 : (0 : Int) <= (t.size : Int) - 1 := by omega
   have i2 : (1 : Int) <= (t.size : Int) := by omega
   by_cases hz : t[t.size - 1].toNat = 0
   ·have z : ((t[t.size - 1].toNat : Int) == 0) = true := by rw [beq_iff_eq]; omega
    have HN : Hid (trR (t.extract 0 (t.size - 1)).data.toList = trR s.data.toList) := hid (by rw [<- HQ.out, HL.out, jBf hz])
    clear hz; go_wp2_with fail
    go_round
    case rel => exact ⟨_, by rw [ByteArray.size_extract]; omega, rfl, HN.out⟩
    case measure => simp; omega
   ·have z : ((t[t.size - 1].toNat : Int) == 0) = false := by rw [beq_eq_false_iff_ne]; omega
    have HA : Hid (t = mkB (trR s.data.toList)) := hid (qTg (by rw [<- HQ.out, HL.out, jBg hz]))
    clear hz; go_wp2_with fail
    go_ret; exact ⟨congrArg (fun x => Ending.returned (.string x)) HA.out, rfl⟩
  ·have HA : Hid (t = mkB (trR s.data.toList)) := hid (qTg (by rw [<- HQ.out, Array.toList_eq_nil_iff.2 (Array.eq_empty_of_size_eq_zero (by have : t.data.size = t.size := rfl; omega))]; rfl))
   go_wp2_with fail
   go_ret; exact ⟨congrArg (fun x => Ending.returned (.string x)) HA.out, rfl⟩
def qLk (s : ByteArray) : ByteArray := if s.data.toList = [] then s else mkB (trL (trR s.data.toList))
theorem qOz (s : ByteArray) : (qLk s).data.toList = [] ↔ AllZ s.data.toList := by
 unfold qLk; split
 ·next h => rw [h]; exact ⟨fun _ b hb => (by cases hb), fun _ => rfl⟩
 ·exact jBd _
theorem jBh (l : List UInt8) : (trR l).length <= l.length := by
 unfold trR; rw [List.length_reverse]; have := (List.dropWhile_suffix (l := l.reverse) (· == (0 : UInt8))).length_le; rw [List.length_reverse] at this; exact this
theorem qSl (s : ByteArray) (w : World) (hs : s.size <= maxLen) : Calls Tryz.prog 25 #[.string s, .string ⟨#[0]⟩] w fun e w' => e = .returned (.string (qLk s)) /\ ∃ n, w' = w.drewN n := by
 by_cases h0 : s.data.toList = []
 ·have e1 : qLk s = s := by unfold qLk; rw [if_pos h0]
  have e2 : s.toList.isEmpty = true := by rw [ByteArray.toList_eq, h0]; rfl
  rw [e1]; clear e1 h0; go_enter Tryz.func25, Tryz.ntmps25
  go_wp2_with fail
  go_ret; exact ⟨rfl, 0, rfl⟩
 ·have HE : Hid (qLk s = mkB (trL (trR s.data.toList))) := hid (by unfold qLk; rw [if_neg h0])
  have e2 : s.toList.isEmpty = false := by rw [ByteArray.toList_eq]; cases h : s.data.toList with | nil => exact absurd h h0 | cons _ _ => rfl
  have z0 : ∀ h, ((⟨#[0]⟩ : ByteArray)[0]'h).toNat = 0 := fun _ => rfl
  have hm : (mkB (trR s.data.toList)).size <= maxLen := Nat.le_trans (show (trR s.data.toList).toArray.size <= s.size from by rw [List.size_toArray]; exact jBh s.data.toList) hs
  have HR := hid (fun w => qNb s w hs)
  have HL := hid (fun w => qOy (mkB (trR s.data.toList)) w hm)
  have e3 : (mkB (trR s.data.toList)).data.toList = trR s.data.toList := by unfold mkB; simp
  rw [e3] at HL; clear h0 hm e3; go_enter Tryz.func25, Tryz.ntmps25
  go_wp2_with fail
  go_quiet ((first | (go_at_call 48; exact Calls.quiet_of_same ((HR.out _).mono fun _ _ h => ⟨h.1, h.2.symm⟩)) | (go_at_call 47; exact Calls.quiet_of_same ((HL.out _).mono fun _ _ h => ⟨h.1, h.2.symm⟩))))
  go_wp2_with fail
  go_ret; exact ⟨congrArg (fun x => Ending.returned (.string x)) HE.out.symm, _, rfl⟩
end
section
open Go Go.RowKit
structure Chg where
 pos : Int
 data : ByteArray
def hdL (l : List Nat) : List UInt8 := uvar l.length ++ l.flatMap uvar
open Classical in
noncomputable def qHp (len : Nat) (s : ByteArray) : Nat -> Nat -> List Nat -> Option (List Nat)
 | 0, a, out => if AllZ (s.data.toList.drop a) then some out else none
 | c + 1, a, out => if (rdU 0 (s.data.toList.drop a)).e = 0 /\ (rdU 0 (s.data.toList.drop a)).v < len /\ (rdU 0 (s.data.toList.drop a)).v ∉ out then qHp len s c (a + (rdU 0 (s.data.toList.drop a)).n) (out ++ [(rdU 0 (s.data.toList.drop a)).v]) else none
noncomputable def numF (room len : Nat) (s : ByteArray) : Option (List Nat) :=
 if (rdU 0 s.data.toList).e = 0 /\ (rdU 0 s.data.toList).v <= room then qHp len s (rdU 0 s.data.toList).v (rdU 0 s.data.toList).n [] else none
theorem qMd {len : Nat} {s : ByteArray} {a : Nat} {out : List Nat} (h : AllZ (s.data.toList.drop a)) : qHp len s 0 a out = some out := by unfold qHp; rw [if_pos h]
theorem qYi {len : Nat} {s : ByteArray} {a : Nat} {out : List Nat} (h : ¬ AllZ (s.data.toList.drop a)) : qHp len s 0 a out = none := by unfold qHp; rw [if_neg h]
theorem qVf {len : Nat} {s : ByteArray} {c a : Nat} {out : List Nat} (h1 : (rdU 0 (s.data.toList.drop a)).e = 0) (h2 : (rdU 0 (s.data.toList.drop a)).v < len) (h3 : (rdU 0 (s.data.toList.drop a)).v ∉ out) :
  qHp len s (c + 1) a out = qHp len s c (a + (rdU 0 (s.data.toList.drop a)).n) (out ++ [(rdU 0 (s.data.toList.drop a)).v]) := by
 rw [qHp, if_pos ⟨h1, h2, h3⟩]
theorem qYj {len : Nat} {s : ByteArray} {c a : Nat} {out : List Nat} (h : ¬ ((rdU 0 (s.data.toList.drop a)).e = 0 /\ (rdU 0 (s.data.toList.drop a)).v < len /\ (rdU 0 (s.data.toList.drop a)).v ∉ out)) : qHp len s (c + 1) a out = none := by
 rw [qHp, if_neg h]
def jlen (room : Nat) (D : Dsk) : Nat := D.secs.length - room - 1
def finF (room : Nat) : Nat -> List Nat -> Dsk -> Int × Dsk
 | _, [], D => qBf D 0 (ba [0])
 | i, n :: l, D =>
  if (qDe D ((1 + i : Nat) : Int)).2 = 0 then
   (if (qBf D ((room + 1 + n : Nat) : Int) (qDe D ((1 + i : Nat) : Int)).1).1 = 0 then finF room (i + 1) l (qBf D ((room + 1 + n : Nat) : Int) (qDe D ((1 + i : Nat) : Int)).1).2
    else qBf D ((room + 1 + n : Nat) : Int) (qDe D ((1 + i : Nat) : Int)).1)
  else ((qDe D ((1 + i : Nat) : Int)).2, D)
def qBy (len : Nat) : List Nat -> List Chg -> Int
 | _, [] => 0
 | met, c :: r => if c.pos < 0 \/ (len : Int) <= c.pos then 10 else if 1024 < c.data.size then 11 else if c.pos.toNat ∈ met then 30 else qBy len (met ++ [c.pos.toNat]) r
def putF : Nat -> List Chg -> Dsk -> Int × Dsk
 | _, [], D => (0, D)
 | i, c :: r, D => if (qBf D ((1 + i : Nat) : Int) c.data).1 = 0 then putF (i + 1) r (qBf D ((1 + i : Nat) : Int) c.data).2 else qBf D ((1 + i : Nat) : Int) c.data
def places (cs : List Chg) : List Nat := cs.map fun c => c.pos.toNat
def qLq (room : Nat) (l : List Nat) (D : Dsk) : Int × Dsk :=
 if (qBf D 0 (ba (hdL l))).1 = 0 then finF room 0 l (qBf D 0 (ba (hdL l))).2 else qBf D 0 (ba (hdL l))
def qAh (room : Nat) (cs : List Chg) (D : Dsk) : Int × Dsk :=
 if room < cs.length then (31, D) else if cs = [] then (0, D) else
 if qBy (jlen room D) [] cs = 0 then (if (putF 0 cs D).1 = 0 then qLq room (places cs) (putF 0 cs D).2 else putF 0 cs D) else (qBy (jlen room D) [] cs, D)
def jFp (room : Nat) (D : Dsk) : Option (List Nat) -> Int × Dsk
 | none => (32, D)
 | some [] => (0, D)
 | some (n :: l) => finF room 0 (n :: l) D
noncomputable def qIk (room : Nat) (D : Dsk) : Int × Dsk :=
 if (qDe D 0).2 = 0 then jFp room D (numF room (jlen room D) (qDe D 0).1) else ((qDe D 0).2, D)
def qEb (room : Nat) (D : Dsk) (i : Int) : ByteArray × Int :=
 if i < 0 \/ (jlen room D : Int) <= i then (⟨#[]⟩, 10) else qDe D ((room : Int) + 1 + i)
structure Bud (D : Dsk) (k : Nat) : Prop where
 n : D.secs.length <= 16384
 w0 : 0 <= D.writes
 w1 : D.writes <= k
 h0 : 0 <= D.high
 h1 : D.high <= D.secs.length
 l0 : 0 <= D.left
 l1 : D.left <= 4611686018427387904
 s : ∀ x ∈ D.secs, x.size <= 1024
theorem jAk (n : Int) : Bud (newD n) 0 :=
 ⟨by simp [newD]; omega, Int.le_refl _, Int.le_refl _, Int.le_refl _, Int.natCast_nonneg _, Int.le_refl _, show (0 : Int) <= 4611686018427387904 by decide, fun x hx => by
  rw [(List.mem_replicate.1 hx).2]; decide⟩
theorem qCi (D : Dsk) (i : Int) (s : ByteArray) : (qBf D i s).2.secs.length = D.secs.length := by
 unfold qBf; split
 ·rfl
 ·split
  ·rfl
  ·split
   ·rfl
   ·exact qFi _ _ _
theorem jIk : qBz.size = 1024 := qFf
theorem qOd (room : Nat) : ∀ (l : List Nat) (i : Nat) (D : Dsk), (finF room i l D).2.secs.length = D.secs.length
 | [], i, D => qCi _ _ _
 | n :: l, i, D => by
  rw [finF]; split
  ·split
   ·rw [qOd room l]; exact qCi _ _ _
   ·exact qCi _ _ _
  ·rfl
theorem qHm : ∀ (cs : List Chg) (i : Nat) (D : Dsk), (putF i cs D).2.secs.length = D.secs.length
 | [], i, D => rfl
 | c :: r, i, D => by
  rw [putF]; split
  ·rw [qHm r]; exact qCi _ _ _
  ·exact qCi _ _ _
theorem qZf (room : Nat) (l : List Nat) (D : Dsk) : (qLq room l D).2.secs.length = D.secs.length := by
 unfold qLq; split
 ·rw [qOd]; exact qCi _ _ _
 ·exact qCi _ _ _
theorem qDh (cs : List Chg) : (places cs).length = cs.length := by simp [places]
theorem qHb (room : Nat) (cs : List Chg) (D : Dsk) : (qAh room cs D).2.secs.length = D.secs.length := by
 unfold qAh; split
 ·rfl
 ·split
  ·rfl
  ·split
   ·split
    ·rw [qZf, qHm]
    ·exact qHm _ _ _
   ·rfl
end
section
open Go Go.RowKit
def sec (D : Dsk) (i : Nat) : ByteArray := full ((D.secs[i]?).getD ⟨#[]⟩)
structure Lit (D : Dsk) (k : Nat) : Prop where
 b : Bud D k
 off : D.off = false
 left : D.left = 0
theorem qYp (n : Int) : Lit (newD n) 0 := ⟨jAk n, rfl, rfl⟩
theorem qFg (D : Dsk) (i j : Nat) (s : ByteArray) (hi : i < D.secs.length) (hs : s.size <= 1024) : sec (D.put i s) j = if j = i then pad s else sec D j := jCb D i j s hi hs
theorem qGg (D : Dsk) (i : Nat) (s : ByteArray) : (D.put i s).writes = D.writes + 1 := rfl
theorem jFm {s : ByteArray} (h : s.size <= 1024) : pad (pad s) = pad s := by
 apply qLe; rw [qNn (pad s), qNm h]; simp
theorem qZj {s : ByteArray} (h : s.size <= 1024) : (full s).size <= 1024 := by
 unfold full; split
 ·exact Nat.le_of_eq jIk
 ·exact h
theorem jBu {D : Dsk} {k : Nat} (h : Bud D k) (i : Nat) : (sec D i).size <= 1024 := by
 unfold sec; apply qZj; cases hx : D.secs[i]? with
 | none => exact Nat.zero_le _
 | some x => exact h.s x (List.mem_of_getElem? hx)
theorem qHo : (ba [0]).size <= 1024 := by rw [qAd]; decide
theorem qRp (room : Nat) : ∀ (l : List Nat) (i k : Nat) (D : Dsk), Lit D k -> 0 < D.secs.length -> (∀ n ∈ l, room + 1 + n < D.secs.length) -> i + l.length <= room -> l.Nodup →
  (finF room i l D).1 = 0 /\ Lit (finF room i l D).2 (k + l.length + 1) /\ (finF room i l D).2.writes = D.writes + (l.length : Int) + 1 /\ sec (finF room i l D).2 0 = pad (ba [0]) ∧
   (∀ (m n : Nat), l[m]? = some n -> sec (finF room i l D).2 (room + 1 + n) = pad (sec D (1 + i + m))) /\ (∀ q, q ∉ l -> sec (finF room i l D).2 (room + 1 + q) = sec D (room + 1 + q))
 | [], i, k, D => fun h h0 _ _ _ => by
  have e : finF room i [] D = (0, D.put 0 (ba [0])) := by rw [finF]; exact h.write 0 h0 qHo
  rw [e]; refine ⟨rfl, h.put 0 h0 qHo, by rw [qGg]; simp, by rw [qFg _ _ _ _ h0 qHo, if_pos rfl], (fun m n hm => by simp at hm), fun q _ => by rw [qFg _ _ _ _ h0 qHo, if_neg (by omega)]⟩
 | n :: l, i, k, D => fun h h0 hp hr hn => by
  have hi : 1 + i < D.secs.length := by
   have := hp n List.mem_cons_self; simp only [List.length_cons] at hr; omega
  have hr1 := h.read (1 + i) hi; have hs := jBu h.b (1 + i); have hn1 := hp n List.mem_cons_self; have hw := h.write (room + 1 + n) hn1 hs; have e : finF room i (n :: l) D = finF room (i + 1) l (D.put (room + 1 + n) (sec D (1 + i))) := by
   rw [finF, hr1]; simp only [if_true]; rw [hw]; simp only [if_true]
  simp only [List.length_cons] at hr; obtain ⟨f1, f2, f3, f4, f5, f6⟩ := qRp room l (i + 1) (k + 1) (D.put (room + 1 + n) (sec D (1 + i))) (h.put _ hn1 hs) (by rw [qFi]; exact h0) (fun x hx => by rw [qFi]; exact hp x (List.mem_cons_of_mem _ hx)) (by omega) (List.nodup_cons.1 hn).2
  rw [e]; refine ⟨f1, f2.le (by simp only [List.length_cons]; omega), by rw [f3, qGg]; simp only [List.length_cons]; omega, f4, fun m x hm => ?_, fun q hq => ?_⟩
  ·cases m with
   | zero =>
    simp only [List.getElem?_cons_zero, Option.some.injEq] at hm; subst hm; rw [f6 n (List.nodup_cons.1 hn).1, qFg _ _ _ _ hn1 hs, if_pos rfl, Nat.add_zero]
   | succ m =>
    simp only [List.getElem?_cons_succ] at hm; have hm2 := (List.getElem?_eq_some_iff.1 hm).1; rw [f5 m x hm, qFg _ _ _ _ hn1 hs, if_neg (by omega), show 1 + (i + 1) + m = 1 + i + (m + 1) by omega]
  ·rw [f6 q (fun h => hq (List.mem_cons_of_mem _ h)), qFg _ _ _ _ hn1 hs, if_neg (by intro hh; exact hq (by rw [show q = n by omega]; exact List.mem_cons_self))]
theorem qQy : ∀ (cs : List Chg) (i k : Nat) (D : Dsk), Lit D k -> i + cs.length < D.secs.length -> (∀ c ∈ cs, c.data.size <= 1024) →
  (putF i cs D).1 = 0 /\ Lit (putF i cs D).2 (k + cs.length) /\ (putF i cs D).2.writes = D.writes + (cs.length : Int) ∧
   (∀ (m : Nat) (c : Chg), cs[m]? = some c -> sec (putF i cs D).2 (1 + i + m) = pad c.data) /\ (∀ j, j <= i \/ i + cs.length < j -> sec (putF i cs D).2 j = sec D j)
 | [], i, k, D => fun h _ _ => ⟨rfl, h, by simp [putF], (fun m c hm => by simp at hm), fun j _ => rfl⟩
 | c :: r, i, k, D => fun h hl hs => by
  simp only [List.length_cons] at hl; have hsc := hs c List.mem_cons_self; have hw := h.write (1 + i) (by omega) hsc
  have e : putF i (c :: r) D = putF (i + 1) r (D.put (1 + i) c.data) := by
   rw [putF, hw]; simp only [if_true]
  obtain ⟨f1, f2, f3, f4, f5⟩ := qQy r (i + 1) (k + 1) (D.put (1 + i) c.data) (h.put _ (by omega) hsc) (by rw [qFi]; omega) (fun x hx => hs x (List.mem_cons_of_mem _ hx))
  rw [e]; refine ⟨f1, f2.le (by simp only [List.length_cons]; omega), by rw [f3, qGg]; simp only [List.length_cons]; omega, fun m x hm => ?_, fun j hj => ?_⟩
  ·cases m with
   | zero =>
    simp only [List.getElem?_cons_zero, Option.some.injEq] at hm; subst hm; rw [f5 _ (.inl (by omega)), qFg _ _ _ _ (by omega) hsc, if_pos (by omega)]
   | succ m =>
    simp only [List.getElem?_cons_succ] at hm; rw [show 1 + i + (m + 1) = 1 + (i + 1) + m by omega, f4 m x hm]
  ·simp only [List.length_cons] at hj; rw [f5 j (by omega), qFg _ _ _ _ (by omega) hsc, if_neg (by omega)]
theorem qGk {len : Nat} : ∀ (cs : List Chg) (met : List Nat), qBy len met cs = 0 -> (∀ c ∈ cs, 0 <= c.pos /\ c.pos.toNat < len /\ c.data.size <= 1024) /\ (places cs).Nodup /\ (∀ c ∈ cs, c.pos.toNat ∉ met)
 | [], met => fun _ => ⟨(fun c h => by cases h), List.nodup_nil, (fun c h => by cases h)⟩
 | c :: r, met => fun h => by
  rw [qBy] at h; split at h
  ·cases h
  ·split at h
   ·cases h
   ·split at h
    ·cases h
    ·rename_i h1 h2 h3
     obtain ⟨i1, i2, i3⟩ := qGk r _ h; refine ⟨fun x hx => ?_, ?_, fun x hx => ?_⟩
     ·rcases List.mem_cons.1 hx with rfl | hx
      ·omega
      ·exact i1 x hx
     ·show (c.pos.toNat :: places r).Nodup; refine List.nodup_cons.2 ⟨fun hm => ?_, i2⟩
      obtain ⟨y, hy, e⟩ := List.mem_map.1 hm; exact i3 y hy (by rw [e]; simp)
     ·rcases List.mem_cons.1 hx with rfl | hx
      ·exact h3
      ·exact fun hm => i3 x hx (List.mem_append.2 (.inl hm))
theorem qQe {len : Nat} : ∀ (cs : List Chg) (met : List Nat), qBy len met cs = 0 \/ qBy len met cs = 10 \/ qBy len met cs = 11 \/ qBy len met cs = 30
 | [], met => .inl rfl
 | c :: r, met => by
  rw [qBy]; split
  ·exact .inr (.inl rfl)
  ·split
   ·exact .inr (.inr (.inl rfl))
   ·split
    ·exact .inr (.inr (.inr rfl))
    ·exact qQe r _
theorem qOt {k : Nat} (h : k < 16384) : (uvar k).length <= 2 := qJl 1 k (by omega)
theorem qPu : ∀ (l : List Nat), (∀ n ∈ l, n < 16384) -> (l.flatMap uvar).length <= 2 * l.length
 | [], _ => by simp
 | n :: l, h => by
  have h1 := qOt (h n List.mem_cons_self); have h2 := qPu l (fun x hx => h x (List.mem_cons_of_mem _ hx))
  rw [List.flatMap_cons, List.length_append, List.length_cons]; omega
theorem qPs {l : List Nat} (h : ∀ n ∈ l, n < 16384) (hl : l.length <= 500) : (ba (hdL l)).size <= 1024 := by
 have h1 := qOt (k := l.length) (by omega)
 have h2 := qPu l h; rw [qAd]; unfold hdL; rw [List.length_append]; omega
structure Took (room : Nat) (cs : List Chg) (D D' : Dsk) (k : Nat) : Prop where
 lit : Lit D' (k + 2 * cs.length + 2)
 writes : D'.writes = D.writes + 2 * (cs.length : Int) + 2
 len : D'.secs.length = D.secs.length
 head : sec D' 0 = pad (ba [0])
 new : ∀ c ∈ cs, sec D' (room + 1 + c.pos.toNat) = pad c.data
 old : ∀ q, q ∉ places cs -> sec D' (room + 1 + q) = sec D (room + 1 + q)
theorem qVt {D : Dsk} {k room : Nat} (h : Lit D k) (hr : room <= 500) (cs : List Chg) :
  ((qAh room cs D).1 ≠ 0 /\ (qAh room cs D).2 = D /\ ((qAh room cs D).1 = 31 \/ (qAh room cs D).1 = 10 \/ (qAh room cs D).1 = 11 \/ (qAh room cs D).1 = 30)) ∨
  ((qAh room cs D).1 = 0 /\ ((cs = [] /\ (qAh room cs D).2 = D) \/ (cs ≠ [] /\ qBy (jlen room D) [] cs = 0 /\ cs.length <= room /\ Took room cs D (qAh room cs D).2 k))) := by
 by_cases h1 : room < cs.length
 ·left
  have e : qAh room cs D = (31, D) := by unfold qAh; rw [if_pos h1]
  rw [e]; exact ⟨by simp, rfl, .inl rfl⟩
 ·by_cases h2 : cs = []
  ·right
   have e : qAh room cs D = (0, D) := by unfold qAh; rw [if_neg h1, if_pos h2]
   rw [e]; exact ⟨rfl, .inl ⟨h2, rfl⟩⟩
  ·by_cases h3 : qBy (jlen room D) [] cs = 0
   ·right
    obtain ⟨c1, c2, _⟩ := qGk cs [] h3; obtain ⟨c, hc⟩ := List.exists_mem_of_ne_nil cs h2; have hj := (c1 c hc).2.1; unfold jlen at hj c1; obtain ⟨p1, p2, p3, p4, p5⟩ := qQy cs 0 k D h (by omega) (fun c hc => (c1 c hc).2.2)
    have hlen : (putF 0 cs D).2.secs.length = D.secs.length := qHm _ _ _; have hplen : ∀ n ∈ places cs, n < D.secs.length - room - 1 := fun n hn => by
     obtain ⟨y, hy, rfl⟩ := List.mem_map.1 hn; exact (c1 y hy).2.1
    have hN := h.b.n; have hsz : (ba (hdL (places cs))).size <= 1024 := qPs (fun n hn => by have := hplen n hn; omega) (by rw [qDh]; omega)
    have hw : qBf (putF 0 cs D).2 0 (ba (hdL (places cs))) = (0, (putF 0 cs D).2.put 0 (ba (hdL (places cs)))) := p2.write 0 (by rw [hlen]; omega) hsz
    have h0 : 0 < (putF 0 cs D).2.secs.length := by rw [hlen]; omega
    have e : qAh room cs D = finF room 0 (places cs) ((putF 0 cs D).2.put 0 (ba (hdL (places cs)))) := by
     unfold qAh; rw [if_neg h1, if_neg h2, if_pos h3, if_pos p1]; unfold qLq; rw [hw]; simp only [if_true]
    obtain ⟨f1, f2, f3, f4, f5, f6⟩ := qRp room (places cs) 0 (k + cs.length + 1) ((putF 0 cs D).2.put 0 (ba (hdL (places cs)))) (p2.put 0 h0 hsz) (by rw [qFi]; exact h0) (fun n hn => by rw [qFi, hlen]; have := hplen n hn; omega) (by rw [qDh]; omega) c2
    rw [e]; refine ⟨f1, .inr ⟨h2, h3, by omega, ⟨f2.le (by rw [qDh]; omega), by rw [f3, qGg, p3, qDh]; omega, by rw [qOd, qFi, hlen], f4, fun c hc => ?_, fun q hq => ?_⟩⟩⟩
    ·obtain ⟨m, hm⟩ := List.mem_iff_getElem?.1 hc; have hm1 := (List.getElem?_eq_some_iff.1 hm).1; rw [f5 m c.pos.toNat (by unfold places; rw [List.getElem?_map, hm]; rfl), qFg _ _ _ _ h0 hsz, if_neg (by omega), p4 m c hm, jFm (c1 c hc).2.2]
    ·rw [f6 q hq, qFg _ _ _ _ h0 hsz, if_neg (by omega), p5 _ (by omega)]
   ·left
    have e : qAh room cs D = (qBy (jlen room D) [] cs, D) := by unfold qAh; rw [if_neg h1, if_neg h2, if_neg h3]
    rw [e]; refine ⟨h3, rfl, .inr ?_⟩; rcases qQe (len := jlen room D) cs [] with h | h
    ·exact absurd h h3
    ·exact h
theorem jAb {D : Dsk} {k room : Nat} (h : Lit D k) (hr : room <= 500) (cs : List Chg) (h1 : cs.length <= room) (h2 : cs ≠ []) (h3 : qBy (jlen room D) [] cs = 0) :
  (qAh room cs D).1 = 0 /\ Took room cs D (qAh room cs D).2 k := by
 rcases qVt h hr cs with ⟨a, _, _⟩ | ⟨a, ⟨rfl, _⟩ | ⟨_, _, _, c⟩⟩
 ·exfalso
  have e : qAh room cs D = (if (putF 0 cs D).1 = 0 then qLq room (places cs) (putF 0 cs D).2 else putF 0 cs D) := by unfold qAh; rw [if_neg (by omega), if_neg h2, if_pos h3]
  obtain ⟨c1, c2, _⟩ := qGk cs [] h3; obtain ⟨x, hx⟩ := List.exists_mem_of_ne_nil cs h2; have hj := (c1 x hx).2.1; unfold jlen at hj c1; obtain ⟨p1, p2, p3, p4, p5⟩ := qQy cs 0 k D h (by omega) (fun c hc => (c1 c hc).2.2)
  have hlen : (putF 0 cs D).2.secs.length = D.secs.length := qHm _ _ _; have hplen : ∀ n ∈ places cs, n < D.secs.length - room - 1 := fun n hn => by
   obtain ⟨y, hy, rfl⟩ := List.mem_map.1 hn; exact (c1 y hy).2.1
  have hN := h.b.n; have hsz : (ba (hdL (places cs))).size <= 1024 := qPs (fun n hn => by have := hplen n hn; omega) (by rw [qDh]; omega)
  have hw : qBf (putF 0 cs D).2 0 (ba (hdL (places cs))) = (0, (putF 0 cs D).2.put 0 (ba (hdL (places cs)))) := p2.write 0 (by rw [hlen]; omega) hsz
  have h0 : 0 < (putF 0 cs D).2.secs.length := by rw [hlen]; omega
  obtain ⟨f1, _⟩ := qRp room (places cs) 0 (k + cs.length + 1) ((putF 0 cs D).2.put 0 (ba (hdL (places cs)))) (p2.put 0 h0 hsz) (by rw [qFi]; exact h0) (fun n hn => by rw [qFi, hlen]; have := hplen n hn; omega) (by rw [qDh]; omega) c2
  rw [if_pos p1] at e; have e2 : qLq room (places cs) (putF 0 cs D).2 = finF room 0 (places cs) ((putF 0 cs D).2.put 0 (ba (hdL (places cs)))) := by
   unfold qLq; rw [hw]; simp only [if_true]
  rw [e, e2] at a; exact a f1
 ·exact absurd rfl h2
 ·exact ⟨a, c⟩
theorem qPl {room len : Nat} {s : ByteArray} {r : List UInt8} (h : s.data.toList = 0 :: r) (hr : AllZ r) : numF room len s = some [] := by
 have e : rdU 0 s.data.toList = ⟨0, 1, 0⟩ := by rw [h, qKh (by omega) (by omega) (by omega) (by decide)]; rfl
 unfold numF; rw [e, if_pos ⟨rfl, Nat.zero_le _⟩]; exact qMd (by rw [h]; exact hr)
theorem qId (n : Nat) : AllZ (List.replicate n (0 : UInt8)) := fun _ hb => (List.mem_replicate.1 hb).2
theorem jFr {room len : Nat} : numF room len (pad (ba [0])) = some [] := by
 refine qPl (r := List.replicate 1023 0) ?_ (qId _); rw [qNn, qCs, qAd]; rfl
theorem num_Z {room len : Nat} : numF room len qBz = some [] := by
 refine qPl (r := List.replicate 1023 0) ?_ (qId _); rw [qGm]; rfl
def jHf (D : Dsk) : Prop := sec D 0 = qBz \/ sec D 0 = pad (ba [0])
theorem jCm {D : Dsk} {k room : Nat} (h : Lit D k) (h0 : 0 < D.secs.length) (hc : jHf D) : qIk room D = (0, D) := by
 unfold qIk; have hr : qDe D 0 = (sec D 0, 0) := h.read 0 h0; rw [hr]; simp only [if_true]; rcases hc with hc | hc
 ·rw [hc, num_Z]; rfl
 ·rw [hc, jFr]; rfl
theorem qQs (n : Int) (i : Nat) : sec (newD n) i = qBz := by
 unfold sec newD; simp only; rw [List.getElem?_replicate]; split <;> exact jDp
theorem jAc (n : Int) : jHf (newD n) := .inl (qQs n 0)
end
end Go.Proofs.YtkinkgbmlhiakaaGreatDoor
