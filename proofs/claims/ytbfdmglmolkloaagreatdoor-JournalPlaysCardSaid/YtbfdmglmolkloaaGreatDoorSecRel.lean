/- The program's disk and the document's stand alike, and go on alike -/
import Derived.Test.YtbfdmglmolkloaaGreatDoorRef2
import Derived.Deep.RegionHeld3
namespace Go.Proofs.YtbfdmglmolkloaaGreatDoor
open Go Go.RowKit

/-- The writes that are left, of both, behind t calls. -/
def LeftRel (dl : Int) (set : Bool) (rl : Int) (t : Nat) : Prop :=
  (set = false ∧ dl = 0) ∨ (set = true ∧ (dl = rl + 1 ∨ (1152921504606846977 - (t : Int) ≤ dl ∧ dl ≤ 1152921504606846977 ∧ 1152921504606846976 - (t : Int) ≤ rl)))

structure Alike (D : Dsk) (R : Rsk) (t : Nat) : Prop where
  len : D.secs.length = R.secs.length
  small : D.secs.length ≤ 16384
  all : ∀ i : Nat, full ((D.secs[i]?).getD ⟨#[]⟩) = pad ((R.secs[i]?).getD ⟨#[]⟩)
  sm : ∀ i : Nat, ((R.secs[i]?).getD ⟨#[]⟩).size ≤ 1024
  wr : D.writes = R.done
  w0 : 0 ≤ R.done
  w1 : R.done ≤ t
  hi : D.high = R.high + 1
  h0 : 0 ≤ D.high
  h1 : D.high ≤ D.secs.length
  off : D.off = R.off
  left : LeftRel D.left R.set R.left t
  l0 : 0 ≤ R.left
  l1 : R.left ≤ 9223372036854775807

theorem LeftRel.more {dl rl : Int} {set : Bool} {t : Nat} (h : LeftRel dl set rl t) : LeftRel dl set rl (t + 1) := by
  rcases h with h | ⟨h, h' | h'⟩
  · exact .inl h
  · exact .inr ⟨h, .inl h'⟩
  · exact .inr ⟨h, .inr (by omega)⟩

theorem LeftRel.bounds {dl rl : Int} {set : Bool} {t : Nat} (h : LeftRel dl set rl t) (ht : t < 576460752303423488) (h0 : 0 ≤ rl) (h1 : rl ≤ 9223372036854775807) (_hd : dl ≤ 4611686018427387904 ∨ True) : 0 ≤ dl := by
  rcases h with ⟨_, h⟩ | ⟨_, h | h⟩ <;> omega

theorem alike_new (n : Int) : Alike (newD n) (rnewD n) 0 := by
  refine ⟨by simp [newD, rnewD], by simp [newD]; omega, fun i => ?_, fun i => ?_, rfl, Int.le_refl _, Int.le_refl _, rfl, Int.le_refl _, Int.natCast_nonneg _, rfl, .inl ⟨rfl, rfl⟩, Int.le_refl _, by show (0 : Int) ≤ _; decide⟩
  · have e1 : ((newD n).secs[i]?).getD ⟨#[]⟩ = ⟨#[]⟩ := by simp only [newD, List.getElem?_replicate]; split <;> rfl
    have e2 : ((rnewD n).secs[i]?).getD ⟨#[]⟩ = ⟨#[]⟩ := by simp only [rnewD, List.getElem?_replicate]; split <;> rfl
    rw [e1, e2, full_nil, pad_nil]
  · have e2 : ((rnewD n).secs[i]?).getD ⟨#[]⟩ = ⟨#[]⟩ := by simp only [rnewD, List.getElem?_replicate]; split <;> rfl
    rw [e2]; decide

/-- The program's numbers lie within their bounds too: of a cut at most 2^60 + 1 is kept. -/
structure Bnd (D : Dsk) : Prop where
  l1 : D.left ≤ 4611686018427387904

theorem Alike.ok {D : Dsk} {R : Rsk} {t : Nat} (h : Alike D R t) (hb : Bnd D) (ht : t < 576460752303423488) : D.Ok :=
  ⟨by have := h.small; omega, by rw [h.wr]; exact h.w0, by have := h.w1; have := h.wr; omega, h.h0, by have := h.h1; have := h.small; omega, h.left.bounds ht h.l0 h.l1 (.inr trivial), hb.l1⟩

theorem Alike.more {D : Dsk} {R : Rsk} {t : Nat} (h : Alike D R t) : Alike D R (t + 1) :=
  ⟨h.len, h.small, h.all, h.sm, h.wr, h.w0, by have := h.w1; omega, h.hi, h.h0, h.h1, h.off, h.left.more, h.l0, h.l1⟩

theorem Alike.ready {D : Dsk} {R : Rsk} {t : Nat} (h : Alike D R t) (i : Int) : readyF D i = if R.off = true then 12 else if i < 0 ∨ R.secs.length ≤ i then 10 else 0 := by
  unfold readyF
  rw [h.off, h.len]

theorem Alike.write {D : Dsk} {R : Rsk} {t : Nat} (h : Alike D R t) (hb : Bnd D) (ht : t < 576460752303423488) (i : Int) (s : ByteArray) :
    (writeF D i s).1 = (rwriteF R i s).1 ∧ Alike (writeF D i s).2 (rwriteF R i s).2 (t + 1) ∧ Bnd (writeF D i s).2 := by
  unfold writeF rwriteF
  rw [h.ready]
  cases ho : R.off with
  | true => simp only [if_true]; rw [if_pos (show (12 : Int) ≠ 0 by decide)]; exact ⟨rfl, h.more, hb⟩
  | false =>
    simp only [Bool.false_eq_true, if_false]
    by_cases hi : i < 0 ∨ R.secs.length ≤ i
    · simp only [if_pos hi]; rw [if_pos (show (10 : Int) ≠ 0 by decide)]; exact ⟨rfl, h.more, hb⟩
    · simp only [if_neg hi]; rw [if_neg (show ¬ (0 : Int) ≠ 0 by decide)]
      by_cases hs : 1024 < s.size
      · rw [if_pos hs, if_pos hs]; exact ⟨rfl, h.more, hb⟩
      · rw [if_neg hs, if_neg hs]
        have hl0 := h.l0
        have hl1 := h.l1
        have hlen := h.len
        have key : (D.left = 1 ↔ (R.set = true ∧ R.left = 0)) := by
          rcases h.left with ⟨h1, h2⟩ | ⟨h1, h2 | h2⟩
          · rw [h1, h2]; simp
          · rw [h1, h2]; simp; omega
          · rw [h1]; simp; omega
        by_cases hc : D.left = 1
        · rw [if_pos hc, if_pos (key.1 hc)]
          exact ⟨rfl, ⟨h.len, h.small, h.all, h.sm, h.wr, h.w0, by have := h.w1; show R.done ≤ _; omega, h.hi, h.h0, h.h1, rfl, h.left.more, h.l0, h.l1⟩, ⟨hb.l1⟩⟩
        · rw [if_neg hc, if_neg (fun hx => hc (key.2 hx))]
          refine ⟨rfl, ?_, ?_⟩
          · have hw0 := h.w0
            have hw1 := h.w1
            have hhi := h.hi
            have hh0 := h.h0
            have hh1 := h.h1
            refine ⟨by rw [put_len]; simp [rput, h.len], by rw [put_len]; exact h.small, fun j => ?_, fun j => ?_, ?_, ?_, ?_, ?_, ?_, ?_, ?_, ?_, ?_, ?_⟩
            · rw [put_full D i.toNat j s (by omega) (by omega)]
              simp only [rput, List.getElem?_set]
              by_cases hj : i.toNat = j
              · rw [if_pos hj.symm, if_pos hj, if_pos (by omega)]
                exact (pad_bare (by omega)).symm
              · rw [if_neg (fun e => hj e.symm), if_neg hj]
                exact h.all j
            · simp only [rput, List.getElem?_set]
              by_cases hj : i.toNat = j
              · rw [if_pos hj, if_pos (by omega)]
                exact bareB_small (by omega)
              · rw [if_neg hj]
                exact h.sm j
            · simp only [Dsk.put, rput, h.wr]
            · simp only [rput]; omega
            · simp only [rput]; omega
            · simp only [Dsk.put, rput]; split <;> split <;> omega
            · simp only [Dsk.put]; split <;> omega
            · simp only [Dsk.put, List.length_set]; split <;> omega
            · exact h.off
            · show LeftRel (if D.left = 0 then 0 else D.left - 1) R.set (if R.set = true then R.left - 1 else R.left) (t + 1)
              rcases h.left with ⟨h1, h2⟩ | ⟨h1, h2 | h2⟩
              · rw [h1, h2]; exact .inl ⟨rfl, rfl⟩
              · rw [h1, if_pos rfl]
                rw [if_neg (by omega)]
                exact .inr ⟨rfl, .inl (by omega)⟩
              · rw [h1, if_pos rfl]
                rw [if_neg (by omega)]
                exact .inr ⟨rfl, .inr (by omega)⟩
            · show 0 ≤ (if R.set = true then R.left - 1 else R.left)
              rcases h.left with ⟨h1, h2⟩ | ⟨h1, h2 | h2⟩
              · rw [h1]; exact hl0
              · rw [h1, if_pos rfl]
                by_cases hz : R.left = 0
                · exact absurd (key.2 ⟨h1, hz⟩) hc
                · omega
              · rw [h1, if_pos rfl]; omega
            · show (if R.set = true then R.left - 1 else R.left) ≤ _
              split <;> omega
          · constructor
            have := hb.l1
            simp only [Dsk.put]; split <;> omega

theorem Alike.read {D : Dsk} {R : Rsk} {t : Nat} (h : Alike D R t) (i : Int) : readF D i = rreadF R i := by
  rw [readF_eq]
  unfold rreadF
  rw [h.ready]
  cases ho : R.off with
  | true => simp only [if_true]; rw [if_pos (show (12 : Int) ≠ 0 by decide)]
  | false =>
    simp only [Bool.false_eq_true, if_false]
    by_cases hi : i < 0 ∨ R.secs.length ≤ i
    · simp only [if_pos hi]; rw [if_pos (show (10 : Int) ≠ 0 by decide)]
    · simp only [if_neg hi]; rw [if_neg (show ¬ (0 : Int) ≠ 0 by decide), h.all]

theorem Alike.cut {D : Dsk} {R : Rsk} {t : Nat} (h : Alike D R t) (n : Int) (hn : n ≤ 9223372036854775807) : Alike (D.cut n) { R with set := true, left := max 0 n } (t + 1) ∧ Bnd (D.cut n) := by
  refine ⟨⟨h.len, h.small, h.all, h.sm, h.wr, h.w0, by have := h.w1; show R.done ≤ _; omega, h.hi, h.h0, h.h1, h.off, ?_, ?_, ?_⟩, ⟨?_⟩⟩
  · refine .inr ⟨rfl, ?_⟩
    show max 0 (min n 1152921504606846976) + 1 = max 0 n + 1 ∨ _
    by_cases hb : n ≤ 1152921504606846976
    · left; omega
    · right
      show 1152921504606846977 - ((t + 1 : Nat) : Int) ≤ max 0 (min n 1152921504606846976) + 1 ∧ max 0 (min n 1152921504606846976) + 1 ≤ 1152921504606846977 ∧ 1152921504606846976 - ((t + 1 : Nat) : Int) ≤ max 0 n
      omega
  · show 0 ≤ max 0 n; omega
  · show max 0 n ≤ _; omega
  · show max 0 (min n 1152921504606846976) + 1 ≤ _; omega

theorem Alike.start {D : Dsk} {R : Rsk} {t : Nat} (h : Alike D R t) : Alike { D with off := false, left := 0 } { R with off := false, set := false } (t + 1) ∧ Bnd { D with off := false, left := 0 } :=
  ⟨⟨h.len, h.small, h.all, h.sm, h.wr, h.w0, by have := h.w1; show R.done ≤ _; omega, h.hi, h.h0, h.h1, rfl, .inl ⟨rfl, rfl⟩, h.l0, h.l1⟩, ⟨by show (0 : Int) ≤ _; decide⟩⟩

/-- Both disks, in memory of their own. -/
structure Pair (w : World) (b : Nat) (sa : Option Addr) (D : Dsk) (r : Nat) (ra : Option Addr) (R : Rsk) (t : Nat) : Prop where
  d : DiskAt w b sa D
  rf : RefAt w r ra R
  ne : ∀ k, diskF b sa k → ¬ diskF r ra k
  al : Alike D R t
  bn : Bnd D

def pairF (b : Nat) (sa : Option Addr) (r : Nat) (ra : Option Addr) (k : Nat) : Prop := diskF b sa k ∨ diskF r ra k

theorem Pair.mod {S : Nat → Prop} {w w' : World} {b : Nat} {sa : Option Addr} {D : Dsk} {r : Nat} {ra : Option Addr} {R : Rsk} {t : Nat} (h : Pair w b sa D r ra R t) (hm : Mod S w w') (hs : ∀ k, pairF b sa r ra k → ¬ S k) : Pair w' b sa D r ra R t :=
  ⟨h.d.mod hm (fun k hk => hs k (.inl hk)), h.rf.mod hm (fun k hk => hs k (.inr hk)), h.ne, h.al, h.bn⟩

theorem Pair.lt {w : World} {b : Nat} {sa : Option Addr} {D : Dsk} {r : Nat} {ra : Option Addr} {R : Rsk} {t : Nat} (h : Pair w b sa D r ra R t) : ∀ k, pairF b sa r ra k → k < w.heap.size := by
  rintro k (hk | hk)
  · exact h.d.lt k hk
  · exact h.rf.lt k hk

theorem Pair.more {w : World} {b : Nat} {sa : Option Addr} {D : Dsk} {r : Nat} {ra : Option Addr} {R : Rsk} {t : Nat} (h : Pair w b sa D r ra R t) : Pair w b sa D r ra R (t + 1) := ⟨h.d, h.rf, h.ne, h.al.more, h.bn⟩

end Go.Proofs.YtbfdmglmolkloaaGreatDoor
