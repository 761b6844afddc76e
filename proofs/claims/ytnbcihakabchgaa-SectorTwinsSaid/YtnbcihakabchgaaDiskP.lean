/- Plain laws of the disk: what is written is read -/
import Derived.Test.YtnbcihakabchgaaDiskS
namespace Go.Proofs.Ytnbcihakabchgaa
open Go Go.RowKit

/-- The power is on, no cut is set, and there were at most k writes; the disk is small. -/
structure Up (D : Dsk) (k : Nat) : Prop where
  off : D.off = false
  left : D.left = 0
  w0 : 0 ≤ D.writes
  w1 : D.writes ≤ k
  h0 : 0 ≤ D.high
  h1 : D.high ≤ D.secs.length

theorem up_new (n : Int) : Up (newD n) 0 := ⟨rfl, rfl, Int.le_refl _, Int.le_refl _, Int.le_refl _, Int.natCast_nonneg _⟩

theorem Up.more {D : Dsk} {k : Nat} (h : Up D k) : Up D (k + 1) := ⟨h.off, h.left, h.w0, by have := h.w1; omega, h.h0, h.h1⟩

theorem Up.ok {D : Dsk} {k : Nat} (h : Up D k) (hn : D.secs.length ≤ 4611686018427387904) (hk : k ≤ 4611686018427387904) : D.Ok :=
  ⟨hn, h.w0, by have := h.w1; omega, h.h0, by have := h.h1; omega, by rw [h.left]; decide, by rw [h.left]; decide⟩

theorem Up.put {D : Dsk} {k : Nat} (h : Up D k) (i : Nat) (hi : i < D.secs.length) (s : ByteArray) : Up (D.put i s) (k + 1) := by
  have := h.w0
  have := h.w1
  have := h.h0
  have := h.h1
  refine ⟨h.off, by simp [Dsk.put, h.left], by simp only [Dsk.put]; omega, by simp only [Dsk.put]; omega, ?_, ?_⟩
  · simp only [Dsk.put]; split <;> omega
  · simp only [Dsk.put, List.length_set]; split <;> omega

theorem put_len (D : Dsk) (i : Nat) (s : ByteArray) : (D.put i s).secs.length = D.secs.length := by simp [Dsk.put]

theorem readF_up {D : Dsk} {k : Nat} (h : Up D k) (i : Int) (h0 : 0 ≤ i) (h1 : i < D.secs.length) : readF D i = (full ((D.secs[i.toNat]?).getD ⟨#[]⟩), 0) := by
  have : readyF D i = 0 := by unfold readyF; rw [h.off]; simp; omega
  rw [readF_eq, if_neg (by simp [this])]

theorem pad_nil : pad ⟨#[]⟩ = Z1024 := by
  apply ba_ext
  rw [pad_list, Z1024_data]
  rfl

theorem full_nil : full ⟨#[]⟩ = Z1024 := by
  unfold full
  rw [if_pos (by rw [Lib.toList_data]; rfl)]

theorem pad_take {s : ByteArray} (_h : s.size ≤ 1024) : (pad s).extract 0 s.size = s := by
  apply ba_ext
  have e : s.size = s.data.toList.length := by rw [Array.length_toList]; rfl
  rw [ByteArray.data_extract, Array.toList_extract, pad_list, List.extract_eq_take_drop, List.drop_zero, Nat.sub_zero, e, List.take_left]

theorem put_get (D : Dsk) (i j : Nat) (s : ByteArray) (hi : i < D.secs.length) : ((D.put i s).secs[j]?).getD ⟨#[]⟩ = if j = i then pad s else (D.secs[j]?).getD ⟨#[]⟩ := by
  simp only [Dsk.put, List.getElem?_set]
  by_cases h : i = j
  · subst h; simp [hi]
  · rw [if_neg h, if_neg (fun e => h e.symm)]

theorem put_full (D : Dsk) (i j : Nat) (s : ByteArray) (hi : i < D.secs.length) (hs : s.size ≤ 1024) : full (((D.put i s).secs[j]?).getD ⟨#[]⟩) = if j = i then pad s else full ((D.secs[j]?).getD ⟨#[]⟩) := by
  rw [put_get D i j s hi]
  split
  · exact full_pad hs
  · rfl

end Go.Proofs.Ytnbcihakabchgaa
