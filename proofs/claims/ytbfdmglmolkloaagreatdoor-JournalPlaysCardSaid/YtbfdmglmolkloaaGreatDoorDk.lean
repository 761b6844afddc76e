/- Plain laws of a disk, beside packed numbers -/
import Derived.Test.YtbfdmglmolkloaaGreatDoorDiskN
import Derived.Test.YtbfdmglmolkloaaGreatDoorPack
namespace Go.Proofs.YtbfdmglmolkloaaGreatDoor
open Go Go.RowKit

theorem repeatL_one (b : UInt8) : ∀ c, Lib.repeatL [b] c = List.replicate c b
  | 0 => rfl
  | c + 1 => by rw [Lib.repeatL, repeatL_one b c]; rfl

theorem Z1024_data : Z1024.data.toList = List.replicate 1024 0 := by
  unfold Z1024
  rw [List.toList_toArray, repeatL_one]

theorem pad_size {s : ByteArray} (h : s.size ≤ 1024) : (pad s).size = 1024 := by
  unfold pad
  rw [ByteArray.size_append, ByteArray.size_extract, Z1024_size]
  omega

theorem newD_ok (n : Int) : (newD n).Ok := by
  constructor <;> simp [newD] <;> omega

theorem put_ok {D : Dsk} (ok : D.Ok) (i : Nat) (hi : i < 4611686018427387904) (hw : D.writes < 4611686018427387904) (s : ByteArray) : (D.put i s).Ok := by
  have := ok.l0
  have := ok.l1
  have := ok.h0
  have := ok.h1
  have := ok.w0
  constructor <;> simp only [Dsk.put]
  · simpa using ok.n
  · omega
  · omega
  · split <;> omega
  · split <;> omega
  · split <;> omega
  · split <;> omega

theorem pad_list (s : ByteArray) : (pad s).data.toList = s.data.toList ++ List.replicate (1024 - s.size) 0 := by
  unfold pad
  rw [ByteArray.data_append, ByteArray.data_extract, Array.toList_append, Array.toList_extract, Z1024_data, Z1024_size, List.extract_eq_take_drop, List.drop_replicate, List.take_replicate, Nat.min_self]

theorem pad_full {s : ByteArray} (h : s.size ≤ 1024) : (pad s).toList.isEmpty = false := by
  have hs := pad_size h
  rw [Lib.toList_data]
  cases hl : (pad s).data.toList with
  | nil =>
    have : (pad s).data.size = 0 := by rw [← Array.length_toList, hl]; rfl
    have e : (pad s).size = (pad s).data.size := rfl
    omega
  | cons x r => rfl

/-- What stands in a sector. -/
def full (s : ByteArray) : ByteArray := if s.toList.isEmpty = true then Z1024 else s

theorem full_pad {s : ByteArray} (h : s.size ≤ 1024) : full (pad s) = pad s := by
  unfold full
  rw [if_neg (by rw [pad_full h]; decide)]

theorem readF_eq (D : Dsk) (i : Int) : readF D i = if readyF D i ≠ 0 then (⟨#[]⟩, readyF D i) else (full ((D.secs[i.toNat]?).getD ⟨#[]⟩), 0) := by
  unfold readF full
  split
  · rfl
  · split <;> rfl

/-- A write with the power on and no cut set. -/
theorem writeF_up {D : Dsk} (ho : D.off = false) (hl : D.left = 0) (i : Int) (s : ByteArray) : writeF D i s = if i < 0 ∨ D.secs.length ≤ i then (10, D) else if 1024 < s.size then (11, D) else (0, D.put i.toNat s) := by
  unfold writeF readyF
  rw [ho, hl]
  simp only [Bool.false_eq_true, if_false]
  split <;> simp

/-- The power is on, no cut is set, and there were at most k writes; the disk is small. -/
structure Up (D : Dsk) (k : Nat) : Prop where
  off : D.off = false
  left : D.left = 0
  w0 : 0 ≤ D.writes
  w1 : D.writes ≤ k
  h0 : 0 ≤ D.high
  h1 : D.high ≤ D.secs.length

theorem up_new (n : Int) : Up (newD n) 0 := ⟨rfl, rfl, Int.le_refl _, Int.le_refl _, Int.le_refl _, Int.natCast_nonneg _⟩

theorem Up.more {D : Dsk} {k : Nat} (h : Up D k) : Up D (k + 1) := ⟨h.off, h.left, h.w0, by have := h.w1; omega, h.h0, h.h1⟩

theorem Up.ok {D : Dsk} {k : Nat} (h : Up D k) (hn : D.secs.length ≤ 4611686018427387904) (hk : k ≤ 4611686018427387904) : D.Ok :=
  ⟨hn, h.w0, by have := h.w1; omega, h.h0, by have := h.h1; omega, by rw [h.left]; decide, by rw [h.left]; decide⟩

theorem Up.put {D : Dsk} {k : Nat} (h : Up D k) (i : Nat) (hi : i < D.secs.length) (s : ByteArray) : Up (D.put i s) (k + 1) := by
  have := h.w0
  have := h.w1
  have := h.h0
  have := h.h1
  refine ⟨h.off, by simp [Dsk.put, h.left], by simp only [Dsk.put]; omega, by simp only [Dsk.put]; omega, ?_, ?_⟩
  · simp only [Dsk.put]; split <;> omega
  · simp only [Dsk.put, List.length_set]; split <;> omega

theorem put_len (D : Dsk) (i : Nat) (s : ByteArray) : (D.put i s).secs.length = D.secs.length := by simp [Dsk.put]

theorem readF_up {D : Dsk} {k : Nat} (h : Up D k) (i : Int) (h0 : 0 ≤ i) (h1 : i < D.secs.length) : readF D i = (full ((D.secs[i.toNat]?).getD ⟨#[]⟩), 0) := by
  have : readyF D i = 0 := by unfold readyF; rw [h.off]; simp; omega
  rw [readF_eq, if_neg (by simp [this])]

theorem pad_nil : pad ⟨#[]⟩ = Z1024 := by
  apply ba_ext
  rw [pad_list, Z1024_data]
  rfl

theorem full_nil : full ⟨#[]⟩ = Z1024 := by
  unfold full
  rw [if_pos (by rw [Lib.toList_data]; rfl)]

theorem pad_take {s : ByteArray} (_h : s.size ≤ 1024) : (pad s).extract 0 s.size = s := by
  apply ba_ext
  have e : s.size = s.data.toList.length := by rw [Array.length_toList]; rfl
  rw [ByteArray.data_extract, Array.toList_extract, pad_list, List.extract_eq_take_drop, List.drop_zero, Nat.sub_zero, e, List.take_left]

theorem put_get (D : Dsk) (i j : Nat) (s : ByteArray) (hi : i < D.secs.length) : ((D.put i s).secs[j]?).getD ⟨#[]⟩ = if j = i then pad s else (D.secs[j]?).getD ⟨#[]⟩ := by
  simp only [Dsk.put, List.getElem?_set]
  by_cases h : i = j
  · subst h; simp [hi]
  · rw [if_neg h, if_neg (fun e => h e.symm)]

theorem put_full (D : Dsk) (i j : Nat) (s : ByteArray) (hi : i < D.secs.length) (hs : s.size ≤ 1024) : full (((D.put i s).secs[j]?).getD ⟨#[]⟩) = if j = i then pad s else full ((D.secs[j]?).getD ⟨#[]⟩) := by
  rw [put_get D i j s hi]
  split
  · exact full_pad hs
  · rfl

end Go.Proofs.YtbfdmglmolkloaaGreatDoor
