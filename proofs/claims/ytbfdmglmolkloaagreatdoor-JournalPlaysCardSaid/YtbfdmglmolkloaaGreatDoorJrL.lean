/- Journals, plain -/
import Derived.Test.YtbfdmglmolkloaaGreatDoorDk
import Derived.Test.YtbfdmglmolkloaaGreatDoorRdB
import Derived.Test.YtbfdmglmolkloaaGreatDoorTrim
namespace Go.Proofs.YtbfdmglmolkloaaGreatDoor
open Go Go.RowKit

/-- A sector with its new bytes. -/
structure Chg where
  pos : Int
  data : ByteArray

/-- The bytes of a head. -/
def hdL (l : List Nat) : List UInt8 := uvar l.length ++ l.flatMap uvar

open Classical in
/-- The numbers that a head names, from a place on. -/
noncomputable def numsL (len : Nat) (s : ByteArray) : Nat → Nat → List Nat → Option (List Nat)
  | 0, a, out => if AllZ (s.data.toList.drop a) then some out else none
  | c + 1, a, out => if (rdU 0 (s.data.toList.drop a)).e = 0 ∧ (rdU 0 (s.data.toList.drop a)).v < len ∧ (rdU 0 (s.data.toList.drop a)).v ∉ out then numsL len s c (a + (rdU 0 (s.data.toList.drop a)).n) (out ++ [(rdU 0 (s.data.toList.drop a)).v]) else none

noncomputable def numF (room len : Nat) (s : ByteArray) : Option (List Nat) :=
  if (rdU 0 s.data.toList).e = 0 ∧ (rdU 0 s.data.toList).v ≤ room then numsL len s (rdU 0 s.data.toList).v (rdU 0 s.data.toList).n [] else none

theorem numsL_zero {len : Nat} {s : ByteArray} {a : Nat} {out : List Nat} (h : AllZ (s.data.toList.drop a)) : numsL len s 0 a out = some out := by unfold numsL; rw [if_pos h]
theorem numsL_end {len : Nat} {s : ByteArray} {a : Nat} {out : List Nat} (h : ¬ AllZ (s.data.toList.drop a)) : numsL len s 0 a out = none := by unfold numsL; rw [if_neg h]
theorem numsL_succ {len : Nat} {s : ByteArray} {c a : Nat} {out : List Nat} (h1 : (rdU 0 (s.data.toList.drop a)).e = 0) (h2 : (rdU 0 (s.data.toList.drop a)).v < len) (h3 : (rdU 0 (s.data.toList.drop a)).v ∉ out) :
    numsL len s (c + 1) a out = numsL len s c (a + (rdU 0 (s.data.toList.drop a)).n) (out ++ [(rdU 0 (s.data.toList.drop a)).v]) := by
  rw [numsL, if_pos ⟨h1, h2, h3⟩]
theorem numsL_bad {len : Nat} {s : ByteArray} {c a : Nat} {out : List Nat} (h : ¬ ((rdU 0 (s.data.toList.drop a)).e = 0 ∧ (rdU 0 (s.data.toList.drop a)).v < len ∧ (rdU 0 (s.data.toList.drop a)).v ∉ out)) : numsL len s (c + 1) a out = none := by
  rw [numsL, if_neg h]

/-- How many sectors there are beside the journal's own. -/
def jlen (room : Nat) (D : Dsk) : Nat := D.secs.length - room - 1

/-- The copies are brought to their sectors. -/
def finF (room : Nat) : Nat → List Nat → Dsk → Int × Dsk
  | _, [], D => writeF D 0 (ba [0])
  | i, n :: l, D =>
    if (readF D ((1 + i : Nat) : Int)).2 = 0 then
      (if (writeF D ((room + 1 + n : Nat) : Int) (readF D ((1 + i : Nat) : Int)).1).1 = 0 then finF room (i + 1) l (writeF D ((room + 1 + n : Nat) : Int) (readF D ((1 + i : Nat) : Int)).1).2
       else writeF D ((room + 1 + n : Nat) : Int) (readF D ((1 + i : Nat) : Int)).1)
    else ((readF D ((1 + i : Nat) : Int)).2, D)

/-- Are these changes taken? -/
def checkL (len : Nat) : List Nat → List Chg → Int
  | _, [] => 0
  | met, c :: r => if c.pos < 0 ∨ (len : Int) ≤ c.pos then 10 else if 1024 < c.data.size then 11 else if c.pos.toNat ∈ met then 30 else checkL len (met ++ [c.pos.toNat]) r

/-- The copies are written. -/
def putF : Nat → List Chg → Dsk → Int × Dsk
  | _, [], D => (0, D)
  | i, c :: r, D => if (writeF D ((1 + i : Nat) : Int) c.data).1 = 0 then putF (i + 1) r (writeF D ((1 + i : Nat) : Int) c.data).2 else writeF D ((1 + i : Nat) : Int) c.data

def places (cs : List Chg) : List Nat := cs.map fun c => c.pos.toNat

def headF (room : Nat) (l : List Nat) (D : Dsk) : Int × Dsk :=
  if (writeF D 0 (ba (hdL l))).1 = 0 then finF room 0 l (writeF D 0 (ba (hdL l))).2 else writeF D 0 (ba (hdL l))

def commitF (room : Nat) (cs : List Chg) (D : Dsk) : Int × Dsk :=
  if room < cs.length then (31, D) else if cs = [] then (0, D) else
  if checkL (jlen room D) [] cs = 0 then (if (putF 0 cs D).1 = 0 then headF room (places cs) (putF 0 cs D).2 else putF 0 cs D) else (checkL (jlen room D) [] cs, D)

def openL (room : Nat) (D : Dsk) : Option (List Nat) → Int × Dsk
  | none => (32, D)
  | some [] => (0, D)
  | some (n :: l) => finF room 0 (n :: l) D

noncomputable def openF (room : Nat) (D : Dsk) : Int × Dsk :=
  if (readF D 0).2 = 0 then openL room D (numF room (jlen room D) (readF D 0).1) else ((readF D 0).2, D)

def readJ (room : Nat) (D : Dsk) (i : Int) : ByteArray × Int :=
  if i < 0 ∨ (jlen room D : Int) ≤ i then (⟨#[]⟩, 10) else readF D ((room : Int) + 1 + i)

/-- A disk of at most 16384 sectors, each of at most 1024 bytes, to which at most k writes were done. -/
structure Bud (D : Dsk) (k : Nat) : Prop where
  n : D.secs.length ≤ 16384
  w0 : 0 ≤ D.writes
  w1 : D.writes ≤ k
  h0 : 0 ≤ D.high
  h1 : D.high ≤ D.secs.length
  l0 : 0 ≤ D.left
  l1 : D.left ≤ 4611686018427387904
  s : ∀ x ∈ D.secs, x.size ≤ 1024

theorem Bud.ok {D : Dsk} {k : Nat} (h : Bud D k) (hk : k ≤ 4611686018427387904) : D.Ok :=
  ⟨by have := h.n; omega, h.w0, by have := h.w1; omega, h.h0, by have := h.h1; have := h.n; omega, h.l0, h.l1⟩

theorem Bud.le {D : Dsk} {k m : Nat} (h : Bud D k) (hm : k ≤ m) : Bud D m := ⟨h.n, h.w0, by have := h.w1; omega, h.h0, h.h1, h.l0, h.l1, h.s⟩

theorem bud_new (n : Int) : Bud (newD n) 0 :=
  ⟨by simp [newD]; omega, Int.le_refl _, Int.le_refl _, Int.le_refl _, Int.natCast_nonneg _, Int.le_refl _, show (0 : Int) ≤ 4611686018427387904 by decide, fun x hx => by
    rw [(List.mem_replicate.1 hx).2]; decide⟩

theorem Bud.put {D : Dsk} {k : Nat} (h : Bud D k) (i : Nat) (hi : i < D.secs.length) {s : ByteArray} (hs : s.size ≤ 1024) : Bud (D.put i s) (k + 1) := by
  have h0 := h.w0
  have h1 := h.w1
  have h2 := h.h0
  have h3 := h.h1
  have h4 := h.l0
  have h5 := h.l1
  refine ⟨by rw [put_len]; exact h.n, by simp only [Dsk.put]; omega, by simp only [Dsk.put]; omega, ?_, ?_, ?_, ?_, ?_⟩
  · simp only [Dsk.put]; split <;> omega
  · rw [put_len]; simp only [Dsk.put]; split <;> omega
  · simp only [Dsk.put]; split <;> omega
  · simp only [Dsk.put]; split <;> omega
  · intro x hx
    rcases List.mem_or_eq_of_mem_set hx with hx | rfl
    · exact h.s x hx
    · exact Nat.le_of_eq (pad_size hs)

theorem writeF_len (D : Dsk) (i : Int) (s : ByteArray) : (writeF D i s).2.secs.length = D.secs.length := by
  unfold writeF
  split
  · rfl
  · split
    · rfl
    · split
      · rfl
      · exact put_len _ _ _

theorem Bud.write {D : Dsk} {k : Nat} (h : Bud D k) (i : Int) (s : ByteArray) : Bud (writeF D i s).2 (k + 1) := by
  unfold writeF
  split
  · exact h.le (by omega)
  · rename_i hr
    split
    · exact h.le (by omega)
    · split
      · exact ⟨h.n, h.w0, by have := h.w1; simp only; omega, h.h0, h.h1, h.l0, h.l1, h.s⟩
      · obtain ⟨_, i0, i1⟩ := readyF_zero (D := D) (i := i) (by simpa using hr)
        exact h.put i.toNat (by omega) (by omega)

theorem Z_size : Z1024.size = 1024 := Z1024_size

theorem Bud.read {D : Dsk} {k : Nat} (h : Bud D k) (i : Int) : (readF D i).1.size ≤ 1024 := by
  unfold readF
  split
  · exact Nat.zero_le _
  · split
    · exact Nat.le_of_eq Z_size
    · cases hx : D.secs[i.toNat]? with
      | none => exact Nat.zero_le _
      | some x => exact h.s x (List.mem_of_getElem? hx)

theorem finF_len (room : Nat) : ∀ (l : List Nat) (i : Nat) (D : Dsk), (finF room i l D).2.secs.length = D.secs.length
  | [], i, D => writeF_len _ _ _
  | n :: l, i, D => by
    rw [finF]
    split
    · split
      · rw [finF_len room l]; exact writeF_len _ _ _
      · exact writeF_len _ _ _
    · rfl

theorem Bud.fin (room : Nat) : ∀ (l : List Nat) (i k : Nat) (D : Dsk), Bud D k → Bud (finF room i l D).2 (k + l.length + 1)
  | [], i, k, D => fun h => h.write 0 _
  | n :: l, i, k, D => fun h => by
    rw [finF]
    split
    · split
      · exact (Bud.fin room l (i + 1) (k + 1) _ (h.write _ _)).le (by simp only [List.length_cons]; omega)
      · exact (h.write _ _).le (by omega)
    · exact h.le (by omega)

theorem putF_len : ∀ (cs : List Chg) (i : Nat) (D : Dsk), (putF i cs D).2.secs.length = D.secs.length
  | [], i, D => rfl
  | c :: r, i, D => by
    rw [putF]
    split
    · rw [putF_len r]; exact writeF_len _ _ _
    · exact writeF_len _ _ _

theorem Bud.puts : ∀ (cs : List Chg) (i k : Nat) (D : Dsk), Bud D k → Bud (putF i cs D).2 (k + cs.length)
  | [], i, k, D => fun h => h
  | c :: r, i, k, D => fun h => by
    rw [putF]
    split
    · exact (Bud.puts r (i + 1) (k + 1) _ (h.write _ _)).le (by simp only [List.length_cons]; omega)
    · exact (h.write _ _).le (by simp only [List.length_cons]; omega)

theorem headF_len (room : Nat) (l : List Nat) (D : Dsk) : (headF room l D).2.secs.length = D.secs.length := by
  unfold headF
  split
  · rw [finF_len]; exact writeF_len _ _ _
  · exact writeF_len _ _ _

theorem Bud.head {D : Dsk} {k : Nat} (h : Bud D k) (room : Nat) (l : List Nat) : Bud (headF room l D).2 (k + l.length + 2) := by
  unfold headF
  split
  · exact (Bud.fin room l 0 (k + 1) _ (h.write _ _)).le (by omega)
  · exact (h.write _ _).le (by omega)

theorem places_len (cs : List Chg) : (places cs).length = cs.length := by simp [places]

theorem commitF_len (room : Nat) (cs : List Chg) (D : Dsk) : (commitF room cs D).2.secs.length = D.secs.length := by
  unfold commitF
  split
  · rfl
  · split
    · rfl
    · split
      · split
        · rw [headF_len, putF_len]
        · exact putF_len _ _ _
      · rfl

theorem Bud.commit {D : Dsk} {k : Nat} (h : Bud D k) (room : Nat) (cs : List Chg) : Bud (commitF room cs D).2 (k + 2 * cs.length + 2) := by
  unfold commitF
  split
  · exact h.le (by omega)
  · split
    · exact h.le (by omega)
    · split
      · split
        · have := (Bud.puts cs 0 k D h).head room (places cs)
          rw [places_len] at this
          exact this.le (by omega)
        · exact (Bud.puts cs 0 k D h).le (by omega)
      · exact h.le (by omega)

theorem openL_len (room : Nat) (D : Dsk) : ∀ o, (openL room D o).2.secs.length = D.secs.length
  | none => rfl
  | some [] => rfl
  | some (_ :: _) => finF_len _ _ _ _

theorem openF_len (room : Nat) (D : Dsk) : (openF room D).2.secs.length = D.secs.length := by
  unfold openF
  split
  · exact openL_len _ _ _
  · rfl

theorem numsL_len {len : Nat} {s : ByteArray} : ∀ (c a : Nat) (out l : List Nat), numsL len s c a out = some l → l.length = out.length + c
  | 0, a, out, l => fun h => by
    by_cases hz : AllZ (s.data.toList.drop a)
    · rw [numsL_zero hz] at h; cases h; rfl
    · rw [numsL_end hz] at h; cases h
  | c + 1, a, out, l => fun h => by
    by_cases hc : (rdU 0 (s.data.toList.drop a)).e = 0 ∧ (rdU 0 (s.data.toList.drop a)).v < len ∧ (rdU 0 (s.data.toList.drop a)).v ∉ out
    · rw [numsL_succ hc.1 hc.2.1 hc.2.2] at h
      have := numsL_len c _ _ l h
      rw [List.length_append, List.length_singleton] at this
      omega
    · rw [numsL_bad hc] at h; cases h

theorem numF_len {room len : Nat} {s : ByteArray} {l : List Nat} (h : numF room len s = some l) : l.length ≤ room := by
  unfold numF at h
  split at h
  · rename_i hc
    have := numsL_len _ _ _ _ h
    simp only [List.length_nil] at this
    omega
  · cases h

theorem Bud.open {D : Dsk} {k : Nat} (h : Bud D k) (room : Nat) : Bud (openF room D).2 (k + room + 1) := by
  unfold openF
  split
  · cases ho : numF room (jlen room D) (readF D 0).1 with
    | none => exact h.le (by omega)
    | some l =>
      have hl := numF_len ho
      cases l with
      | nil => exact h.le (by omega)
      | cons n l => exact (Bud.fin room (n :: l) 0 k D h).le (by simp only [List.length_cons] at hl ⊢; omega)
  · exact h.le (by omega)

end Go.Proofs.YtbfdmglmolkloaaGreatDoor
