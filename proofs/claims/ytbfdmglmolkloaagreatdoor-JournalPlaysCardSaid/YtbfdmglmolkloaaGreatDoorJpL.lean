/- The document's journal, plain; it goes on as the program's -/
import Derived.Test.YtbfdmglmolkloaaGreatDoorJrU
import Derived.Test.YtbfdmglmolkloaaGreatDoorSecRel
namespace Go.Proofs.YtbfdmglmolkloaaGreatDoor
open Go Go.RowKit

def rjlen (room : Nat) (R : Rsk) : Nat := R.secs.length - room - 1

/-- Copies are brought to their sectors (Open). -/
def ropF (room : Nat) : Nat → List Nat → Rsk → Int × Rsk
  | _, [], R => rwriteF R 0 (ba [0])
  | i, n :: l, R =>
    if (rreadF R ((1 + i : Nat) : Int)).2 = 0 then
      (if (rwriteF R ((room + 1 + n : Nat) : Int) (rreadF R ((1 + i : Nat) : Int)).1).1 = 0 then ropF room (i + 1) l (rwriteF R ((room + 1 + n : Nat) : Int) (rreadF R ((1 + i : Nat) : Int)).1).2
       else rwriteF R ((room + 1 + n : Nat) : Int) (rreadF R ((1 + i : Nat) : Int)).1)
    else ((rreadF R ((1 + i : Nat) : Int)).2, R)

/-- The changes are brought to their sectors (Commit). -/
def rfinF (room : Nat) : List Chg → Rsk → Int × Rsk
  | [], R => rwriteF R 0 (ba [0])
  | c :: r, R => if (rwriteF R ((room + 1 + c.pos.toNat : Nat) : Int) c.data).1 = 0 then rfinF room r (rwriteF R ((room + 1 + c.pos.toNat : Nat) : Int) c.data).2 else rwriteF R ((room + 1 + c.pos.toNat : Nat) : Int) c.data

def rputF : Nat → List Chg → Rsk → Int × Rsk
  | _, [], R => (0, R)
  | i, c :: r, R => if (rwriteF R ((1 + i : Nat) : Int) c.data).1 = 0 then rputF (i + 1) r (rwriteF R ((1 + i : Nat) : Int) c.data).2 else rwriteF R ((1 + i : Nat) : Int) c.data

def rheadF (room : Nat) (cs : List Chg) (R : Rsk) : Int × Rsk :=
  if (rwriteF R 0 (ba (hdL (places cs)))).1 = 0 then rfinF room cs (rwriteF R 0 (ba (hdL (places cs)))).2 else rwriteF R 0 (ba (hdL (places cs)))

def rcommitF (room : Nat) (cs : List Chg) (R : Rsk) : Int × Rsk :=
  if room < cs.length then (31, R) else if checkL (rjlen room R) [] cs = 0 then (if cs = [] then (0, R) else if (rputF 0 cs R).1 = 0 then rheadF room cs (rputF 0 cs R).2 else rputF 0 cs R) else (checkL (rjlen room R) [] cs, R)

def ropenL (room : Nat) (R : Rsk) : Option (List Nat) → Int × Rsk
  | none => (32, R)
  | some [] => (0, R)
  | some (n :: l) => ropF room 0 (n :: l) R

noncomputable def ropenF (room : Nat) (R : Rsk) : Int × Rsk :=
  if (rreadF R 0).2 = 0 then ropenL room R (numF room (rjlen room R) (rreadF R 0).1) else ((rreadF R 0).2, R)

def rreadJ (room : Nat) (R : Rsk) (i : Int) : ByteArray × Int :=
  if i < 0 ∨ (rjlen room R : Int) ≤ i then (⟨#[]⟩, 10) else rreadF R ((room : Int) + 1 + i)

/-- Two disks that stand alike, and go on so. -/
def Both (D : Dsk) (R : Rsk) (t : Nat) : Prop := Alike D R t ∧ Bnd D

theorem Both.jlen {D : Dsk} {R : Rsk} {t : Nat} (h : Both D R t) (room : Nat) : jlen room D = rjlen room R := by unfold Go.Proofs.YtbfdmglmolkloaaGreatDoor.jlen rjlen; rw [h.1.len]
theorem Both.more {D : Dsk} {R : Rsk} {t : Nat} (h : Both D R t) : Both D R (t + 1) := ⟨h.1.more, h.2⟩
theorem Both.le {D : Dsk} {R : Rsk} {t : Nat} (h : Both D R t) : ∀ k, Both D R (t + k)
  | 0 => h
  | k + 1 => (Both.le h k).more
theorem Both.up {D : Dsk} {R : Rsk} {t m : Nat} (h : Both D R t) (hm : t ≤ m) : Both D R m := by
  have := h.le (m - t)
  rwa [show t + (m - t) = m by omega] at this
theorem Both.write {D : Dsk} {R : Rsk} {t : Nat} (h : Both D R t) (ht : t < 576460752303423488) (i : Int) (s : ByteArray) : (writeF D i s).1 = (rwriteF R i s).1 ∧ Both (writeF D i s).2 (rwriteF R i s).2 (t + 1) := by
  obtain ⟨a, b, c⟩ := h.1.write h.2 ht i s
  exact ⟨a, b, c⟩
theorem Both.read {D : Dsk} {R : Rsk} {t : Nat} (h : Both D R t) (i : Int) : readF D i = rreadF R i := h.1.read i

theorem op_both {room : Nat} : ∀ (l : List Nat) (i : Nat) {D : Dsk} {R : Rsk} {t : Nat}, Both D R t → t + l.length < 576460752303423488 → (finF room i l D).1 = (ropF room i l R).1 ∧ Both (finF room i l D).2 (ropF room i l R).2 (t + l.length + 1)
  | [], i, D, R, t => fun h ht => h.write (by simpa using ht) 0 (ba [0])
  | n :: l, i, D, R, t => fun h ht => by
    simp only [List.length_cons] at ht ⊢
    rw [finF, ropF, ← h.read]
    generalize readF D ((1 + i : Nat) : Int) = x
    obtain ⟨a, b⟩ := h.write (by omega) ((room + 1 + n : Nat) : Int) x.1
    by_cases h1 : x.2 = 0
    · rw [if_pos h1, if_pos h1, ← a]
      by_cases h2 : (writeF D ((room + 1 + n : Nat) : Int) x.1).1 = 0
      · rw [if_pos h2, if_pos h2]
        obtain ⟨c, d⟩ := op_both (room := room) l (i + 1) b (by omega)
        exact ⟨c, d.up (by omega)⟩
      · rw [if_neg h2, if_neg h2]
        exact ⟨a, b.up (by omega)⟩
    · rw [if_neg h1, if_neg h1]
      exact ⟨rfl, h.up (by omega)⟩

theorem open_both {room : Nat} {D : Dsk} {R : Rsk} {t : Nat} (h : Both D R t) (ht : t + room + 1 < 576460752303423488) : (openF room D).1 = (ropenF room R).1 ∧ Both (openF room D).2 (ropenF room R).2 (t + room + 1) := by
  unfold openF ropenF
  rw [← h.read, ← h.jlen]
  by_cases h1 : (readF D 0).2 = 0
  · rw [if_pos h1, if_pos h1]
    cases hn : numF room (Go.Proofs.YtbfdmglmolkloaaGreatDoor.jlen room D) (readF D 0).1 with
    | none => exact ⟨rfl, h.up (by omega)⟩
    | some l =>
      have hl := numF_len hn
      cases l with
      | nil => exact ⟨rfl, h.up (by omega)⟩
      | cons n l =>
        obtain ⟨a, b⟩ := op_both (room := room) (n :: l) 0 h (by omega)
        exact ⟨a, b.up (by omega)⟩
  · rw [if_neg h1, if_neg h1]
    exact ⟨rfl, h.up (by omega)⟩

theorem readJ_both {room : Nat} {D : Dsk} {R : Rsk} {t : Nat} (h : Both D R t) (i : Int) : readJ room D i = rreadJ room R i := by
  unfold readJ rreadJ
  rw [h.jlen, h.read]

theorem put_both : ∀ (cs : List Chg) (i : Nat) {D : Dsk} {R : Rsk} {t : Nat}, Both D R t → t + cs.length < 576460752303423488 → (putF i cs D).1 = (rputF i cs R).1 ∧ Both (putF i cs D).2 (rputF i cs R).2 (t + cs.length)
  | [], i, D, R, t => fun h _ => ⟨rfl, h⟩
  | c :: r, i, D, R, t => fun h ht => by
    simp only [List.length_cons] at ht ⊢
    obtain ⟨a, b⟩ := h.write (by omega) ((1 + i : Nat) : Int) c.data
    rw [putF, rputF, ← a]
    by_cases h2 : (writeF D ((1 + i : Nat) : Int) c.data).1 = 0
    · rw [if_pos h2, if_pos h2]
      obtain ⟨c, d⟩ := put_both r (i + 1) b (by omega)
      exact ⟨c, d.up (by omega)⟩
    · rw [if_neg h2, if_neg h2]
      exact ⟨a, b.up (by omega)⟩

/-- What is written is padded: padded once more it is the same. -/
theorem writeF_pad {D : Dsk} {i : Int} {s : ByteArray} (hs : s.size ≤ 1024) : writeF D i (pad s) = writeF D i s := by
  unfold writeF
  have e : D.put i.toNat (pad s) = D.put i.toNat s := by unfold Dsk.put; rw [pad_pad hs]
  rw [e, if_neg (c := 1024 < (pad s).size) (by rw [pad_size hs]; decide), if_neg (c := 1024 < s.size) (by omega)]

/-- A write that was done. -/
theorem writeF_done {D : Dsk} {i : Int} {s : ByteArray} (h : (writeF D i s).1 = 0) : ∃ n : Nat, i = (n : Int) ∧ n < D.secs.length ∧ s.size ≤ 1024 ∧ D.off = false ∧ (writeF D i s).2 = D.put n s := by
  unfold writeF at h ⊢
  by_cases hr : readyF D i = 0
  · rw [if_neg (by simp [hr])] at h ⊢
    obtain ⟨o, i0, i1⟩ := readyF_zero hr
    by_cases hs : 1024 < s.size
    · rw [if_pos hs] at h; exact absurd h (show ¬ (11 : Int) = 0 by decide)
    · rw [if_neg hs] at h ⊢
      by_cases hl : D.left = 1
      · rw [if_pos hl] at h; exact absurd h (show ¬ (12 : Int) = 0 by decide)
      · rw [if_neg hl]
        exact ⟨i.toNat, by omega, by omega, by omega, o, rfl⟩
  · rw [if_pos hr] at h; exact absurd h hr

theorem put_stand : ∀ (cs : List Chg) (i : Nat) (D : Dsk), (putF i cs D).1 = 0 → (∀ c ∈ cs, c.data.size ≤ 1024) → (cs ≠ [] → (putF i cs D).2.off = false) ∧ (∀ (m : Nat) (c : Chg), cs[m]? = some c → sec (putF i cs D).2 (1 + i + m) = pad c.data) ∧ (∀ j, j ≤ i → sec (putF i cs D).2 j = sec D j)
  | [], i, D => fun _ _ => ⟨fun h => absurd rfl h, (fun m c hm => by simp at hm), fun _ _ => rfl⟩
  | c :: r, i, D => fun h hs => by
    rw [putF] at h ⊢
    by_cases h2 : (writeF D ((1 + i : Nat) : Int) c.data).1 = 0
    · rw [if_pos h2] at h ⊢
      obtain ⟨n, e1, e2, e3, e4, e5⟩ := writeF_done h2
      have hn : n = 1 + i := by omega
      subst hn
      rw [e5] at h ⊢
      obtain ⟨f1, f2, f3⟩ := put_stand r (i + 1) (D.put (1 + i) c.data) h (fun x hx => hs x (List.mem_cons_of_mem _ hx))
      refine ⟨fun _ => ?_, fun m x hm => ?_, fun j hj => ?_⟩
      · cases r with
        | nil => exact e4
        | cons y r => exact f1 (by simp)
      · cases m with
        | zero =>
          simp only [List.getElem?_cons_zero, Option.some.injEq] at hm
          subst hm
          rw [f3 _ (by omega), sec_put _ _ _ _ e2 e3, if_pos (by omega)]
        | succ m =>
          simp only [List.getElem?_cons_succ] at hm
          rw [show 1 + i + (m + 1) = 1 + (i + 1) + m by omega, f2 m x hm]
      · rw [f3 j (by omega), sec_put _ _ _ _ e2 e3, if_neg (by omega)]
    · rw [if_neg h2] at h
      exact absurd h h2

/-- The copies that stand are brought as the document brings the changes. -/
theorem fin_both {room : Nat} : ∀ (cs : List Chg) (i : Nat) {D : Dsk} {R : Rsk} {t : Nat}, Both D R t → t + cs.length < 576460752303423488 → D.off = false → (∀ c ∈ cs, c.data.size ≤ 1024) → i + cs.length ≤ room → i + cs.length < D.secs.length → (∀ (m : Nat) (c : Chg), cs[m]? = some c → sec D (1 + i + m) = pad c.data) →
    (finF room i (places cs) D).1 = (rfinF room cs R).1 ∧ Both (finF room i (places cs) D).2 (rfinF room cs R).2 (t + cs.length + 1)
  | [], i, D, R, t => fun h ht _ _ _ _ _ => h.write (by simpa using ht) 0 (ba [0])
  | c :: r, i, D, R, t => fun h ht ho hs hr hl hc => by
    simp only [List.length_cons] at ht hr hl ⊢
    have hcs := hs c List.mem_cons_self
    have hrd : readF D ((1 + i : Nat) : Int) = (pad c.data, 0) := by
      have hry : readyF D ((1 + i : Nat) : Int) = 0 := by unfold readyF; rw [ho]; simp; omega
      rw [readF_eq, if_neg (by rw [hry]; simp)]
      have := hc 0 c rfl
      rw [Nat.add_zero] at this
      show (sec D (1 + i), (0 : Int)) = _
      rw [this]
    have e : finF room i (places (c :: r)) D = if (writeF D ((room + 1 + c.pos.toNat : Nat) : Int) c.data).1 = 0 then finF room (i + 1) (places r) (writeF D ((room + 1 + c.pos.toNat : Nat) : Int) c.data).2 else writeF D ((room + 1 + c.pos.toNat : Nat) : Int) c.data := by
      show finF room i (c.pos.toNat :: places r) D = _
      rw [finF, hrd]
      simp only [if_true]
      rw [writeF_pad hcs]
    obtain ⟨a, b⟩ := h.write (by omega) ((room + 1 + c.pos.toNat : Nat) : Int) c.data
    rw [e, rfinF, ← a]
    by_cases h2 : (writeF D ((room + 1 + c.pos.toNat : Nat) : Int) c.data).1 = 0
    · rw [if_pos h2, if_pos h2]
      obtain ⟨n, e1, e2, e3, e4, e5⟩ := writeF_done h2
      have hn : n = room + 1 + c.pos.toNat := by omega
      subst hn
      rw [e5] at b ⊢
      obtain ⟨x, y⟩ := fin_both (room := room) r (i + 1) b (by omega) ho (fun x hx => hs x (List.mem_cons_of_mem _ hx)) (by omega) (by rw [put_len]; omega) (fun m x hm => by
        rw [sec_put _ _ _ _ e2 e3, if_neg (by have := (List.getElem?_eq_some_iff.1 hm).1; omega)]
        have := hc (m + 1) x (by simpa using hm)
        rwa [show 1 + i + (m + 1) = 1 + (i + 1) + m by omega] at this)
      exact ⟨x, y.up (by omega)⟩
    · rw [if_neg h2, if_neg h2]
      exact ⟨a, b.up (by omega)⟩

theorem commit_both {room : Nat} {D : Dsk} {R : Rsk} {t : Nat} (h : Both D R t) (cs : List Chg) (hr : room ≤ 500) (ht : t + 2 * room + 2 < 576460752303423488) : (commitF room cs D).1 = (rcommitF room cs R).1 ∧ Both (commitF room cs D).2 (rcommitF room cs R).2 (t + 2 * room + 2) := by
  unfold commitF rcommitF
  rw [← h.jlen]
  by_cases h1 : room < cs.length
  · rw [if_pos h1, if_pos h1]; exact ⟨rfl, h.up (by omega)⟩
  · rw [if_neg h1, if_neg h1]
    by_cases h2 : cs = []
    · subst h2
      rw [if_pos rfl, if_pos (show checkL _ [] [] = 0 from rfl), if_pos rfl]
      exact ⟨rfl, h.up (by omega)⟩
    · rw [if_neg h2]
      by_cases h3 : checkL (Go.Proofs.YtbfdmglmolkloaaGreatDoor.jlen room D) [] cs = 0
      · rw [if_pos h3, if_pos h3, if_neg h2]
        obtain ⟨c1, c2, _⟩ := check_zero cs [] h3
        have hsz : ∀ c ∈ cs, c.data.size ≤ 1024 := fun c hc => (c1 c hc).2.2
        obtain ⟨x, hx⟩ := List.exists_mem_of_ne_nil cs h2
        have hj := (c1 x hx).2.1
        have hjd : Go.Proofs.YtbfdmglmolkloaaGreatDoor.jlen room D = D.secs.length - room - 1 := rfl
        obtain ⟨a, b⟩ := put_both cs 0 h (by omega)
        rw [← a]
        by_cases h4 : (putF 0 cs D).1 = 0
        · rw [if_pos h4, if_pos h4]
          obtain ⟨s1, s2, s3⟩ := put_stand cs 0 D h4 hsz
          have hlen : (putF 0 cs D).2.secs.length = D.secs.length := putF_len _ _ _
          unfold headF rheadF
          obtain ⟨c, d⟩ := b.write (by omega) 0 (ba (hdL (places cs)))
          rw [← c]
          by_cases h5 : (writeF (putF 0 cs D).2 0 (ba (hdL (places cs)))).1 = 0
          · rw [if_pos h5, if_pos h5]
            obtain ⟨n, e1, e2, e3, e4, e5⟩ := writeF_done h5
            have hn : n = 0 := by omega
            subst hn
            rw [e5] at d ⊢
            obtain ⟨y, z⟩ := fin_both (room := room) cs 0 d (by omega) e4 hsz (by omega) (by rw [put_len, hlen]; omega) (fun m x hm => by
              rw [sec_put _ _ _ _ e2 e3, if_neg (by omega)]
              have := s2 m x hm
              rwa [show 1 + 0 + m = 1 + 0 + m from rfl] at this)
            exact ⟨y, z.up (by omega)⟩
          · rw [if_neg h5, if_neg h5]
            exact ⟨c, d.up (by omega)⟩
        · rw [if_neg h4, if_neg h4]
          exact ⟨a, b.up (by omega)⟩
      · rw [if_neg h3, if_neg h3]
        exact ⟨rfl, h.up (by omega)⟩

end Go.Proofs.YtbfdmglmolkloaaGreatDoor
