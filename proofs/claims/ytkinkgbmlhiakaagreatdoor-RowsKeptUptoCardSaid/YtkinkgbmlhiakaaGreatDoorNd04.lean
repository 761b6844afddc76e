/- merged: JrL JrU Jr Rd -/
import Derived.Test.YtkinkgbmlhiakaaGreatDoorNd03
import Derived.Test.YtkinkgbmlhiakaaGreatDoorNd01
import Derived.Deep.RegionHeld3
namespace Go.Proofs.YtkinkgbmlhiakaaGreatDoor
section
open Go Go.RowKit
structure Chg where
 pos : Int
 data : ByteArray
def hdL (l : List Nat) : List UInt8 := uvar l.length ++ l.flatMap uvar
open Classical in
noncomputable def qJc (len : Nat) (s : ByteArray) : Nat -> Nat -> List Nat -> Option (List Nat)
 | 0, a, out => if AllZ (s.data.toList.drop a) then some out else none
 | c + 1, a, out => if (rdU 0 (s.data.toList.drop a)).e = 0 /\ (rdU 0 (s.data.toList.drop a)).v < len /\ (rdU 0 (s.data.toList.drop a)).v ∉ out then qJc len s c (a + (rdU 0 (s.data.toList.drop a)).n) (out ++ [(rdU 0 (s.data.toList.drop a)).v]) else none
noncomputable def numF (room len : Nat) (s : ByteArray) : Option (List Nat) :=
 if (rdU 0 s.data.toList).e = 0 /\ (rdU 0 s.data.toList).v <= room then qJc len s (rdU 0 s.data.toList).v (rdU 0 s.data.toList).n [] else none
theorem qNz {len : Nat} {s : ByteArray} {a : Nat} {out : List Nat} (h : AllZ (s.data.toList.drop a)) : qJc len s 0 a out = some out := by unfold qJc; rw [if_pos h]
theorem jBj {len : Nat} {s : ByteArray} {a : Nat} {out : List Nat} (h : ¬ AllZ (s.data.toList.drop a)) : qJc len s 0 a out = none := by unfold qJc; rw [if_neg h]
theorem qYc {len : Nat} {s : ByteArray} {c a : Nat} {out : List Nat} (h1 : (rdU 0 (s.data.toList.drop a)).e = 0) (h2 : (rdU 0 (s.data.toList.drop a)).v < len) (h3 : (rdU 0 (s.data.toList.drop a)).v ∉ out) :
  qJc len s (c + 1) a out = qJc len s c (a + (rdU 0 (s.data.toList.drop a)).n) (out ++ [(rdU 0 (s.data.toList.drop a)).v]) := by
 rw [qJc, if_pos ⟨h1, h2, h3⟩]
theorem jBk {len : Nat} {s : ByteArray} {c a : Nat} {out : List Nat} (h : ¬ ((rdU 0 (s.data.toList.drop a)).e = 0 /\ (rdU 0 (s.data.toList.drop a)).v < len /\ (rdU 0 (s.data.toList.drop a)).v ∉ out)) : qJc len s (c + 1) a out = none := by
 rw [qJc, if_neg h]
def jlen (room : Nat) (D : Dsk) : Nat := D.secs.length - room - 1
def finF (room : Nat) : Nat -> List Nat -> Dsk -> Int × Dsk
 | _, [], D => qAz D 0 (ba [0])
 | i, n :: l, D =>
  if (qDm D ((1 + i : Nat) : Int)).2 = 0 then
   (if (qAz D ((room + 1 + n : Nat) : Int) (qDm D ((1 + i : Nat) : Int)).1).1 = 0 then finF room (i + 1) l (qAz D ((room + 1 + n : Nat) : Int) (qDm D ((1 + i : Nat) : Int)).1).2
    else qAz D ((room + 1 + n : Nat) : Int) (qDm D ((1 + i : Nat) : Int)).1)
  else ((qDm D ((1 + i : Nat) : Int)).2, D)
def qCk (len : Nat) : List Nat -> List Chg -> Int
 | _, [] => 0
 | met, c :: r => if c.pos < 0 \/ (len : Int) <= c.pos then 10 else if 1024 < c.data.size then 11 else if c.pos.toNat ∈ met then 30 else qCk len (met ++ [c.pos.toNat]) r
def putF : Nat -> List Chg -> Dsk -> Int × Dsk
 | _, [], D => (0, D)
 | i, c :: r, D => if (qAz D ((1 + i : Nat) : Int) c.data).1 = 0 then putF (i + 1) r (qAz D ((1 + i : Nat) : Int) c.data).2 else qAz D ((1 + i : Nat) : Int) c.data
def places (cs : List Chg) : List Nat := cs.map fun c => c.pos.toNat
def qNm (room : Nat) (l : List Nat) (D : Dsk) : Int × Dsk :=
 if (qAz D 0 (ba (hdL l))).1 = 0 then finF room 0 l (qAz D 0 (ba (hdL l))).2 else qAz D 0 (ba (hdL l))
def qAk (room : Nat) (cs : List Chg) (D : Dsk) : Int × Dsk :=
 if room < cs.length then (31, D) else if cs = [] then (0, D) else
 if qCk (jlen room D) [] cs = 0 then (if (putF 0 cs D).1 = 0 then qNm room (places cs) (putF 0 cs D).2 else putF 0 cs D) else (qCk (jlen room D) [] cs, D)
def jJc (room : Nat) (D : Dsk) : Option (List Nat) -> Int × Dsk
 | none => (32, D)
 | some [] => (0, D)
 | some (n :: l) => finF room 0 (n :: l) D
noncomputable def qKg (room : Nat) (D : Dsk) : Int × Dsk :=
 if (qDm D 0).2 = 0 then jJc room D (numF room (jlen room D) (qDm D 0).1) else ((qDm D 0).2, D)
def qEu (room : Nat) (D : Dsk) (i : Int) : ByteArray × Int :=
 if i < 0 \/ (jlen room D : Int) <= i then (⟨#[]⟩, 10) else qDm D ((room : Int) + 1 + i)
structure Bud (D : Dsk) (k : Nat) : Prop where
 n : D.secs.length <= 16384
 w0 : 0 <= D.writes
 w1 : D.writes <= k
 h0 : 0 <= D.high
 h1 : D.high <= D.secs.length
 l0 : 0 <= D.left
 l1 : D.left <= 4611686018427387904
 s : ∀ x ∈ D.secs, x.size <= 1024
theorem Bud.ok {D : Dsk} {k : Nat} (h : Bud D k) (hk : k <= 4611686018427387904) : D.Ok :=
 ⟨by have := h.n; omega, h.w0, by have := h.w1; omega, h.h0, by have := h.h1; have := h.n; omega, h.l0, h.l1⟩
theorem Bud.le {D : Dsk} {k m : Nat} (h : Bud D k) (hm : k <= m) : Bud D m := ⟨h.n, h.w0, by have := h.w1; omega, h.h0, h.h1, h.l0, h.l1, h.s⟩
theorem jDq (n : Int) : Bud (newD n) 0 :=
 ⟨by simp [newD]; omega, Int.le_refl _, Int.le_refl _, Int.le_refl _, Int.natCast_nonneg _, Int.le_refl _, show (0 : Int) <= 4611686018427387904 by decide, fun x hx => by
  rw [(List.mem_replicate.1 hx).2]; decide⟩
theorem Bud.put {D : Dsk} {k : Nat} (h : Bud D k) (i : Nat) (hi : i < D.secs.length) {s : ByteArray} (hs : s.size <= 1024) : Bud (D.put i s) (k + 1) := by
 have h0 := h.w0; have h1 := h.w1; have h2 := h.h0; have h3 := h.h1; have h4 := h.l0; have h5 := h.l1; refine ⟨by rw [qEv]; exact h.n, by simp only [Dsk.put]; omega, by simp only [Dsk.put]; omega, ?_, ?_, ?_, ?_, ?_⟩
 ·simp only [Dsk.put]; split <;> omega
 ·rw [qEv]; simp only [Dsk.put]; split <;> omega
 ·simp only [Dsk.put]; split <;> omega
 ·simp only [Dsk.put]; split <;> omega
 ·intro x hx; rcases List.mem_or_eq_of_mem_set hx with hx | rfl
  ·exact h.s x hx
  ·exact Nat.le_of_eq (qLk hs)
theorem qCx (D : Dsk) (i : Int) (s : ByteArray) : (qAz D i s).2.secs.length = D.secs.length := by
 unfold qAz; split
 ·rfl
 ·split
  ·rfl
  ·split
   ·rfl
   ·exact qEv _ _ _
theorem Bud.write {D : Dsk} {k : Nat} (h : Bud D k) (i : Int) (s : ByteArray) : Bud (qAz D i s).2 (k + 1) := by
 unfold qAz; split
 ·exact h.le (by omega)
 ·rename_i hr
  split
  ·exact h.le (by omega)
  ·split
   ·exact ⟨h.n, h.w0, by have := h.w1; simp only; omega, h.h0, h.h1, h.l0, h.l1, h.s⟩
   ·obtain ⟨_, i0, i1⟩ := qId (D := D) (i := i) (by simpa using hr)
    exact h.put i.toNat (by omega) (by omega)
theorem jIj : qCl.size = 1024 := qFz
theorem Bud.read {D : Dsk} {k : Nat} (h : Bud D k) (i : Int) : (qDm D i).1.size <= 1024 := by
 unfold qDm; split
 ·exact Nat.zero_le _
 ·split
  ·exact Nat.le_of_eq jIj
  ·cases hx : D.secs[i.toNat]? with
   | none => exact Nat.zero_le _
   | some x => exact h.s x (List.mem_of_getElem? hx)
theorem qQe (room : Nat) : ∀ (l : List Nat) (i : Nat) (D : Dsk), (finF room i l D).2.secs.length = D.secs.length
 | [], i, D => qCx _ _ _
 | n :: l, i, D => by
  rw [finF]; split
  ·split
   ·rw [qQe room l]; exact qCx _ _ _
   ·exact qCx _ _ _
  ·rfl
theorem qIy : ∀ (cs : List Chg) (i : Nat) (D : Dsk), (putF i cs D).2.secs.length = D.secs.length
 | [], i, D => rfl
 | c :: r, i, D => by
  rw [putF]; split
  ·rw [qIy r]; exact qCx _ _ _
  ·exact qCx _ _ _
theorem jCj (room : Nat) (l : List Nat) (D : Dsk) : (qNm room l D).2.secs.length = D.secs.length := by
 unfold qNm; split
 ·rw [qQe]; exact qCx _ _ _
 ·exact qCx _ _ _
theorem qEd (cs : List Chg) : (places cs).length = cs.length := by simp [places]
theorem qIk (room : Nat) (cs : List Chg) (D : Dsk) : (qAk room cs D).2.secs.length = D.secs.length := by
 unfold qAk; split
 ·rfl
 ·split
  ·rfl
  ·split
   ·split
    ·rw [jCj, qIy]
    ·exact qIy _ _ _
   ·rfl
end
section
open Go Go.RowKit
def sec (D : Dsk) (i : Nat) : ByteArray := full ((D.secs[i]?).getD ⟨#[]⟩)
structure Lit (D : Dsk) (k : Nat) : Prop where
 b : Bud D k
 off : D.off = false
 left : D.left = 0
theorem Lit.le {D : Dsk} {k m : Nat} (h : Lit D k) (hm : k <= m) : Lit D m := ⟨h.b.le hm, h.off, h.left⟩
theorem jBp (n : Int) : Lit (newD n) 0 := ⟨jDq n, rfl, rfl⟩
theorem Lit.put {D : Dsk} {k : Nat} (h : Lit D k) (i : Nat) (hi : i < D.secs.length) {s : ByteArray} (hs : s.size <= 1024) : Lit (D.put i s) (k + 1) :=
 ⟨h.b.put i hi hs, h.off, by simp [Dsk.put, h.left]⟩
theorem Lit.write {D : Dsk} {k : Nat} (h : Lit D k) (i : Nat) (hi : i < D.secs.length) {s : ByteArray} (hs : s.size <= 1024) : qAz D (i : Int) s = (0, D.put i s) := by
 rw [qZl h.off h.left, if_neg (by omega), if_neg (by omega)]
 rfl
theorem qGc (D : Dsk) (i j : Nat) (s : ByteArray) (hi : i < D.secs.length) (hs : s.size <= 1024) : sec (D.put i s) j = if j = i then pad s else sec D j := jFk D i j s hi hs
theorem qHi (D : Dsk) (i : Nat) (s : ByteArray) : (D.put i s).writes = D.writes + 1 := rfl
theorem Lit.read {D : Dsk} {k : Nat} (h : Lit D k) (i : Nat) (hi : i < D.secs.length) : qDm D (i : Int) = (sec D i, 0) := by
 have : qBd D i = 0 := by unfold qBd; rw [h.off]; simp; omega
 rw [qPe, if_neg (by simp [this])]
 rfl
theorem jIz {s : ByteArray} (h : s.size <= 1024) : pad (pad s) = pad s := by
 apply qMw; rw [qPi (pad s), qLk h]; simp
theorem jCq {s : ByteArray} (h : s.size <= 1024) : (full s).size <= 1024 := by
 unfold full; split
 ·exact Nat.le_of_eq jIj
 ·exact h
theorem jFd {D : Dsk} {k : Nat} (h : Bud D k) (i : Nat) : (sec D i).size <= 1024 := by
 unfold sec; apply jCq; cases hx : D.secs[i]? with
 | none => exact Nat.zero_le _
 | some x => exact h.s x (List.mem_of_getElem? hx)
theorem qJb : (ba [0]).size <= 1024 := by rw [qAf]; decide
theorem qTv (room : Nat) : ∀ (l : List Nat) (i k : Nat) (D : Dsk), Lit D k -> 0 < D.secs.length -> (∀ n ∈ l, room + 1 + n < D.secs.length) -> i + l.length <= room -> l.Nodup →
  (finF room i l D).1 = 0 /\ Lit (finF room i l D).2 (k + l.length + 1) /\ (finF room i l D).2.writes = D.writes + (l.length : Int) + 1 /\ sec (finF room i l D).2 0 = pad (ba [0]) ∧
   (∀ (m n : Nat), l[m]? = some n -> sec (finF room i l D).2 (room + 1 + n) = pad (sec D (1 + i + m))) /\ (∀ q, q ∉ l -> sec (finF room i l D).2 (room + 1 + q) = sec D (room + 1 + q))
 | [], i, k, D => fun h h0 _ _ _ => by
  have e : finF room i [] D = (0, D.put 0 (ba [0])) := by rw [finF]; exact h.write 0 h0 qJb
  rw [e]; refine ⟨rfl, h.put 0 h0 qJb, by rw [qHi]; simp, by rw [qGc _ _ _ _ h0 qJb, if_pos rfl], (fun m n hm => by simp at hm), fun q _ => by rw [qGc _ _ _ _ h0 qJb, if_neg (by omega)]⟩
 | n :: l, i, k, D => fun h h0 hp hr hn => by
  have hi : 1 + i < D.secs.length := by
   have := hp n List.mem_cons_self; simp only [List.length_cons] at hr; omega
  have hr1 := h.read (1 + i) hi; have hs := jFd h.b (1 + i); have hn1 := hp n List.mem_cons_self; have hw := h.write (room + 1 + n) hn1 hs; have e : finF room i (n :: l) D = finF room (i + 1) l (D.put (room + 1 + n) (sec D (1 + i))) := by
   rw [finF, hr1]; simp only [if_true]; rw [hw]; simp only [if_true]
  simp only [List.length_cons] at hr; obtain ⟨f1, f2, f3, f4, f5, f6⟩ := qTv room l (i + 1) (k + 1) (D.put (room + 1 + n) (sec D (1 + i))) (h.put _ hn1 hs) (by rw [qEv]; exact h0) (fun x hx => by rw [qEv]; exact hp x (List.mem_cons_of_mem _ hx)) (by omega) (List.nodup_cons.1 hn).2
  rw [e]; refine ⟨f1, f2.le (by simp only [List.length_cons]; omega), by rw [f3, qHi]; simp only [List.length_cons]; omega, f4, fun m x hm => ?_, fun q hq => ?_⟩
  ·cases m with
   | zero =>
    simp only [List.getElem?_cons_zero, Option.some.injEq] at hm; subst hm; rw [f6 n (List.nodup_cons.1 hn).1, qGc _ _ _ _ hn1 hs, if_pos rfl, Nat.add_zero]
   | succ m =>
    simp only [List.getElem?_cons_succ] at hm; have hm2 := (List.getElem?_eq_some_iff.1 hm).1; rw [f5 m x hm, qGc _ _ _ _ hn1 hs, if_neg (by omega), show 1 + (i + 1) + m = 1 + i + (m + 1) by omega]
  ·rw [f6 q (fun h => hq (List.mem_cons_of_mem _ h)), qGc _ _ _ _ hn1 hs, if_neg (by intro hh; exact hq (by rw [show q = n by omega]; exact List.mem_cons_self))]
theorem qTe : ∀ (cs : List Chg) (i k : Nat) (D : Dsk), Lit D k -> i + cs.length < D.secs.length -> (∀ c ∈ cs, c.data.size <= 1024) →
  (putF i cs D).1 = 0 /\ Lit (putF i cs D).2 (k + cs.length) /\ (putF i cs D).2.writes = D.writes + (cs.length : Int) ∧
   (∀ (m : Nat) (c : Chg), cs[m]? = some c -> sec (putF i cs D).2 (1 + i + m) = pad c.data) /\ (∀ j, j <= i \/ i + cs.length < j -> sec (putF i cs D).2 j = sec D j)
 | [], i, k, D => fun h _ _ => ⟨rfl, h, by simp [putF], (fun m c hm => by simp at hm), fun j _ => rfl⟩
 | c :: r, i, k, D => fun h hl hs => by
  simp only [List.length_cons] at hl; have hsc := hs c List.mem_cons_self; have hw := h.write (1 + i) (by omega) hsc
  have e : putF i (c :: r) D = putF (i + 1) r (D.put (1 + i) c.data) := by
   rw [putF, hw]; simp only [if_true]
  obtain ⟨f1, f2, f3, f4, f5⟩ := qTe r (i + 1) (k + 1) (D.put (1 + i) c.data) (h.put _ (by omega) hsc) (by rw [qEv]; omega) (fun x hx => hs x (List.mem_cons_of_mem _ hx))
  rw [e]; refine ⟨f1, f2.le (by simp only [List.length_cons]; omega), by rw [f3, qHi]; simp only [List.length_cons]; omega, fun m x hm => ?_, fun j hj => ?_⟩
  ·cases m with
   | zero =>
    simp only [List.getElem?_cons_zero, Option.some.injEq] at hm; subst hm; rw [f5 _ (.inl (by omega)), qGc _ _ _ _ (by omega) hsc, if_pos (by omega)]
   | succ m =>
    simp only [List.getElem?_cons_succ] at hm; rw [show 1 + i + (m + 1) = 1 + (i + 1) + m by omega, f4 m x hm]
  ·simp only [List.length_cons] at hj; rw [f5 j (by omega), qGc _ _ _ _ (by omega) hsc, if_neg (by omega)]
theorem qHo {len : Nat} : ∀ (cs : List Chg) (met : List Nat), qCk len met cs = 0 -> (∀ c ∈ cs, 0 <= c.pos /\ c.pos.toNat < len /\ c.data.size <= 1024) /\ (places cs).Nodup /\ (∀ c ∈ cs, c.pos.toNat ∉ met)
 | [], met => fun _ => ⟨(fun c h => by cases h), List.nodup_nil, (fun c h => by cases h)⟩
 | c :: r, met => fun h => by
  rw [qCk] at h; split at h
  ·cases h
  ·split at h
   ·cases h
   ·split at h
    ·cases h
    ·rename_i h1 h2 h3
     obtain ⟨i1, i2, i3⟩ := qHo r _ h; refine ⟨fun x hx => ?_, ?_, fun x hx => ?_⟩
     ·rcases List.mem_cons.1 hx with rfl | hx
      ·omega
      ·exact i1 x hx
     ·show (c.pos.toNat :: places r).Nodup; refine List.nodup_cons.2 ⟨fun hm => ?_, i2⟩
      obtain ⟨y, hy, e⟩ := List.mem_map.1 hm; exact i3 y hy (by rw [e]; simp)
     ·rcases List.mem_cons.1 hx with rfl | hx
      ·exact h3
      ·exact fun hm => i3 x hx (List.mem_append.2 (.inl hm))
theorem qSh {len : Nat} : ∀ (cs : List Chg) (met : List Nat), qCk len met cs = 0 \/ qCk len met cs = 10 \/ qCk len met cs = 11 \/ qCk len met cs = 30
 | [], met => .inl rfl
 | c :: r, met => by
  rw [qCk]; split
  ·exact .inr (.inl rfl)
  ·split
   ·exact .inr (.inr (.inl rfl))
   ·split
    ·exact .inr (.inr (.inr rfl))
    ·exact qSh r _
theorem qGm {k : Nat} (h : k < 16384) : (uvar k).length <= 2 := qIs 1 k (by omega)
theorem qRx : ∀ (l : List Nat), (∀ n ∈ l, n < 16384) -> (l.flatMap uvar).length <= 2 * l.length
 | [], _ => by simp
 | n :: l, h => by
  have h1 := qGm (h n List.mem_cons_self); have h2 := qRx l (fun x hx => h x (List.mem_cons_of_mem _ hx))
  rw [List.flatMap_cons, List.length_append, List.length_cons]; omega
theorem qRv {l : List Nat} (h : ∀ n ∈ l, n < 16384) (hl : l.length <= 500) : (ba (hdL l)).size <= 1024 := by
 have h1 := qGm (k := l.length) (by omega)
 have h2 := qRx l h; rw [qAf]; unfold hdL; rw [List.length_append]; omega
structure Took (room : Nat) (cs : List Chg) (D D' : Dsk) (k : Nat) : Prop where
 lit : Lit D' (k + 2 * cs.length + 2)
 writes : D'.writes = D.writes + 2 * (cs.length : Int) + 2
 len : D'.secs.length = D.secs.length
 head : sec D' 0 = pad (ba [0])
 new : ∀ c ∈ cs, sec D' (room + 1 + c.pos.toNat) = pad c.data
 old : ∀ q, q ∉ places cs -> sec D' (room + 1 + q) = sec D (room + 1 + q)
theorem qYr {D : Dsk} {k room : Nat} (h : Lit D k) (hr : room <= 500) (cs : List Chg) :
  ((qAk room cs D).1 ≠ 0 /\ (qAk room cs D).2 = D /\ ((qAk room cs D).1 = 31 \/ (qAk room cs D).1 = 10 \/ (qAk room cs D).1 = 11 \/ (qAk room cs D).1 = 30)) ∨
  ((qAk room cs D).1 = 0 /\ ((cs = [] /\ (qAk room cs D).2 = D) \/ (cs ≠ [] /\ qCk (jlen room D) [] cs = 0 /\ cs.length <= room /\ Took room cs D (qAk room cs D).2 k))) := by
 by_cases h1 : room < cs.length
 ·left
  have e : qAk room cs D = (31, D) := by unfold qAk; rw [if_pos h1]
  rw [e]; exact ⟨by simp, rfl, .inl rfl⟩
 ·by_cases h2 : cs = []
  ·right
   have e : qAk room cs D = (0, D) := by unfold qAk; rw [if_neg h1, if_pos h2]
   rw [e]; exact ⟨rfl, .inl ⟨h2, rfl⟩⟩
  ·by_cases h3 : qCk (jlen room D) [] cs = 0
   ·right
    obtain ⟨c1, c2, _⟩ := qHo cs [] h3; obtain ⟨c, hc⟩ := List.exists_mem_of_ne_nil cs h2; have hj := (c1 c hc).2.1; unfold jlen at hj c1; obtain ⟨p1, p2, p3, p4, p5⟩ := qTe cs 0 k D h (by omega) (fun c hc => (c1 c hc).2.2)
    have hlen : (putF 0 cs D).2.secs.length = D.secs.length := qIy _ _ _; have hplen : ∀ n ∈ places cs, n < D.secs.length - room - 1 := fun n hn => by
     obtain ⟨y, hy, rfl⟩ := List.mem_map.1 hn; exact (c1 y hy).2.1
    have hN := h.b.n; have hsz : (ba (hdL (places cs))).size <= 1024 := qRv (fun n hn => by have := hplen n hn; omega) (by rw [qEd]; omega)
    have hw : qAz (putF 0 cs D).2 0 (ba (hdL (places cs))) = (0, (putF 0 cs D).2.put 0 (ba (hdL (places cs)))) := p2.write 0 (by rw [hlen]; omega) hsz
    have h0 : 0 < (putF 0 cs D).2.secs.length := by rw [hlen]; omega
    have e : qAk room cs D = finF room 0 (places cs) ((putF 0 cs D).2.put 0 (ba (hdL (places cs)))) := by
     unfold qAk; rw [if_neg h1, if_neg h2, if_pos h3, if_pos p1]; unfold qNm; rw [hw]; simp only [if_true]
    obtain ⟨f1, f2, f3, f4, f5, f6⟩ := qTv room (places cs) 0 (k + cs.length + 1) ((putF 0 cs D).2.put 0 (ba (hdL (places cs)))) (p2.put 0 h0 hsz) (by rw [qEv]; exact h0) (fun n hn => by rw [qEv, hlen]; have := hplen n hn; omega) (by rw [qEd]; omega) c2
    rw [e]; refine ⟨f1, .inr ⟨h2, h3, by omega, ⟨f2.le (by rw [qEd]; omega), by rw [f3, qHi, p3, qEd]; omega, by rw [qQe, qEv, hlen], f4, fun c hc => ?_, fun q hq => ?_⟩⟩⟩
    ·obtain ⟨m, hm⟩ := List.mem_iff_getElem?.1 hc; have hm1 := (List.getElem?_eq_some_iff.1 hm).1; rw [f5 m c.pos.toNat (by unfold places; rw [List.getElem?_map, hm]; rfl), qGc _ _ _ _ h0 hsz, if_neg (by omega), p4 m c hm, jIz (c1 c hc).2.2]
    ·rw [f6 q hq, qGc _ _ _ _ h0 hsz, if_neg (by omega), p5 _ (by omega)]
   ·left
    have e : qAk room cs D = (qCk (jlen room D) [] cs, D) := by unfold qAk; rw [if_neg h1, if_neg h2, if_neg h3]
    rw [e]; refine ⟨h3, rfl, .inr ?_⟩; rcases qSh (len := jlen room D) cs [] with h | h
    ·exact absurd h h3
    ·exact h
theorem jDh {D : Dsk} {k room : Nat} (h : Lit D k) (hr : room <= 500) (cs : List Chg) (h1 : cs.length <= room) (h2 : cs ≠ []) (h3 : qCk (jlen room D) [] cs = 0) :
  (qAk room cs D).1 = 0 /\ Took room cs D (qAk room cs D).2 k := by
 rcases qYr h hr cs with ⟨a, _, _⟩ | ⟨a, ⟨rfl, _⟩ | ⟨_, _, _, c⟩⟩
 ·exfalso
  have e : qAk room cs D = (if (putF 0 cs D).1 = 0 then qNm room (places cs) (putF 0 cs D).2 else putF 0 cs D) := by unfold qAk; rw [if_neg (by omega), if_neg h2, if_pos h3]
  obtain ⟨c1, c2, _⟩ := qHo cs [] h3; obtain ⟨x, hx⟩ := List.exists_mem_of_ne_nil cs h2; have hj := (c1 x hx).2.1; unfold jlen at hj c1; obtain ⟨p1, p2, p3, p4, p5⟩ := qTe cs 0 k D h (by omega) (fun c hc => (c1 c hc).2.2)
  have hlen : (putF 0 cs D).2.secs.length = D.secs.length := qIy _ _ _; have hplen : ∀ n ∈ places cs, n < D.secs.length - room - 1 := fun n hn => by
   obtain ⟨y, hy, rfl⟩ := List.mem_map.1 hn; exact (c1 y hy).2.1
  have hN := h.b.n; have hsz : (ba (hdL (places cs))).size <= 1024 := qRv (fun n hn => by have := hplen n hn; omega) (by rw [qEd]; omega)
  have hw : qAz (putF 0 cs D).2 0 (ba (hdL (places cs))) = (0, (putF 0 cs D).2.put 0 (ba (hdL (places cs)))) := p2.write 0 (by rw [hlen]; omega) hsz
  have h0 : 0 < (putF 0 cs D).2.secs.length := by rw [hlen]; omega
  obtain ⟨f1, _⟩ := qTv room (places cs) 0 (k + cs.length + 1) ((putF 0 cs D).2.put 0 (ba (hdL (places cs)))) (p2.put 0 h0 hsz) (by rw [qEv]; exact h0) (fun n hn => by rw [qEv, hlen]; have := hplen n hn; omega) (by rw [qEd]; omega) c2
  rw [if_pos p1] at e; have e2 : qNm room (places cs) (putF 0 cs D).2 = finF room 0 (places cs) ((putF 0 cs D).2.put 0 (ba (hdL (places cs)))) := by
   unfold qNm; rw [hw]; simp only [if_true]
  rw [e, e2] at a; exact a f1
 ·exact absurd rfl h2
 ·exact ⟨a, c⟩
theorem qRo {room len : Nat} {s : ByteArray} {r : List UInt8} (h : s.data.toList = 0 :: r) (hr : AllZ r) : numF room len s = some [] := by
 have e : rdU 0 s.data.toList = ⟨0, 1, 0⟩ := by rw [h, qMa (by omega) (by omega) (by omega) (by decide)]; rfl
 unfold numF; rw [e, if_pos ⟨rfl, Nat.zero_le _⟩]; exact qNz (by rw [h]; exact hr)
theorem qJw (n : Nat) : AllZ (List.replicate n (0 : UInt8)) := fun _ hb => (List.mem_replicate.1 hb).2
theorem jJe {room len : Nat} : numF room len (pad (ba [0])) = some [] := by
 refine qRo (r := List.replicate 1023 0) ?_ (qJw _); rw [qPi, qBk, qAf]; rfl
theorem num_Z {room len : Nat} : numF room len qCl = some [] := by
 refine qRo (r := List.replicate 1023 0) ?_ (qJw _); rw [qHr]; rfl
def jKy (D : Dsk) : Prop := sec D 0 = qCl \/ sec D 0 = pad (ba [0])
theorem jFv {D : Dsk} {k room : Nat} (h : Lit D k) (h0 : 0 < D.secs.length) (hc : jKy D) : qKg room D = (0, D) := by
 unfold qKg; have hr : qDm D 0 = (sec D 0, 0) := h.read 0 h0; rw [hr]; simp only [if_true]; rcases hc with hc | hc
 ·rw [hc, num_Z]; rfl
 ·rw [hc, jJe]; rfl
theorem qSv (n : Int) (i : Nat) : sec (newD n) i = qCl := by
 unfold sec newD; simp only; rw [List.getElem?_replicate]; split <;> exact jHe
theorem jDi (n : Int) : jKy (newD n) := .inl (qSv n 0)
end
section
open Go Go.RowKit
def JAt (w : World) (j d room : Nat) : Prop := w.heap[j]? = some (.cells #[.pointer (some ⟨d, 0, none⟩), .int .i64 (room : Int)] 135 (0, 0))
theorem JAt.lt {w : World} {j d room : Nat} (h : JAt w j d room) : j < w.heap.size := lth h
theorem JAt.mod {S : Nat -> Prop} {w w' : World} {j d room : Nat} (h : JAt w j d room) (hm : Mod S w w') (hs : ¬ S j) : JAt w' j d room := (hm.block j h.lt hs).trans h
theorem JAt.cells {w : World} {j d room : Nat} (h : JAt w j d room) : w.cell? ⟨j, 0, none⟩ = some (.pointer (some ⟨d, 0, none⟩)) /\ w.cell? ⟨j, 1, none⟩ = some (.int .i64 (room : Int)) := by
 refine ⟨?_, ?_⟩ <;> (rw [cell_of_row _ _ _ _ _ _ h]; rfl)
theorem jGq (room : Nat) (D : Dsk) : max 0 ((D.secs.length : Int) - (room : Int) - 1) = (jlen room D : Int) := by unfold jlen; omega
theorem qLo {w : World} {j d room : Nat} {sa : Option Addr} {D : Dsk} (hD : qAp w d sa D) (hj : JAt w j d room) (hn : D.secs.length <= 16384) (hr : room <= 500) :
  Calls Tryz.prog 27 #[.pointer (some ⟨j, 0, none⟩)] w fun e w' => e = .returned (.int .i64 (jlen room D : Int)) /\ Mod (fun _ => False) w w' := by
 obtain ⟨h0, h1⟩ := hj.cells; have g0 := fun x : Ext w => x.cell h0
 have g1 := fun x : Ext w => x.cell h1
 have k1 : ∀ x : Ext w, Calls Tryz.prog 56 #[.pointer (some ⟨d, 0, none⟩)] x.val fun e w' => e = .returned (.int .i64 D.secs.length) /\ x.val = w' := fun x => jJj (hD.mod x.mod (fun _ _ h => h))
 have K1 := hid k1; have hv := jGq room D; generalize D.secs.length = n at *; have s1 : IntKind.i64.wrap ((n : Int) - (room : Int)) = (n : Int) - (room : Int) := by rw [IntKind.wrap_i64]; omega
 have s2 : IntKind.i64.wrap ((n : Int) - (room : Int) - 1) = (n : Int) - (room : Int) - 1 := by rw [IntKind.wrap_i64]; omega
 clear hj hD h0 h1 k1; go_enter Tryz.func27, Tryz.ntmps27
 go_wp2
 refine qAm (by kernel_rfl) (by kernel_rfl) ?_
 repeat (go_big_quiet_step ((go_at_call 56; exact jHn (K1.out _))))
 refine wpQuiet_nil ?_; rintro _ ⟨x, rfl⟩; go_wp2
 go_ret; exact ⟨rfl, x.mod⟩
theorem qOe {w : World} {j d room : Nat} (hj : JAt w j d room) (hr : room <= 500) (i : Nat) (hi : i <= 16384) :
  Calls Tryz.prog 46 #[.pointer (some ⟨j, 0, none⟩), .int .i64 (i : Int)] w fun e w' => e = .returned (.int .i64 ((room + 1 + i : Nat) : Int)) /\ w = w' := by
 obtain ⟨h0, h1⟩ := hj.cells; clear hj; go_enter Tryz.func46, Tryz.ntmps46
 go_wp2
 go_ret; refine ⟨?_, rfl⟩; congr 2
theorem qHp (l : List UInt8) : Lib.strCells (ba l) = Lib.byteCells l := by
 unfold Lib.strCells Lib.byteCells; rw [qBk]
theorem jDo (a b : List UInt8) : Lib.byteCells (a ++ b) = Lib.byteCells a ++ Lib.byteCells b := by simp [Lib.byteCells]
theorem jDn (a : List UInt8) : (Lib.byteCells a).length = a.length := by simp [Lib.byteCells]
def nums (l : List Nat) : List Value := l.map fun (n : Nat) => .int .i64 ((n : Nat) : Int)
theorem jGb (l : List Nat) : (nums l).length = l.length := by simp [nums]
theorem qRn (l : List Nat) (n : Nat) : nums (l ++ [n]) = nums l ++ [.int .i64 (n : Int)] := by simp [nums]
theorem Own.num {w : World} {e : TypeId} {g off n cap : Nat} {l : List Nat} (h : Own w e 1 (some ⟨g, off, none⟩) n cap (nums l)) {i : Nat} (hi : i < l.length) : w.cell? ⟨g, off + i, none⟩ = some (.int .i64 ((l[i] : Nat) : Int)) := by
 have := h.cell i (by have := h.1; rw [jGb] at this; omega)
 rw [this]; unfold nums; rw [List.getD_eq_getElem?_getD, List.getElem?_map, List.getElem?_eq_getElem hi]; rfl
def hdK (l : List Nat) (k : Nat) : List UInt8 := uvar l.length ++ (l.take k).flatMap uvar
theorem jHa (l : List Nat) : hdK l 0 = uvar l.length := by simp [hdK]
theorem jHb (l : List Nat) (k : Nat) (hk : k < l.length) : hdK l (k + 1) = hdK l k ++ uvar l[k] := by
 unfold hdK; rw [List.take_succ_eq_append_getElem hk, List.flatMap_append, List.append_assoc]; simp
theorem jCl (l : List Nat) : hdK l l.length = hdL l := by unfold hdK hdL; rw [List.take_length]
theorem jCk (l : List Nat) (k : Nat) (hn : ∀ n ∈ l, n <= 16384) (hl : l.length <= 500) : (hdK l k).length <= 10 + 10 * 500 := by
 have h1 := qAs (n := l.length) (by omega)
 have h2 : ∀ m : List Nat, (∀ n ∈ m, n <= 16384) -> (m.flatMap uvar).length <= 10 * m.length := by
  intro m; induction m with
  | nil => intro _; simp
  | cons x r ih =>
   intro h; have a := qAs (n := x) (by have := h x List.mem_cons_self; omega)
   have b := ih (fun y hy => h y (List.mem_cons_of_mem _ hy))
   rw [List.flatMap_cons, List.length_append, List.length_cons]; omega
 have h3 := h2 (l.take k) (fun n hm => hn n (List.mem_of_mem_take hm))
 have h4 : (l.take k).length <= l.length := by rw [List.length_take]; omega
 unfold hdK; rw [List.length_append]; omega
set_option maxRecDepth 100000
set_option maxHeartbeats 1000000 in
theorem qWf {w : World} {sa : Option Addr} {cap : Nat} {l : List Nat} (h : Own w 3 1 sa l.length cap (nums l)) (hl : l.length <= 500) (hn : ∀ n ∈ l, n <= 16384) :
  Calls Tryz.prog 72 #[.slice sa l.length cap] w fun e w' => e = .returned (.string (ba (hdL l))) /\ Mod (fun _ => False) w w' := by
 have HB0 := hid (Lib.fresh_isBuilder 208 5 w); have HO := hid h; have HL := hid (fun k => jCk l k hn hl)
 have HN := hid hn; clear h hn; go_enter Tryz.func72, Tryz.ntmps72
 go_wp2_with fail
 have hWm : Mod (fun j => w.heap.size <= j) w (w.alloc (.cells #[.pointer none, .slice none 0 0] 208)) := (Mod.refl _ _).alloc _
 generalize w.alloc (.cells #[.pointer none, .slice none 0 0] 208) = W1 at *; refine (qEm l.length W1 (by omega)).mono ?_
 rintro e w3 ⟨rfl, hm3⟩; have HM3 := hid (hWm.trans (hm3.mono fun _ _ h => h.elim))
 have HB3 := hid (qKl HB0.out hm3); clear hm3 hWm; go_wp2_with fail
 refine (qBy _ _ _ _ _ HB3.out (by rw [qAf]; have := qAs (n := l.length) (by omega); simp; omega) HM3.out.size).mono ?_
 rintro e w4 ⟨rfl, hb4, hbl4⟩; have HM4 := hid (HM3.out.trans (Mod.of_below hbl4)); have HB4 : Hid (Lib.IsBuilder 208 5 w.heap.size w.heap.size (Lib.byteCells (hdK l 0)) w4) := by
  rw [jHa]; rw [qHp] at hb4; exact hb4
 clear hb4 hbl4; go_wp2_with fail
 go_loopw [13] (fun c wr => ∃ k : Nat, k <= l.length /\ c = .int .i64 k /\ Lib.IsBuilder 208 5 w.heap.size w.heap.size (Lib.byteCells (hdK l k)) wr /\ Mod (fun j => w.heap.size <= j) w wr) (fun c _ => l.length - (intOf c).toNat)
 case atStart => exact ⟨0, Nat.zero_le _, rfl, HB4.out, HM4.out⟩
 case round =>
  obtain ⟨k, hk, rfl, hb, hm⟩ := hrel; have HB := hid hb; have HM := hid hm; clear hb hm; by_cases hlt : k < l.length
  ·obtain ⟨g, off, rfl⟩ := HO.out.some_lit (by omega)
   have hc := (HO.out.mod HM.out (fun j hj h => by have := HO.out.lt j hj; omega)).num hlt
   have hx := HN.out l[k] (List.getElem_mem hlt); have HS := hid (jHb l k hlt); generalize l[k] = x at *; go_wp2_with fail
   refine (qEm x wr (by omega)).mono ?_
   rintro e w5 ⟨rfl, hm5⟩; have HM5 := hid (HM.out.trans (hm5.mono fun _ _ h => h.elim))
   have HB5 := hid (qKl HB.out hm5); clear hm5 hc; go_wp2_with fail
   refine (qBy _ _ _ _ _ HB5.out (by rw [jDn, qAf]; have := qAs (n := x) (by omega); have := HL.out k; omega) HM5.out.size).mono ?_
   rintro e w6 ⟨rfl, hb6, hbl6⟩; have HM6 := hid (HM5.out.trans (Mod.of_below hbl6)); have HB6 : Hid (Lib.IsBuilder 208 5 w.heap.size w.heap.size (Lib.byteCells (hdK l (k + 1))) w6) := by
    rw [HS.out]; rw [qHp, <- jDo] at hb6; exact hb6
   clear hb6 hbl6; go_wp2_with fail
   go_roundw
   case rel => exact ⟨k + 1, by omega, by go_num, HB6.out, HM6.out⟩
   case measure => simp [intOf]; omega
  ·have hke : k = l.length := by omega
   subst hke; go_wp2_with fail
   refine (qHg _ _ _ _ HB.out HM.out.size).mono ?_; rintro e w5 ⟨rfl, hb5⟩; have HM5 := hid (HM.out.trans (Mod.of_below hb5)); clear hb5; go_wp2_with fail
   go_ret; rw [<- jCl]; exact ⟨rfl, (Mod.refl _ w).then HM5.out (fun i hi h => by omega)⟩
end
section
open Go Go.RowKit
def ruV (at' : Nat) (x : RU) : Value := if x.e = 0 then .tuple #[.int .u64 (x.v : Int), .int .i64 ((at' : Int) + (x.n : Int)), .int .i64 0] else .tuple #[.int .u64 0, .int .i64 0, .int .i64 (x.e : Int)]
theorem qVq {v x i : Nat} (hv : v < 128 ^ i) (hi : i <= 9) (hx : x < 128) (h9 : i = 9 -> x <= 1) : bits .or .u64 (v : Int) (IntKind.u64.wrap ((x : Int) * ((128 ^ i : Nat) : Int))) = ((v + 128 ^ i * x : Nat) : Int) := by
 have hp : 128 ^ i * x < 18446744073709551616 := by
  by_cases h : i = 9
  ·have := h9 h; subst h; have : 128 ^ 9 * x <= 128 ^ 9 * 1 := Nat.mul_le_mul_left _ this; have h2 : (128 : Nat) ^ 9 * 1 < 18446744073709551616 := by decide
   omega
  ·have h1 : 128 ^ i <= 128 ^ 8 := Nat.pow_le_pow_right (by omega) (by omega)
   have h2 : 128 ^ i * x <= 128 ^ 8 * 127 := Nat.mul_le_mul h1 (by omega)
   have h3 : (128 : Nat) ^ 8 * 127 < 18446744073709551616 := by decide
   omega
 have hv2 : v < 18446744073709551616 := by
  have h1 : 128 ^ i <= 128 ^ 9 := Nat.pow_le_pow_right (by omega) hi
  have h3 : (128 : Nat) ^ 9 < 18446744073709551616 := by decide
  omega
 have e1 : IntKind.u64.wrap ((x : Int) * ((128 ^ i : Nat) : Int)) = ((128 ^ i * x : Nat) : Int) := by
  rw [<- Int.natCast_mul, Nat.mul_comm, IntKind.wrap_u64]; omega
 rw [e1, bits_or_u64_nat _ _ hv2 hp]; congr 1
 rw [Nat.or_comm]; have e2 : (128 : Nat) ^ i = 2 ^ (7 * i) := by rw [show (128 : Nat) = 2 ^ 7 from rfl, <- Nat.pow_mul]
 rw [e2] at hv ⊢; rw [<- Nat.two_pow_add_eq_or_of_lt hv, Nat.add_comm]
theorem jEa (b : Nat) (h : b < 256) : bits .and .u8 (b : Int) 127 = ((b % 128 : Nat) : Int) := by
 have := bits_mask .u8 8 (by decide) wraps_u8 7 (by decide) (b : Int) (by omega) (by omega)
 rw [show (127 : Int) = 2 ^ 7 - 1 from rfl, this]
 rfl
theorem qLx {x : Nat} (h : x < 256) : IntKind.u64.wrap (x : Int) = (x : Int) := by rw [IntKind.wrap_u64]; omega
theorem jJa {v b i : Nat} (hv : v < 128 ^ i) (hi : i < 9) (hb : b < 256) : bits .or .u64 (v : Int) (IntKind.u64.wrap (IntKind.u64.wrap (bits .and .u8 (b : Int) 127) * 2 ^ (7 * i))) = ((v + 128 ^ i * (b % 128) : Nat) : Int) := by
 rw [jEa b hb, qLx (by omega)]
 have := qVq (x := b % 128) hv (by omega) (by omega) (by omega)
 rw [<- this]; congr 3
 rw [show (128 : Nat) ^ i = 2 ^ (7 * i) by rw [show (128 : Nat) = 2 ^ 7 from rfl, <- Nat.pow_mul]]
 simp
theorem jFu {v b : Nat} (hv : v < 128 ^ 9) (hb : b <= 1) : bits .or .u64 (v : Int) (IntKind.u64.wrap (IntKind.u64.wrap (bits .and .u8 (b : Int) 127) * 9223372036854775808)) = ((v + 128 ^ 9 * b : Nat) : Int) := by
 rw [jEa b (by omega), qLx (by omega)]
 have := qVq (x := b % 128) hv (by omega) (by omega) (by omega)
 rw [show b % 128 = b by omega] at this ⊢
 rw [<- this]; rfl
theorem jDz {at' v b i : Nat} {L : List UInt8} {x : RU} (hx : rdU 0 L = ahead v i x) (he : x = ⟨b, 1, 0⟩) : ruV at' (rdU 0 L) = .tuple #[.int .u64 ((v + 128 ^ i * b : Nat) : Int), .int .i64 ((at' : Int) + (i : Int) + 1), .int .i64 0] := by
 rw [hx, he]; unfold ahead ruV; simp only [if_true]; rw [Int.natCast_add i 1, <- Int.add_assoc]; rfl
theorem qQm {at' v i k : Nat} {L : List UInt8} {x : RU} (hx : rdU 0 L = ahead v i x) (he : x = ⟨0, 0, k⟩) (h0 : k ≠ 0) : ruV at' (rdU 0 L) = .tuple #[.int .u64 0, .int .i64 0, .int .i64 (k : Int)] := by
 rw [hx, he]; unfold ahead ruV; simp only [h0, if_false]
set_option maxRecDepth 100000
set_option maxHeartbeats 2000000 in
theorem qFg (s : ByteArray) (at' : Nat) (w : World) (hs : s.size <= maxLen) : Calls Tryz.prog 55 #[.string s, .int .i64 (at' : Int)] w fun e w' => e = .returned (ruV at' (rdU 0 (s.data.toList.drop at'))) /\ w = w' := by
 unfold maxLen at hs; by_cases hlt : at' < s.size
 ·have d1 : decide (s.size <= at') = false := by rw [decide_eq_false_iff_not]; omega
  go_enter Tryz.func55, Tryz.ntmps55
  go_wp2
  go_loop [18, 7] (fun c t => ∃ i v : Nat, i <= 9 /\ c = .int .i64 (i : Int) /\ t = .int .u64 (v : Int) /\ v < 128 ^ i /\ at' + i <= s.size /\ rdU 0 (s.data.toList.drop at') = ahead v i (rdU i (s.data.toList.drop (at' + i)))) (fun c _ => 10 - (intOf c).toNat)
  case atStart => exact ⟨0, 0, by omega, rfl, rfl, by simp, by omega, (qZc _ (jFj _ _)).symm⟩
  case round =>
   obtain ⟨i, v, hi, rfl, rfl, hv, hle, hfin⟩ := hrel; have HF := hid hfin; clear hfin; by_cases hend : at' + i = s.size
   ·have e1 : ((at' : Int) + (i : Int) == (s.size : Int)) = true := by rw [beq_iff_eq]; omega
    have HANS := hid (qQm (at' := at') (k := 20) HF.out (by rw [List.drop_eq_nil_of_le (by simp; exact Nat.le_of_eq hend.symm)]; exact qTc i) (by decide))
    clear hend; go_wp2_with fail
    refine bodyPost_ret (v := .tuple #[.int .u64 0, .int .i64 0, .int .i64 20]) (by simp [results, Tryz.results55, go_sem]) rfl ⟨congrArg Ending.returned HANS.out.symm, rfl⟩
   ·have e1 : ((at' : Int) + (i : Int) == (s.size : Int)) = false := by rw [beq_eq_false_iff_ne]; omega
    have hlt2 : at' + i < s.size := by omega
    have i1 : (at' : Int) + (i : Int) < (s.size : Int) := by omega
    have hb8 := s[at' + i].toNat_lt; have hdr : s.data.toList.drop (at' + i) = s[at' + i] :: s.data.toList.drop (at' + i + 1) := List.drop_eq_getElem_cons (by simpa using hlt2)
    have HD := hid hdr; clear hdr hend; by_cases h9 : i = 9
    ·subst h9; by_cases hbad : 1 < s[at' + 9].toNat
     ·have HANS := hid (qQm (at' := at') (k := 21) HF.out (by rw [HD.out]; exact qTd (.inl ⟨rfl, hbad⟩)) (by decide))
      go_wp2_with fail
      refine bodyPost_ret (v := .tuple #[.int .u64 0, .int .i64 0, .int .i64 21]) (by simp [results, Tryz.results55, go_sem]) rfl ⟨congrArg Ending.returned HANS.out.symm, rfl⟩
     ·by_cases hz : s[at' + 9].toNat = 0
      ·have HANS := hid (qQm (at' := at') (k := 21) HF.out (by rw [HD.out]; exact qTd (.inr ⟨by omega, hz⟩)) (by decide))
       have z : ((s[at' + 9].toNat : Int) == 0) = true := by rw [beq_iff_eq]; omega
       clear hz; go_wp2_with fail
       refine bodyPost_ret (v := .tuple #[.int .u64 0, .int .i64 0, .int .i64 21]) (by simp [results, Tryz.results55, go_sem]) rfl ⟨congrArg Ending.returned HANS.out.symm, rfl⟩
      ·have z : ((s[at' + 9].toNat : Int) == 0) = false := by rw [beq_eq_false_iff_ne]; omega
       have hb : s[at' + 9].toNat < 128 := by omega
       have HANS := hid (jDz (at' := at') HF.out (by rw [HD.out]; exact qMa (by omega) (by omega) (by omega) hb))
       have HO := hid (jFu (b := s[at' + 9].toNat) hv (by omega))
       go_wp2_with fail
       refine bodyPost_ret (v := .tuple #[.int .u64 (bits .or .u64 (v : Int) (IntKind.u64.wrap (IntKind.u64.wrap (bits .and .u8 (s[at' + 9].toNat : Int) 127) * 9223372036854775808))), .int .i64 ((at' : Int) + 9 + 1), .int .i64 0]) (by simp [results, Tryz.results55, go_sem]) rfl ⟨by rw [HANS.out, HO.out]; rfl, rfl⟩
    ·have hi9 : i < 9 := by omega
     by_cases hbad : 0 < i /\ s[at' + i].toNat = 0
     ·obtain ⟨h0, hz⟩ := hbad; have HANS := hid (qQm (at' := at') (k := 21) HF.out (by rw [HD.out]; exact qTd (.inr ⟨h0, hz⟩)) (by decide))
      have z : ((s[at' + i].toNat : Int) == 0) = true := by rw [beq_iff_eq]; omega
      clear hz; go_wp2_with fail
      refine bodyPost_ret (v := .tuple #[.int .u64 0, .int .i64 0, .int .i64 21]) (by simp [results, Tryz.results55, go_sem]) rfl ⟨congrArg Ending.returned HANS.out.symm, rfl⟩
     ·have HN2 := hid hbad; clear hbad; have HO := hid (jJa (b := s[at' + i].toNat) hv hi9 hb8); by_cases hb : s[at' + i].toNat < 128
      ·have HANS := hid (jDz (at' := at') HF.out (by rw [HD.out]; exact qMa (by omega) HN2.out (by omega) hb))
       have HM := hid (Nat.mod_eq_of_lt hb); by_cases h0 : 0 < i
       ·have z : ((s[at' + i].toNat : Int) == 0) = false := by rw [beq_eq_false_iff_ne]; have := HN2.out; omega
        go_wp2_with fail
        refine bodyPost_ret (v := .tuple #[.int .u64 (bits .or .u64 (v : Int) (IntKind.u64.wrap (IntKind.u64.wrap (bits .and .u8 (s[at' + i].toNat : Int) 127) * 2 ^ (7 * i)))), .int .i64 ((at' : Int) + (i : Int) + 1), .int .i64 0]) (by simp [results, Tryz.results55, go_sem]) rfl ⟨by rw [HANS.out, HO.out, HM.out], rfl⟩
       ·go_wp2_with fail
        refine bodyPost_ret (v := .tuple #[.int .u64 (bits .or .u64 (v : Int) (IntKind.u64.wrap (IntKind.u64.wrap (bits .and .u8 (s[at' + i].toNat : Int) 127) * 2 ^ (7 * i)))), .int .i64 ((at' : Int) + (i : Int) + 1), .int .i64 0]) (by simp [results, Tryz.results55, go_sem]) rfl ⟨by rw [HANS.out, HO.out, HM.out], rfl⟩
      ·have HNx : Hid (rdU 0 (s.data.toList.drop at') = ahead (v + 128 ^ i * (s[at' + i].toNat - 128)) (i + 1) (rdU (i + 1) (s.data.toList.drop (at' + (i + 1))))) := hid (by rw [HF.out, HD.out]; exact qZd hi9 hb)
       have HM : Hid (s[at' + i].toNat % 128 = s[at' + i].toNat - 128) := hid (by omega)
       have hv' : v + 128 ^ i * (s[at' + i].toNat - 128) < 128 ^ (i + 1) := by
        rw [Nat.pow_succ]; have : 128 ^ i * (s[at' + i].toNat - 128) <= 128 ^ i * 127 := Nat.mul_le_mul_left _ (by omega)
        omega
       have HV := hid hv'; clear hv'; by_cases h0 : 0 < i
       ·have z : ((s[at' + i].toNat : Int) == 0) = false := by rw [beq_eq_false_iff_ne]; omega
        go_wp2_with fail
        go_round
        case rel => exact ⟨i + 1, v + 128 ^ i * (s[at' + i].toNat - 128), by omega, by go_num, by rw [HO.out, HM.out], HV.out, by omega, HNx.out⟩
        case measure => simp [intOf]; omega
       ·go_wp2_with fail
        go_round
        case rel => exact ⟨i + 1, v + 128 ^ i * (s[at' + i].toNat - 128), by omega, by go_num, by rw [HO.out, HM.out], HV.out, by omega, HNx.out⟩
        case measure => simp [intOf]; omega
 ·have d1 : decide (s.size <= at') = true := by rw [decide_eq_true_iff]; omega
  have HANS : Hid (ruV at' (rdU 0 (s.data.toList.drop at')) = .tuple #[.int .u64 0, .int .i64 0, .int .i64 20]) := by
   rw [List.drop_eq_nil_of_le (by simp; exact Nat.le_of_not_lt hlt), qTc]; rfl
  go_enter Tryz.func55, Tryz.ntmps55
  go_wp2_with fail
  refine bodyPost_ret (v := .tuple #[.int .u64 0, .int .i64 0, .int .i64 20]) (by simp [results, Tryz.results55, go_sem]) rfl ⟨congrArg Ending.returned HANS.out.symm, rfl⟩
end
end Go.Proofs.YtkinkgbmlhiakaaGreatDoor
