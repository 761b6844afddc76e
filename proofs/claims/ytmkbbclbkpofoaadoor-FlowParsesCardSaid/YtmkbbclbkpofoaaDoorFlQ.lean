/- Flow, plain: the document's way of reading a line is the program's. No program is named. -/
import Derived.Test.YtmkbbclbkpofoaaDoorFlS
namespace Go.Proofs.YtmkbbclbkpofoaaDoor
open Go Go.RowKit

/-- A line under way: the fields that are left, or its first fault. -/
inductive LS where
  | good (r : Fs)
  | bad (e : Int)

def runQ {α : Type} (p : Fs → Rs α) (z : α) : LS → α × LS
  | .bad e => (z, .bad e)
  | .good r =>
    match p r with
    | .ok v r' => (v, .good r')
    | .bad e => (z, .bad e)
def hasQ (k : ByteArray) : LS → Bool × LS
  | .bad e => (false, .bad e)
  | .good r => (hasB k r, .good (hasR k r))

/-- A number's digits. -/
def digB (b : UInt8) : Bool := decide (48 ≤ b.toNat) && decide (b.toNat ≤ 57)
def accN (l : List UInt8) : Nat := l.foldl (fun n b => n * 10 + (b.toNat - 48)) 0
def formN (l : List UInt8) : Bool := l.all digB && decide (l.length ≤ 4) && !(l.head? == some 48 && decide (1 < l.length))
def okN (l : List UInt8) : Bool :=
  match Lib.atoiAll l with
  | .ok n => decide (n = (accN l : Int)) && (Lib.itoa n == l)
  | _ => false
theorem ok1 : ∀ i : Fin 10, okN [UInt8.ofNat (48 + i.val)] = true := by decide +kernel
theorem ok2 : ∀ i j : Fin 10, (decide (i.val = 0) || okN [UInt8.ofNat (48 + i.val), UInt8.ofNat (48 + j.val)]) = true := by decide +kernel
theorem ok3 : okN [49, 48, 48] = true := by decide +kernel
theorem ok4 : ∀ i : Fin 101, (formN (Lib.itoa (i.val : Int)) && decide (accN (Lib.itoa (i.val : Int)) = i.val)) = true := by decide +kernel
theorem dig_of {b : UInt8} (h : digB b = true) : ∃ i : Fin 10, b = UInt8.ofNat (48 + i.val) ∧ b.toNat = 48 + i.val := by
  unfold digB at h
  simp only [Bool.and_eq_true, decide_eq_true_eq] at h
  have h1 : 48 + (b.toNat - 48) = b.toNat := by omega
  refine ⟨⟨b.toNat - 48, by omega⟩, ?_, by simp only; omega⟩
  simp only [h1]
  exact (UInt8.ofNat_toNat).symm

theorem form_ok {l : List UInt8} (hne : l ≠ []) (hf : formN l = true) (hb : accN l ≤ 100) : okN l = true := by
  unfold formN at hf
  simp only [Bool.and_eq_true, decide_eq_true_eq, Bool.not_eq_true', Bool.and_eq_false_iff, decide_eq_false_iff_not, beq_eq_false_iff_ne] at hf
  obtain ⟨⟨ha, hl⟩, hz⟩ := hf
  match l, hne, ha, hl, hz, hb with
  | [a], _, ha, _, _, _ =>
    simp only [List.all_cons, List.all_nil, Bool.and_true] at ha
    obtain ⟨i, rfl, _⟩ := dig_of ha
    exact ok1 i
  | [a, b], _, ha, _, hz, _ =>
    simp only [List.all_cons, List.all_nil, Bool.and_true, Bool.and_eq_true] at ha
    obtain ⟨i, hi, hin⟩ := dig_of ha.1
    obtain ⟨j, hj, _⟩ := dig_of ha.2
    have h := ok2 i j
    rw [← hi, ← hj] at h
    have h0 : decide (i.val = 0) = false := decide_eq_false (fun e => by
      rcases hz with hz | hz
      · refine hz ?_
        rw [hi, e]
        rfl
      · simp at hz)
    rw [h0, Bool.false_or] at h
    exact h
  | [a, b, c], _, ha, _, hz, hb =>
    simp only [List.all_cons, List.all_nil, Bool.and_true, Bool.and_eq_true] at ha
    obtain ⟨i, hi, hin⟩ := dig_of ha.1
    obtain ⟨j, hj, hjn⟩ := dig_of ha.2.1
    obtain ⟨k, hk, hkn⟩ := dig_of ha.2.2
    have h0 : i.val ≠ 0 := fun e => by
      rcases hz with hz | hz
      · refine hz ?_
        rw [hi, e]
        rfl
      · simp at hz
    simp only [accN, List.foldl_cons, List.foldl_nil] at hb
    have e1 : i.val = 1 := by omega
    have e2 : j.val = 0 := by omega
    have e3 : k.val = 0 := by omega
    rw [hi, hj, hk, e1, e2, e3]
    exact ok3
  | [a, b, c, d], _, ha, _, hz, hb =>
    simp only [List.all_cons, List.all_nil, Bool.and_true, Bool.and_eq_true] at ha
    obtain ⟨i, hi, hin⟩ := dig_of ha.1
    obtain ⟨j, hj, hjn⟩ := dig_of ha.2.1
    obtain ⟨k, hk, hkn⟩ := dig_of ha.2.2.1
    obtain ⟨m, hm, hmn⟩ := dig_of ha.2.2.2
    have h0 : i.val ≠ 0 := fun e => by
      rcases hz with hz | hz
      · refine hz ?_
        rw [hi, e]
        rfl
      · simp at hz
    simp only [accN, List.foldl_cons, List.foldl_nil] at hb
    omega
  | _ :: _ :: _ :: _ :: _ :: _, _, _, hl, _, _ =>
    simp only [List.length_cons] at hl
    omega

/-- The document's number is the program's. -/
theorem num_doc {least most : Int} {s : ByteArray} (h1 : most ≤ 100) (hne : s.data.toList ≠ []) (hf : formN s.data.toList = true) (ha : least ≤ (accN s.data.toList : Int)) (hb : (accN s.data.toList : Int) ≤ most) : numS least most s = some (accN s.data.toList : Int) := by
  have h := form_ok hne hf (by omega)
  unfold okN at h
  unfold numS
  split at h
  · next n hn =>
    simp only [Bool.and_eq_true, decide_eq_true_eq, beq_iff_eq] at h
    obtain ⟨rfl, h2⟩ := h
    rw [hn]
    simp only
    rw [if_pos ⟨ha, hb, h2⟩]
  · cases h
theorem num_doc_none {least most : Int} {s : ByteArray} (h0 : 0 ≤ least) (h1 : most ≤ 100) (hf : ¬ (formN s.data.toList = true ∧ least ≤ (accN s.data.toList : Int) ∧ (accN s.data.toList : Int) ≤ most)) : numS least most s = none := by
  cases hn : numS least most s with
  | none => rfl
  | some n =>
    obtain ⟨r1, r2⟩ := num_range hn
    have hi : Lib.itoa n = s.data.toList := by
      unfold numS at hn
      split at hn
      · split at hn
        · next hh => cases hn; exact hh.2.2
        · cases hn
      · cases hn
    have h4 := ok4 ⟨n.toNat, by omega⟩
    have e : ((n.toNat : Nat) : Int) = n := Int.toNat_of_nonneg (by omega)
    simp only [e, Bool.and_eq_true, decide_eq_true_eq] at h4
    rw [hi] at h4
    exact (hf ⟨h4.1, by omega, by omega⟩).elim

theorem accN_snoc (l : List UInt8) (b : UInt8) : accN (l ++ [b]) = accN l * 10 + (b.toNat - 48) := by
  unfold accN
  rw [List.foldl_append]
  rfl

/-- Two words with a point between. -/
theorem verb_hit {s : ByteArray} {u v : List UInt8} (h : s.data.toList = u ++ 46 :: v) (hu : (46 : UInt8) ∉ u) : verbS s = (wordL u && wordL v) := by
  have hix : ∀ u : List UInt8, (46 : UInt8) ∉ u → Lib.index (u ++ 46 :: v) [46] = (u.length : Int) := by
    intro u
    induction u with
    | nil => intro _; rw [List.nil_append, Lib.index]; simp [List.isPrefixOf]
    | cons b t ih =>
      intro hu
      have hb : ¬ (46 : UInt8) = b := fun e => hu (by rw [e]; exact List.mem_cons_self)
      have ih := ih (fun hm => hu (List.mem_cons_of_mem _ hm))
      have hp : ([46] : List UInt8).isPrefixOf (b :: (t ++ 46 :: v)) = false := by simp [List.isPrefixOf, hb]
      have h1 : ¬ ((t.length : Int) == -1) = true := fun e => by have := beq_iff_eq.1 e; omega
      rw [List.cons_append, Lib.index, hp, ih]
      simp only [h1, List.length_cons]
      simp
  have hi := hix u hu
  have h2 : Lib.cut s.data.toList [46] = (u, v, true) := by
    unfold Lib.cut
    rw [h, hi]
    simp
  unfold verbS
  rw [h2]
  simp
theorem verb_miss {s : ByteArray} (h : (46 : UInt8) ∉ s.data.toList) : verbS s = false := by
  have hix : ∀ u : List UInt8, (46 : UInt8) ∉ u → Lib.index u [46] = -1 := by
    intro u
    induction u with
    | nil => intro _; simp [Lib.index]
    | cons b t ih =>
      intro hu
      have hb : ¬ (46 : UInt8) = b := fun e => hu (by rw [e]; exact List.mem_cons_self)
      have ih := ih (fun hm => hu (List.mem_cons_of_mem _ hm))
      have hp : ([46] : List UInt8).isPrefixOf (b :: t) = false := by simp [List.isPrefixOf, hb]
      rw [Lib.index, hp, ih]
      simp
  unfold verbS Lib.cut
  rw [hix _ h]
  simp

end Go.Proofs.YtmkbbclbkpofoaaDoor
