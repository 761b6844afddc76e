/- Flow, plain: the numbers of what was read are in their ranges -/
import Derived.Test.YtmkbbclbkpofoaaDoorFlL
namespace Go.Proofs.YtmkbbclbkpofoaaDoor
open Go Go.RowKit

/-- A step's numbers are in their ranges, and what must be there is. -/
structure Ranged (s : Sp) : Prop where
  r0 : 0 ≤ s.retry
  r1 : s.retry ≤ 5
  e0 : 0 ≤ s.every
  e1 : s.every ≤ 100
  er : s.every = 0 → s.retry = 0
  uf : s.undo.toList.isEmpty = false → s.final = false
  w0 : s.event.toList.isEmpty = true → s.within = 0
  w1 : s.event.toList.isEmpty = false → 1 ≤ s.within ∧ s.within ≤ 100 ∧ s.undo.toList.isEmpty = true ∧ s.final = false ∧ s.every = 0
  aw : ∀ a ∈ s.after, wordS a = true

theorem emp_empty : emp.toList.isEmpty = true := by rw [ByteArray.toList_eq]; rfl
theorem word_some {s : ByteArray} (h : wordS s = true) : s.toList.isEmpty = false := by
  unfold wordS wordL at h
  rw [ByteArray.toList_eq]
  cases hl : s.data.toList with
  | nil => rw [hl] at h; cases h
  | cons _ _ => rfl
theorem bind_inv {α β : Type} {x : Rs α} {f : α → Fs → Rs β} {v : β} {r : Fs} (h : x.bind f = .ok v r) : ∃ u q, x = .ok u q ∧ f u q = .ok v r := by
  cases x with
  | ok u q => exact ⟨u, q, rfl, h⟩
  | bad e => cases h
theorem next_inv {p : ByteArray → Bool} {e : Int} {fs : Fs} {v : ByteArray} {r : Fs} (h : nextP p e fs = .ok v r) : fs = v :: r ∧ p v = true := by
  cases fs with
  | nil => cases h
  | cons s t =>
    cases hp : p s with
    | true => rw [next_ok hp] at h; cases h; exact ⟨rfl, hp⟩
    | false => rw [next_bad hp] at h; cases h
theorem num_inv {a b : Int} {fs : Fs} {v : Int} {r : Fs} (h : numP a b fs = .ok v r) : ∃ s, fs = s :: r ∧ numS a b s = some v := by
  cases fs with
  | nil => cases h
  | cons s t =>
    cases hn : numS a b s with
    | some n => rw [num_ok hn] at h; cases h; exact ⟨s, rfl, hn⟩
    | none => rw [num_bad hn] at h; cases h
theorem after_inv {fs : Fs} {l : List ByteArray} {r : Fs} (h : afterP fs = .ok l r) : ∀ a ∈ l, wordS a = true := by
  unfold afterP at h
  split at h
  · split at h
    · cases h
    · split at h
      · next ha => cases h; exact List.all_eq_true.1 ha
      · cases h
  · cases h
    exact fun a ha => (List.not_mem_nil ha).elim
theorem undo_inv {fs : Fs} {u : ByteArray × Bool} {r : Fs} (h : undoP fs = .ok u r) : u.1.toList.isEmpty = false → u.2 = false := by
  unfold undoP at h
  split at h
  · obtain ⟨v, q, _, h2⟩ := bind_inv h
    cases h2
    exact fun _ => rfl
  · cases h
    intro hh
    rw [emp_empty] at hh
    cases hh
theorem retry_inv {fs : Fs} {t : Int × Int} {r : Fs} (h : retryP fs = .ok t r) : 0 ≤ t.1 ∧ t.1 ≤ 5 ∧ 0 ≤ t.2 ∧ t.2 ≤ 100 ∧ (t.2 = 0 → t.1 = 0) := by
  unfold retryP at h
  split at h
  · obtain ⟨a, q, h1, h2⟩ := bind_inv h
    obtain ⟨_, q2, _, h3⟩ := bind_inv h2
    obtain ⟨b, q3, h4, h5⟩ := bind_inv h3
    cases h5
    obtain ⟨s1, _, n1⟩ := num_inv h1
    obtain ⟨s2, _, n2⟩ := num_inv h4
    have := num_range n1
    have := num_range n2
    simp only
    omega
  · cases h
    decide
theorem step_ranged {fs : Fs} {s : Sp} {r : Fs} (h : stepP fs = .ok s r) : Ranged s := by
  unfold stepP at h
  obtain ⟨n, q1, _, h⟩ := bind_inv h
  obtain ⟨v, q2, _, h⟩ := bind_inv h
  obtain ⟨u, q3, hu, h⟩ := bind_inv h
  obtain ⟨t, q4, ht, h⟩ := bind_inv h
  obtain ⟨a, q5, ha, h⟩ := bind_inv h
  cases h
  obtain ⟨t0, t1, t2, t3, t4⟩ := retry_inv ht
  exact ⟨t0, t1, t2, t3, t4, undo_inv hu, fun _ => rfl, fun hh => (by rw [emp_empty] at hh; cases hh), after_inv ha⟩
theorem wait_ranged {fs : Fs} {s : Sp} {r : Fs} (h : waitP fs = .ok s r) : Ranged s := by
  unfold waitP at h
  obtain ⟨n, q1, _, h⟩ := bind_inv h
  obtain ⟨v, q2, hv, h⟩ := bind_inv h
  obtain ⟨k, q3, _, h⟩ := bind_inv h
  obtain ⟨t, q4, ht, h⟩ := bind_inv h
  obtain ⟨a, q5, ha, h⟩ := bind_inv h
  cases h
  obtain ⟨s1, _, n1⟩ := num_inv ht
  have h1 := num_range n1
  have hw := word_some (next_inv hv).2
  exact ⟨Int.le_refl 0, (by decide : (0 : Int) ≤ 5), Int.le_refl 0, (by decide : (0 : Int) ≤ 100), fun _ => rfl, fun _ => rfl, fun hh => (by rw [hw] at hh; cases hh), fun _ => ⟨h1.1, h1.2, emp_empty, rfl, rfl⟩, after_inv ha⟩
theorem end_inv {α : Type} {v u : α} {r q : Fs} (h : endP v r = .ok u q) : u = v ∧ r = [] := by
  unfold endP at h
  split at h
  · next hr => cases h; exact ⟨rfl, hr⟩
  · cases h

/-- What a line that was read has done. -/
theorem read_inv {d d' : Df} {fs r : Fs} (h : readP d fs = .ok d' r) :
    (d.name.toList.isEmpty = true ∧ ∃ n q, fs.drop 1 = [n] ∧ q = [n] ∧ hasB wFlow fs = true ∧ wordS n = true ∧ d' = ⟨n, d.steps⟩) ∨
    (d.name.toList.isEmpty = false ∧ d.steps.length < 8 ∧ ∃ s, d' = ⟨d.name, d.steps ++ [s]⟩ ∧ ((hasB wStep fs = true ∧ stepP (fs.drop 1) = .ok s []) ∨ (hasB wStep fs = false ∧ hasB wWait fs = true ∧ waitP (fs.drop 1) = .ok s []))) := by
  unfold readP at h
  split at h
  · next hn =>
    split at h
    · next hf =>
      obtain ⟨n, q, h1, h2⟩ := bind_inv h
      obtain ⟨rfl, rfl⟩ := end_inv h2
      obtain ⟨h3, h4⟩ := next_inv h1
      exact .inl ⟨hn, n, [n], h3, rfl, hf, h4, rfl⟩
    · cases h
  · next hn =>
    have hn' : d.name.toList.isEmpty = false := Bool.eq_false_iff.2 hn
    split at h
    · next hs =>
      split at h
      · next hl =>
        obtain ⟨s, q, h1, h2⟩ := bind_inv h
        obtain ⟨rfl, rfl⟩ := end_inv h2
        exact .inr ⟨hn', hl, s, rfl, .inl ⟨hs, h1⟩⟩
      · cases h
    · next hs =>
      have hs' : hasB wStep fs = false := Bool.eq_false_iff.2 hs
      split at h
      · next hw =>
        split at h
        · next hl =>
          obtain ⟨s, q, h1, h2⟩ := bind_inv h
          obtain ⟨rfl, rfl⟩ := end_inv h2
          exact .inr ⟨hn', hl, s, rfl, .inr ⟨hs', hw, h1⟩⟩
        · cases h
      · cases h

theorem go_ranged : ∀ (ls : List (List UInt8)) (i : Nat) (d : Df), (∀ s ∈ d.steps, Ranged s) → ∀ s ∈ (goL ls i d).1.steps, Ranged s
  | [], i, d, h => by
    unfold goL
    split
    · exact fun s hs => (List.not_mem_nil hs).elim
    · exact h
  | l :: ls, i, d, h => by
    unfold goL
    split
    · exact go_ranged ls (i + 1) d h
    · split
      · next d' r hr =>
        refine go_ranged ls (i + 1) d' ?_
        rcases read_inv hr with ⟨_, n, q, _, _, _, _, rfl⟩ | ⟨_, _, s, rfl, ⟨_, hs⟩ | ⟨_, _, hs⟩⟩
        · exact h
        · intro x hx
          rcases List.mem_append.1 hx with hx | hx
          · exact h x hx
          · rw [List.mem_singleton] at hx; subst hx; exact step_ranged hs
        · intro x hx
          rcases List.mem_append.1 hx with hx | hx
          · exact h x hx
          · rw [List.mem_singleton] at hx; subst hx; exact wait_ranged hs
      · exact fun s hs => (List.not_mem_nil hs).elim

theorem parse_ranged (t : ByteArray) : ∀ s ∈ (parseL t).1.steps, Ranged s := by
  unfold parseL
  split
  · exact fun s hs => (List.not_mem_nil hs).elim
  · exact go_ranged _ _ _ (fun s hs => (List.not_mem_nil hs).elim)

end Go.Proofs.YtmkbbclbkpofoaaDoor
