/- Flow, plain: the lines ahead of the first fault -/
import Derived.Test.YtmkbbclbkpofoaaDoorFlL
namespace Go.Proofs.YtmkbbclbkpofoaaDoor
open Go Go.RowKit

theorem pieces_app (c : UInt8) : ∀ (x y : List UInt8), pieces c (x ++ c :: y) = pieces c x ++ pieces c y
  | [], y => by simp [pieces]
  | b :: t, y => by
    have ih := pieces_app c t y
    by_cases h : b = c
    · subst h
      rw [List.cons_append, pieces, if_pos rfl, pieces, if_pos rfl, ih]
      rfl
    · rw [List.cons_append, pieces, if_neg h, pieces, if_neg h, ih]
      cases hp : pieces c t with
      | nil => exact absurd hp (pieces_ne c t)
      | cons p ps => rfl
theorem pieces_none (c : UInt8) : ∀ x : List UInt8, c ∉ x → pieces c x = [x]
  | [], _ => rfl
  | b :: t, h => by
    have h1 : b ≠ c := fun e => h (by rw [e]; exact List.mem_cons_self)
    rw [pieces, if_neg h1, pieces_none c t (fun hm => h (List.mem_cons_of_mem _ hm))]
theorem pieces_two (c : UInt8) : ∀ r : List UInt8, 2 ≤ (pieces c r).length → ∃ u v, r = u ++ c :: v ∧ c ∉ u
  | [], h => by simp [pieces] at h
  | b :: t, h => by
    by_cases hb : b = c
    · subst hb; exact ⟨[], t, rfl, List.not_mem_nil⟩
    · rw [pieces, if_neg hb] at h
      have h2 : 2 ≤ (pieces c t).length := by
        cases hp : pieces c t with
        | nil => exact absurd hp (pieces_ne c t)
        | cons p ps => rw [hp] at h; exact h
      obtain ⟨u, v, rfl, hu⟩ := pieces_two c t h2
      exact ⟨b :: u, v, rfl, fun hm => by rcases List.mem_cons.1 hm with e | e; exact hb e.symm; exact hu e⟩
theorem pieces_free (c : UInt8) : ∀ (l : List UInt8), ∀ p ∈ pieces c l, c ∉ p
  | [], p, hp => by simp [pieces] at hp; subst hp; exact List.not_mem_nil
  | b :: t, p, hp => by
    have ih := pieces_free c t
    by_cases hb : b = c
    · rw [pieces, if_pos hb] at hp
      rcases List.mem_cons.1 hp with rfl | hp
      · exact List.not_mem_nil
      · exact ih p hp
    · rw [pieces, if_neg hb] at hp
      cases hq : pieces c t with
      | nil => exact absurd hq (pieces_ne c t)
      | cons q qs =>
        rw [hq] at hp ih
        rcases List.mem_cons.1 hp with rfl | hp
        · intro hm
          rcases List.mem_cons.1 hm with e | e
          · exact hb e.symm
          · exact ih q List.mem_cons_self e
        · exact ih p (List.mem_cons_of_mem _ hp)

/-- Lines put behind one another. -/
def linesL (ps : List (List UInt8)) : List UInt8 := ps.flatMap (fun p => p ++ [10])
theorem pieces_lines : ∀ ps : List (List UInt8), (∀ p ∈ ps, (10 : UInt8) ∉ p) → pieces 10 (linesL ps) = ps ++ [[]]
  | [], _ => rfl
  | p :: ps, h => by
    have : linesL (p :: ps) = p ++ 10 :: linesL ps := by unfold linesL; rw [List.flatMap_cons, List.append_assoc]; rfl
    rw [this, pieces_app, pieces_none 10 p (h p List.mem_cons_self), pieces_lines ps (fun q hq => h q (List.mem_cons_of_mem _ hq))]
    rfl

/-- The place behind so many lines. -/
structure Cut (l : List UInt8) (n j : Nat) : Prop where
  le : n ≤ l.length
  pre : l.take n = linesL ((pieces 10 l).take j)
  post : pieces 10 (l.drop n) = (pieces 10 l).drop j

theorem cut_zero (l : List UInt8) : Cut l 0 0 := ⟨Nat.zero_le _, by rw [List.take_zero, List.take_zero]; rfl, by rw [List.drop_zero, List.drop_zero]⟩
theorem cut_next {l : List UInt8} {n j : Nat} (h : Cut l n j) (hj : j + 1 < (pieces 10 l).length) : ∃ z, (l.drop n)[z]? = some 10 ∧ (∀ q, q < z → ∀ b, (l.drop n)[q]? = some b → b ≠ 10) ∧ Cut l (n + z + 1) (j + 1) := by
  have h2 : 2 ≤ (pieces 10 (l.drop n)).length := by rw [h.post, List.length_drop]; omega
  obtain ⟨u, v, hr, hu⟩ := pieces_two 10 _ h2
  have hp := h.post
  rw [hr, pieces_app, pieces_none 10 u hu] at hp
  have hjl : j < (pieces 10 l).length := by omega
  rw [List.drop_eq_getElem_cons hjl] at hp
  have e1 : u = (pieces 10 l)[j] := by
    have := congrArg List.head? hp
    simp only [List.cons_append, List.nil_append, List.head?_cons, Option.some.injEq] at this
    exact this
  have e2 : pieces 10 v = (pieces 10 l).drop (j + 1) := by have := congrArg List.tail hp; simpa using this
  have hlen : l.length - n = u.length + (v.length + 1) := by have := congrArg List.length hr; simpa using this
  have hle := h.le
  refine ⟨u.length, by rw [hr, List.getElem?_append_right (Nat.le_refl _), Nat.sub_self]; rfl, fun q hq b hb => ?_, ⟨by omega, ?_, ?_⟩⟩
  · rw [hr, List.getElem?_append_left hq] at hb
    exact fun e => hu (e ▸ List.mem_of_getElem? hb)
  · have hl : l = l.take n ++ l.drop n := (List.take_append_drop n l).symm
    have ht : l.take (n + u.length + 1) = l.take n ++ (u ++ [10]) := by
      rw [show n + u.length + 1 = n + (u.length + 1) by omega, List.take_add, hr]
      congr 1
      rw [show u ++ 10 :: v = (u ++ [10]) ++ v by simp, List.take_append_of_le_length (by simp), List.take_of_length_le (by simp)]
    rw [ht, h.pre, List.take_succ_eq_append_getElem hjl, ← e1]
    unfold linesL
    rw [List.flatMap_append]
    simp
  · rw [← e2]
    have : l.drop (n + u.length + 1) = (l.drop n).drop (u.length + 1) := by rw [List.drop_drop, Nat.add_assoc]
    rw [this, hr, show u ++ 10 :: v = (u ++ [10]) ++ v by simp, List.drop_append_of_le_length (by simp), List.drop_of_length_le (by simp)]
    simp

theorem skip_nil : skipF (fieldsL []) = true := rfl
theorem goL_end : ∀ (ls : List (List UInt8)) (k : Nat) (d : Df), goL (ls ++ [[]]) k d = goL ls k d
  | [], k, d => by
    have h : goL [[]] k d = goL [] (k + 1) d := by conv => lhs; rw [goL, if_pos skip_nil]
    exact h
  | l :: ls, k, d => by
    rw [List.cons_append, goL, goL]
    split
    · exact goL_end ls (k + 1) d
    · split
      · exact goL_end ls (k + 1) _
      · rfl

/-- The lines ahead of the fault alone. -/
theorem goL_first : ∀ (ls : List (List UInt8)) (k : Nat) (d x : Df) (n e : Int), goL ls k d = (x, n, e) → n ≠ 0 → ∃ i, i < ls.length ∧ n = (k : Int) + i + 1 ∧ ∃ y f, goL (ls.take i) k d = (y, 0, f) ∧ (f = 0 ∨ f = 101)
  | [], k, d, x, n, e, h, hn => by
    unfold goL at h
    split at h <;> (cases h; exact absurd rfl hn)
  | l :: ls, k, d, x, n, e, h, hn => by
    rw [goL] at h
    split at h
    · next hs =>
      obtain ⟨i, h1, h2, y, f, h3, h4⟩ := goL_first ls (k + 1) d x n e h hn
      exact ⟨i + 1, by simp only [List.length_cons]; omega, by omega, y, f, by rw [List.take_succ_cons, goL, if_pos hs]; exact h3, h4⟩
    · next hs =>
      split at h
      · next d' r hr =>
        obtain ⟨i, h1, h2, y, f, h3, h4⟩ := goL_first ls (k + 1) d' x n e h hn
        exact ⟨i + 1, by simp only [List.length_cons]; omega, by omega, y, f, by rw [List.take_succ_cons, goL, if_neg hs, hr]; exact h3, h4⟩
      · next e' hr =>
        cases h
        refine ⟨0, Nat.succ_pos _, by omega, ?_⟩
        rw [List.take_zero]
        unfold goL
        split
        · exact ⟨_, _, rfl, .inr rfl⟩
        · exact ⟨_, _, rfl, .inl rfl⟩

theorem parse_first {t : ByteArray} {x : Df} {n e : Int} (h : parseL t = (x, n, e)) (hn : n ≠ 0) : t.size ≤ 2048 ∧ ∃ i : Nat, n = (i : Int) + 1 ∧ i < (pieces 10 t.data.toList).length ∧ ∀ q, Cut t.data.toList q i → ∀ s : ByteArray, s.data.toList = t.data.toList.take q → ∃ y f, parseL s = (y, 0, f) ∧ (f = 0 ∨ f = 101) := by
  unfold parseL at h
  split at h
  · cases h; exact absurd rfl hn
  · next hb =>
    obtain ⟨i, h1, h2, y, f, h3, h4⟩ := goL_first _ _ _ _ _ _ h hn
    refine ⟨by omega, i, by omega, h1, fun q hc s hs => ⟨y, f, ?_, h4⟩⟩
    have hsz : s.size ≤ t.size := by
      have e1 : s.data.toList.length = s.size := by simp
      have e2 : t.data.toList.length = t.size := by simp
      rw [hs, List.length_take] at e1
      omega
    unfold parseL
    rw [if_neg (by omega), hs, hc.pre, pieces_lines _ (fun p hp => pieces_free 10 _ p (List.mem_of_mem_take hp)), goL_end]
    exact h3

end Go.Proofs.YtmkbbclbkpofoaaDoor
