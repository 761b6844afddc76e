/- Flow, plain: a step for each line that begins with step or wait -/
import Derived.Test.YtmkbbclbkpofoaaDoorFlRg
import Derived.Test.YtmkbbclbkpofoaaDoorFlFi
namespace Go.Proofs.YtmkbbclbkpofoaaDoor
open Go Go.RowKit

/-- The name of a line's step, by its fields. -/
def nameF (F : Fs) : List ByteArray :=
  match F with
  | a :: b :: _ => if (a.toList == wStep.toList) = true ∨ (a.toList == wWait.toList) = true then [b] else []
  | _ => []
theorem name_two (a b : ByteArray) (q : Fs) : nameF (a :: b :: q) = if (a.toList == wStep.toList) = true ∨ (a.toList == wWait.toList) = true then [b] else [] := rfl
def lineName (p : List UInt8) : List ByteArray := nameF (fieldsL p)

theorem pieces_snoc (c : UInt8) (b : UInt8) (hb : b ≠ c) : ∀ (A : List UInt8) (L : List (List UInt8)) (w : List UInt8), pieces c A = L ++ [w] → pieces c (A ++ [b]) = L ++ [w ++ [b]]
  | [], L, w, h => by
    have h1 : L = [] ∧ w = [] := by
      cases L with
      | nil => simp [pieces] at h; exact ⟨rfl, h⟩
      | cons x t => have := congrArg List.length h; simp [pieces] at this
    obtain ⟨rfl, rfl⟩ := h1
    simp [pieces, hb]
  | a :: t, L, w, h => by
    by_cases ha : a = c
    · subst ha
      rw [pieces, if_pos rfl] at h
      rw [List.cons_append, pieces, if_pos rfl]
      cases L with
      | nil =>
        have := congrArg List.tail h
        simp at this
        exact absurd this (pieces_ne a t)
      | cons x L' =>
        simp only [List.cons_append, List.cons.injEq] at h
        rw [pieces_snoc a b hb t L' w h.2, ← h.1]
        rfl
    · rw [pieces, if_neg ha] at h
      rw [List.cons_append, pieces, if_neg ha]
      cases hp : pieces c t with
      | nil => exact absurd hp (pieces_ne c t)
      | cons p ps =>
        rw [hp] at h
        cases L with
        | nil =>
          simp only [List.nil_append, List.cons.injEq] at h
          obtain ⟨h1, h2⟩ := h
          subst h2
          rw [pieces_snoc c b hb t [] p (by rw [hp]; rfl)]
          rw [← h1]
          rfl
        | cons x L' =>
          simp only [List.cons_append, List.cons.injEq] at h
          obtain ⟨h1, h2⟩ := h
          rw [pieces_snoc c b hb t (p :: L') w (by rw [hp, h2]; rfl)]
          rw [← h1]
          rfl

/-- Where the reading of the bytes stands. -/
structure Tok (A : List UInt8) (Ls : List (List UInt8)) (cur : List UInt8) (Ws : List (List UInt8)) (w : List UInt8) : Prop where
  lines : pieces 10 A = Ls ++ [cur]
  words : pieces 32 cur = Ws ++ [w]
def fld (Ws : List (List UInt8)) : Fs := (Ws.filter (fun p => !p.isEmpty)).map ba

theorem tok_zero : Tok [] [] [] [] [] := ⟨rfl, rfl⟩
theorem Tok.byte {A : List UInt8} {Ls : List (List UInt8)} {cur : List UInt8} {Ws : List (List UInt8)} {w : List UInt8} (h : Tok A Ls cur Ws w) {b : UInt8} (h1 : b ≠ 32) (h2 : b ≠ 10) : Tok (A ++ [b]) Ls (cur ++ [b]) Ws (w ++ [b]) :=
  ⟨pieces_snoc 10 b h2 A Ls cur h.lines, pieces_snoc 32 b h1 cur Ws w h.words⟩
theorem Tok.blank {A : List UInt8} {Ls : List (List UInt8)} {cur : List UInt8} {Ws : List (List UInt8)} {w : List UInt8} (h : Tok A Ls cur Ws w) : Tok (A ++ [32]) Ls (cur ++ [32]) (Ws ++ [w]) [] :=
  ⟨pieces_snoc 10 32 (by decide) A Ls cur h.lines, by rw [pieces_app, h.words]; rfl⟩
theorem Tok.line {A : List UInt8} {Ls : List (List UInt8)} {cur : List UInt8} {Ws : List (List UInt8)} {w : List UInt8} (h : Tok A Ls cur Ws w) : Tok (A ++ [10]) (Ls ++ [cur]) [] [] [] :=
  ⟨by rw [pieces_app, h.lines]; rfl, rfl⟩
theorem Tok.fields {A : List UInt8} {Ls : List (List UInt8)} {cur : List UInt8} {Ws : List (List UInt8)} {w : List UInt8} (h : Tok A Ls cur Ws w) : fieldsL cur = fld (Ws ++ [w]) := by unfold fieldsL fld; rw [h.words]
theorem fld_some {Ws : List (List UInt8)} {w : List UInt8} (h : w.isEmpty = false) : fld (Ws ++ [w]) = fld Ws ++ [ba w] := by unfold fld; rw [List.filter_append, List.map_append]; simp [h]
theorem fld_none {Ws : List (List UInt8)} {w : List UInt8} (h : w.isEmpty = true) : fld (Ws ++ [w]) = fld Ws := by unfold fld; rw [List.filter_append, List.map_append]; simp [h]
theorem Tok.names {A : List UInt8} {Ls : List (List UInt8)} {cur : List UInt8} {Ws : List (List UInt8)} {w : List UInt8} (h : Tok A Ls cur Ws w) : (pieces 10 A).flatMap lineName = Ls.flatMap lineName ++ nameF (fld (Ws ++ [w])) := by
  rw [h.lines, List.flatMap_append, ← h.fields]; simp [lineName]

/-- What a step that was read is. -/
structure Named (s : Sp) : Prop where
  word : wordS s.name = true
  one : (!s.event.toList.isEmpty) = s.verb.toList.isEmpty

theorem verb_some {s : ByteArray} (h : verbS s = true) : s.toList.isEmpty = false := by
  unfold verbS at h
  rw [ByteArray.toList_eq]
  cases hl : s.data.toList with
  | nil => rw [hl] at h; cases h
  | cons _ _ => rfl

theorem step_name {fs : Fs} {s : Sp} {r : Fs} (h : stepP fs = .ok s r) : Named s ∧ ∃ q, fs = s.name :: q := by
  unfold stepP at h
  obtain ⟨n, q1, hn, h⟩ := bind_inv h
  obtain ⟨v, q2, hv, h⟩ := bind_inv h
  obtain ⟨u, q3, _, h⟩ := bind_inv h
  obtain ⟨t, q4, _, h⟩ := bind_inv h
  obtain ⟨a, q5, _, h⟩ := bind_inv h
  cases h
  obtain ⟨h1, h2⟩ := next_inv hn
  obtain ⟨_, h3⟩ := next_inv hv
  exact ⟨⟨h2, by rw [verb_some h3, emp_empty]; rfl⟩, q1, h1⟩
theorem wait_name {fs : Fs} {s : Sp} {r : Fs} (h : waitP fs = .ok s r) : Named s ∧ ∃ q, fs = s.name :: q := by
  unfold waitP at h
  obtain ⟨n, q1, hn, h⟩ := bind_inv h
  obtain ⟨v, q2, hv, h⟩ := bind_inv h
  obtain ⟨k, q3, _, h⟩ := bind_inv h
  obtain ⟨t, q4, _, h⟩ := bind_inv h
  obtain ⟨a, q5, _, h⟩ := bind_inv h
  cases h
  obtain ⟨h1, h2⟩ := next_inv hn
  obtain ⟨_, h3⟩ := next_inv hv
  exact ⟨⟨h2, by rw [word_some h3, emp_empty]; rfl⟩, q1, h1⟩

theorem has_cons {k : ByteArray} {fs : Fs} (h : hasB k fs = true) : ∃ a q, fs = a :: q ∧ (a.toList == k.toList) = true := by
  cases fs with
  | nil => cases h
  | cons a q => exact ⟨a, q, rfl, h⟩
theorem name_skip {fs : Fs} (h : skipF fs = true) : nameF fs = [] := by
  match fs, h with
  | [], _ => rfl
  | [_], _ => rfl
  | a :: b :: q, h =>
    rw [name_two]
    have h1 : (a.toList == wStep.toList) = false := by
      rw [beq_eq_false_iff_ne]
      intro e
      have e2 : a.data.toList = wStep.data.toList := by rw [← ByteArray.toList_eq, ← ByteArray.toList_eq]; exact e
      have h' : (a.data.toList.head? == some 35) = true := h
      rw [e2] at h'
      cases h'
    have h2 : (a.toList == wWait.toList) = false := by
      rw [beq_eq_false_iff_ne]
      intro e
      have e2 : a.data.toList = wWait.data.toList := by rw [← ByteArray.toList_eq, ← ByteArray.toList_eq]; exact e
      have h' : (a.data.toList.head? == some 35) = true := h
      rw [e2] at h'
      cases h'
    simp only [h1, h2]
    rfl
theorem flow_else {a : ByteArray} (h : (a.toList == wFlow.toList) = true) : (a.toList == wStep.toList) = false ∧ (a.toList == wWait.toList) = false := by
  have e := beq_iff_eq.1 h
  rw [e]
  constructor
  · rw [ByteArray.toList_eq, ByteArray.toList_eq]; rfl
  · rw [ByteArray.toList_eq, ByteArray.toList_eq]; rfl

/-- What a line that was read adds. -/
theorem read_name {d d' : Df} {fs r : Fs} (h : readP d fs = .ok d' r) : d'.steps.map Sp.name = d.steps.map Sp.name ++ nameF fs ∧ ((∀ s ∈ d.steps, Named s) → ∀ s ∈ d'.steps, Named s) ∧ ((d.name.toList.isEmpty = true ∨ wordS d.name = true) → wordS d'.name = true) := by
  rcases read_inv h with ⟨_, n, q, h1, _, hf, hw, rfl⟩ | ⟨hn, _, s, rfl, hs⟩
  · obtain ⟨a, q2, rfl, ha⟩ := has_cons hf
    obtain ⟨e1, e2⟩ := flow_else ha
    simp only [List.drop_one, List.tail_cons] at h1
    subst h1
    refine ⟨?_, fun hh => hh, fun _ => hw⟩
    rw [name_two]
    simp [e1, e2]
  · have key : Named s ∧ nameF fs = [s.name] := by
      rcases hs with ⟨hs, hp⟩ | ⟨_, hs, hp⟩
      · obtain ⟨a, q2, rfl, ha⟩ := has_cons hs
        obtain ⟨h1, q3, h2⟩ := step_name hp
        simp only [List.drop_one, List.tail_cons] at h2
        subst h2
        exact ⟨h1, by rw [name_two, if_pos (.inl ha)]⟩
      · obtain ⟨a, q2, rfl, ha⟩ := has_cons hs
        obtain ⟨h1, q3, h2⟩ := wait_name hp
        simp only [List.drop_one, List.tail_cons] at h2
        subst h2
        exact ⟨h1, by rw [name_two, if_pos (.inr ha)]⟩
    refine ⟨by rw [key.2]; simp, fun hh x hx => ?_, fun hd => ?_⟩
    · rcases List.mem_append.1 hx with hx | hx
      · exact hh x hx
      · rw [List.mem_singleton] at hx; subst hx; exact key.1
    · rcases hd with hd | hd
      · rw [hn] at hd; cases hd
      · exact hd

/-- No fault is 0. -/
def Bad {α : Type} (x : Rs α) : Prop := ∀ e, x = .bad e → e ≠ 0
theorem bad_ok {α : Type} (v : α) (r : Fs) : Bad (Rs.ok v r) := fun _ h => by cases h
theorem bad_is {α : Type} {n : Int} (h : n ≠ 0) : Bad (Rs.bad n : Rs α) := fun _ e => by cases e; exact h
theorem bad_bind {α β : Type} {x : Rs α} {f : α → Fs → Rs β} (h : Bad x) (hf : ∀ v r, Bad (f v r)) : Bad (x.bind f) := by
  cases x with
  | ok v r => exact hf v r
  | bad n => exact fun e he => by cases he; exact h n rfl
theorem bad_next {p : ByteArray → Bool} {n : Int} (hn : n ≠ 0) (fs : Fs) : Bad (nextP p n fs) := by
  cases fs with
  | nil => exact bad_is hn
  | cons s r =>
    cases hp : p s with
    | true => rw [next_ok hp]; exact bad_ok _ _
    | false => rw [next_bad hp]; exact bad_is hn
theorem bad_num {a b : Int} (fs : Fs) : Bad (numP a b fs) := by
  cases fs with
  | nil => exact bad_is (by decide)
  | cons s r =>
    cases hp : numS a b s with
    | some n => rw [num_ok hp]; exact bad_ok _ _
    | none => rw [num_bad hp]; exact bad_is (by decide)
theorem bad_after (fs : Fs) : Bad (afterP fs) := by
  unfold afterP
  split
  · split
    · exact bad_is (by decide)
    · split
      · exact bad_ok _ _
      · exact bad_is (by decide)
  · exact bad_ok _ _
theorem bad_end {α : Type} (v : α) (r : Fs) : Bad (endP v r) := by
  unfold endP
  split
  · exact bad_ok _ _
  · exact bad_is (by decide)
theorem bad_undo (fs : Fs) : Bad (undoP fs) := by
  unfold undoP
  split
  · exact bad_bind (bad_next (by decide) _) (fun _ _ => bad_ok _ _)
  · exact bad_ok _ _
theorem bad_retry (fs : Fs) : Bad (retryP fs) := by
  unfold retryP
  split
  · exact bad_bind (bad_num _) (fun _ _ => bad_bind (bad_next (by decide) _) (fun _ _ => bad_bind (bad_num _) (fun _ _ => bad_ok _ _)))
  · exact bad_ok _ _
theorem bad_step (fs : Fs) : Bad (stepP fs) :=
  bad_bind (bad_next (by decide) _) (fun _ _ => bad_bind (bad_next (by decide) _) (fun _ _ => bad_bind (bad_undo _) (fun _ _ => bad_bind (bad_retry _) (fun _ _ => bad_bind (bad_after _) (fun _ _ => bad_ok _ _)))))
theorem bad_wait (fs : Fs) : Bad (waitP fs) :=
  bad_bind (bad_next (by decide) _) (fun _ _ => bad_bind (bad_next (by decide) _) (fun _ _ => bad_bind (bad_next (by decide) _) (fun _ _ => bad_bind (bad_num _) (fun _ _ => bad_bind (bad_after _) (fun _ _ => bad_ok _ _)))))
theorem bad_read (d : Df) (fs : Fs) : Bad (readP d fs) := by
  unfold readP
  split
  · split
    · exact bad_bind (bad_next (by decide) _) (fun _ _ => bad_end _ _)
    · exact bad_is (by decide)
  · split
    · split
      · exact bad_bind (bad_step _) (fun _ _ => bad_end _ _)
      · exact bad_is (by decide)
    · split
      · split
        · exact bad_bind (bad_wait _) (fun _ _ => bad_end _ _)
        · exact bad_is (by decide)
      · exact bad_is (by decide)

theorem go_names : ∀ (ls : List (List UInt8)) (i : Nat) (d x : Df) (n : Int), goL ls i d = (x, n, 0) → (∀ s ∈ d.steps, Named s) → (d.name.toList.isEmpty = true ∨ wordS d.name = true) →
    x.steps.map Sp.name = d.steps.map Sp.name ++ ls.flatMap lineName ∧ (∀ s ∈ x.steps, Named s) ∧ wordS x.name = true
  | [], i, d, x, n, h, hs, hn => by
    unfold goL at h
    split at h
    · cases h
    · next he =>
      cases h
      refine ⟨by simp, hs, ?_⟩
      rcases hn with hn | hn
      · exact absurd hn he
      · exact hn
  | l :: ls, i, d, x, n, h, hs, hn => by
    rw [goL] at h
    split at h
    · next hk =>
      obtain ⟨h1, h2, h3⟩ := go_names ls (i + 1) d x n h hs hn
      refine ⟨by rw [h1, List.flatMap_cons]; unfold lineName; rw [name_skip hk]; rfl, h2, h3⟩
    · split at h
      · next d' r hr =>
        obtain ⟨e1, e2, e3⟩ := read_name hr
        obtain ⟨h1, h2, h3⟩ := go_names ls (i + 1) d' x n h (e2 hs) (.inr (e3 hn))
        refine ⟨by rw [h1, e1, List.flatMap_cons, List.append_assoc]; rfl, h2, h3⟩
      · next e hr =>
        cases h
        exact absurd rfl (bad_read _ _ _ hr)

theorem parse_names {t : ByteArray} {x : Df} {n : Int} (h : parseL t = (x, n, 0)) : t.size ≤ 2048 ∧ x.steps.map Sp.name = (pieces 10 t.data.toList).flatMap lineName ∧ (∀ s ∈ x.steps, Named s) ∧ wordS x.name = true := by
  unfold parseL at h
  split at h
  · cases h
  · next hb =>
    obtain ⟨h1, h2, h3⟩ := go_names _ _ _ _ _ h (fun s hs => (List.not_mem_nil hs).elim) (.inl emp_empty)
    exact ⟨by omega, by rw [h1]; rfl, h2, h3⟩

end Go.Proofs.YtmkbbclbkpofoaaDoor
