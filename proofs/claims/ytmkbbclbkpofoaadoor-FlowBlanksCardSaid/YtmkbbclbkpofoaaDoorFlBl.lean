/- Flow, plain: blanks, and lines that are passed over, change only the numbers of lines -/
import Derived.Test.YtmkbbclbkpofoaaDoorFlFi
namespace Go.Proofs.YtmkbbclbkpofoaaDoor
open Go Go.RowKit

def keep (p : List UInt8) : Bool := !p.isEmpty
theorem fields_eq (p : List UInt8) : fieldsL p = ((pieces 32 p).filter keep).map ba := rfl
def blanks (k : Nat) : List UInt8 := List.replicate k 32

theorem keep_pre (x : List UInt8) : ∀ k : Nat, (pieces 32 (blanks k ++ x)).filter keep = (pieces 32 x).filter keep
  | 0 => rfl
  | k + 1 => by
    have h : blanks (k + 1) ++ x = 32 :: (blanks k ++ x) := rfl
    rw [h, pieces, if_pos rfl, List.filter_cons_of_neg (by simp [keep])]
    exact keep_pre x k
theorem keep_blanks (k : Nat) : (pieces 32 (blanks k)).filter keep = [] := by
  have h := keep_pre [] k
  rw [List.append_nil] at h
  rw [h]
  rfl
theorem keep_post (x : List UInt8) (k : Nat) : (pieces 32 (x ++ blanks k)).filter keep = (pieces 32 x).filter keep := by
  cases k with
  | zero => rw [show blanks 0 = [] from rfl, List.append_nil]
  | succ k =>
    have h : x ++ blanks (k + 1) = x ++ 32 :: blanks k := rfl
    rw [h, pieces_app, List.filter_append, keep_blanks, List.append_nil]

/-- A line with each blank made k + 1 blanks. -/
def wideL (k : Nat) (p : List UInt8) : List UInt8 := p.flatMap fun b => if b = 32 then blanks (k + 1) else [b]
theorem wide_app (k : Nat) (x y : List UInt8) : wideL k (x ++ y) = wideL k x ++ wideL k y := by unfold wideL; rw [List.flatMap_append]
theorem wide_none (k : Nat) : ∀ x : List UInt8, (32 : UInt8) ∉ x → wideL k x = x
  | [], _ => rfl
  | b :: t, h => by
    have h1 : b ≠ 32 := fun e => h (by rw [e]; exact List.mem_cons_self)
    have h2 := wide_none k t (fun hm => h (List.mem_cons_of_mem _ hm))
    unfold wideL at h2 ⊢
    rw [List.flatMap_cons, if_neg h1, h2]
    rfl
theorem split_at (c : UInt8) : ∀ x : List UInt8, c ∉ x ∨ ∃ u v, x = u ++ c :: v ∧ c ∉ u
  | [] => .inl List.not_mem_nil
  | b :: t => by
    by_cases hb : b = c
    · subst hb; exact .inr ⟨[], t, rfl, List.not_mem_nil⟩
    · rcases split_at c t with h | ⟨u, v, rfl, hu⟩
      · exact .inl (fun hm => by rcases List.mem_cons.1 hm with e | e; exact hb e.symm; exact h e)
      · exact .inr ⟨b :: u, v, rfl, fun hm => by rcases List.mem_cons.1 hm with e | e; exact hb e.symm; exact hu e⟩
theorem keep_wide (k : Nat) : ∀ (n : Nat) (x : List UInt8), x.length ≤ n → (pieces 32 (wideL k x)).filter keep = (pieces 32 x).filter keep
  | 0, x, h => by
    have : x = [] := List.eq_nil_of_length_eq_zero (by omega)
    subst this
    rfl
  | n + 1, x, h => by
    rcases split_at 32 x with hx | ⟨u, v, rfl, hu⟩
    · rw [wide_none k x hx]
    · have h1 : wideL k (u ++ 32 :: v) = u ++ 32 :: (blanks k ++ wideL k v) := by
        rw [wide_app, wide_none k u hu]
        unfold wideL
        rw [List.flatMap_cons, if_pos rfl]
        rfl
      rw [h1, pieces_app, pieces_app, List.filter_append, List.filter_append, keep_pre, keep_wide k n v (by simp at h; omega)]
theorem fields_wide (k a b : Nat) (p : List UInt8) : fieldsL (blanks a ++ (wideL k p ++ blanks b)) = fieldsL p := by
  rw [fields_eq, keep_pre, keep_post, keep_wide k _ p (Nat.le_refl _), fields_eq]

/-- A text with each blank made k + 1 blanks, and each line's end two, with blanks about them. -/
def wideT (k : Nat) (t : List UInt8) : List UInt8 := t.flatMap fun b => if b = 32 then blanks (k + 1) else if b = 10 then blanks (k + 1) ++ [10, 10] ++ blanks (k + 1) else [b]
theorem wideT_app (k : Nat) (x y : List UInt8) : wideT k (x ++ y) = wideT k x ++ wideT k y := by unfold wideT; rw [List.flatMap_append]
theorem wideT_line (k : Nat) : ∀ x : List UInt8, (10 : UInt8) ∉ x → wideT k x = wideL k x
  | [], _ => rfl
  | b :: t, h => by
    have h1 : b ≠ 10 := fun e => h (by rw [e]; exact List.mem_cons_self)
    have h2 := wideT_line k t (fun hm => h (List.mem_cons_of_mem _ hm))
    unfold wideT wideL at h2 ⊢
    rw [List.flatMap_cons, List.flatMap_cons, h2, if_neg h1]
theorem free_wide (k : Nat) (x : List UInt8) (h : (10 : UInt8) ∉ x) (a b : Nat) : (10 : UInt8) ∉ blanks a ++ (wideL k x ++ blanks b) := by
  intro hm
  have hb : ∀ j, (10 : UInt8) ∉ blanks j := fun j hm => by have := List.eq_of_mem_replicate hm; cases this
  rcases List.mem_append.1 hm with hm | hm
  · exact hb _ hm
  · rcases List.mem_append.1 hm with hm | hm
    · unfold wideL at hm
      obtain ⟨c, hc, hm⟩ := List.mem_flatMap.1 hm
      split at hm
      · exact hb _ hm
      · rw [List.mem_singleton] at hm
        subst hm
        exact h hc
    · exact hb _ hm

/-- What reading does with the numbers of lines. -/
def wideN (x : Df × Int × Int) : Df × Int × Int := (x.1, 2 * x.2.1, x.2.2)

theorem goL_same {l l' : List UInt8} (h : fieldsL l' = fieldsL l) {ls ls' : List (List UInt8)} {i j : Nat} (hj : j = 2 * i + 1) {d : Df} (ih : ∀ d' : Df, goL ls' (j + 1) d' = wideN (goL ls (i + 1) d')) : goL (l' :: ls') j d = wideN (goL (l :: ls) i d) := by
  conv => lhs; rw [goL]
  conv => rhs; rw [goL]
  rw [h]
  split
  · exact ih d
  · split
    · exact ih _
    · unfold wideN
      simp only [Prod.mk.injEq, true_and, and_true]
      omega

theorem goL_wide (k : Nat) : ∀ (n : Nat) (t : List UInt8) (a i : Nat) (d : Df), t.length ≤ n → goL (pieces 10 (blanks a ++ wideT k t)) (2 * i + 1) d = wideN (goL (pieces 10 t) i d)
  | n, t, a, i, d, hn => by
    rcases split_at 10 t with ht | ⟨u, v, rfl, hu⟩
    · have h1 : blanks a ++ wideT k t = blanks a ++ (wideL k t ++ blanks 0) := by rw [wideT_line k t ht, show blanks 0 = [] from rfl, List.append_nil]
      rw [h1, pieces_none 10 _ (free_wide k t ht a 0), pieces_none 10 t ht]
      refine goL_same (fields_wide k a 0 t) rfl (fun d' => ?_)
      unfold goL wideN
      split <;> simp
    · have h1 : blanks a ++ wideT k (u ++ 10 :: v) = (blanks a ++ (wideL k u ++ blanks (k + 1))) ++ 10 :: ([] ++ 10 :: (blanks (k + 1) ++ wideT k v)) := by
        rw [wideT_app, wideT_line k u hu]
        unfold wideT
        rw [List.flatMap_cons, if_neg (by decide), if_pos rfl]
        simp
      rw [h1, pieces_app, pieces_none 10 _ (free_wide k u hu a (k + 1)), pieces_app, pieces_none 10 [] List.not_mem_nil, pieces_app, pieces_none 10 u hu]
      refine goL_same (fields_wide k a (k + 1) u) rfl (fun d' => ?_)
      have h2 : goL ([[]] ++ pieces 10 (blanks (k + 1) ++ wideT k v)) (2 * i + 1 + 1) d' = goL (pieces 10 (blanks (k + 1) ++ wideT k v)) (2 * (i + 1) + 1) d' := by
        show goL ([] :: pieces 10 (blanks (k + 1) ++ wideT k v)) (2 * i + 1 + 1) d' = _
        rw [goL, if_pos skip_nil]
        rfl
      refine h2.trans ?_
      show _ = wideN (goL (pieces 10 v) (i + 1) d')
      cases n with
      | zero => simp at hn
      | succ n => exact goL_wide k n v (k + 1) (i + 1) d' (by simp at hn; omega)

def remark : List UInt8 := [35, 32, 97, 32, 114, 101, 109, 97, 114, 107, 10]
theorem parse_wide {t s : ByteArray} {k : Nat} (h : s.data.toList = remark ++ wideT k t.data.toList) (h1 : s.size ≤ 2048) (h2 : t.size ≤ 2048) : parseL s = wideN (parseL t) := by
  unfold parseL
  rw [if_neg (by omega), if_neg (by omega), h]
  have e : remark ++ wideT k t.data.toList = [35, 32, 97, 32, 114, 101, 109, 97, 114, 107] ++ 10 :: (blanks 0 ++ wideT k t.data.toList) := rfl
  rw [e, pieces_app, pieces_none 10 [35, 32, 97, 32, 114, 101, 109, 97, 114, 107] (by decide)]
  have hs : skipF (fieldsL [35, 32, 97, 32, 114, 101, 109, 97, 114, 107]) = true := by kernel_rfl
  have e2 : goL ([[35, 32, 97, 32, 114, 101, 109, 97, 114, 107]] ++ pieces 10 (blanks 0 ++ wideT k t.data.toList)) 0 noD = goL (pieces 10 (blanks 0 ++ wideT k t.data.toList)) (2 * 0 + 1) noD := by
    show goL ([35, 32, 97, 32, 114, 101, 109, 97, 114, 107] :: pieces 10 (blanks 0 ++ wideT k t.data.toList)) 0 noD = _
    rw [goL, if_pos hs]
  rw [e2]
  exact goL_wide k _ _ 0 0 noD (Nat.le_refl _)

end Go.Proofs.YtmkbbclbkpofoaaDoor
