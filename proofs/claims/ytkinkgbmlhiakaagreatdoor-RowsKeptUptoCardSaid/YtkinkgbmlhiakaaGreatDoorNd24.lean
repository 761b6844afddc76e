/- merged: TrQ -/
import Derived.Test.YtkinkgbmlhiakaaGreatDoorNd13
namespace Go.Proofs.YtkinkgbmlhiakaaGreatDoor
section
open Go Go.RowKit
theorem qWr {c : Cg} {a m z : List Ent} (ha : ∀ x ∈ a, kl x.key c.key = true) (hm : ∀ x ∈ m, x.key = c.key) (hz : ∀ x ∈ z, kl c.key x.key = true) : chgE c (a ++ (m ++ z)) = a ++ (c.putE ++ z) := by
 unfold chgE; simp only [List.filter_append]; have e1 : a.filter (fun x => kl x.key c.key) = a := qDq ha
 have e2 : m.filter (fun x => kl x.key c.key) = [] := qBb (fun x hx => by rw [hm x hx, qBz])
 have e3 : z.filter (fun x => kl x.key c.key) = [] := qBb (fun x hx => qDw (hz x hx))
 have e4 : a.filter (fun x => kl c.key x.key) = [] := qBb (fun x hx => qDw (ha x hx))
 have e5 : m.filter (fun x => kl c.key x.key) = [] := qBb (fun x hx => by rw [hm x hx, qBz])
 have e6 : z.filter (fun x => kl c.key x.key) = z := qDq hz
 rw [e1, e2, e3, e4, e5, e6]; simp
theorem qOr {c : Cg} {es : List Ent} {i : Nat} {ok : Bool} (hr : qNc (es.map (·.key))) (ha : At (es.map (·.key)) c.key i) (ho : ok = true ↔ (es.map (·.key))[i]? = some c.key) :
  (∀ x ∈ es.take i, kl x.key c.key = true) /\ hasE c es = ok /\ (if ok then (∃ x, es[i]? = some x /\ x.key = c.key) /\ ∀ x ∈ es.drop (i + 1), kl c.key x.key = true else ∀ x ∈ es.drop i, kl c.key x.key = true) := by
 have hget : ∀ (j : Nat) (x : Ent), es[j]? = some x -> (es.map (·.key))[j]? = some x.key := fun j x hx => by rw [List.getElem?_map, hx]; rfl
 have h1 : ∀ x ∈ es.take i, kl x.key c.key = true := fun x hx => by
  obtain ⟨j, hj⟩ := List.mem_iff_getElem?.1 hx; rw [List.getElem?_take] at hj; split at hj
  ·exact ha.lo j x.key (by assumption) (hget j x hj)
  ·cases hj
 have h2 : ∀ j x, i <= j -> es[j]? = some x -> kl x.key c.key = false := fun j x hij hx => ha.hi j x.key hij (hget j x hx)
 have h3 : ∀ j x, i < j -> es[j]? = some x -> kl c.key x.key = true := fun j x hij hx => by
  have hjl := (List.getElem?_eq_some_iff.1 hx).1; obtain ⟨y, hy⟩ : ∃ y, es[i]? = some y := ⟨_, List.getElem?_eq_getElem (by omega)⟩
  have h4 := h2 i y (Nat.le_refl _) hy; have h5 : kl y.key x.key = true := hr i j y.key x.key hij (hget i y hy) (hget j x hx); cases hk : kl c.key y.key with
  | true => exact qCz hk h5
  | false => rw [qHl hk h4]; exact h5
 cases hok : ok with
 | true =>
  have h4 := ho.1 hok; rw [List.getElem?_map] at h4; obtain ⟨x, hx, hxk⟩ := Option.map_eq_some_iff.1 h4; refine ⟨h1, ?_, ?_⟩
  ·unfold hasE; exact List.any_eq_true.2 ⟨x, List.mem_of_getElem? hx, by simpa using hxk⟩
  ·simp only [if_true]; refine ⟨⟨x, hx, hxk⟩, fun y hy => ?_⟩
   obtain ⟨j, hj⟩ := List.mem_iff_getElem?.1 hy; rw [List.getElem?_drop] at hj; exact h3 (i + 1 + j) y (by omega) hj
 | false =>
  have hnot : (es.map (·.key))[i]? ≠ some c.key := fun e => by rw [ho.2 e] at hok; cases hok
  have h4 : ∀ x ∈ es.drop i, kl c.key x.key = true := fun y hy => by
   obtain ⟨j, hj⟩ := List.mem_iff_getElem?.1 hy; rw [List.getElem?_drop] at hj; cases j with
   | succ j => exact h3 (i + (j + 1)) y (by omega) hj
   | zero =>
    rw [Nat.add_zero] at hj; have h5 := h2 i y (Nat.le_refl _) hj; cases hk : kl c.key y.key with
    | true => rfl
    | false => exact absurd (by rw [hget i y hj, qHl hk h5]) hnot
  refine ⟨h1, ?_, ?_⟩
  ·unfold hasE; refine List.any_eq_false.2 (fun x hx => ?_)
   have hx' : x ∈ es.take i \/ x ∈ es.drop i := List.mem_append.1 (by rw [List.take_append_drop]; exact hx)
   rcases hx' with h | h
   ·have := qPr (h1 x h); simpa using this
   ·have := qPr (h4 x h); simpa using fun e => this e.symm
  ·simp only [Bool.false_eq_true, if_false]; exact h4
end
end Go.Proofs.YtkinkgbmlhiakaaGreatDoor
