/- A fit node's entries may be read back, plain -/
import Derived.Test.YthdopgejikcfbaaDoorBackL
namespace Go.Proofs.YthdopgejikcfbaaDoor
open Go Go.RowKit

theorem ents_get (n : Nd) (i : Nat) (hi : i < n.keys.length) : n.ents[i]? = some (entAt n i) := by
  unfold Nd.ents
  rw [List.getElem?_map, List.getElem?_range hi]
  rfl

theorem ents_map {α : Type} (n : Nd) (f : Ent → α) (l : List α) (hl : l.length = n.keys.length) (h : ∀ i, i < n.keys.length → l[i]? = some (f (entAt n i))) : l = n.ents.map f := by
  apply List.ext_getElem?
  intro i
  rw [List.getElem?_map]
  by_cases hi : i < n.keys.length
  · rw [ents_get n i hi, h i hi]; rfl
  · rw [List.getElem?_eq_none (by omega), List.getElem?_eq_none (by rw [ents_len]; omega)]; rfl

theorem get_some {α : Type} (l : List α) (i : Nat) (hi : i < l.length) (d : α) : l[i]? = some ((l[i]?).getD d) := by
  rw [List.getElem?_eq_getElem hi]; rfl

/-- A node that is fit has just its entries. -/
theorem has_self {n : Nd} (h : encOk n = true) : Has n n.leaf n.ents := by
  unfold encOk at h
  rw [Bool.and_eq_true, fitB_iff] at h
  have h2 := h.1.2
  unfold restB at h2
  refine ⟨rfl, ents_map n _ _ rfl (fun i hi => get_some _ i hi emp), ?_, ?_⟩
  · cases hl : n.leaf with
    | true =>
      rw [hl] at h2
      simp only [if_true, Bool.and_eq_true, decide_eq_true_eq] at h2 ⊢
      refine ents_map n _ _ h2.1.2 (fun i hi => ?_)
      show n.values[i]? = some (valueOf n i)
      unfold valueOf
      rw [hl]
      exact get_some _ i (by omega) emp
    | false =>
      rw [hl] at h2
      simp only [Bool.false_eq_true, if_false, Bool.and_eq_true, decide_eq_true_eq] at h2 ⊢
      exact List.eq_nil_of_length_eq_zero h2.1.1.1
  · cases hl : n.leaf with
    | true =>
      rw [hl] at h2
      simp only [if_true, Bool.and_eq_true, decide_eq_true_eq] at h2 ⊢
      exact List.eq_nil_of_length_eq_zero h2.1.1
    | false =>
      rw [hl] at h2
      simp only [Bool.false_eq_true, if_false, Bool.and_eq_true, decide_eq_true_eq] at h2 ⊢
      refine ents_map n _ _ h2.1.1.2 (fun i hi => ?_)
      show n.kids[i]? = some (kidOf n i)
      unfold kidOf
      rw [hl]
      exact get_some _ i (by omega) 0

theorem fair_self {n : Nd} (h : encOk n = true) : ∀ x ∈ n.ents, Fair n.leaf x := fun x hx => by
  obtain ⟨c1, c2⟩ := clean_ents n x hx
  refine ⟨c1, fun hl => ⟨c2 hl, ?_⟩⟩
  have hs := has_self h
  unfold encOk at h
  rw [Bool.and_eq_true, fitB_iff] at h
  have h2 := h.1.2
  unfold restB at h2
  rw [hl] at h2
  simp only [Bool.false_eq_true, if_false, Bool.and_eq_true, Bool.not_eq_true'] at h2
  have hi := hs.i
  rw [hl] at hi
  simp only [Bool.false_eq_true, if_false] at hi
  have := List.any_eq_false.1 h2.2 x.kid (by rw [hi]; exact List.mem_map.2 ⟨x, hx, rfl⟩)
  unfold outB at this
  simp at this
  omega

/-- What a fit node writes is read back, where zeros stand behind it. -/
theorem dec_yes {n : Nd} {s : ByteArray} {r : List UInt8} (h : encOk n = true) (hs : s.data.toList = bytesL n.leaf n.ents ++ r) (hz : s.size < two64) (hr : AllZ r) : decP s = some (n.leaf, n.ents) := by
  rw [decP_at hs hz (fair_self h)]
  refine fin_yes ?_ ?_
  · rw [hs, List.drop_left]; exact hr
  · rw [← (has_self h).cn_enc]; exact h

theorem dec_no {n : Nd} {s : ByteArray} {r : List UInt8} (h : encOk n = true) (hs : s.data.toList = bytesL n.leaf n.ents ++ r) (hz : s.size < two64) (hr : ¬ AllZ r) : decP s = none := by
  rw [decP_at hs hz (fair_self h)]
  refine fin_no (fun hh => hr ?_)
  have := hh.1
  rw [hs, List.drop_left] at this
  exact this

end Go.Proofs.YthdopgejikcfbaaDoor
