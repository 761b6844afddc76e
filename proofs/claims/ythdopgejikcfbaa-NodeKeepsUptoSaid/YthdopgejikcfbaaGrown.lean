/- Nodes that were made: they read as other nodes; the plain laws of weights -/
import Derived.Test.YthdopgejikcfbaaSplit
import Derived.Test.YthdopgejikcfbaaRef8
namespace Go.Proofs.Ythdopgejikcfbaa
open Go Go.RowKit

theorem Own.lies {α : Type} {w : World} {t : TypeId} {size cap : Nat} {f : α → List Value} {a : Option Addr} {ls : List α} (h : Own w t size a ls.length cap (ls.flatMap f)) : Lies w size f a ls := by
  refine ⟨h.src, fun _ x hx => ?_, fun k _ hk => h.lt k hk⟩
  rcases h.2.2.2 with ⟨hs, _⟩ | ⟨g, off, cur, hs, _⟩
  · rw [hx] at hs; cases hs
  · rw [hx] at hs; cases hs; rfl

theorem Has.ok {m : Nd} {leaf : Bool} {es : List Ent} (h : Has m leaf es) {w : World} (g : Gd w m) (hb : es.length ≤ 4194304) (he : ∀ x ∈ es, x.Ok) : NdAt w m := by
  obtain ⟨h1, h2, h3⟩ := h.len_le
  refine ⟨g.k.lies, g.v.lies, g.i.lies, by omega, by omega, by omega, fun x hx => ?_, fun x hx => ?_, fun x hx => ?_⟩
  · rw [h.k] at hx
    obtain ⟨y, hy, rfl⟩ := List.mem_map.1 hx
    exact (he y hy).1
  · rw [h.v] at hx
    split at hx
    · obtain ⟨y, hy, rfl⟩ := List.mem_map.1 hx
      exact (he y hy).2.1
    · cases hx
  · rw [h.i] at hx
    split at hx
    · cases hx
    · obtain ⟨y, hy, rfl⟩ := List.mem_map.1 hx
      exact (he y hy).2.2

/-- Entries as a node of this kind has them. -/
def Clean (leaf : Bool) (es : List Ent) : Prop := ∀ x ∈ es, (leaf = true → x.kid = 0) ∧ (leaf = false → x.value = emp)

theorem clean_ents (n : Nd) : Clean n.leaf n.ents := fun x hx => by
  obtain ⟨i, hi, rfl⟩ := List.mem_map.1 hx
  refine ⟨fun h => ?_, fun h => ?_⟩
  · show kidOf n i = 0; unfold kidOf; rw [h]; rfl
  · show valueOf n i = emp; unfold valueOf; rw [h]; rfl

theorem Clean.append {leaf : Bool} {a b : List Ent} (ha : Clean leaf a) (hb : Clean leaf b) : Clean leaf (a ++ b) := fun x hx => by
  rcases List.mem_append.1 hx with h | h
  · exact ha x h
  · exact hb x h

theorem Clean.take {leaf : Bool} {a : List Ent} (ha : Clean leaf a) (k : Nat) : Clean leaf (a.take k) := fun x hx => ha x (List.mem_of_mem_take hx)
theorem Clean.drop {leaf : Bool} {a : List Ent} (ha : Clean leaf a) (k : Nat) : Clean leaf (a.drop k) := fun x hx => ha x (List.mem_of_mem_drop hx)

theorem Has.ents {m : Nd} {leaf : Bool} {es : List Ent} (h : Has m leaf es) (hc : Clean leaf es) : m.ents = es := by
  apply List.ext_getElem?
  intro i
  unfold Nd.ents
  rw [List.getElem?_map]
  by_cases hi : i < es.length
  · rw [List.getElem?_range (by rw [h.len_le.1]; exact hi)]
    obtain ⟨x, hx⟩ : ∃ x, es[i]? = some x := ⟨_, List.getElem?_eq_getElem hi⟩
    have hcx := hc x (List.mem_of_getElem? hx)
    rw [hx]
    show some (entAt m i) = some x
    unfold entAt valueOf kidOf
    rw [h.k, h.v, h.i, h.l, List.getElem?_map, hx]
    cases leaf with
    | true => simp [hx]; cases x; simp at hcx ⊢; exact hcx.symm
    | false => simp [hx]; cases x; simp at hcx ⊢; exact hcx.symm
  · rw [List.getElem?_eq_none (l := es) (by omega), List.getElem?_eq_none (l := List.range _) (by rw [List.length_range, h.len_le.1]; omega)]
    rfl

theorem uvar_two {k : Nat} (h : k < 16384) : (uvar k).length = if 127 < k then 2 else 1 := by
  by_cases h1 : k ≤ 127
  · rw [uvar_small h1, if_neg (by omega)]; rfl
  · rw [uvar_big h1, if_pos (by omega), List.length_cons, uvar_small (by omega)]; rfl

theorem textL_pos (s : ByteArray) : 0 < (textL s).length := by
  have := uvar_len_pos s.size
  unfold textL
  rw [List.length_append]
  omega

theorem wt_append (leaf : Bool) (a b : List Ent) : wt leaf (a ++ b) = wt leaf a + wt leaf b := by unfold wt; simp

theorem wt_ge (leaf : Bool) : ∀ es : List Ent, 2 * es.length ≤ wt leaf es
  | [] => by simp [wt]
  | x :: r => by
    have h1 := wt_ge leaf r
    have h2 : wt leaf (x :: r) = (entL leaf x).length + wt leaf r := by unfold wt; simp
    have h3 := textL_pos x.key
    have h4 : 2 ≤ (entL leaf x).length := by
      unfold entL
      rw [List.length_append]
      split
      · have := textL_pos x.value; omega
      · have := uvar_len_pos (max 0 x.kid).toNat; omega
    rw [h2, List.length_cons]
    omega

theorem enc_small {n : Nd} (h : encOk n = true) : n.keys.length ≤ 511 ∧ (bytesL n.leaf n.ents).length ≤ 1024 := by
  unfold encOk at h
  rw [Bool.and_eq_true, decide_eq_true_eq] at h
  have h1 := wt_ge n.leaf n.ents
  have h2 := bytesL_len n.leaf n.ents
  have h3 := ents_len n
  have h4 := uvar_len_pos n.ents.length
  omega

theorem as_same {p : Nd} {leaf : Bool} (h : p.leaf = leaf) : p.as leaf = p := by subst h; rfl

theorem Lies.empty {α : Type} {w : World} {size : Nat} {f : α → List Value} {a : Option Addr} : Lies w size f a ([] : List α) :=
  ⟨⟨by simp, fun _ => rfl, fun a _ j u hu => by simp at hu⟩, fun h => by simp at h, fun _ h => by simp at h⟩

end Go.Proofs.Ythdopgejikcfbaa
