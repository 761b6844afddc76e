/- A leaf with an entry more, and its halves: plain laws -/
import Derived.Test.YthdopgejikcfbaaAlike
namespace Go.Proofs.Ythdopgejikcfbaa
open Go Go.RowKit

structure GoodEs (es : List Ent) : Prop where
  k : KeysOk (es.map (·.key))
  v : ∀ x ∈ es, x.value.size ≤ 200
  c : Clean true es

theorem ents_keys (n : Nd) : n.ents.map (·.key) = n.keys := by
  apply List.ext_getElem?
  intro i
  unfold Nd.ents
  rw [List.map_map, List.getElem?_map]
  by_cases hi : i < n.keys.length
  · rw [List.getElem?_range hi, List.getElem?_eq_getElem hi]
    show some ((n.keys[i]?).getD emp) = _
    rw [List.getElem?_eq_getElem hi]
    rfl
  · rw [List.getElem?_eq_none (l := List.range _) (by rw [List.length_range]; omega), List.getElem?_eq_none (by omega)]
    rfl

theorem good_of_enc {n : Nd} (h : encOk n = true) (hl : n.leaf = true) : GoodEs n.ents := by
  unfold encOk at h
  rw [Bool.and_eq_true, fitB_iff] at h
  obtain ⟨⟨h1, h2⟩, _⟩ := h
  refine ⟨by rw [ents_keys]; exact h1, fun x hx => ?_, by have := clean_ents n; rw [hl] at this; exact this⟩
  obtain ⟨i, _, rfl⟩ := List.mem_map.1 hx
  show (valueOf n i).size ≤ 200
  unfold restB at h2
  rw [hl] at h2
  simp only [if_true, Bool.and_eq_true, Bool.not_eq_true'] at h2
  unfold valueOf
  rw [hl]
  simp only [if_true]
  cases hv : n.values[i]? with
  | none => exact Nat.zero_le _
  | some x =>
    have := List.any_eq_false.1 h2.2 x (List.mem_of_getElem? hv)
    unfold longB at this
    simp at this
    exact this

theorem map_get {es : List Ent} {i : Nat} {k : ByteArray} (h : (es.map (·.key))[i]? = some k) : ∃ x, es[i]? = some x ∧ x.key = k := by
  rw [List.getElem?_map] at h
  cases hx : es[i]? with
  | none => rw [hx] at h; cases h
  | some x => rw [hx] at h; cases h; exact ⟨x, rfl, rfl⟩

theorem good_snoc {es : List Ent} (h : GoodEs es) (x : Ent) (h1 : x.key.toList ≠ []) (h2 : x.key.size ≤ 48) (h3 : x.value.size ≤ 200) (h4 : x.kid = 0) (h5 : ∀ y, es[es.length - 1]? = some y → Op.bytesLess y.key.toList x.key.toList = true)   : GoodEs (es ++ [x]) := by
  have hv := h.v
  refine ⟨fun i hi => ?_, fun y hy => ?_, h.c.append (fun y hy => ?_)⟩
  · rw [List.map_append, List.map_cons, List.map_nil] at hi ⊢
    rw [List.length_append, List.length_map, List.length_singleton] at hi
    by_cases hlt : i < es.length
    · obtain ⟨k, a1, a2, a3, a4⟩ := h.k i (by rw [List.length_map]; exact hlt)
      refine ⟨k, by rw [List.getElem?_append_left (by rw [List.length_map]; exact hlt)]; exact a1, a2, a3, fun h0 => ?_⟩
      obtain ⟨y, b1, b2⟩ := a4 h0
      exact ⟨y, by rw [List.getElem?_append_left (by rw [List.length_map]; omega)]; exact b1, b2⟩
    · obtain rfl : i = es.length := by omega
      refine ⟨x.key, by rw [List.getElem?_append_right (by rw [List.length_map]; omega)]; simp, h1, h2, fun h0 => ?_⟩
      obtain ⟨y, hy⟩ : ∃ y, es[es.length - 1]? = some y := ⟨_, List.getElem?_eq_getElem (by omega)⟩
      exact ⟨y.key, by rw [List.getElem?_append_left (by rw [List.length_map]; omega), List.getElem?_map, hy]; rfl, h5 y hy⟩
  · rcases List.mem_append.1 hy with h' | h'
    · exact hv y h'
    · rw [List.mem_singleton.1 h']; exact h3
  · rw [List.mem_singleton.1 hy]; exact ⟨fun _ => h4, fun h => by cases h⟩

theorem good_take {es : List Ent} (h : GoodEs es) (k : Nat) : GoodEs (es.take k) := by
  refine ⟨fun i hi => ?_, fun y hy => h.v y (List.mem_of_mem_take hy), h.c.take k⟩
  rw [List.map_take] at hi ⊢
  rw [List.length_take] at hi
  obtain ⟨x, a1, a2, a3, a4⟩ := h.k i (by omega)
  refine ⟨x, by rw [List.getElem?_take, if_pos (by omega)]; exact a1, a2, a3, fun h0 => ?_⟩
  obtain ⟨y, b1, b2⟩ := a4 h0
  exact ⟨y, by rw [List.getElem?_take, if_pos (by omega)]; exact b1, b2⟩

theorem good_drop {es : List Ent} (h : GoodEs es) (k : Nat) : GoodEs (es.drop k) := by
  refine ⟨fun i hi => ?_, fun y hy => h.v y (List.mem_of_mem_drop hy), h.c.drop k⟩
  rw [List.map_drop] at hi ⊢
  rw [List.length_drop] at hi
  obtain ⟨x, a1, a2, a3, a4⟩ := h.k (k + i) (by omega)
  refine ⟨x, by rw [List.getElem?_drop]; exact a1, a2, a3, fun h0 => ?_⟩
  obtain ⟨y, b1, b2⟩ := a4 (by omega)
  exact ⟨y, by rw [List.getElem?_drop, show k + (i - 1) = k + i - 1 by omega]; exact b1, b2⟩

theorem enc_of_good {m : Nd} {es : List Ent} (hh : Has m true es) (h : GoodEs es) (hb : (bytesL true es).length ≤ 1024) : encOk m = true := by
  unfold encOk
  rw [Bool.and_eq_true, fitB_iff, decide_eq_true_eq, hh.ents h.c, hh.l]
  refine ⟨⟨by rw [hh.k]; exact h.k, ?_⟩, hb⟩
  unfold restB
  rw [hh.l, hh.k, hh.v, hh.i]
  simp only [if_true, List.length_map, List.length_nil, decide_true, Bool.true_and, Bool.not_eq_true']
  rw [List.any_eq_false]
  intro s hs
  obtain ⟨x, hx, rfl⟩ := List.mem_map.1 hs
  have := h.v x hx
  unfold longB
  simp
  omega

theorem textL_length (s : ByteArray) : (textL s).length = (uvar s.size).length + s.size := by unfold textL; simp

theorem uvar_le2 {k : Nat} (h : k < 16384) : 1 ≤ (uvar k).length ∧ (uvar k).length ≤ 2 := by
  rw [uvar_two h]; split <;> omega

theorem good_entry {es : List Ent} (h : GoodEs es) {i : Nat} {x : Ent} (hx : es[i]? = some x) : (entL true x).length ≤ 251 := by
  have hi := (List.getElem?_eq_some_iff.1 hx).1
  obtain ⟨k, a1, a2, a3, _⟩ := h.k i (by rw [List.length_map]; exact hi)
  rw [List.getElem?_map, hx] at a1
  cases a1
  have a3 : x.key.size ≤ 48 := a3
  have hv := h.v x (List.mem_of_getElem? hx)
  unfold entL
  rw [List.length_append, textL_length]
  simp only [if_true]
  rw [textL_length, uvar_small (by omega : x.key.size ≤ 127)]
  have := uvar_le2 (k := x.value.size) (by omega)
  simp only [List.length_singleton]
  omega

theorem wt_take_succ {leaf : Bool} {es : List Ent} {i : Nat} {x : Ent} (hx : es[i]? = some x) : wt leaf (es.take (i + 1)) = wt leaf (es.take i) + (entL leaf x).length := by
  have hi := (List.getElem?_eq_some_iff.1 hx)
  obtain ⟨hi, rfl⟩ := hi
  rw [List.take_succ_eq_append_getElem hi, wt_append]
  congr 1
  unfold wt; simp

theorem wt_cut (leaf : Bool) (es : List Ent) (i : Nat) : wt leaf es = wt leaf (es.take i) + wt leaf (es.drop i) := by
  rw [← wt_append, List.take_append_drop]

theorem halves {es : List Ent} {i : Nat} (hc : CutAt true es i) (hg : GoodEs es) (hw : wt true es ≤ 1273) (hl : es.length < 16384) :
    (250 ≤ (bytesL true (es.take i)).length ∧ (bytesL true (es.take i)).length ≤ 1024) ∧ (250 ≤ (bytesL true (es.drop i)).length ∧ (bytesL true (es.drop i)).length ≤ 1024) := by
  have h1 := hc.lo
  have h2 := hc.hi
  have hb := hc.big
  rw [bytesL_len] at hb
  have u0 := uvar_le2 hl
  have u1 := uvar_le2 (k := (es.take i).length) (by rw [List.length_take]; omega)
  have u2 := uvar_le2 (k := (es.drop i).length) (by rw [List.length_drop]; omega)
  rw [bytesL_len, bytesL_len]
  have hcut := wt_cut true es i
  obtain ⟨x, hx⟩ : ∃ x, es[i - 1]? = some x := ⟨_, List.getElem?_eq_getElem (by omega)⟩
  have hs := wt_take_succ (leaf := true) hx
  rw [show i - 1 + 1 = i by omega] at hs
  have hle := good_entry hg hx
  have hsm : wt true (es.take (i - 1)) = 0 ∨ 2 * wt true (es.take (i - 1)) < wt true es := by
    rcases hc.small with h | h
    · left; subst h; rfl
    · exact .inr h
  have hgr : wt true (es.drop i) ≤ 251 ∨ wt true es ≤ 2 * wt true (es.take i) := by
    rcases hc.great with h | h
    · left
      obtain ⟨y, hy⟩ : ∃ y, es[i]? = some y := ⟨_, List.getElem?_eq_getElem (by omega)⟩
      have h3 := wt_take_succ (leaf := true) hy
      have h4 := good_entry hg hy
      rw [h, List.take_length] at h3
      omega
    · exact .inr h
  omega

theorem good_ok {es : List Ent} (h : GoodEs es) : ∀ x ∈ es, x.Ok := fun x hx => by
  obtain ⟨i, hi⟩ := List.getElem?_of_mem hx
  obtain ⟨k, a1, _, a3, _⟩ := h.k i (by rw [List.length_map]; exact (List.getElem?_eq_some_iff.1 hi).1)
  rw [List.getElem?_map, hi] at a1
  cases a1
  have a3 : x.key.size ≤ 48 := a3
  have hv := h.v x hx
  have hk := (h.c x hx).1 rfl
  exact ⟨by omega, by omega, by omega, by omega⟩

theorem Has.at {m : Nd} {es : List Ent} (hh : Has m true es) (h : GoodEs es) (hl : es.length ≤ 4194304) {w : World} (g : Gd w m) : NdAt w m := hh.ok g hl (good_ok h)

/-- The whole, of one entry more. -/
def plus (n : Nd) (key value : ByteArray) : List Ent := n.ents ++ [⟨key, value, 0⟩]

theorem plus_good {n : Nd} {key value : ByteArray} (h : encOk n = true) (hl : n.leaf = true) (h1 : key.toList ≠ []) (h2 : key.size ≤ 48) (h3 : value.size ≤ 200) (h5 : ∀ y, n.keys[n.keys.length - 1]? = some y → Op.bytesLess y.toList key.toList = true) : GoodEs (plus n key value) := by
  refine good_snoc (good_of_enc h hl) ⟨key, value, 0⟩ h1 h2 h3 rfl (fun y hy => h5 y.key ?_)
  rw [← ents_keys, List.length_map, List.getElem?_map, hy]
  rfl

theorem plus_small {n : Nd} {key value : ByteArray} (h : encOk n = true) (hl : n.leaf = true) (h2 : key.size ≤ 48) (h3 : value.size ≤ 200) : (plus n key value).length ≤ 512 ∧ wt true (plus n key value) ≤ 1273 ∧ 1 ≤ (plus n key value).length := by
  obtain ⟨a1, a2⟩ := enc_small h
  rw [bytesL_len, ents_len, hl] at a2
  have u0 := uvar_len_pos n.keys.length
  unfold plus
  rw [List.length_append, ents_len, wt_append]
  have : wt true [⟨key, value, 0⟩] = (textL key).length + (textL value).length := by unfold wt entL; simp
  rw [this, textL_length, textL_length, uvar_small (by omega : key.size ≤ 127)]
  have := uvar_le2 (k := value.size) (by omega)
  simp only [List.length_singleton]
  omega

theorem one_enc {es : List Ent} (hg : GoodEs es) (hw : wt true es ≤ 1273) (h : es.length < 2 ∨ (bytesL true es).length ≤ 1024) : (bytesL true es).length ≤ 1024 := by
  rcases h with h | h
  · rw [bytesL_len]
    have u := uvar_le2 (k := es.length) (by omega)
    match es, h with
    | [], _ => simp [wt] at u ⊢; omega
    | [x], _ =>
      have := good_entry hg (i := 0) (x := x) rfl
      have e : wt true [x] = (entL true x).length := by unfold wt; simp
      rw [e]; omega
  · exact h

end Go.Proofs.Ythdopgejikcfbaa
