/- Plain laws of which definitions may run. No program is named. -/
import Derived.Test.YthbfgeaojgfafaaMap2
import Derived.Test.YthbfgeaojgfafaaChU
namespace Go.Proofs.Ythbfgeaojgfafaa
open Go Go.RowKit
open Relation (TransGen)

/-- A step, with where its list of names lies. -/
structure Stp where
  name : ByteArray
  verb : ByteArray
  undo : ByteArray
  event : ByteArray
  final : Bool
  retry : Int
  every : Int
  within : Int
  after : List ByteArray
  aa : Option Addr
  ac : Nat

theorem TransGen.headed {α : Type} {r : α → α → Prop} {a b c : α} (h : r a b) (h2 : TransGen r b c) : TransGen r a c := TransGen.trans (TransGen.single h) h2

theorem TransGen.first {α : Type} {r : α → α → Prop} {a c : α} (h : TransGen r a c) : ∃ b, r a b ∧ (b = c ∨ TransGen r b c) := by
  induction h with
  | single h => exact ⟨_, h, .inl rfl⟩
  | tail _ h2 ih =>
    obtain ⟨b, h3, h4⟩ := ih
    rcases h4 with rfl | h4
    · exact ⟨b, h3, .inr (.single h2)⟩
    · exact ⟨b, h3, .inr (.tail h4 h2)⟩

/-- Steps by their places: i waits for k. -/
def Ed (ss : List Stp) (i k : Nat) : Prop := ∃ s t, ss[i]? = some s ∧ ss[k]? = some t ∧ t.name ∈ s.after
/-- Steps by their names. -/
def En (ss : List Stp) (x y : ByteArray) : Prop := ∃ s ∈ ss, s.name = x ∧ y ∈ s.after

def NamesOk (ss : List Stp) : Prop := (ss.map (·.name)).Nodup ∧ ∀ s ∈ ss, ∀ a ∈ s.after, a ∈ ss.map (·.name)

theorem name_place {ss : List Stp} (h : NamesOk ss) {i k : Nat} {s t : Stp} (hi : ss[i]? = some s) (hk : ss[k]? = some t) (e : s.name = t.name) : i = k := by
  have h1 : (ss.map (·.name))[i]? = (ss.map (·.name))[k]? := by simp [hi, hk, e]
  have hl : i < (ss.map (·.name)).length := by have := (List.getElem?_eq_some_iff.1 hi).1; simpa using this
  exact (List.getElem?_inj hl h.1).1 h1

theorem ed_names {ss : List Stp} {i k : Nat} (h : TransGen (Ed ss) i k) : ∃ s t, ss[i]? = some s ∧ ss[k]? = some t ∧ TransGen (En ss) s.name t.name := by
  induction h with
  | single h =>
    obtain ⟨s, t, h1, h2, h3⟩ := h
    exact ⟨s, t, h1, h2, .single ⟨s, List.mem_of_getElem? h1, rfl, h3⟩⟩
  | tail _ h2 ih =>
    obtain ⟨s, t, h3, h4, h5⟩ := ih
    obtain ⟨s', t', h6, h7, h8⟩ := h2
    rw [h4] at h6
    cases h6
    exact ⟨s, t', h3, h7, .tail h5 ⟨t, List.mem_of_getElem? h4, rfl, h8⟩⟩

theorem names_ed {ss : List Stp} (ok : NamesOk ss) {x y : ByteArray} (h : TransGen (En ss) x y) : ∃ (i k : Nat) (s t : Stp), ss[i]? = some s ∧ ss[k]? = some t ∧ s.name = x ∧ t.name = y ∧ TransGen (Ed ss) i k := by
  have known : ∀ s ∈ ss, ∀ y ∈ s.after, ∃ (k : Nat) (t : Stp), ss[k]? = some t ∧ t.name = y := fun s hs y hy => by
    obtain ⟨t, ht, e⟩ := List.mem_map.1 (ok.2 s hs y hy)
    obtain ⟨k, hk⟩ := List.getElem?_of_mem ht
    exact ⟨k, t, hk, e⟩
  induction h with
  | single h =>
    obtain ⟨s, hs, e, hy⟩ := h
    obtain ⟨k, t, hk, ht⟩ := known s hs _ hy
    obtain ⟨i, hi⟩ := List.getElem?_of_mem hs
    exact ⟨i, k, s, t, hi, hk, e, ht, .single ⟨s, t, hi, hk, ht ▸ hy⟩⟩
  | tail _ h2 ih =>
    obtain ⟨i, k, s, t, hi, hk, e1, e2, h3⟩ := ih
    obtain ⟨s', hs, e, hy⟩ := h2
    obtain ⟨k', t', hk', ht'⟩ := known s' hs _ hy
    obtain ⟨j, hj⟩ := List.getElem?_of_mem hs
    have := name_place ok hk hj (e2.trans e.symm)
    subst this
    exact ⟨i, k', s, t', hi, hk', e1, ht', .tail h3 ⟨s', t', hj, hk', ht' ▸ hy⟩⟩

theorem reach_iff {ss : List Stp} (ok : NamesOk ss) {i k : Nat} {s t : Stp} (hi : ss[i]? = some s) (hk : ss[k]? = some t) : TransGen (Ed ss) i k ↔ TransGen (En ss) s.name t.name := by
  constructor
  · intro h
    obtain ⟨s', t', h1, h2, h3⟩ := ed_names h
    rw [hi] at h1; cases h1
    rw [hk] at h2; cases h2
    exact h3
  · intro h
    obtain ⟨i', k', s', t', h1, h2, h3, h4, h5⟩ := names_ed ok h
    have := name_place ok h1 hi h3
    subst this
    have := name_place ok h2 hk h4
    subst this
    exact h5

def Cyc (ss : List Stp) : Prop := ∃ x, TransGen (En ss) x x
/-- A final call. -/
def Fin' (s : Stp) : Prop := s.event.toList.isEmpty = true ∧ s.final = true
def FinBad (ss : List Stp) : Prop := ∃ s ∈ ss, Fin' s ∧ ∃ x ∈ ss, ¬ Fin' x ∧ ¬ TransGen (En ss) s.name x.name

/-- May the step stand by itself? -/
def stepF (s : Stp) : Int :=
  if (!s.event.toList.isEmpty) = true then (if (!(s.event.toList == [112, 97, 105, 100])) = true then 111 else 0)
  else if (!(undoF s.verb.toList).2.1) = true then 111
  else if s.undo.toList = (undoF s.verb.toList).1.toList then (if (!(s.final == (undoF s.verb.toList).2.2)) = true then 112 else 0) else 112

/-- The first step that may not stand by itself. -/
def firstF : List Stp → Int
  | [] => 0
  | s :: r => if stepF s ≠ 0 then stepF s else firstF r

theorem firstF_zero : ∀ {ss : List Stp}, firstF ss = 0 ↔ ∀ s ∈ ss, stepF s = 0
  | [] => by simp [firstF]
  | s :: r => by
    unfold firstF
    by_cases h : stepF s = 0
    · simp [h, firstF_zero (ss := r)]
    · simp [h]

theorem firstF_at {ss : List Stp} {k : Nat} {s : Stp} (h0 : ∀ j, j < k → ∀ t, ss[j]? = some t → stepF t = 0) (hk : ss[k]? = some s) (hs : stepF s ≠ 0) : firstF ss = stepF s := by
  induction ss generalizing k with
  | nil => simp at hk
  | cons t r ih =>
    unfold firstF
    cases k with
    | zero =>
      simp at hk
      subst hk
      rw [if_pos hs]
    | succ k =>
      have := h0 0 (by omega) t (by simp)
      rw [if_neg (by simp [this])]
      exact ih (k := k) (fun j hj u hu => h0 (j + 1) (by omega) u (by simpa using hu)) (by simpa using hk)

open Classical in
/-- What Check says. -/
noncomputable def checkF (ss : List Stp) : Int :=
  if ¬ NamesOk ss then 110 else if firstF ss ≠ 0 then firstF ss else if Cyc ss then 113 else if FinBad ss then 114 else 0

theorem checkF_names {ss : List Stp} (h : ¬ NamesOk ss) : checkF ss = 110 := by unfold checkF; rw [if_pos h]
theorem checkF_first {ss : List Stp} (h : NamesOk ss) (h1 : firstF ss ≠ 0) : checkF ss = firstF ss := by unfold checkF; rw [if_neg (fun hn => hn h), if_pos h1]
theorem checkF_cyc {ss : List Stp} (h : NamesOk ss) (h1 : firstF ss = 0) (h2 : Cyc ss) : checkF ss = 113 := by unfold checkF; rw [if_neg (fun hn => hn h), if_neg (fun hn => hn h1), if_pos h2]
theorem checkF_fin {ss : List Stp} (h : NamesOk ss) (h1 : firstF ss = 0) (h2 : ¬ Cyc ss) (h3 : FinBad ss) : checkF ss = 114 := by unfold checkF; rw [if_neg (fun hn => hn h), if_neg (fun hn => hn h1), if_neg h2, if_pos h3]
theorem checkF_ok {ss : List Stp} (h : NamesOk ss) (h1 : firstF ss = 0) (h2 : ¬ Cyc ss) (h3 : ¬ FinBad ss) : checkF ss = 0 := by unfold checkF; rw [if_neg (fun hn => hn h), if_neg (fun hn => hn h1), if_neg h2, if_neg h3]

theorem firstF_vals : ∀ (ss : List Stp), firstF ss = 0 ∨ firstF ss = 111 ∨ firstF ss = 112
  | [] => .inl rfl
  | s :: r => by
    unfold firstF
    split
    · unfold stepF
      repeat' split
      all_goals simp
    · exact firstF_vals r

theorem checkF_zero {ss : List Stp} : checkF ss = 0 ↔ NamesOk ss ∧ (∀ s ∈ ss, stepF s = 0) ∧ ¬ Cyc ss ∧ ¬ FinBad ss := by
  constructor
  · intro h
    by_cases h1 : NamesOk ss
    · by_cases h2 : firstF ss = 0
      · by_cases h3 : Cyc ss
        · rw [checkF_cyc h1 h2 h3] at h; cases h
        · by_cases h4 : FinBad ss
          · rw [checkF_fin h1 h2 h3 h4] at h; cases h
          · exact ⟨h1, firstF_zero.1 h2, h3, h4⟩
      · rw [checkF_first h1 h2] at h; exact absurd h h2
    · rw [checkF_names h1] at h; cases h
  · rintro ⟨h1, h2, h3, h4⟩
    exact checkF_ok h1 (firstF_zero.2 h2) h3 h4

/-- What counts of a step. -/
structure Like (f : ByteArray → ByteArray) (s t : Stp) : Prop where
  name : t.name = f s.name
  verb : t.verb = s.verb
  undo : t.undo = s.undo
  event : t.event = s.event
  final : t.final = s.final
  after : t.after = s.after.map f

theorem Like.stepF {f : ByteArray → ByteArray} {s t : Stp} (h : Like f s t) : stepF t = Go.Proofs.Ythbfgeaojgfafaa.stepF s := by
  unfold Go.Proofs.Ythbfgeaojgfafaa.stepF
  rw [h.verb, h.undo, h.event, h.final]

theorem Like.fin {f : ByteArray → ByteArray} {s t : Stp} (h : Like f s t) : Fin' t ↔ Fin' s := by unfold Fin'; rw [h.event, h.final]

/-- Steps that are the same but for where they lie, in whatever order. -/
theorem check_perm {ss tt : List Stp} (hn : (tt.map (·.name)).Nodup ↔ (ss.map (·.name)).Nodup) (h1 : ∀ s ∈ ss, ∃ t ∈ tt, Like id s t) (h2 : ∀ t ∈ tt, ∃ s ∈ ss, Like id s t) : checkF tt = 0 ↔ checkF ss = 0 := by
  have hmem : ∀ x, x ∈ tt.map (·.name) ↔ x ∈ ss.map (·.name) := fun x => by
    constructor
    · intro h
      obtain ⟨t, ht, rfl⟩ := List.mem_map.1 h
      obtain ⟨s, hs, hl⟩ := h2 t ht
      exact List.mem_map.2 ⟨s, hs, hl.name.symm⟩
    · intro h
      obtain ⟨s, hs, rfl⟩ := List.mem_map.1 h
      obtain ⟨t, ht, hl⟩ := h1 s hs
      exact List.mem_map.2 ⟨t, ht, hl.name⟩
  have haft : ∀ {s t : Stp}, Like id s t → t.after = s.after := fun h => by rw [h.after]; simp
  have hE : En tt = En ss := by
    funext x y
    apply propext
    constructor
    · rintro ⟨t, ht, e, hy⟩
      obtain ⟨s, hs, hl⟩ := h2 t ht
      exact ⟨s, hs, hl.name.symm.trans e, haft hl ▸ hy⟩
    · rintro ⟨s, hs, e, hy⟩
      obtain ⟨t, ht, hl⟩ := h1 s hs
      exact ⟨t, ht, hl.name.trans e, (haft hl).symm ▸ hy⟩
  have hN : NamesOk tt ↔ NamesOk ss := by
    unfold NamesOk
    rw [hn]
    refine and_congr_right fun _ => ⟨fun h s hs a ha => ?_, fun h t ht a ha => ?_⟩
    · obtain ⟨t, ht, hl⟩ := h1 s hs
      exact (hmem a).1 (h t ht a ((haft hl).symm ▸ ha))
    · obtain ⟨s, hs, hl⟩ := h2 t ht
      exact (hmem a).2 (h s hs a (haft hl ▸ ha))
  have hS : (∀ t ∈ tt, stepF t = 0) ↔ ∀ s ∈ ss, stepF s = 0 := by
    constructor
    · intro h s hs
      obtain ⟨t, ht, hl⟩ := h1 s hs
      rw [← hl.stepF]; exact h t ht
    · intro h t ht
      obtain ⟨s, hs, hl⟩ := h2 t ht
      rw [hl.stepF]; exact h s hs
  have hC : Cyc tt ↔ Cyc ss := by unfold Cyc; rw [hE]
  have hF : FinBad tt ↔ FinBad ss := by
    unfold FinBad
    rw [hE]
    constructor
    · rintro ⟨t, ht, hf, x, hx, hxf, hr⟩
      obtain ⟨s, hs, hl⟩ := h2 t ht
      obtain ⟨y, hy, hm⟩ := h2 x hx
      exact ⟨s, hs, hl.fin.1 hf, y, hy, fun h => hxf (hm.fin.2 h), by have e1 := hl.name; have e2 := hm.name; simp only [id] at e1 e2; rw [← e1, ← e2]; exact hr⟩
    · rintro ⟨t, ht, hf, x, hx, hxf, hr⟩
      obtain ⟨s, hs, hl⟩ := h1 t ht
      obtain ⟨y, hy, hm⟩ := h1 x hx
      exact ⟨s, hs, hl.fin.2 hf, y, hy, fun h => hxf (hm.fin.1 h), by have e1 := hl.name; have e2 := hm.name; simp only [id] at e1 e2; rw [e1, e2]; exact hr⟩
  rw [checkF_zero, checkF_zero, hN, hS, hC, hF]

theorem map_nodup {f : ByteArray → ByteArray} (hf : ∀ a b, f a = f b → a = b) (l : List ByteArray) : (l.map f).Nodup ↔ l.Nodup := by
  constructor
  · intro h
    rw [List.nodup_iff_pairwise_ne] at h ⊢
    rw [List.pairwise_map] at h
    exact h.imp fun hab e => hab (by rw [e])
  · intro h
    exact List.Pairwise.map _ (fun a c hac e => hac (hf a c e)) h

/-- Steps that are called otherwise, each name by one rule. -/
theorem check_rename {f : ByteArray → ByteArray} (hf : ∀ a b, f a = f b → a = b) {ss tt : List Stp} (hl : tt.length = ss.length) (h : ∀ (i : Nat) (s t : Stp), ss[i]? = some s → tt[i]? = some t → Like f s t) : checkF tt = checkF ss := by
  have h1 : ∀ s ∈ ss, ∃ t ∈ tt, Like f s t := fun s hs => by
    obtain ⟨i, hi⟩ := List.getElem?_of_mem hs
    have hil : i < tt.length := by rw [hl]; exact (List.getElem?_eq_some_iff.1 hi).1
    exact ⟨tt[i], List.getElem_mem _, h i s _ hi (List.getElem?_eq_getElem hil)⟩
  have h2 : ∀ t ∈ tt, ∃ s ∈ ss, Like f s t := fun t ht => by
    obtain ⟨i, hi⟩ := List.getElem?_of_mem ht
    have hil : i < ss.length := by rw [← hl]; exact (List.getElem?_eq_some_iff.1 hi).1
    exact ⟨ss[i], List.getElem_mem _, h i _ t (List.getElem?_eq_getElem hil) hi⟩
  have hnm : tt.map (·.name) = (ss.map (·.name)).map f := by
    apply List.ext_getElem?
    intro i
    rw [List.getElem?_map, List.getElem?_map, List.getElem?_map]
    cases hi : ss[i]? with
    | none => rw [List.getElem?_eq_none (by rw [hl]; exact List.getElem?_eq_none_iff.1 hi)]; rfl
    | some s =>
      have hil : i < tt.length := by rw [hl]; exact (List.getElem?_eq_some_iff.1 hi).1
      rw [List.getElem?_eq_getElem hil]
      have := (h i s _ hi (List.getElem?_eq_getElem hil)).name
      simp [this]
  have hE1 : ∀ {x y}, En ss x y → En tt (f x) (f y) := by
    rintro x y ⟨s, hs, rfl, hy⟩
    obtain ⟨t, ht, hl⟩ := h1 s hs
    exact ⟨t, ht, hl.name, by rw [hl.after]; exact List.mem_map.2 ⟨y, hy, rfl⟩⟩
  have hE2 : ∀ {x z}, En tt (f x) z → ∃ y, z = f y ∧ En ss x y := by
    rintro x z ⟨t, ht, e, hz⟩
    obtain ⟨s, hs, hl⟩ := h2 t ht
    rw [hl.after] at hz
    obtain ⟨y, hy, rfl⟩ := List.mem_map.1 hz
    exact ⟨y, rfl, s, hs, hf _ _ (hl.name.symm.trans e), hy⟩
  have hT1 : ∀ {x y}, TransGen (En ss) x y → TransGen (En tt) (f x) (f y) := fun h => by
    induction h with
    | single h => exact .single (hE1 h)
    | tail _ h2 ih => exact .tail ih (hE1 h2)
  have hT2 : ∀ {x z}, TransGen (En tt) (f x) z → ∃ y, z = f y ∧ TransGen (En ss) x y := fun h => by
    induction h with
    | single h => obtain ⟨y, e, h2⟩ := hE2 h; exact ⟨y, e, .single h2⟩
    | tail _ h2 ih =>
      obtain ⟨y, rfl, h3⟩ := ih
      obtain ⟨z, e, h4⟩ := hE2 h2
      exact ⟨z, e, .tail h3 h4⟩
  have hT : ∀ {x y}, TransGen (En tt) (f x) (f y) ↔ TransGen (En ss) x y := fun {x y} => ⟨fun h => by obtain ⟨z, e, h3⟩ := hT2 h; rw [hf _ _ e]; exact h3, hT1⟩
  have hN : NamesOk tt ↔ NamesOk ss := by
    unfold NamesOk
    rw [hnm, map_nodup hf]
    refine and_congr_right fun _ => ⟨fun h s hs a ha => ?_, fun h t ht a ha => ?_⟩
    · obtain ⟨t, ht, hl⟩ := h1 s hs
      obtain ⟨b, hb, e⟩ := List.mem_map.1 (h t ht (f a) (by rw [hl.after]; exact List.mem_map.2 ⟨a, ha, rfl⟩))
      rw [← hf _ _ e]; exact hb
    · obtain ⟨s, hs, hl⟩ := h2 t ht
      rw [hl.after] at ha
      obtain ⟨b, hb, rfl⟩ := List.mem_map.1 ha
      exact List.mem_map.2 ⟨b, h s hs b hb, rfl⟩
  have hS : firstF tt = firstF ss := by
    clear hnm h1 h2 hE1 hE2 hT1 hT2 hT hN
    induction ss generalizing tt with
    | nil =>
      have : tt = [] := List.eq_nil_of_length_eq_zero (by simpa using hl)
      rw [this]
    | cons s r ih =>
      cases tt with
      | nil => simp at hl
      | cons t q =>
        unfold firstF
        rw [(h 0 s t (by simp) (by simp)).stepF, ih (by simpa using hl) (fun i s' t' hs ht => h (i + 1) s' t' (by simpa using hs) (by simpa using ht))]
  have hC : Cyc tt ↔ Cyc ss := by
    unfold Cyc
    constructor
    · rintro ⟨x, hx⟩
      obtain ⟨b, ⟨t, ht, e, _⟩, _⟩ := TransGen.first hx
      obtain ⟨s, hs, hl⟩ := h2 t ht
      rw [hl.name] at e
      subst e
      exact ⟨s.name, hT.1 hx⟩
    · rintro ⟨x, hx⟩; exact ⟨f x, hT.2 hx⟩
  have hF : FinBad tt ↔ FinBad ss := by
    unfold FinBad
    constructor
    · rintro ⟨t, ht, hfn, x, hx, hxf, hr⟩
      obtain ⟨s, hs, hl⟩ := h2 t ht
      obtain ⟨y, hy, hm⟩ := h2 x hx
      exact ⟨s, hs, hl.fin.1 hfn, y, hy, fun h => hxf (hm.fin.2 h), fun h => hr (by rw [hl.name, hm.name]; exact hT.2 h)⟩
    · rintro ⟨t, ht, hfn, x, hx, hxf, hr⟩
      obtain ⟨s, hs, hl⟩ := h1 t ht
      obtain ⟨y, hy, hm⟩ := h1 x hx
      exact ⟨s, hs, hl.fin.2 hfn, y, hy, fun h => hxf (hm.fin.1 h), fun h => hr (by rw [hl.name, hm.name] at h; exact hT.1 h)⟩
  unfold checkF
  rw [hS, propext hN, propext hC, propext hF]

/-- Without the last step, if nobody waits for it. -/
theorem check_fewer {ss : List Stp} {z : Stp} (h0 : checkF (ss ++ [z]) = 0) (hz : ∀ s ∈ ss ++ [z], ∀ a ∈ s.after, a ≠ z.name) : checkF ss = 0 := by
  rw [checkF_zero] at h0 ⊢
  obtain ⟨⟨n1, n2⟩, s0, c0, f0⟩ := h0
  rw [List.map_append, List.nodup_append] at n1
  have hE : ∀ {x y}, En ss x y → En (ss ++ [z]) x y := by
    rintro x y ⟨s, hs, e, hy⟩
    exact ⟨s, List.mem_append_left _ hs, e, hy⟩
  have hT : ∀ {x y}, TransGen (En ss) x y → TransGen (En (ss ++ [z])) x y := fun h => by
    induction h with
    | single h => exact .single (hE h)
    | tail _ h2 ih => exact .tail ih (hE h2)
  have hE' : ∀ {x y}, x ≠ z.name → En (ss ++ [z]) x y → En ss x y ∧ y ≠ z.name := by
    rintro x y hx ⟨s, hs, e, hy⟩
    refine ⟨?_, hz s hs y hy⟩
    rcases List.mem_append.1 hs with h | h
    · exact ⟨s, h, e, hy⟩
    · simp at h; subst h; exact absurd e.symm hx
  have hT' : ∀ {x y}, x ≠ z.name → TransGen (En (ss ++ [z])) x y → TransGen (En ss) x y ∧ y ≠ z.name := fun hx h => by
    induction h with
    | single h => exact ⟨.single (hE' hx h).1, (hE' hx h).2⟩
    | tail _ h2 ih => exact ⟨.tail ih.1 (hE' ih.2 h2).1, (hE' ih.2 h2).2⟩
  refine ⟨⟨n1.1, fun s hs a ha => ?_⟩, fun s hs => s0 s (List.mem_append_left _ hs), fun ⟨x, hx⟩ => c0 ⟨x, hT hx⟩, ?_⟩
  · have := n2 s (List.mem_append_left _ hs) a ha
    rw [List.map_append] at this
    rcases List.mem_append.1 this with h | h
    · exact h
    · simp at h
      exact absurd h (hz s (List.mem_append_left _ hs) a ha)
  · rintro ⟨s, hs, hf, x, hx, hxf, hr⟩
    refine f0 ⟨s, List.mem_append_left _ hs, hf, x, List.mem_append_left _ hx, hxf, fun h => hr (hT' ?_ h).1⟩
    intro e
    exact n1.2.2 s.name (List.mem_map.2 ⟨s, hs, rfl⟩) z.name (by simp) e

end Go.Proofs.Ythbfgeaojgfafaa
