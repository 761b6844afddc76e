/- Maps in memory: a store at whatever key, and ranging over a map in whatever order. No program is named. -/
import Derived.Test.YtbfdmglmolkloaaGreatDoorMap
import Derived.Maps.RangeRun
import Derived.Maps.RangeWalk
namespace Go.Proofs.YtbfdmglmolkloaaGreatDoor
open Go Go.RowKit
open Go.ChangeMaps (setBlock)

section
variable {K : Type} [DecidableEq K]

theorem Keys.inj {P : Program} {t : TypeId} (KK : Keys P t K) {a b : K} (h : KK.kv a = KK.kv b) : a = b := by
  have h1 := KK.same a b
  have h2 := KK.same b b
  rw [h, h2] at h1
  simpa using h1

theorem aget_isSome_iff (l : List (K × Value)) (k : K) : (aget l k).isSome = true ↔ k ∈ l.map (·.1) := by
  unfold aget
  rw [Option.isSome_map, List.find?_isSome]
  simp [List.mem_map]

theorem aget_mem {l : List (K × Value)} {k : K} {v : Value} (h : aget l k = some v) : (k, v) ∈ l := by
  unfold aget at h
  rw [Option.map_eq_some_iff] at h
  obtain ⟨p, hp, rfl⟩ := h
  have h1 := List.mem_of_find?_eq_some hp
  have h2 := List.find?_some hp
  simp only [decide_eq_true_eq] at h2
  subst h2
  exact h1

theorem aput_new {l : List (K × Value)} {k : K} (h : aget l k = none) (v : Value) : aput l k v = l ++ [(k, v)] := by
  unfold aput
  rw [if_neg]
  intro hc
  rw [List.any_eq_true] at hc
  obtain ⟨p, hp, hk⟩ := hc
  have h1 := (aget_isSome_iff l k).2 (by simp only [decide_eq_true_eq] at hk; subst hk; exact List.mem_map.2 ⟨p, hp, rfl⟩)
  rw [h] at h1
  cases h1

theorem aput_keys {l : List (K × Value)} {k : K} {v : Value} (x : K) : x ∈ (aput l k v).map (·.1) ↔ x = k ∨ x ∈ l.map (·.1) := by
  unfold aput
  split
  · rename_i h
    rw [List.any_eq_true] at h
    obtain ⟨q, hq, hqk⟩ := h
    simp only [decide_eq_true_eq] at hqk
    simp only [List.map_map, List.mem_map, Function.comp]
    constructor
    · rintro ⟨p, hp, rfl⟩
      by_cases hk : p.1 = k
      · left; simp [hk]
      · right; exact ⟨p, hp, by simp [hk]⟩
    · rintro (rfl | ⟨p, hp, rfl⟩)
      · exact ⟨q, hq, by simp [hqk]⟩
      · by_cases hk : p.1 = k
        · exact ⟨p, hp, by simp [hk]⟩
        · exact ⟨p, hp, by simp [hk]⟩
  · simp only [List.map_append, List.mem_append, List.map_cons, List.map_nil, List.mem_singleton]
    exact Or.comm

theorem aput_mem {l : List (K × Value)} {k : K} {v : Value} {p : K × Value} (h : p ∈ aput l k v) : p = (k, v) ∨ p ∈ l := by
  unfold aput at h
  split at h
  · obtain ⟨q, hq, rfl⟩ := List.mem_map.1 h
    by_cases hk : q.1 = k
    · left; simp [hk]
    · right; simp [hk]; exact hq
  · rcases List.mem_append.1 h with h | h
    · exact .inr h
    · exact .inl (by simpa using h)

/-- A store at whatever key. -/
theorem run_update_any {P : Program} {t kt et : TypeId} (KK : Keys P kt K) (ht : P.underlying t = some (.map kt et)) {w : World} {b : Nat} {l : List (K × Value)} (h : MapAt KK.kv w b l) (k : K) (v : Value) :
    ∃ w', (Instr.mapUpdate t (.map (some b)) (KK.kv k) v).run P w = .ok () w' ∧ MapAt KK.kv w' b (aput l k v) ∧ Mod (fun j => j = b) w w' := by
  cases hk : aget l k with
  | none => rw [aput_new hk]; exact run_update_new KK ht h k v hk
  | some v0 =>
    obtain ⟨es, clock, hb, hl, hn, hbo, hbn⟩ := h
    have hf := run_findKey KK w k es.toList l hl
    cases h0 : l.findIdx? (fun p => decide (p.1 = k)) with
    | none => rw [(aget_none_iff l k).2 h0] at hk; cases hk
    | some i =>
      obtain ⟨hi, hik, _⟩ := List.findIdx?_eq_some_iff_getElem.1 h0
      have he : es.size = l.length := MapAt.size hl
      have hie : i < es.size := by omega
      simp only [decide_eq_true_eq] at hik
      rw [h0] at hf
      simp only [Option.bind_some, List.getElem?_eq_getElem hi, Option.map_some] at hf
      have hkey : es[i].key = KK.kv k := by
        have := congrArg (fun l : List (Value × Value) => l[i]?) hl
        simp only [List.getElem?_map, Array.getElem?_toList, Array.getElem?_eq_getElem hie, List.getElem?_eq_getElem hi, Option.map_some, Option.some.injEq, Prod.mk.injEq] at this
        rw [this.1, hik]
      have hany : (l.any fun p => decide (p.1 = k)) = true := List.any_eq_true.2 ⟨l[i], List.getElem_mem hi, by simp [hik]⟩
      have hput : aput l k v = l.map (fun p => if p.1 = k then (k, v) else p) := by unfold aput; rw [if_pos hany]
      have hidx : ∀ j (hj : j < l.length), l[j].1 = k → j = i := fun j hj hjk => by
        have hn' : (l.map (·.1))[j]? = (l.map (·.1))[i]? := by simp [hj, hi, hjk, hik]
        exact (List.getElem?_inj (by simpa using hj) hn).1 hn'
      refine ⟨{ w with heap := w.heap.setIfInBounds b (.map (es.modify i fun e => { e with key := KK.kv k, val := v }) clock) }, ?_, ?_, ?_⟩
      · simp [Instr.mapUpdate, Instr.keyThatStays, run_underlying ht, getObj, setObj, Sem.run, hb, KK.check, hf, hie, hkey, KK.bits]
      · have hkeys : (l.map fun p => if p.1 = k then (k, v) else p).map (·.1) = l.map (·.1) := by
          rw [List.map_map]
          apply List.map_congr_left
          intro p _
          simp only [Function.comp]
          split
          · rename_i h; exact h.symm
          · rfl
        refine ⟨es.modify i fun e => { e with key := KK.kv k, val := v }, clock, heap_set hb _, ?_, by rw [hput, hkeys]; exact hn, ?_, ?_⟩
        · rw [hput]
          apply List.ext_getElem?
          intro j
          have hlj := congrArg (fun l : List (Value × Value) => l[j]?) hl
          simp only [List.getElem?_map, Array.getElem?_toList] at hlj
          simp only [List.getElem?_map, Array.getElem?_toList, Array.getElem?_modify]
          by_cases hji : i = j
          · subst hji
            simp [hie, hi, hik]
          · rw [if_neg hji, hlj]
            by_cases hjl : j < l.length
            · have : l[j].1 ≠ k := fun h => hji (hidx j hjl h).symm
              simp [hjl, this]
            · simp [List.getElem?_eq_none (Nat.le_of_not_lt hjl)]
        · intro e hm
          obtain ⟨j, hj, rfl⟩ := List.getElem_of_mem hm
          rw [Array.getElem_toList, Array.getElem_modify]
          have hj' : j < es.size := by simpa using hj
          have hb2 := hbo es[j] (by simp)
          split
          · exact hb2
          · exact hb2
        · have hborn : (es.modify i fun e => { e with key := KK.kv k, val := v }).toList.map (·.born) = es.toList.map (·.born) := by
            apply List.ext_getElem?
            intro j
            simp only [List.getElem?_map, Array.getElem?_toList, Array.getElem?_modify]
            split
            · cases es[j]? <;> rfl
            · rfl
          rw [hborn]; exact hbn
      · exact ⟨rfl, rfl, rfl, by simp, fun j _ hj => by simp [Array.getElem?_setIfInBounds]; intro h; exact absurd h.symm hj⟩

/-- A range over a map under way: 'left' is still to come, cnt entries. -/
def RangeAt (kv : K → Value) (w : World) (b r : Nat) (l : List (K × Value)) (left : K → Prop) (cnt : Nat) : Prop :=
  ∃ es clock since seen c0, w.heap[b]? = some (.map es clock) ∧ es.toList.map (fun e => (e.key, e.val)) = l.map (fun p => (kv p.1, p.2)) ∧ (l.map (·.1)).Nodup ∧ (∀ e ∈ es.toList, e.born < clock) ∧ (es.toList.map (·.born)).Nodup ∧
    w.heap[r]? = some (.mapIter (some b) since seen c0) ∧ (∀ x ∈ es.toList, x.born < since) ∧ since ≤ c0 ∧ since ≤ clock ∧ (leftOf es seen).size = cnt ∧
    ∀ k, left k ↔ ∃ x ∈ es.toList, x.key = kv k ∧ seen.contains x.born = false

omit [DecidableEq K] in
theorem RangeAt.map {kv : K → Value} {w : World} {b r : Nat} {l : List (K × Value)} {left : K → Prop} {cnt : Nat} (h : RangeAt kv w b r l left cnt) : MapAt kv w b l := by
  obtain ⟨es, clock, since, seen, c0, h1, h2, h3, h4, h5, _⟩ := h
  exact ⟨es, clock, h1, h2, h3, h4, h5⟩

omit [DecidableEq K] in
theorem RangeAt.lt {kv : K → Value} {w : World} {b r : Nat} {l : List (K × Value)} {left : K → Prop} {cnt : Nat} (h : RangeAt kv w b r l left cnt) : r < w.heap.size := by
  obtain ⟨es, clock, since, seen, c0, h1, h2, h3, h4, h5, h6, _⟩ := h
  exact lt_of_heap h6

omit [DecidableEq K] in
theorem RangeAt.ne {kv : K → Value} {w : World} {b r : Nat} {l : List (K × Value)} {left : K → Prop} {cnt : Nat} (h : RangeAt kv w b r l left cnt) : r ≠ b := by
  obtain ⟨es, clock, since, seen, c0, h1, h2, h3, h4, h5, h6, _⟩ := h
  intro e
  rw [e, h1] at h6
  cases h6

omit [DecidableEq K] in
theorem RangeAt.mod {S : Nat → Prop} {kv : K → Value} {w w' : World} {b r : Nat} {l : List (K × Value)} {left : K → Prop} {cnt : Nat} (h : RangeAt kv w b r l left cnt) (hm : Mod S w w') (hb : ¬ S b) (hr : ¬ S r) : RangeAt kv w' b r l left cnt := by
  obtain ⟨es, clock, since, seen, c0, h1, h2, h3, h4, h5, h6, rest⟩ := h
  exact ⟨es, clock, since, seen, c0, (hm.block b (lt_of_heap h1) hb).trans h1, h2, h3, h4, h5, (hm.block r (lt_of_heap h6) hr).trans h6, rest⟩

omit [DecidableEq K] in
theorem entry_of_list {kv : K → Value} {es : List MapEntry} {l : List (K × Value)} (h : es.map (fun e => (e.key, e.val)) = l.map (fun p => (kv p.1, p.2))) {x : MapEntry} (hx : x ∈ es) : ∃ p ∈ l, x.key = kv p.1 ∧ x.val = p.2 := by
  have : (x.key, x.val) ∈ l.map (fun p => (kv p.1, p.2)) := by rw [← h]; exact List.mem_map.2 ⟨x, hx, rfl⟩
  obtain ⟨p, hp, he⟩ := List.mem_map.1 this
  simp only [Prod.mk.injEq] at he
  exact ⟨p, hp, he.1.symm, he.2.symm⟩

omit [DecidableEq K] in
theorem list_of_entry {kv : K → Value} {es : List MapEntry} {l : List (K × Value)} (h : es.map (fun e => (e.key, e.val)) = l.map (fun p => (kv p.1, p.2))) {p : K × Value} (hp : p ∈ l) : ∃ x ∈ es, x.key = kv p.1 ∧ x.val = p.2 := by
  have : (kv p.1, p.2) ∈ es.map (fun e => (e.key, e.val)) := by rw [h]; exact List.mem_map.2 ⟨p, hp, rfl⟩
  obtain ⟨x, hx, he⟩ := List.mem_map.1 this
  simp only [Prod.mk.injEq] at he
  exact ⟨x, hx, he.1, he.2⟩

/-- 'range m'. -/
theorem run_range_at {P : Program} {t kt et : TypeId} (KK : Keys P kt K) (ht : P.underlying t = some (.map kt et)) {w : World} {b : Nat} {l : List (K × Value)} (h : MapAt KK.kv w b l) :
    ∃ w', (Instr.range t (.map (some b))).run P w = .ok (.pointer (some ⟨w.heap.size, 0, none⟩)) w' ∧ RangeAt KK.kv w' b w.heap.size l (fun k => k ∈ l.map (·.1)) l.length ∧ Mod (fun _ => False) w w' := by
  obtain ⟨es, clock, hb, hl, hn, hbo, hbn⟩ := h
  refine ⟨_, run_range_map w t kt et b es clock ht hb, ⟨es, clock, clock, #[], clock, (Below.heap_alloc _ _ _ (lt_of_heap hb)).trans hb, hl, hn, hbo, hbn, heap_alloc_new _ _, hbo, Nat.le_refl _, Nat.le_refl _, ?_, fun k => ?_⟩, (Mod.refl _ _).alloc _⟩
  · unfold leftOf
    rw [Array.filter_eq_self.2 (by simp)]
    exact MapAt.size hl
  · constructor
    · intro hk
      obtain ⟨p, hp, rfl⟩ := List.mem_map.1 hk
      obtain ⟨x, hx, h1, _⟩ := list_of_entry hl hp
      exact ⟨x, hx, h1, by simp⟩
    · rintro ⟨x, hx, h1, _⟩
      obtain ⟨p, hp, h2, _⟩ := entry_of_list hl hx
      rw [h1] at h2
      rw [KK.inj h2]
      exact List.mem_map.2 ⟨p, hp, rfl⟩

/-- THE STEP. -/
theorem RangeAt.next {P : Program} {kt : TypeId} (KK : Keys P kt K) {w : World} {b r : Nat} {l : List (K × Value)} {left : K → Prop} {cnt : Nat} (h : RangeAt KK.kv w b r l left cnt) (ty : TypeId) :
    ((∀ k, ¬ left k) ∧ (Instr.next (.pointer (some ⟨r, 0, none⟩)) false ty).run P w = .ok (.tuple #[.bool false]) w) ∨
    ∃ k v w' cnt', left k ∧ (k, v) ∈ l ∧ (Instr.next (.pointer (some ⟨r, 0, none⟩)) false ty).run P w = .ok (.tuple #[.bool true, KK.kv k, v]) w' ∧ RangeAt KK.kv w' b r l (fun x => left x ∧ x ≠ k) cnt' ∧ cnt' < cnt ∧ Mod (fun j => j = r) w w' ∧
      (Instr.entry (.pointer (some ⟨r, 0, none⟩))).run P w' = .ok (.tuple #[KK.kv k, v]) w' := by
  have hne := h.ne
  obtain ⟨es, clock, since, seen, c0, hb, hl, hn, hbo, hbn, hr, hold, hsc, hsk, rfl, hleft⟩ := h
  rcases run_next_at (P := P) w ty r b since c0 seen es clock hr hb hold hsc with ⟨h0, hrun⟩ | ⟨e, he, w1, hal, hrun⟩
  · refine .inl ⟨fun k hk => ?_, hrun⟩
    obtain ⟨x, hx, _, hs⟩ := (hleft k).1 hk
    rw [all_seen es seen h0 x hx] at hs
    cases hs
  · obtain ⟨hem, hes⟩ := mem_left he
    obtain ⟨p, hp, hk1, hv1⟩ := entry_of_list hl hem
    have hr1 : w1.heap[r]? = some (.mapIter (some b) since seen c0) := by rcases hal with rfl | rfl <;> exact hr
    have hb1 : w1.heap[b]? = some (.map es clock) := by rcases hal with rfl | rfl <;> exact hb
    have hset : (setBlock w1 r (.mapIter (some b) since (seen.push e.born) clock)).heap[r]? = some (.mapIter (some b) since (seen.push e.born) clock) := by simp [setBlock, lt_of_heap hr1]
    have hoth : ∀ j, j ≠ r → (setBlock w1 r (.mapIter (some b) since (seen.push e.born) clock)).heap[j]? = w1.heap[j]? := fun j hj => by simp [setBlock, Ne.symm hj]
    have hb' := (hoth b (fun e1 => hne e1.symm)).trans hb1
    have hborn : ∀ x ∈ es.toList, x.born = e.born → x = e := fun x hx hxe => by
      obtain ⟨i, hi, rfl⟩ := List.getElem_of_mem hx
      obtain ⟨j, hj, hje⟩ := List.getElem_of_mem hem
      have : (es.toList.map (·.born))[i]? = (es.toList.map (·.born))[j]? := by rw [List.getElem?_map, List.getElem?_map, List.getElem?_eq_getElem hi, List.getElem?_eq_getElem hj, Option.map_some, Option.map_some, hje, hxe]
      have hij := (List.getElem?_inj (by simpa using hi) hbn).1 this
      subst hij
      exact hje
    have hkeys : (es.toList.map (·.key)).Nodup := by
      have h1 : es.toList.map (·.key) = l.map (fun p => KK.kv p.1) := by
        have := congrArg (List.map Prod.fst) hl
        simpa [List.map_map, Function.comp_def] using this
      rw [h1]
      have h2 : l.map (fun p => KK.kv p.1) = (l.map (·.1)).map KK.kv := by rw [List.map_map]; rfl
      rw [h2]
      exact List.Pairwise.map _ (fun a c hac h => hac (KK.inj h)) hn
    have hkey : ∀ x ∈ es.toList, x.key = e.key → x = e := fun x hx hxe => by
      obtain ⟨i, hi, rfl⟩ := List.getElem_of_mem hx
      obtain ⟨j, hj, hje⟩ := List.getElem_of_mem hem
      have : (es.toList.map (·.key))[i]? = (es.toList.map (·.key))[j]? := by rw [List.getElem?_map, List.getElem?_map, List.getElem?_eq_getElem hi, List.getElem?_eq_getElem hj, Option.map_some, Option.map_some, hje, hxe]
      have hij := (List.getElem?_inj (by simpa using hi) hkeys).1 this
      subst hij
      exact hje
    refine .inr ⟨p.1, p.2, _, _, (hleft p.1).2 ⟨e, hem, hk1, hes⟩, hp, by rw [hrun, hk1, hv1], ⟨es, clock, since, seen.push e.born, clock, hb', hl, hn, hbo, hbn, hset, hold, hsk, hsk, rfl, fun k => ?_⟩, left_shrinks es seen e he, ?_, ?_⟩
    · constructor
      · rintro ⟨hk, hkne⟩
        obtain ⟨x, hx, hxk, hxs⟩ := (hleft k).1 hk
        refine ⟨x, hx, hxk, ?_⟩
        rw [contains_push, hxs]
        have : x.born ≠ e.born := fun h => hkne (by
          have := hborn x hx h
          subst this
          exact KK.inj (hxk.symm.trans hk1))
        simp [this]
      · rintro ⟨x, hx, hxk, hxs⟩
        rw [contains_push] at hxs
        simp only [Bool.or_eq_false_iff] at hxs
        refine ⟨(hleft k).2 ⟨x, hx, hxk, hxs.1⟩, fun h => ?_⟩
        subst h
        have := hkey x hx (hxk.trans hk1.symm)
        subst this
        simp at hxs
    · rcases hal with rfl | rfl <;> exact ⟨rfl, rfl, rfl, by simp [setBlock], fun i _ hi => hoth i hi⟩
    · rw [run_entry_at _ r b since seen es clock e hset hb' hem hbn, hk1, hv1]

section
variable {P : Program} {ops : Array Oper} {rest : List Oper} {o : Oper} {a : Act} {w : World} {Q : Exit → Act → World → Prop}

theorem wpList_update_any (hg : o.guard = none) (m x v : Operand) (t : TypeId) (hop : o.op = Op.mapUpdate t m x v) {kt et : TypeId} (KK : Keys P kt K) (ht : P.underlying t = some (.map kt et))
    (b : Nat) (l : List (K × Value)) (k : K) (val : Value) (hm : a.eval m = .map (some b)) (hx : a.eval x = KK.kv k) (hv : a.eval v = val) (h : MapAt KK.kv w b l)
    (hK : ∀ w', MapAt KK.kv w' b (aput l k val) → Mod (fun j => j = b) w w' → wpList P ops Q rest (a.put o.dst undef) w') : wpList P ops Q (o :: rest) a w := by
  refine wpList_plain hg fun K' hK' => ?_
  obtain ⟨w', hrun, r1, r2⟩ := run_update_any KK ht h k val
  unfold Oper.wp
  simp [execOp, hop, hm, hx, hv, hrun, Result.andThen]
  exact hK' _ _ (hK w' r1 r2)

theorem wpList_range_at (hg : o.guard = none) (m : Operand) (t : TypeId) (hop : o.op = Op.range t m) {kt et : TypeId} (KK : Keys P kt K) (ht : P.underlying t = some (.map kt et))
    (b : Nat) (l : List (K × Value)) (hm : a.eval m = .map (some b)) (h : MapAt KK.kv w b l)
    (hK : ∀ w', RangeAt KK.kv w' b w.heap.size l (fun k => k ∈ l.map (·.1)) l.length → Mod (fun _ => False) w w' → wpList P ops Q rest (a.put o.dst (.pointer (some ⟨w.heap.size, 0, none⟩))) w') : wpList P ops Q (o :: rest) a w := by
  refine wpList_plain hg fun K' hK' => ?_
  obtain ⟨w', hrun, r1, r2⟩ := run_range_at KK ht h
  unfold Oper.wp
  simp [execOp, hop, hm, hrun, Result.andThen]
  exact hK' _ _ (hK w' r1 r2)

theorem wpList_next_at (hg : o.guard = none) (it : Operand) (hop : o.op = Op.next it false) {kt : TypeId} (KK : Keys P kt K)
    (b r : Nat) (l : List (K × Value)) (left : K → Prop) (cnt : Nat) (hit : a.eval it = .pointer (some ⟨r, 0, none⟩)) (h : RangeAt KK.kv w b r l left cnt)
    (hDone : (∀ k, ¬ left k) → wpList P ops Q rest (a.put o.dst (.tuple #[.bool false])) w)
    (hMore : ∀ k v w' cnt', left k → (k, v) ∈ l → RangeAt KK.kv w' b r l (fun x => left x ∧ x ≠ k) cnt' → cnt' < cnt → Mod (fun j => j = r) w w' → (Instr.entry (.pointer (some ⟨r, 0, none⟩))).run P w' = .ok (.tuple #[KK.kv k, v]) w' → wpList P ops Q rest (a.put o.dst (.tuple #[.bool true, KK.kv k, v])) w') : wpList P ops Q (o :: rest) a w := by
  refine wpList_plain hg fun K' hK' => ?_
  unfold Oper.wp
  rcases h.next KK o.type with ⟨hl, hrun⟩ | ⟨k, v, w', cnt', h1, h2, hrun, h3, h4, h5, h6⟩
  · simp [execOp, hop, hit, hrun, Result.andThen]
    exact hK' _ _ (hDone hl)
  · simp [execOp, hop, hit, hrun, Result.andThen]
    exact hK' _ _ (hMore k v w' cnt' h1 h2 h3 h4 h5 h6)
end
end

end Go.Proofs.YtbfdmglmolkloaaGreatDoor
