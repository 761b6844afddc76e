/- Maps in memory: a map block as a list of pairs with distinct keys; laws for make, lookup, store, delete, len. No program is named. -/
import Derived.Test.YtbfdmglmolkloaaGreatDoorMem
namespace Go.Proofs.YtbfdmglmolkloaaGreatDoor
open Go Go.RowKit

theorem beq_bytes (a b : ByteArray) : (a == b) = decide (a = b) := by
  obtain ⟨a⟩ := a
  obtain ⟨b⟩ := b
  show (a == b) = _
  rw [Bool.eq_iff_iff]
  simp

theorem map_erase {α β : Type} (f : α → β) : ∀ (l : List α) (i : Nat), (l.eraseIdx i).map f = (l.map f).eraseIdx i
  | [], _ => by simp
  | _ :: _, 0 => by simp
  | a :: l, i + 1 => by simp [map_erase f l i]

/-- What is asked of a kind of keys. -/
structure Keys (P : Program) (t : TypeId) (K : Type) [DecidableEq K] where
  d : TypeDesc
  hu : P.underlying t = some d
  kv : K → Value
  same : ∀ a b, Instr.sameNow d (kv a) (kv b) = some (decide (a = b))
  check : ∀ (e : Bool) (a : K) (w : World), (Instr.checkKey e 10000 t (kv a)).run P w = .ok () w
  bits : ∀ a, Instr.sameBits 10000 (kv a) (kv a) = true

def intKeys {P : Program} {t : TypeId} {k : IntKind} (h : P.underlying t = some (.int k)) : Keys P t Int where
  d := .int k
  hu := h
  kv := fun i => .int k i
  same := fun a b => by simp only [Instr.sameNow, if_true]; congr 1
  check := fun e a w => by
    show (Instr.checkKey e (Nat.succ 9999) t (.int k a)).run P w = _
    generalize 9999 = n
    simp [Instr.checkKey, run_underlying h]
  bits := fun a => by
    show Instr.sameBits (9999 + 1) (.int k a) (.int k a) = true
    simp [Instr.sameBits]

def strKeys {P : Program} {t : TypeId} (h : P.underlying t = some .string) : Keys P t ByteArray where
  d := .string
  hu := h
  kv := fun s => .string s
  same := fun a b => by simp only [Instr.sameNow, beq_bytes]
  check := fun e a w => by
    show (Instr.checkKey e (Nat.succ 9999) t (.string a)).run P w = _
    generalize 9999 = n
    simp [Instr.checkKey, run_underlying h]
  bits := fun a => by
    show Instr.sameBits (Nat.succ 9999) (.string a) (.string a) = true
    generalize 9999 = n
    simp [Instr.sameBits, beq_bytes]

section
variable {K : Type}

/-- A block that is a map with these entries, in the order in which they lie. -/
def MapAt (kv : K → Value) (w : World) (b : Nat) (l : List (K × Value)) : Prop :=
  ∃ es clock, w.heap[b]? = some (.map es clock) ∧ es.toList.map (fun e => (e.key, e.val)) = l.map (fun p => (kv p.1, p.2)) ∧ (l.map (·.1)).Nodup ∧ (∀ e ∈ es.toList, e.born < clock) ∧ (es.toList.map (·.born)).Nodup

theorem MapAt.lt {kv : K → Value} {w : World} {b : Nat} {l : List (K × Value)} (h : MapAt kv w b l) : b < w.heap.size := by
  obtain ⟨es, clock, hb, _⟩ := h
  exact lt_of_heap hb

theorem MapAt.mod {S : Nat → Prop} {kv : K → Value} {w w' : World} {b : Nat} {l : List (K × Value)} (h : MapAt kv w b l) (hm : Mod S w w') (hs : ¬ S b) : MapAt kv w' b l := by
  obtain ⟨es, clock, hb, rest⟩ := h
  exact ⟨es, clock, (hm.block b (lt_of_heap hb) hs).trans hb, rest⟩

theorem MapAt.size {kv : K → Value} {l : List (K × Value)} {es : Array MapEntry} (h : es.toList.map (fun e => (e.key, e.val)) = l.map (fun p => (kv p.1, p.2))) : es.size = l.length := by
  have := congrArg List.length h
  simpa using this

theorem MapAt.made (kv : K → Value) (w : World) : MapAt kv (w.alloc (.map #[] 0)) w.heap.size ([] : List (K × Value)) :=
  ⟨#[], 0, heap_alloc_new _ _, rfl, by simp, by simp, by simp⟩

variable [DecidableEq K]

def aget (l : List (K × Value)) (k : K) : Option Value := (l.find? (fun p => p.1 = k)).map (·.2)
def aput (l : List (K × Value)) (k : K) (v : Value) : List (K × Value) := if (l.any fun p => p.1 = k) then l.map (fun p => if p.1 = k then (k, v) else p) else l ++ [(k, v)]
def adel (l : List (K × Value)) (k : K) : List (K × Value) := l.filter (fun p => ¬ p.1 = k)

/-- Where a key stands. -/
theorem findNow_eq {P : Program} {t : TypeId} (KK : Keys P t K) (k : K) : ∀ (es : List MapEntry) (l : List (K × Value)) (i : Nat), es.map (fun e => (e.key, e.val)) = l.map (fun p => (KK.kv p.1, p.2)) →
    Instr.findNow KK.d (KK.kv k) es i = some ((l.findIdx? (fun p => p.1 = k)).bind fun j => (l[j]?).map fun p => (i + j, p.2))
  | [], [], i, _ => by simp [Instr.findNow]
  | [], _ :: _, _, h => by simp at h
  | _ :: _, [], _, h => by simp at h
  | e :: es, p :: l, i, h => by
    simp only [List.map_cons, List.cons.injEq, Prod.mk.injEq] at h
    obtain ⟨⟨h1, h2⟩, h3⟩ := h
    simp only [Instr.findNow, h1, KK.same, List.findIdx?_cons]
    by_cases hk : k = p.1
    · subst hk
      simp [h2]
    · have hk' : ¬ p.1 = k := fun h => hk h.symm
      rw [decide_eq_false hk]
      simp only [hk', decide_false]
      rw [findNow_eq KK k es l (i + 1) h3]
      cases hf : l.findIdx? (fun p => decide (p.1 = k)) with
      | none => simp
      | some j =>
        simp
        cases l[j]? with
        | none => rfl
        | some q => simp; omega

theorem run_findKey {P : Program} {t : TypeId} (KK : Keys P t K) (w : World) (k : K) (es : List MapEntry) (l : List (K × Value)) (h : es.map (fun e => (e.key, e.val)) = l.map (fun p => (KK.kv p.1, p.2))) :
    (Instr.findKey t (KK.kv k) es).run P w = .ok ((l.findIdx? (fun p => p.1 = k)).bind fun j => (l[j]?).map fun p => (j, p.2)) w := by
  simp [Instr.findKey, run_underlying KK.hu, findNow_eq KK k es l 0 h]

theorem find_of_idx (l : List (K × Value)) (k : K) : ((l.findIdx? (fun p => decide (p.1 = k))).bind fun j => (l[j]?).map fun p => (j, p.2)) = ((l.findIdx? (fun p => decide (p.1 = k))).bind fun j => (aget l k).map fun v => (j, v)) := by
  cases hf : l.findIdx? (fun p => decide (p.1 = k)) with
  | none => rfl
  | some j =>
    simp only [Option.bind_some]
    unfold aget
    rw [List.find?_eq_bind_findIdx?_getElem?, hf]
    simp
    rfl

theorem aget_none_iff (l : List (K × Value)) (k : K) : aget l k = none ↔ l.findIdx? (fun p => decide (p.1 = k)) = none := by
  unfold aget
  rw [Option.map_eq_none_iff, List.find?_eq_none, List.findIdx?_eq_none_iff]
  simp

/-- m[k] of a map in memory. -/
theorem run_lookup_at {P : Program} {t kt et : TypeId} (KK : Keys P kt K) (ht : P.underlying t = some (.map kt et)) {w : World} {z : Value} (hz : (zeroValue et).run P w = .ok z w) {b : Nat} {l : List (K × Value)} (h : MapAt KK.kv w b l) (k : K) (ok : Bool) :
    (Instr.lookup t (.map (some b)) (KK.kv k) ok).run P w = .ok (if ok then .tuple #[(aget l k).getD z, .bool (aget l k).isSome] else (aget l k).getD z) w := by
  obtain ⟨es, clock, hb, hl, _⟩ := h
  have hg : ∀ (f : Obj → Sem Value), (Sem.getObj b f).run P w = (f (.map es clock)).run P w := fun f => by simp [Sem.run, hb]
  have hf := run_findKey KK w k es.toList l hl
  rw [find_of_idx] at hf
  cases ha : aget l k with
  | none =>
    have h0 := (aget_none_iff l k).1 ha
    rw [h0] at hf
    simp only [Option.bind_none] at hf
    cases ok <;> simp [Instr.lookup, run_underlying ht, getObj, Sem.run, hb, KK.check, hf, hz]
  | some v =>
    cases h0 : l.findIdx? (fun p => decide (p.1 = k)) with
    | none => rw [(aget_none_iff l k).2 h0] at ha; cases ha
    | some j =>
      rw [h0, ha] at hf
      simp only [Option.bind_some, Option.map_some] at hf
      cases ok <;> simp [Instr.lookup, run_underlying ht, getObj, Sem.run, hb, KK.check, hf]

theorem heap_set {w : World} {b : Nat} {o' : Obj} (hb : w.heap[b]? = some o') (o : Obj) : ({ w with heap := w.heap.setIfInBounds b o } : World).heap[b]? = some o := by
  simp [lt_of_heap hb]

/-- A new key's entry comes last. -/
theorem run_update_new {P : Program} {t kt et : TypeId} (KK : Keys P kt K) (ht : P.underlying t = some (.map kt et)) {w : World} {b : Nat} {l : List (K × Value)} (h : MapAt KK.kv w b l) (k : K) (v : Value) (hk : aget l k = none) :
    ∃ w', (Instr.mapUpdate t (.map (some b)) (KK.kv k) v).run P w = .ok () w' ∧ MapAt KK.kv w' b (l ++ [(k, v)]) ∧ Mod (fun j => j = b) w w' := by
  obtain ⟨es, clock, hb, hl, hn, hbo, hbn⟩ := h
  have hf := run_findKey KK w k es.toList l hl
  rw [(aget_none_iff l k).1 hk] at hf
  simp only [Option.bind_none] at hf
  have hnot : k ∉ l.map (·.1) := by
    intro hm
    obtain ⟨p, hp, rfl⟩ := List.mem_map.1 hm
    have := (List.findIdx?_eq_none_iff.1 ((aget_none_iff l p.1).1 hk)) p hp
    simp at this
  refine ⟨{ w with heap := w.heap.setIfInBounds b (.map (es.push { key := KK.kv k, val := v, born := clock }) (clock + 1)) }, ?_, ?_, ?_⟩
  · simp [Instr.mapUpdate, run_underlying ht, getObj, setObj, Sem.run, hb, KK.check, hf]
  · refine ⟨es.push { key := KK.kv k, val := v, born := clock }, clock + 1, heap_set hb _, by simp [hl], ?_, ?_, ?_⟩
    · rw [List.map_append, List.nodup_append]
      refine ⟨hn, by simp, fun a ha c hc => ?_⟩
      simp at hc
      subst hc
      exact fun h => hnot (h ▸ ha)
    · intro e he
      simp only [Array.toList_push, List.mem_append, List.mem_singleton] at he
      rcases he with he | rfl
      · have := hbo e he; omega
      · exact Nat.lt_succ_self _
    · simp only [Array.toList_push, List.map_append, List.map_cons, List.map_nil]
      rw [List.nodup_append]
      refine ⟨hbn, by simp, fun a ha c hc => ?_⟩
      simp at hc
      subst hc
      obtain ⟨e, he, rfl⟩ := List.mem_map.1 ha
      have := hbo e he
      omega
  · exact ⟨rfl, rfl, rfl, by simp, fun j _ hj => by simp [Array.getElem?_setIfInBounds]; intro h; exact absurd h.symm hj⟩

/-- delete of a key. -/
theorem run_delete_at {P : Program} {t kt et : TypeId} (ty : TypeId) (KK : Keys P kt K) (ht : P.underlying t = some (.map kt et)) {w : World} {b : Nat} {l : List (K × Value)} (h : MapAt KK.kv w b l) (k : K) :
    ∃ w', (Builtin.delete_ #[t, kt] ty #[.map (some b), KK.kv k]).run P w = .ok (.tuple #[]) w' ∧ MapAt KK.kv w' b (match l.findIdx? (fun p => decide (p.1 = k)) with | some i => l.eraseIdx i | none => l) ∧ Mod (fun j => j = b) w w' := by
  obtain ⟨es, clock, hb, hl, hn, hbo, hbn⟩ := h
  have hf := run_findKey KK w k es.toList l hl
  have hmod : ∀ o, Mod (fun j => j = b) w { w with heap := w.heap.setIfInBounds b o } := fun o => ⟨rfl, rfl, rfl, by simp, fun j _ hj => by simp [Array.getElem?_setIfInBounds]; intro h; exact absurd h.symm hj⟩
  cases h0 : l.findIdx? (fun p => decide (p.1 = k)) with
  | none =>
    rw [h0] at hf
    simp only [Option.bind_none] at hf
    refine ⟨{ w with heap := w.heap.setIfInBounds b (.map es clock) }, ?_, ⟨es, clock, heap_set hb _, hl, hn, hbo, hbn⟩, hmod _⟩
    simp [Builtin.delete_, run_underlying ht, getObj, setObj, Sem.run, hb, KK.check, hf]
  | some i =>
    obtain ⟨hi, _⟩ := List.findIdx?_eq_some_iff_getElem.1 h0
    have he : es.size = l.length := MapAt.size hl
    rw [h0] at hf
    simp only [Option.bind_some, List.getElem?_eq_getElem hi, Option.map_some] at hf
    refine ⟨{ w with heap := w.heap.setIfInBounds b (.map (es.eraseIdxIfInBounds i) clock) }, ?_, ⟨es.eraseIdxIfInBounds i, clock, heap_set hb _, ?_, ?_, ?_, ?_⟩, hmod _⟩
    · simp [Builtin.delete_, run_underlying ht, getObj, setObj, Sem.run, hb, KK.check, hf]
    · rw [Array.toList_eraseIdxIfInBounds, map_erase, map_erase, hl]
    · rw [map_erase]
      exact hn.sublist (List.eraseIdx_sublist _ _)
    · intro e hm
      rw [Array.toList_eraseIdxIfInBounds] at hm
      exact hbo e (List.mem_of_mem_eraseIdx hm)
    · rw [Array.toList_eraseIdxIfInBounds, map_erase]
      exact hbn.sublist (List.eraseIdx_sublist _ _)

omit [DecidableEq K] in
theorem run_len_at {P : Program} {t kt et : TypeId} (ty : TypeId) {kv : K → Value} (ht : P.underlying t = some (.map kt et)) {w : World} {b : Nat} {l : List (K × Value)} (h : MapAt kv w b l) :
    (Builtin.len_ #[t] ty #[.map (some b)]).run P w = .ok (.int .i64 l.length) w := by
  obtain ⟨es, clock, hb, hl, _⟩ := h
  have he : es.size = l.length := MapAt.size hl
  simp [Builtin.len_, run_underlying ht, getObj, Sem.run, hb, he, goInt]

section
variable {P : Program} {ops : Array Oper} {rest : List Oper} {o : Oper} {a : Act} {w : World} {Q : Exit → Act → World → Prop}

theorem wpList_lookup_at (hg : o.guard = none) (m x : Operand) (t : TypeId) (ok : Bool) (hop : o.op = Op.lookup t m x ok) {kt et : TypeId} (KK : Keys P kt K) (ht : P.underlying t = some (.map kt et)) {z : Value} (hz : (zeroValue et).run P w = .ok z w)
    (b : Nat) (l : List (K × Value)) (k : K) (hm : a.eval m = .map (some b)) (hx : a.eval x = KK.kv k) (h : MapAt KK.kv w b l)
    (hK : wpList P ops Q rest (a.put o.dst (if ok then .tuple #[(aget l k).getD z, .bool (aget l k).isSome] else (aget l k).getD z)) w) : wpList P ops Q (o :: rest) a w := by
  refine wpList_plain hg fun K' hK' => ?_
  unfold Oper.wp
  simp [execOp, hop, hm, hx, run_lookup_at KK ht hz h k ok, Result.andThen]
  exact hK' _ _ hK

theorem wpList_update_new (hg : o.guard = none) (m x v : Operand) (t : TypeId) (hop : o.op = Op.mapUpdate t m x v) {kt et : TypeId} (KK : Keys P kt K) (ht : P.underlying t = some (.map kt et))
    (b : Nat) (l : List (K × Value)) (k : K) (val : Value) (hm : a.eval m = .map (some b)) (hx : a.eval x = KK.kv k) (hv : a.eval v = val) (h : MapAt KK.kv w b l) (hn : aget l k = none)
    (hK : ∀ w', MapAt KK.kv w' b (l ++ [(k, val)]) → Mod (fun j => j = b) w w' → wpList P ops Q rest (a.put o.dst undef) w') : wpList P ops Q (o :: rest) a w := by
  refine wpList_plain hg fun K' hK' => ?_
  obtain ⟨w', hrun, r1, r2⟩ := run_update_new KK ht h k val hn
  unfold Oper.wp
  simp [execOp, hop, hm, hx, hv, hrun, Result.andThen]
  exact hK' _ _ (hK w' r1 r2)

theorem wpList_delete_at (hg : o.guard = none) (m x : Operand) (t kt : TypeId) (hop : o.op = Op.call { callee := Callee.builtin Builtin.delete, args := #[m, x], argTypes := #[t, kt] }) {et : TypeId} (KK : Keys P kt K) (ht : P.underlying t = some (.map kt et))
    (b : Nat) (l : List (K × Value)) (k : K) (hm : a.eval m = .map (some b)) (hx : a.eval x = KK.kv k) (h : MapAt KK.kv w b l)
    (hK : ∀ w', MapAt KK.kv w' b (match l.findIdx? (fun p => decide (p.1 = k)) with | some i => l.eraseIdx i | none => l) → Mod (fun j => j = b) w w' → wpList P ops Q rest (a.put o.dst (.tuple #[])) w') : wpList P ops Q (o :: rest) a w := by
  refine wpList_plain hg fun K' hK' => ?_
  obtain ⟨w', hrun, r1, r2⟩ := run_delete_at o.type KK ht h k
  unfold Oper.wp
  simp [execOp, hop, resolve, invoke, builtin, hm, hx, hrun, Result.andThen]
  exact hK' _ _ (hK w' r1 r2)

omit [DecidableEq K] in
theorem wpList_len_at (hg : o.guard = none) (m : Operand) (t : TypeId) (hop : o.op = Op.call { callee := Callee.builtin Builtin.len, args := #[m], argTypes := #[t] }) {kt et : TypeId} {kv : K → Value} (ht : P.underlying t = some (.map kt et))
    (b : Nat) (l : List (K × Value)) (hm : a.eval m = .map (some b)) (h : MapAt kv w b l)
    (hK : wpList P ops Q rest (a.put o.dst (.int .i64 l.length)) w) : wpList P ops Q (o :: rest) a w := by
  refine wpList_plain hg fun K' hK' => ?_
  unfold Oper.wp
  simp [execOp, hop, resolve, invoke, builtin, hm, run_len_at o.type ht h, Result.andThen]
  exact hK' _ _ hK
end
end

end Go.Proofs.YtbfdmglmolkloaaGreatDoor
