/- merged: Map Map2 JrN -/
import Derived.Test.YtkinkgbmlhiakaaGreatDoorNd01
import Derived.Maps.RangeRun
import Derived.Maps.RangeWalk
import Derived.Test.YtkinkgbmlhiakaaGreatDoorNd04
namespace Go.Proofs.YtkinkgbmlhiakaaGreatDoor
section
open Go Go.RowKit
theorem qSk (a b : ByteArray) : (a == b) = decide (a = b) := by
 obtain ⟨a⟩ := a; obtain ⟨b⟩ := b; show (a == b) = _; rw [Bool.eq_iff_iff]; simp
theorem qFr {α β : Type} (f : α -> β) : ∀ (l : List α) (i : Nat), (l.eraseIdx i).map f = (l.map f).eraseIdx i
 | [], _ => by simp
 | _ :: _, 0 => by simp
 | a :: l, i + 1 => by simp [qFr f l i]
structure Keys (P : Program) (t : TypeId) (K : Type) [DecidableEq K] where
 d : TypeDesc
 hu : P.underlying t = some d
 kv : K -> Value
 same : ∀ a b, Instr.sameNow d (kv a) (kv b) = some (decide (a = b))
 check : ∀ (e : Bool) (a : K) (w : World), (Instr.checkKey e 10000 t (kv a)).run P w = .ok () w
 bits : ∀ a, Instr.sameBits 10000 (kv a) (kv a) = true
def jCb {P : Program} {t : TypeId} {k : IntKind} (h : P.underlying t = some (.int k)) : Keys P t Int where
 d := .int k
 hu := h
 kv := fun i => .int k i
 same := fun a b => by simp only [Instr.sameNow, if_true]; congr 1
 check := fun e a w => by
  show (Instr.checkKey e (Nat.succ 9999) t (.int k a)).run P w = _; generalize 9999 = n; simp [Instr.checkKey, run_underlying h]
 bits := fun a => by
  show Instr.sameBits (9999 + 1) (.int k a) (.int k a) = true; simp [Instr.sameBits]
def jAa {P : Program} {t : TypeId} (h : P.underlying t = some .string) : Keys P t ByteArray where
 d := .string
 hu := h
 kv := fun s => .string s
 same := fun a b => by simp only [Instr.sameNow, qSk]
 check := fun e a w => by
  show (Instr.checkKey e (Nat.succ 9999) t (.string a)).run P w = _; generalize 9999 = n; simp [Instr.checkKey, run_underlying h]
 bits := fun a => by
  show Instr.sameBits (Nat.succ 9999) (.string a) (.string a) = true; generalize 9999 = n; simp [Instr.sameBits, qSk]
section
variable {K : Type}
def qAv (kv : K -> Value) (w : World) (b : Nat) (l : List (K × Value)) : Prop :=
 ∃ es clock, w.heap[b]? = some (.map es clock) /\ es.toList.map (fun e => (e.key, e.val)) = l.map (fun p => (kv p.1, p.2)) /\ (l.map (·.1)).Nodup /\ (∀ e ∈ es.toList, e.born < clock) /\ (es.toList.map (·.born)).Nodup
theorem qAv.lt {kv : K -> Value} {w : World} {b : Nat} {l : List (K × Value)} (h : qAv kv w b l) : b < w.heap.size := by
 obtain ⟨es, clock, hb, _⟩ := h; exact lth hb
theorem qAv.mod {S : Nat -> Prop} {kv : K -> Value} {w w' : World} {b : Nat} {l : List (K × Value)} (h : qAv kv w b l) (hm : Mod S w w') (hs : ¬ S b) : qAv kv w' b l := by
 obtain ⟨es, clock, hb, rest⟩ := h; exact ⟨es, clock, (hm.block b (lth hb) hs).trans hb, rest⟩
theorem qAv.size {kv : K -> Value} {l : List (K × Value)} {es : Array MapEntry} (h : es.toList.map (fun e => (e.key, e.val)) = l.map (fun p => (kv p.1, p.2))) : es.size = l.length := by
 have := congrArg List.length h
 simpa using this
theorem qAv.made (kv : K -> Value) (w : World) : qAv kv (w.alloc (.map #[] 0)) w.heap.size ([] : List (K × Value)) :=
 ⟨#[], 0, heap_alloc_new _ _, rfl, by simp, by simp, by simp⟩
variable [DecidableEq K]
def aget (l : List (K × Value)) (k : K) : Option Value := (l.find? (fun p => p.1 = k)).map (·.2)
def aput (l : List (K × Value)) (k : K) (v : Value) : List (K × Value) := if (l.any fun p => p.1 = k) then l.map (fun p => if p.1 = k then (k, v) else p) else l ++ [(k, v)]
theorem qOj {P : Program} {t : TypeId} (KK : Keys P t K) (k : K) : ∀ (es : List MapEntry) (l : List (K × Value)) (i : Nat), es.map (fun e => (e.key, e.val)) = l.map (fun p => (KK.kv p.1, p.2)) →
  Instr.findNow KK.d (KK.kv k) es i = some ((l.findIdx? (fun p => p.1 = k)).bind fun j => (l[j]?).map fun p => (i + j, p.2))
 | [], [], i, _ => by simp [Instr.findNow]
 | [], _ :: _, _, h => by simp at h
 | _ :: _, [], _, h => by simp at h
 | e :: es, p :: l, i, h => by
  simp only [List.map_cons, List.cons.injEq, Prod.mk.injEq] at h; obtain ⟨⟨h1, h2⟩, h3⟩ := h; simp only [Instr.findNow, h1, KK.same, List.findIdx?_cons]; by_cases hk : k = p.1
  ·subst hk; simp [h2]
  ·have hk' : ¬ p.1 = k := fun h => hk h.symm
   rw [decide_eq_false hk]; simp only [hk', decide_false]; rw [qOj KK k es l (i + 1) h3]; cases hf : l.findIdx? (fun p => decide (p.1 = k)) with
   | none => simp
   | some j =>
    simp
    cases l[j]? with
    | none => rfl
    | some q => simp; omega
theorem qGd {P : Program} {t : TypeId} (KK : Keys P t K) (w : World) (k : K) (es : List MapEntry) (l : List (K × Value)) (h : es.map (fun e => (e.key, e.val)) = l.map (fun p => (KK.kv p.1, p.2))) :
  (Instr.findKey t (KK.kv k) es).run P w = .ok ((l.findIdx? (fun p => p.1 = k)).bind fun j => (l[j]?).map fun p => (j, p.2)) w := by
 simp [Instr.findKey, run_underlying KK.hu, qOj KK k es l 0 h]
theorem qTu (l : List (K × Value)) (k : K) : ((l.findIdx? (fun p => decide (p.1 = k))).bind fun j => (l[j]?).map fun p => (j, p.2)) = ((l.findIdx? (fun p => decide (p.1 = k))).bind fun j => (aget l k).map fun v => (j, v)) := by
 cases hf : l.findIdx? (fun p => decide (p.1 = k)) with
 | none => rfl
 | some j =>
  simp only [Option.bind_some]; unfold aget; rw [List.find?_eq_bind_findIdx?_getElem?, hf]; simp
  rfl
theorem qEa (l : List (K × Value)) (k : K) : aget l k = none ↔ l.findIdx? (fun p => decide (p.1 = k)) = none := by
 unfold aget; rw [Option.map_eq_none_iff, List.find?_eq_none, List.findIdx?_eq_none_iff]; simp
theorem qCe {P : Program} {t kt et : TypeId} (KK : Keys P kt K) (ht : P.underlying t = some (.map kt et)) {w : World} {z : Value} (hz : (zeroValue et).run P w = .ok z w) {b : Nat} {l : List (K × Value)} (h : qAv KK.kv w b l) (k : K) (ok : Bool) :
  (Instr.lookup t (.map (some b)) (KK.kv k) ok).run P w = .ok (if ok then .tuple #[(aget l k).getD z, .bool (aget l k).isSome] else (aget l k).getD z) w := by
 obtain ⟨es, clock, hb, hl, _⟩ := h; have hg : ∀ (f : Obj -> Sem Value), (Sem.getObj b f).run P w = (f (.map es clock)).run P w := fun f => by simp [Sem.run, hb]
 have hf := qGd KK w k es.toList l hl; rw [qTu] at hf; cases ha : aget l k with
 | none =>
  have h0 := (qEa l k).1 ha; rw [h0] at hf; simp only [Option.bind_none] at hf; cases ok <;> simp [Instr.lookup, run_underlying ht, getObj, Sem.run, hb, KK.check, hf, hz]
 | some v =>
  cases h0 : l.findIdx? (fun p => decide (p.1 = k)) with
  | none => rw [(qEa l k).2 h0] at ha; cases ha
  | some j =>
   rw [h0, ha] at hf; simp only [Option.bind_some, Option.map_some] at hf; cases ok <;> simp [Instr.lookup, run_underlying ht, getObj, Sem.run, hb, KK.check, hf]
theorem qLp {w : World} {b : Nat} {o' : Obj} (hb : w.heap[b]? = some o') (o : Obj) : ({ w with heap := w.heap.setIfInBounds b o } : World).heap[b]? = some o := by
 simp [lth hb]
theorem qHw {P : Program} {t kt et : TypeId} (KK : Keys P kt K) (ht : P.underlying t = some (.map kt et)) {w : World} {b : Nat} {l : List (K × Value)} (h : qAv KK.kv w b l) (k : K) (v : Value) (hk : aget l k = none) :
  ∃ w', (Instr.mapUpdate t (.map (some b)) (KK.kv k) v).run P w = .ok () w' /\ qAv KK.kv w' b (l ++ [(k, v)]) /\ Mod (fun j => j = b) w w' := by
 obtain ⟨es, clock, hb, hl, hn, hbo, hbn⟩ := h; have hf := qGd KK w k es.toList l hl; rw [(qEa l k).1 hk] at hf; simp only [Option.bind_none] at hf; have hnot : k ∉ l.map (·.1) := by
  intro hm; obtain ⟨p, hp, rfl⟩ := List.mem_map.1 hm; have := (List.findIdx?_eq_none_iff.1 ((qEa l p.1).1 hk)) p hp; simp at this
 refine ⟨{ w with heap := w.heap.setIfInBounds b (.map (es.push { key := KK.kv k, val := v, born := clock }) (clock + 1)) }, ?_, ?_, ?_⟩
 ·simp [Instr.mapUpdate, run_underlying ht, getObj, setObj, Sem.run, hb, KK.check, hf]
 ·refine ⟨es.push { key := KK.kv k, val := v, born := clock }, clock + 1, qLp hb _, by simp [hl], ?_, ?_, ?_⟩
  ·rw [List.map_append, List.nodup_append]; refine ⟨hn, by simp, fun a ha c hc => ?_⟩
   simp at hc
   subst hc; exact fun h => hnot (h ▸ ha)
  ·intro e he; simp only [Array.toList_push, List.mem_append, List.mem_singleton] at he; rcases he with he | rfl
   ·have := hbo e he; omega
   ·exact Nat.lt_succ_self _
  ·simp only [Array.toList_push, List.map_append, List.map_cons, List.map_nil]; rw [List.nodup_append]; refine ⟨hbn, by simp, fun a ha c hc => ?_⟩
   simp at hc
   subst hc; obtain ⟨e, he, rfl⟩ := List.mem_map.1 ha; have := hbo e he; omega
 ·exact ⟨rfl, rfl, rfl, by simp, fun j _ hj => by simp [Array.getElem?_setIfInBounds]; intro h; exact absurd h.symm hj⟩
theorem qCy {P : Program} {t kt et : TypeId} (ty : TypeId) (KK : Keys P kt K) (ht : P.underlying t = some (.map kt et)) {w : World} {b : Nat} {l : List (K × Value)} (h : qAv KK.kv w b l) (k : K) :
  ∃ w', (Builtin.delete_ #[t, kt] ty #[.map (some b), KK.kv k]).run P w = .ok (.tuple #[]) w' /\ qAv KK.kv w' b (match l.findIdx? (fun p => decide (p.1 = k)) with | some i => l.eraseIdx i | none => l) /\ Mod (fun j => j = b) w w' := by
 obtain ⟨es, clock, hb, hl, hn, hbo, hbn⟩ := h; have hf := qGd KK w k es.toList l hl; have hmod : ∀ o, Mod (fun j => j = b) w { w with heap := w.heap.setIfInBounds b o } := fun o => ⟨rfl, rfl, rfl, by simp, fun j _ hj => by simp [Array.getElem?_setIfInBounds]; intro h; exact absurd h.symm hj⟩
 cases h0 : l.findIdx? (fun p => decide (p.1 = k)) with
 | none =>
  rw [h0] at hf; simp only [Option.bind_none] at hf; refine ⟨{ w with heap := w.heap.setIfInBounds b (.map es clock) }, ?_, ⟨es, clock, qLp hb _, hl, hn, hbo, hbn⟩, hmod _⟩
  simp [Builtin.delete_, run_underlying ht, getObj, setObj, Sem.run, hb, KK.check, hf]
 | some i =>
  obtain ⟨hi, _⟩ := List.findIdx?_eq_some_iff_getElem.1 h0; have he : es.size = l.length := qAv.size hl; rw [h0] at hf; simp only [Option.bind_some, List.getElem?_eq_getElem hi, Option.map_some] at hf; refine ⟨{ w with heap := w.heap.setIfInBounds b (.map (es.eraseIdxIfInBounds i) clock) }, ?_, ⟨es.eraseIdxIfInBounds i, clock, qLp hb _, ?_, ?_, ?_, ?_⟩, hmod _⟩
  ·simp [Builtin.delete_, run_underlying ht, getObj, setObj, Sem.run, hb, KK.check, hf]
  ·rw [Array.toList_eraseIdxIfInBounds, qFr, qFr, hl]
  ·rw [qFr]; exact hn.sublist (List.eraseIdx_sublist _ _)
  ·intro e hm; rw [Array.toList_eraseIdxIfInBounds] at hm; exact hbo e (List.mem_of_mem_eraseIdx hm)
  ·rw [Array.toList_eraseIdxIfInBounds, qFr]; exact hbn.sublist (List.eraseIdx_sublist _ _)
omit [DecidableEq K] in
theorem qXs {P : Program} {t kt et : TypeId} (ty : TypeId) {kv : K -> Value} (ht : P.underlying t = some (.map kt et)) {w : World} {b : Nat} {l : List (K × Value)} (h : qAv kv w b l) :
  (Builtin.len_ #[t] ty #[.map (some b)]).run P w = .ok (.int .i64 l.length) w := by
 obtain ⟨es, clock, hb, hl, _⟩ := h; have he : es.size = l.length := qAv.size hl; simp [Builtin.len_, run_underlying ht, getObj, Sem.run, hb, he, goInt]
section
variable {P : Program} {ops : Array Oper} {rest : List Oper} {o : Oper} {a : Act} {w : World} {Q : Exit -> Act -> World -> Prop}
theorem qDj (hg : o.guard = none) (m x : Operand) (t : TypeId) (ok : Bool) (hop : o.op = Op.lookup t m x ok) {kt et : TypeId} (KK : Keys P kt K) (ht : P.underlying t = some (.map kt et)) {z : Value} (hz : (zeroValue et).run P w = .ok z w)
  (b : Nat) (l : List (K × Value)) (k : K) (hm : a.eval m = .map (some b)) (hx : a.eval x = KK.kv k) (h : qAv KK.kv w b l)
  (hK : wpList P ops Q rest (a.put o.dst (if ok then .tuple #[(aget l k).getD z, .bool (aget l k).isSome] else (aget l k).getD z)) w) : wpList P ops Q (o :: rest) a w := by
 refine wpList_plain hg fun K' hK' => ?_
 unfold Oper.wp; simp [execOp, hop, hm, hx, qCe KK ht hz h k ok, Result.andThen]
 exact hK' _ _ hK
theorem qEc (hg : o.guard = none) (m x v : Operand) (t : TypeId) (hop : o.op = Op.mapUpdate t m x v) {kt et : TypeId} (KK : Keys P kt K) (ht : P.underlying t = some (.map kt et))
  (b : Nat) (l : List (K × Value)) (k : K) (val : Value) (hm : a.eval m = .map (some b)) (hx : a.eval x = KK.kv k) (hv : a.eval v = val) (h : qAv KK.kv w b l) (hn : aget l k = none)
  (hK : ∀ w', qAv KK.kv w' b (l ++ [(k, val)]) -> Mod (fun j => j = b) w w' -> wpList P ops Q rest (a.put o.dst undef) w') : wpList P ops Q (o :: rest) a w := by
 refine wpList_plain hg fun K' hK' => ?_
 obtain ⟨w', hrun, r1, r2⟩ := qHw KK ht h k val hn; unfold Oper.wp; simp [execOp, hop, hm, hx, hv, hrun, Result.andThen]
 exact hK' _ _ (hK w' r1 r2)
theorem qGj (hg : o.guard = none) (m x : Operand) (t kt : TypeId) (hop : o.op = Op.call { callee := Callee.builtin Builtin.delete, args := #[m, x], argTypes := #[t, kt] }) {et : TypeId} (KK : Keys P kt K) (ht : P.underlying t = some (.map kt et))
  (b : Nat) (l : List (K × Value)) (k : K) (hm : a.eval m = .map (some b)) (hx : a.eval x = KK.kv k) (h : qAv KK.kv w b l)
  (hK : ∀ w', qAv KK.kv w' b (match l.findIdx? (fun p => decide (p.1 = k)) with | some i => l.eraseIdx i | none => l) -> Mod (fun j => j = b) w w' -> wpList P ops Q rest (a.put o.dst (.tuple #[])) w') : wpList P ops Q (o :: rest) a w := by
 refine wpList_plain hg fun K' hK' => ?_
 obtain ⟨w', hrun, r1, r2⟩ := qCy o.type KK ht h k; unfold Oper.wp; simp [execOp, hop, resolve, invoke, builtin, hm, hx, hrun, Result.andThen]
 exact hK' _ _ (hK w' r1 r2)
end
end
end
section
open Go Go.RowKit
open Go.ChangeMaps (setBlock)
section
variable {K : Type} [DecidableEq K]
theorem Keys.inj {P : Program} {t : TypeId} (KK : Keys P t K) {a b : K} (h : KK.kv a = KK.kv b) : a = b := by
 have h1 := KK.same a b; have h2 := KK.same b b; rw [h, h2] at h1
 simpa using h1
theorem qAx (l : List (K × Value)) (k : K) : (aget l k).isSome = true ↔ k ∈ l.map (·.1) := by
 unfold aget; rw [Option.isSome_map, List.find?_isSome]; simp [List.mem_map]
theorem qQn {l : List (K × Value)} {k : K} {v : Value} (h : aget l k = some v) : (k, v) ∈ l := by
 unfold aget at h; rw [Option.map_eq_some_iff] at h; obtain ⟨p, hp, rfl⟩ := h; have h1 := List.mem_of_find?_eq_some hp; have h2 := List.find?_some hp; simp only [decide_eq_true_eq] at h2; subst h2; exact h1
theorem qWv {l : List (K × Value)} {k : K} (h : aget l k = none) (v : Value) : aput l k v = l ++ [(k, v)] := by
 unfold aput; rw [if_neg]; intro hc; rw [List.any_eq_true] at hc; obtain ⟨p, hp, hk⟩ := hc; have h1 := (qAx l k).2 (by simp only [decide_eq_true_eq] at hk; subst hk; exact List.mem_map.2 ⟨p, hp, rfl⟩)
 rw [h] at h1; cases h1
theorem qBx {P : Program} {t kt et : TypeId} (KK : Keys P kt K) (ht : P.underlying t = some (.map kt et)) {w : World} {b : Nat} {l : List (K × Value)} (h : qAv KK.kv w b l) (k : K) (v : Value) :
  ∃ w', (Instr.mapUpdate t (.map (some b)) (KK.kv k) v).run P w = .ok () w' /\ qAv KK.kv w' b (aput l k v) /\ Mod (fun j => j = b) w w' := by
 cases hk : aget l k with
 | none => rw [qWv hk]; exact qHw KK ht h k v hk
 | some v0 =>
  obtain ⟨es, clock, hb, hl, hn, hbo, hbn⟩ := h; have hf := qGd KK w k es.toList l hl; cases h0 : l.findIdx? (fun p => decide (p.1 = k)) with
  | none => rw [(qEa l k).2 h0] at hk; cases hk
  | some i =>
   obtain ⟨hi, hik, _⟩ := List.findIdx?_eq_some_iff_getElem.1 h0; have he : es.size = l.length := qAv.size hl; have hie : i < es.size := by omega
   simp only [decide_eq_true_eq] at hik; rw [h0] at hf; simp only [Option.bind_some, List.getElem?_eq_getElem hi, Option.map_some] at hf; have hkey : es[i].key = KK.kv k := by
    have := congrArg (fun l : List (Value × Value) => l[i]?) hl
    simp only [List.getElem?_map, Array.getElem?_toList, Array.getElem?_eq_getElem hie, List.getElem?_eq_getElem hi, Option.map_some, Option.some.injEq, Prod.mk.injEq] at this; rw [this.1, hik]
   have hany : (l.any fun p => decide (p.1 = k)) = true := List.any_eq_true.2 ⟨l[i], List.getElem_mem hi, by simp [hik]⟩
   have hput : aput l k v = l.map (fun p => if p.1 = k then (k, v) else p) := by unfold aput; rw [if_pos hany]
   have hidx : ∀ j (hj : j < l.length), l[j].1 = k -> j = i := fun j hj hjk => by
    have hn' : (l.map (·.1))[j]? = (l.map (·.1))[i]? := by simp [hj, hi, hjk, hik]
    exact (List.getElem?_inj (by simpa using hj) hn).1 hn'
   refine ⟨{ w with heap := w.heap.setIfInBounds b (.map (es.modify i fun e => { e with key := KK.kv k, val := v }) clock) }, ?_, ?_, ?_⟩
   ·simp [Instr.mapUpdate, Instr.keyThatStays, run_underlying ht, getObj, setObj, Sem.run, hb, KK.check, hf, hie, hkey, KK.bits]
   ·have hkeys : (l.map fun p => if p.1 = k then (k, v) else p).map (·.1) = l.map (·.1) := by
     rw [List.map_map]; apply List.map_congr_left; intro p _; simp only [Function.comp]; split
     ·rename_i h; exact h.symm
     ·rfl
    refine ⟨es.modify i fun e => { e with key := KK.kv k, val := v }, clock, qLp hb _, ?_, by rw [hput, hkeys]; exact hn, ?_, ?_⟩
    ·rw [hput]; apply List.ext_getElem?; intro j; have hlj := congrArg (fun l : List (Value × Value) => l[j]?) hl
     simp only [List.getElem?_map, Array.getElem?_toList] at hlj; simp only [List.getElem?_map, Array.getElem?_toList, Array.getElem?_modify]; by_cases hji : i = j
     ·subst hji; simp [hie, hi, hik]
     ·rw [if_neg hji, hlj]; by_cases hjl : j < l.length
      ·have : l[j].1 ≠ k := fun h => hji (hidx j hjl h).symm
       simp [hjl, this]
      ·simp [List.getElem?_eq_none (Nat.le_of_not_lt hjl)]
    ·intro e hm; obtain ⟨j, hj, rfl⟩ := List.getElem_of_mem hm; rw [Array.getElem_toList, Array.getElem_modify]; have hj' : j < es.size := by simpa using hj
     have hb2 := hbo es[j] (by simp)
     split
     ·exact hb2
     ·exact hb2
    ·have hborn : (es.modify i fun e => { e with key := KK.kv k, val := v }).toList.map (·.born) = es.toList.map (·.born) := by
      apply List.ext_getElem?; intro j; simp only [List.getElem?_map, Array.getElem?_toList, Array.getElem?_modify]; split
      ·cases es[j]? <;> rfl
      ·rfl
     rw [hborn]; exact hbn
   ·exact ⟨rfl, rfl, rfl, by simp, fun j _ hj => by simp [Array.getElem?_setIfInBounds]; intro h; exact absurd h.symm hj⟩
def qCf (kv : K -> Value) (w : World) (b r : Nat) (l : List (K × Value)) (left : K -> Prop) (cnt : Nat) : Prop :=
 ∃ es clock since seen c0, w.heap[b]? = some (.map es clock) /\ es.toList.map (fun e => (e.key, e.val)) = l.map (fun p => (kv p.1, p.2)) /\ (l.map (·.1)).Nodup /\ (∀ e ∈ es.toList, e.born < clock) /\ (es.toList.map (·.born)).Nodup ∧
  w.heap[r]? = some (.mapIter (some b) since seen c0) /\ (∀ x ∈ es.toList, x.born < since) /\ since <= c0 /\ since <= clock /\ (leftOf es seen).size = cnt ∧
  ∀ k, left k ↔ ∃ x ∈ es.toList, x.key = kv k /\ seen.contains x.born = false
omit [DecidableEq K] in
theorem qCf.lt {kv : K -> Value} {w : World} {b r : Nat} {l : List (K × Value)} {left : K -> Prop} {cnt : Nat} (h : qCf kv w b r l left cnt) : r < w.heap.size := by
 obtain ⟨es, clock, since, seen, c0, h1, h2, h3, h4, h5, h6, _⟩ := h; exact lth h6
omit [DecidableEq K] in
theorem qCf.ne {kv : K -> Value} {w : World} {b r : Nat} {l : List (K × Value)} {left : K -> Prop} {cnt : Nat} (h : qCf kv w b r l left cnt) : r ≠ b := by
 obtain ⟨es, clock, since, seen, c0, h1, h2, h3, h4, h5, h6, _⟩ := h; intro e; rw [e, h1] at h6; cases h6
omit [DecidableEq K] in
theorem qCf.mod {S : Nat -> Prop} {kv : K -> Value} {w w' : World} {b r : Nat} {l : List (K × Value)} {left : K -> Prop} {cnt : Nat} (h : qCf kv w b r l left cnt) (hm : Mod S w w') (hb : ¬ S b) (hr : ¬ S r) : qCf kv w' b r l left cnt := by
 obtain ⟨es, clock, since, seen, c0, h1, h2, h3, h4, h5, h6, rest⟩ := h; exact ⟨es, clock, since, seen, c0, (hm.block b (lth h1) hb).trans h1, h2, h3, h4, h5, (hm.block r (lth h6) hr).trans h6, rest⟩
omit [DecidableEq K] in
theorem qJm {kv : K -> Value} {es : List MapEntry} {l : List (K × Value)} (h : es.map (fun e => (e.key, e.val)) = l.map (fun p => (kv p.1, p.2))) {x : MapEntry} (hx : x ∈ es) : ∃ p ∈ l, x.key = kv p.1 /\ x.val = p.2 := by
 have : (x.key, x.val) ∈ l.map (fun p => (kv p.1, p.2)) := by rw [<- h]; exact List.mem_map.2 ⟨x, hx, rfl⟩
 obtain ⟨p, hp, he⟩ := List.mem_map.1 this; simp only [Prod.mk.injEq] at he; exact ⟨p, hp, he.1.symm, he.2.symm⟩
omit [DecidableEq K] in
theorem qPo {kv : K -> Value} {es : List MapEntry} {l : List (K × Value)} (h : es.map (fun e => (e.key, e.val)) = l.map (fun p => (kv p.1, p.2))) {p : K × Value} (hp : p ∈ l) : ∃ x ∈ es, x.key = kv p.1 /\ x.val = p.2 := by
 have : (kv p.1, p.2) ∈ es.map (fun e => (e.key, e.val)) := by rw [h]; exact List.mem_map.2 ⟨p, hp, rfl⟩
 obtain ⟨x, hx, he⟩ := List.mem_map.1 this; simp only [Prod.mk.injEq] at he; exact ⟨x, hx, he.1, he.2⟩
theorem qRd {P : Program} {t kt et : TypeId} (KK : Keys P kt K) (ht : P.underlying t = some (.map kt et)) {w : World} {b : Nat} {l : List (K × Value)} (h : qAv KK.kv w b l) :
  ∃ w', (Instr.range t (.map (some b))).run P w = .ok (.pointer (some ⟨w.heap.size, 0, none⟩)) w' /\ qCf KK.kv w' b w.heap.size l (fun k => k ∈ l.map (·.1)) l.length /\ Mod (fun _ => False) w w' := by
 obtain ⟨es, clock, hb, hl, hn, hbo, hbn⟩ := h; refine ⟨_, run_range_map w t kt et b es clock ht hb, ⟨es, clock, clock, #[], clock, (Below.heap_alloc _ _ _ (lth hb)).trans hb, hl, hn, hbo, hbn, heap_alloc_new _ _, hbo, Nat.le_refl _, Nat.le_refl _, ?_, fun k => ?_⟩, (Mod.refl _ _).alloc _⟩
 ·unfold leftOf; rw [Array.filter_eq_self.2 (by simp)]
  exact qAv.size hl
 ·constructor
  ·intro hk; obtain ⟨p, hp, rfl⟩ := List.mem_map.1 hk; obtain ⟨x, hx, h1, _⟩ := qPo hl hp; exact ⟨x, hx, h1, by simp⟩
  ·rintro ⟨x, hx, h1, _⟩; obtain ⟨p, hp, h2, _⟩ := qJm hl hx; rw [h1] at h2; rw [KK.inj h2]; exact List.mem_map.2 ⟨p, hp, rfl⟩
theorem qCf.next {P : Program} {kt : TypeId} (KK : Keys P kt K) {w : World} {b r : Nat} {l : List (K × Value)} {left : K -> Prop} {cnt : Nat} (h : qCf KK.kv w b r l left cnt) (ty : TypeId) :
  ((∀ k, ¬ left k) /\ (Instr.next (.pointer (some ⟨r, 0, none⟩)) false ty).run P w = .ok (.tuple #[.bool false]) w) ∨
  ∃ k v w' cnt', left k /\ (k, v) ∈ l /\ (Instr.next (.pointer (some ⟨r, 0, none⟩)) false ty).run P w = .ok (.tuple #[.bool true, KK.kv k, v]) w' /\ qCf KK.kv w' b r l (fun x => left x /\ x ≠ k) cnt' /\ cnt' < cnt /\ Mod (fun j => j = r) w w' ∧
   (Instr.entry (.pointer (some ⟨r, 0, none⟩))).run P w' = .ok (.tuple #[KK.kv k, v]) w' := by
 have hne := h.ne; obtain ⟨es, clock, since, seen, c0, hb, hl, hn, hbo, hbn, hr, hold, hsc, hsk, rfl, hleft⟩ := h; rcases run_next_at (P := P) w ty r b since c0 seen es clock hr hb hold hsc with ⟨h0, hrun⟩ | ⟨e, he, w1, hal, hrun⟩
 ·refine .inl ⟨fun k hk => ?_, hrun⟩
  obtain ⟨x, hx, _, hs⟩ := (hleft k).1 hk; rw [all_seen es seen h0 x hx] at hs; cases hs
 ·obtain ⟨hem, hes⟩ := mem_left he; obtain ⟨p, hp, hk1, hv1⟩ := qJm hl hem; have hr1 : w1.heap[r]? = some (.mapIter (some b) since seen c0) := by rcases hal with rfl | rfl <;> exact hr
  have hb1 : w1.heap[b]? = some (.map es clock) := by rcases hal with rfl | rfl <;> exact hb
  have hset : (setBlock w1 r (.mapIter (some b) since (seen.push e.born) clock)).heap[r]? = some (.mapIter (some b) since (seen.push e.born) clock) := by simp [setBlock, lth hr1]
  have hoth : ∀ j, j ≠ r -> (setBlock w1 r (.mapIter (some b) since (seen.push e.born) clock)).heap[j]? = w1.heap[j]? := fun j hj => by simp [setBlock, Ne.symm hj]
  have hb' := (hoth b (fun e1 => hne e1.symm)).trans hb1
  have hborn : ∀ x ∈ es.toList, x.born = e.born -> x = e := fun x hx hxe => by
   obtain ⟨i, hi, rfl⟩ := List.getElem_of_mem hx; obtain ⟨j, hj, hje⟩ := List.getElem_of_mem hem; have : (es.toList.map (·.born))[i]? = (es.toList.map (·.born))[j]? := by rw [List.getElem?_map, List.getElem?_map, List.getElem?_eq_getElem hi, List.getElem?_eq_getElem hj, Option.map_some, Option.map_some, hje, hxe]
   have hij := (List.getElem?_inj (by simpa using hi) hbn).1 this
   subst hij; exact hje
  have hkeys : (es.toList.map (·.key)).Nodup := by
   have h1 : es.toList.map (·.key) = l.map (fun p => KK.kv p.1) := by
    have := congrArg (List.map Prod.fst) hl
    simpa [List.map_map, Function.comp_def] using this
   rw [h1]; have h2 : l.map (fun p => KK.kv p.1) = (l.map (·.1)).map KK.kv := by rw [List.map_map]; rfl
   rw [h2]; exact List.Pairwise.map _ (fun a c hac h => hac (KK.inj h)) hn
  have hkey : ∀ x ∈ es.toList, x.key = e.key -> x = e := fun x hx hxe => by
   obtain ⟨i, hi, rfl⟩ := List.getElem_of_mem hx; obtain ⟨j, hj, hje⟩ := List.getElem_of_mem hem; have : (es.toList.map (·.key))[i]? = (es.toList.map (·.key))[j]? := by rw [List.getElem?_map, List.getElem?_map, List.getElem?_eq_getElem hi, List.getElem?_eq_getElem hj, Option.map_some, Option.map_some, hje, hxe]
   have hij := (List.getElem?_inj (by simpa using hi) hkeys).1 this
   subst hij; exact hje
  refine .inr ⟨p.1, p.2, _, _, (hleft p.1).2 ⟨e, hem, hk1, hes⟩, hp, by rw [hrun, hk1, hv1], ⟨es, clock, since, seen.push e.born, clock, hb', hl, hn, hbo, hbn, hset, hold, hsk, hsk, rfl, fun k => ?_⟩, left_shrinks es seen e he, ?_, ?_⟩
  ·constructor
   ·rintro ⟨hk, hkne⟩; obtain ⟨x, hx, hxk, hxs⟩ := (hleft k).1 hk; refine ⟨x, hx, hxk, ?_⟩; rw [contains_push, hxs]; have : x.born ≠ e.born := fun h => hkne (by
     have := hborn x hx h; subst this; exact KK.inj (hxk.symm.trans hk1))
    simp [this]
   ·rintro ⟨x, hx, hxk, hxs⟩; rw [contains_push] at hxs; simp only [Bool.or_eq_false_iff] at hxs; refine ⟨(hleft k).2 ⟨x, hx, hxk, hxs.1⟩, fun h => ?_⟩
    subst h; have := hkey x hx (hxk.trans hk1.symm); subst this; simp at hxs
  ·rcases hal with rfl | rfl <;> exact ⟨rfl, rfl, rfl, by simp [setBlock], fun i _ hi => hoth i hi⟩
  ·rw [run_entry_at _ r b since seen es clock e hset hb' hem hbn, hk1, hv1]
section
variable {P : Program} {ops : Array Oper} {rest : List Oper} {o : Oper} {a : Act} {w : World} {Q : Exit -> Act -> World -> Prop}
theorem qKb (hg : o.guard = none) (m x v : Operand) (t : TypeId) (hop : o.op = Op.mapUpdate t m x v) {kt et : TypeId} (KK : Keys P kt K) (ht : P.underlying t = some (.map kt et))
  (b : Nat) (l : List (K × Value)) (k : K) (val : Value) (hm : a.eval m = .map (some b)) (hx : a.eval x = KK.kv k) (hv : a.eval v = val) (h : qAv KK.kv w b l)
  (hK : ∀ w', qAv KK.kv w' b (aput l k val) -> Mod (fun j => j = b) w w' -> wpList P ops Q rest (a.put o.dst undef) w') : wpList P ops Q (o :: rest) a w := by
 refine wpList_plain hg fun K' hK' => ?_
 obtain ⟨w', hrun, r1, r2⟩ := qBx KK ht h k val; unfold Oper.wp; simp [execOp, hop, hm, hx, hv, hrun, Result.andThen]
 exact hK' _ _ (hK w' r1 r2)
theorem qCt (hg : o.guard = none) (m : Operand) (t : TypeId) (hop : o.op = Op.range t m) {kt et : TypeId} (KK : Keys P kt K) (ht : P.underlying t = some (.map kt et))
  (b : Nat) (l : List (K × Value)) (hm : a.eval m = .map (some b)) (h : qAv KK.kv w b l)
  (hK : ∀ w', qCf KK.kv w' b w.heap.size l (fun k => k ∈ l.map (·.1)) l.length -> Mod (fun _ => False) w w' -> wpList P ops Q rest (a.put o.dst (.pointer (some ⟨w.heap.size, 0, none⟩))) w') : wpList P ops Q (o :: rest) a w := by
 refine wpList_plain hg fun K' hK' => ?_
 obtain ⟨w', hrun, r1, r2⟩ := qRd KK ht h; unfold Oper.wp; simp [execOp, hop, hm, hrun, Result.andThen]
 exact hK' _ _ (hK w' r1 r2)
theorem qDd (hg : o.guard = none) (it : Operand) (hop : o.op = Op.next it false) {kt : TypeId} (KK : Keys P kt K)
  (b r : Nat) (l : List (K × Value)) (left : K -> Prop) (cnt : Nat) (hit : a.eval it = .pointer (some ⟨r, 0, none⟩)) (h : qCf KK.kv w b r l left cnt)
  (hDone : (∀ k, ¬ left k) -> wpList P ops Q rest (a.put o.dst (.tuple #[.bool false])) w)
  (hMore : ∀ k v w' cnt', left k -> (k, v) ∈ l -> qCf KK.kv w' b r l (fun x => left x /\ x ≠ k) cnt' -> cnt' < cnt -> Mod (fun j => j = r) w w' -> (Instr.entry (.pointer (some ⟨r, 0, none⟩))).run P w' = .ok (.tuple #[KK.kv k, v]) w' -> wpList P ops Q rest (a.put o.dst (.tuple #[.bool true, KK.kv k, v])) w') : wpList P ops Q (o :: rest) a w := by
 refine wpList_plain hg fun K' hK' => ?_
 unfold Oper.wp; rcases h.next KK o.type with ⟨hl, hrun⟩ | ⟨k, v, w', cnt', h1, h2, hrun, h3, h4, h5, h6⟩
 ·simp [execOp, hop, hit, hrun, Result.andThen]
  exact hK' _ _ (hDone hl)
 ·simp [execOp, hop, hit, hrun, Result.andThen]
  exact hK' _ _ (hMore k v w' cnt' h1 h2 h3 h4 h5 h6)
end
end
end
section
open Go Go.RowKit
noncomputable def KU : Keys Tryz.prog 148 Int := jCb Tryz.underlying148
theorem qZf (w : World) : (zeroValue 3).run Tryz.prog w = .ok (.int .i64 0) w := by kernel_rfl
theorem qKm : (Tryz.prog.info? 3).map (fun i => (i.zero, i.size, i.bytes)) = some (some (.int .i64 0), 1, 8) := by kernel_rfl
def qNl (l : List Nat) : List (Int × Value) := l.map fun (n : Nat) => ((n : Int), .int .i64 1)
theorem qOa (l : List Nat) (n : Nat) : qNl (l ++ [n]) = qNl l ++ [((n : Int), .int .i64 1)] := by simp [qNl]
theorem qFy : ∀ (l : List Nat) (x : Nat), aget (qNl l) (x : Int) = if x ∈ l then some (.int .i64 1) else none
 | [], x => by simp [qNl, aget]
 | n :: l, x => by
  have ih := qFy l x; unfold qNl aget at *; rw [List.map_cons, List.find?_cons]; by_cases h : n = x
  ·subst h; simp
  ·have h1 : ¬ ((n : Int) = (x : Int)) := by omega
   have h2 : ¬ x = n := fun e => h e.symm
   simp only [h1, decide_false]; rw [ih]; simp [h2]
def jMi (w : World) (o : Option (List Nat)) (e : Ending) (w' : World) : Prop :=
 Mod (fun _ => False) w w' /\ match o with
  | none => e = .returned (.tuple #[.slice none 0 0, .int .i64 32])
  | some l => ∃ la cap, e = .returned (.tuple #[.slice la l.length cap, .int .i64 0]) /\ Own w' 3 1 la l.length cap (nums l) /\ (∀ k, blk la k -> w.heap.size <= k) /\ l.length <= 500 /\ ∀ n ∈ l, n <= 16384
def jMh (w wr : World) (s : ByteArray) (room len N i a : Nat) (out : List Nat) (la : Option Addr) (cap : Nat) : Prop :=
 numF room len s = qJc len s (N - i) a out /\ out.length = i /\ i <= N /\ a <= s.size /\ (∀ n ∈ out, n <= 16384) /\ Own wr 3 1 la out.length cap (nums out) /\ qAv KU.kv wr w.heap.size (qNl out) /\ (∀ k, blk la k -> w.heap.size < k) /\ Mod (fun _ => False) w wr
theorem jIa {a : Nat} {x : RU} (h : x.e = 0) : ruV a x = .tuple #[.int .u64 (x.v : Int), .int .i64 ((a : Int) + (x.n : Int)), .int .i64 0] := by unfold ruV; rw [if_pos h]
theorem jAn {a : Nat} {x : RU} (h : x.e ≠ 0) : ruV a x = .tuple #[.int .u64 0, .int .i64 0, .int .i64 (x.e : Int)] := by unfold ruV; rw [if_neg h]
theorem qVf (s : ByteArray) (a : Nat) (ha : a <= s.size) (he : (rdU 0 (s.data.toList.drop a)).e = 0) : a + (rdU 0 (s.data.toList.drop a)).n <= s.size /\ (rdU 0 (s.data.toList.drop a)).v < 18446744073709551616 := by
 obtain ⟨h1, h2, h3, h4⟩ := qGo (s.data.toList.drop a) 0; have h5 := h4 (by omega)
 have hl : s.data.toList.length = s.size := rfl; rw [List.length_drop, hl] at h1; have t6 : qFo = 18446744073709551616 := by decide
 rw [Nat.pow_zero, Nat.mul_one, t6] at h5; exact ⟨by omega, h5⟩
set_option maxRecDepth 100000
set_option maxHeartbeats 4000000 in
theorem qTj {w : World} {j d room : Nat} {sa : Option Addr} {D : Dsk} (hD : qAp w d sa D) (hj : JAt w j d room) (hn : D.secs.length <= 16384) (hr : room <= 500) (s : ByteArray) (hs : s.size <= 1048576) :
  Calls Tryz.prog 44 #[.pointer (some ⟨j, 0, none⟩), .string s] w fun e w' => jMi w (numF room (jlen room D) s) e w' := by
 obtain ⟨i0, hi, hz0, hz1, hz2⟩ := info_parts qKm; have HR0 : Hid (Calls Tryz.prog 55 #[.string s, .int .i64 0] w fun e w' => e = .returned (ruV 0 (rdU 0 s.data.toList)) /\ w = w') := hid (qFg s 0 w (by unfold maxLen; omega))
 have HJl := hid (fun (v : World) (hv : Mod (fun _ => False) w v) => qLo (hD.mod hv (fun _ _ h => h)) (hj.mod hv (fun h => h)) hn hr)
 obtain ⟨c0, c1⟩ := hj.cells; have hjl : jlen room D <= 16384 := by unfold jlen; omega
 have HNf : Hid (numF room (jlen room D) s = if (rdU 0 s.data.toList).e = 0 /\ (rdU 0 s.data.toList).v <= room then qJc (jlen room D) s (rdU 0 s.data.toList).v (rdU 0 s.data.toList).n [] else none) := hid rfl
 have hfit := qVf s 0 (Nat.zero_le _); rw [List.drop_zero] at hfit; generalize jlen room D = len at *; generalize rdU 0 s.data.toList = u at *; have HFit := hid hfit; clear hD hj hfit; have hmm := @run_makeMap Tryz.prog; by_cases hu : u.e = 0
 ·rw [jIa hu] at HR0; obtain ⟨f1, f2⟩ := HFit.out hu; have HU := hid hu; clear hu; by_cases hv : u.v <= room
  ·have d1 : decide (room < u.v) = false := by simpa using hv
   have hNf := HNf.out; rw [if_pos ⟨HU.out, hv⟩] at hNf; have HN0 := hid hNf; clear hNf; go_enter Tryz.func44, Tryz.ntmps44
   go_wp2_with fail
   refine HR0.out.mono ?_; rintro e w1 ⟨rfl, rfl⟩; go_wp2_with fail
   go_loopw [7, 9, 31] (fun sat sout si wr => ∃ (i a : Nat) (out : List Nat) (la : Option Addr) (cap : Nat), sat = .int .i64 (a : Int) /\ sout = .slice la out.length cap /\ si = .int .u64 (i : Int) /\ jMh w wr s room len u.v i a out la cap) (fun _ _ si _ => u.v - (intOf si).toNat)
   case atStart =>
    refine ⟨0, u.n, [], none, 0, ?_, rfl, rfl, by rw [Nat.sub_zero]; exact HN0.out, rfl, Nat.zero_le _, by omega, (fun n hn => by cases hn), Own.nil _ _ _, qAv.made KU.kv w, (fun k hk => (qAj k hk).elim), (Mod.refl _ _).alloc _⟩
    congr 1
   case round =>
    obtain ⟨i, a, out, la, cap, rfl, rfl, rfl, hrel⟩ := hrel; obtain ⟨r1, r2, r3, r4, r5, r6, r7, r8, r9⟩ := hrel; have HM := hid r9; have HMap := hid r7; have HO := hid r6; have HB := hid r8; have HOut := hid r5; have HNum := hid r1; have HLen := hid r2; have HRa := hid (qFg s a wr (by unfold maxLen; omega))
    have HFa := hid (qVf s a r4); have HS0 := hid (jBk (len := len) (s := s) (c := u.v - i - 1) (a := a) (out := out)); have HS1 := hid (qYc (len := len) (s := s) (c := u.v - i - 1) (a := a) (out := out)); have ho500 : out.length <= 500 := by omega
    clear r1 r2 r5 r6 r7 r8 r9 c0 c1; by_cases hlt : i < u.v
    ·have HNs : Hid (u.v - i = u.v - i - 1 + 1) := hid (by omega)
     rw [HNs.out] at HNum; obtain ⟨x, hx⟩ : ∃ x, rdU 0 (s.data.toList.drop a) = x := ⟨_, rfl⟩; rw [hx] at HRa HFa HS0 HS1; clear hx; by_cases hxe : x.e = 0
     ·rw [jIa hxe] at HRa; obtain ⟨f3, f4⟩ := HFa.out hxe; by_cases hxl : x.v < len
      ·have d2 : decide (len <= x.v) = false := by simpa using hxl
       have hxn : x.v <= 16384 := by omega
       have HXl := hid hxl; have HXe := hid hxe; clear hxl hxe; go_wp2_with fail
       refine HRa.out.mono ?_; rintro e w1 ⟨rfl, rfl⟩; go_wp2_with fail
       refine (HJl.out _ HM.out).mono ?_; rintro e w2 ⟨rfl, hm2⟩; have HM2 := hid (HM.out.trans hm2); have HMap2 := hid (HMap.out.mod hm2 (fun h => h))
       have HO2 := hid (HO.out.mod hm2 (fun _ _ h => h))
       have hlk := qCe KU Tryz.underlying181 (qZf _) HMap2.out (x.v : Int) false; rw [qFy] at hlk; clear hm2; by_cases hin : x.v ∈ out
       ·rw [if_pos hin] at hlk; have hlk2 : (Instr.lookup 181 (.map (some w.heap.size)) (.int .u64 (x.v : Int)) false).run Tryz.prog w2 = .ok (.int .i64 1) w2 := hlk; have HIn := hid hin; clear hlk hin; go_wp2_with fail
        go_ret2; refine ⟨HM2.out, ?_⟩; rw [HNum.out, HS0.out (fun h => h.2.2 HIn.out)]
        rfl
       ·rw [if_neg hin] at hlk; have hlk2 : (Instr.lookup 181 (.map (some w.heap.size)) (.int .u64 (x.v : Int)) false).run Tryz.prog w2 = .ok (.int .i64 0) w2 := hlk; have HIn := hid hin; have HAg : Hid (aget (qNl out) (x.v : Int) = none) := hid (by rw [qFy, if_neg hin])
        clear hlk hin; have hwm := HM2.out.size; have hml := HMap2.out.lt; go_wp2_with (first
         | (at_mapUpdate; refine qEc rfl _ _ _ 181 rfl KU Tryz.underlying181 w.heap.size _ (x.v : Int) (.int .i64 1) rfl rfl rfl HMap2.out HAg.out ?_; intro w3 hat hm3; have Hat := hid hat; have Hm3 := hid hm3; clear hat hm3; have HO3 := hid (HO2.out.mod Hm3.out (fun k hk h => by have := HB.out k hk; omega)); have HSr : Hid (Src (w3.alloc (.cells #[.int .i64 (x.v : Int)] 3)) 1 (some ⟨w3.heap.size, 0, none⟩) 1 [.int .i64 (x.v : Int)]) := hid (qAw (heap_alloc_new _ _) rfl); have HO4 := hid (HO3.out.mod (S := fun _ => False) ((Mod.refl _ w3).alloc (.cells #[.int .i64 (x.v : Int)] 3)) (fun _ _ h => h)); have HMap4 := hid (Hat.out.mod (S := fun _ => False) ((Mod.refl _ w3).alloc (.cells #[.int .i64 (x.v : Int)] 3)) (fun h => h)); have hsz3 := Hm3.out.size)
         | (at_builtin; refine qAd rfl (.tmp 59) (.tmp 62) 56 rfl 3 i0 _ 1 8 Tryz.underlying56 hi hz0 hz1 hz2 rfl la out.length cap _ rfl HO4.out (some ⟨w3.heap.size, 0, none⟩) 1 1 _ rfl HSr.out (by intro u hu; simp at hu; subst hu; rfl) (by unfold maxLen; omega) (by omega) ?_; intro la' cap' w5 hown5 hm5 hb5 hn5 hr5; have Hown5 := hid hown5; have Hm5 := hid hm5; have Hb5 := hid hb5; clear hown5 hm5 hb5 hn5 hr5))
        go_roundw
        case rel =>
         refine ⟨i + 1, a + x.n, out ++ [x.v], la', cap', ?_, ?_, rfl, ?_, ?_, by omega, by omega, fun n hn => ?_, ?_, ?_, fun k hk => ?_, ?_⟩
         ·congr 1
         ·congr 1; simp
         ·rw [HNum.out, HS1.out HXe.out HXl.out HIn.out]; congr 1
         ·rw [List.length_append, HLen.out]; rfl
         ·rcases List.mem_append.1 hn with h | h
          ·exact HOut.out n h
          ·simp at h; omega
         ·rw [qRn, List.length_append]; exact Hown5.out
         ·rw [qOa]; exact HMap4.out.mod Hm5.out (fun h => by have := HB.out _ h; omega)
         ·rcases Hb5.out k hk with h | h
          ·exact HB.out k h
          ·simp at h; omega
         ·have h1 : Mod (fun k => w.heap.size <= k) w2 (w3.alloc (.cells #[.int .i64 (x.v : Int)] 3)) := (Hm3.out.mono (fun k _ h => by omega)).alloc _
          exact HM2.out.then (h1.trans (Hm5.out.mono (fun k _ h => by have := HB.out k h; omega))) (fun i hi h => by omega)
        case measure => simp [intOf]; omega
      ·have d2 : decide (len <= x.v) = true := by simpa using hxl
       have HXl := hid hxl; clear hxl hxe; go_wp2_with fail
       refine HRa.out.mono ?_; rintro e w1 ⟨rfl, rfl⟩; go_wp2_with fail
       refine (HJl.out _ HM.out).mono ?_; rintro e w2 ⟨rfl, hm2⟩; have HM2 := hid (HM.out.trans hm2); clear hm2; go_wp2_with fail
       go_ret2; refine ⟨HM2.out, ?_⟩; rw [HNum.out, HS0.out (fun h => HXl.out h.2.1)]
       rfl
     ·rw [jAn hxe] at HRa; have e1 : ((x.e : Int) == 0) = false := by rw [beq_eq_false_iff_ne]; omega
      have e2 : ((x.e : Int) != 0) = true := by rw [bne_iff_ne]; omega
      have HXe := hid hxe; clear hxe; go_wp2_with fail
      refine HRa.out.mono ?_; rintro e w1 ⟨rfl, rfl⟩; go_wp2_with fail
      go_ret2; refine ⟨HM.out, ?_⟩; rw [HNum.out, HS0.out (fun h => HXe.out h.1)]
      rfl
    ·have HIe : Hid (i = u.v) := hid (by omega)
     have hsl : ∀ v : World, (Instr.slice 9 (.string s) (some (.int .i64 (a : Int))) none none).run Tryz.prog v = .ok (.string (s.extract a s.size)) v := fun v => by
      have := run_slice_string_l (P := Tryz.prog) v 9 s Tryz.underlying9 .i64 (a : Int) (by omega) (by omega)
      simpa using this
     have hxs : (s.extract a s.size).size <= maxLen := by rw [ByteArray.size_extract]; unfold maxLen; omega
     have HTr := hid (fun v => qUv (s.extract a s.size) v hxs)
     have hnil := qQy (s.extract a s.size); have hdr : (s.extract a s.size).data.toList = s.data.toList.drop a := by
      rw [ByteArray.data_extract, Array.toList_extract, List.extract_eq_take_drop, List.take_of_length_le]; have : s.data.toList.length = s.size := rfl; rw [List.length_drop]; omega
     rw [hdr] at hnil; have HNil := hid hnil; have HNe : Hid (numF room len s = qJc len s 0 a out) := hid (by rw [HNum.out, HIe.out, Nat.sub_self])
     clear hnil hdr hxs; generalize qNg (s.extract a s.size) = tb at *; by_cases hz : AllZ (s.data.toList.drop a)
     ·have ez : tb.toList.isEmpty = true := by rw [ByteArray.toList_eq, HNil.out.2 hz]; rfl
      have HZz := hid hz; clear hz; go_wp2_with fail
      refine (HTr.out wr).mono ?_; rintro e wt ⟨rfl, nq, rfl⟩; go_wp2_with fail
      go_ret2; have hmt : Mod (fun _ => False) wr (wr.drewN nq) := (Mod.refl _ _).drewN nq
      refine ⟨HM.out.trans hmt, ?_⟩; rw [HNe.out, qNz HZz.out]; exact ⟨la, cap, rfl, HO.out.mod hmt (fun _ _ h => h), fun k hk => by have := HB.out k hk; omega, ho500, HOut.out⟩
     ·have ez : tb.toList.isEmpty = false := by
       rw [ByteArray.toList_eq]; cases hl : tb.data.toList with
       | nil => exact absurd (HNil.out.1 hl) hz
       | cons b r => rfl
      have HZz := hid hz; clear hz; go_wp2_with fail
      refine (HTr.out wr).mono ?_; rintro e wt ⟨rfl, nq, rfl⟩; go_wp2_with fail
      go_ret2; refine ⟨HM.out.trans ((Mod.refl _ _).drewN nq), ?_⟩; rw [HNe.out, jBj HZz.out]; rfl
  ·have d1 : decide (room < u.v) = true := by simpa using hv
   have hNf := HNf.out; rw [if_neg (fun h => hv h.2)] at hNf
   have HN0 := hid hNf; clear hNf hv; go_enter Tryz.func44, Tryz.ntmps44
   go_wp2_with fail
   refine HR0.out.mono ?_; rintro e w1 ⟨rfl, rfl⟩; go_wp2_with fail
   go_ret2; refine ⟨Mod.refl _ _, ?_⟩; rw [HN0.out]; rfl
 ·rw [jAn hu] at HR0; have e1 : ((u.e : Int) == 0) = false := by rw [beq_eq_false_iff_ne]; omega
  have e2 : ((u.e : Int) != 0) = true := by rw [bne_iff_ne]; omega
  have hNf := HNf.out; rw [if_neg (fun h => hu h.1)] at hNf
  have HN0 := hid hNf; clear hNf hu; go_enter Tryz.func44, Tryz.ntmps44
  go_wp2_with fail
  refine HR0.out.mono ?_; rintro e w1 ⟨rfl, rfl⟩; go_wp2_with fail
  go_ret2; refine ⟨Mod.refl _ _, ?_⟩; rw [HN0.out]; rfl
end
end Go.Proofs.YtkinkgbmlhiakaaGreatDoor
