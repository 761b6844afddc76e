/- Plain lemmas on worlds: what a call may have changed, slices that a call owns, and step laws for regions that draw their order. No program is named here. -/
import Derived.WalkKit
import Derived.Deep.RegionLaw
import Derived.OneCell
import Derived.Deep.QuietTactic
import Derived.BigQuiet
namespace Go.Proofs.Ythdopgejikcfbaa
open Go Go.RowKit

theorem hid {p : Prop} (h : p) : Hid p := h

/-- Only blocks in S, and new ones, differ between w and w'. -/
structure Mod (S : Nat → Prop) (w w' : World) : Prop where
  os : w'.os = w.os
  tape : w'.tape = w.tape
  output : w'.output = w.output
  size : w.heap.size ≤ w'.heap.size
  block : ∀ k, k < w.heap.size → ¬ S k → w'.heap[k]? = w.heap[k]?

theorem Mod.refl (S : Nat → Prop) (w : World) : Mod S w w := ⟨rfl, rfl, rfl, Nat.le_refl _, fun _ _ _ => rfl⟩

theorem Mod.mono {S T : Nat → Prop} {w w' : World} (h : Mod S w w') (hst : ∀ k, k < w.heap.size → S k → T k) : Mod T w w' :=
  ⟨h.os, h.tape, h.output, h.size, fun k hk hn => h.block k hk (fun hs => hn (hst k hk hs))⟩

theorem Mod.trans {S : Nat → Prop} {a b c : World} (h : Mod S a b) (k : Mod S b c) : Mod S a c :=
  ⟨k.os.trans h.os, k.tape.trans h.tape, k.output.trans h.output, Nat.le_trans h.size k.size,
   fun i hi hn => (k.block i (Nat.lt_of_lt_of_le hi h.size) hn).trans (h.block i hi hn)⟩

/-- The second step may also write what the first one made. -/
theorem Mod.then {S T : Nat → Prop} {a b c : World} (h : Mod S a b) (k : Mod T b c) (hst : ∀ i, i < a.heap.size → T i → S i) : Mod S a c :=
  ⟨k.os.trans h.os, k.tape.trans h.tape, k.output.trans h.output, Nat.le_trans h.size k.size,
   fun i hi hn => (k.block i (Nat.lt_of_lt_of_le hi h.size) (fun ht => hn (hst i hi ht))).trans (h.block i hi hn)⟩

theorem Mod.drew {S : Nat → Prop} {a w : World} (h : Mod S a w) : Mod S a w.drew := ⟨h.os, h.tape, h.output, h.size, h.block⟩

theorem Mod.alloc {S : Nat → Prop} {a w : World} (h : Mod S a w) (o : Obj) : Mod S a (w.alloc o) :=
  h.trans ⟨rfl, rfl, rfl, by simp, fun k hk _ => Below.heap_alloc _ _ _ hk⟩

theorem Mod.setCell {S : Nat → Prop} {a w : World} (h : Mod S a w) {p : Addr} (hp : p.block < a.heap.size → S p.block) (u : Value) : Mod S a (w.setCell p u) :=
  ⟨h.os, h.tape, h.output, by have := h.size; simpa [World.setCell] using this,
   fun k hk hn => by
    by_cases e : k = p.block
    · subst e; exact absurd (hp hk) hn
    · rw [Below.heap_setCell _ _ _ _ e]; exact h.block k hk hn⟩

theorem Mod.grown {S : Nat → Prop} {a w w' : World} {row : Option Nat} (h : Mod S a w) (hg : w.grownBy w' row) (hr : ∀ k, row = some k → k < a.heap.size → S k) : Mod S a w' :=
  ⟨hg.os.trans h.os, hg.tape.trans h.tape, hg.output.trans h.output, Nat.le_trans h.size hg.size,
   fun k hk hn => (hg.block k (Nat.lt_of_lt_of_le hk h.size) (fun e => hn (hr k e.symm hk))).trans (h.block k hk hn)⟩

theorem Mod.cell {S : Nat → Prop} {w w' : World} (h : Mod S w w') {p : Addr} (hp : p.block < w.heap.size) (hn : ¬ S p.block) : w'.cell? p = w.cell? p := World.cell?_of_block (w := w) (h.block p.block hp hn)
theorem Mod.frozen {S : Nat → Prop} {w w' : World} (h : Mod S w w') {p : Addr} (hp : p.block < w.heap.size) (hn : ¬ S p.block) : w'.frozen? p = w.frozen? p := World.frozen?_of_block (w := w) (h.block p.block hp hn)

/-- Nothing that was there below B is in S: as the kit says it. -/
theorem Mod.below {S : Nat → Prop} {B : Nat} {w w' : World} (h : Mod S w w') (hB : B ≤ w.heap.size) (hs : ∀ k, S k → B ≤ k) : Below B w w' :=
  ⟨h.os, h.tape, h.output, h.size, fun k hk => h.block k (by omega) (fun e => by have := hs k e; omega)⟩

theorem Mod.of_below {B : Nat} {w w' : World} (h : Below B w w') : Mod (fun k => B ≤ k) w w' :=
  ⟨h.os, h.tape, h.output, h.size, fun k _ hn => h.block k (by omega)⟩

theorem lt_of_heap {w : World} {b : Nat} {o : Obj} (h : w.heap[b]? = some o) : b < w.heap.size := (Array.getElem?_eq_some_iff.1 h).1

section
variable {α : Type} {f : α → List Value} {n : Nat}

theorem flat_length (hf : ∀ x, (f x).length = n) (ls : List α) : (ls.flatMap f).length = ls.length * n := by
  induction ls with
  | nil => simp
  | cons x r ih => rw [List.flatMap_cons, List.length_append, ih, hf, List.length_cons, Nat.add_mul]; omega

theorem flat_take (hf : ∀ x, (f x).length = n) (ls : List α) (i : Nat) : (ls.flatMap f).take (i * n) = (ls.take i).flatMap f := by
  induction ls generalizing i with
  | nil => simp
  | cons x r ih =>
    cases i with
    | zero => simp
    | succ i =>
      rw [List.flatMap_cons, List.take_succ_cons, List.flatMap_cons, List.take_append, hf, show (i + 1) * n - n = i * n by rw [Nat.add_mul]; omega, ih, List.take_of_length_le (by rw [hf, Nat.add_mul]; omega)]

theorem flat_drop (hf : ∀ x, (f x).length = n) (ls : List α) (i : Nat) : (ls.flatMap f).drop (i * n) = (ls.drop i).flatMap f := by
  induction ls generalizing i with
  | nil => simp
  | cons x r ih =>
    cases i with
    | zero => simp
    | succ i =>
      rw [List.flatMap_cons, List.drop_succ_cons, List.drop_append, hf, show (i + 1) * n - n = i * n by rw [Nat.add_mul]; omega, ih, List.drop_of_length_le (by rw [hf, Nat.add_mul]; omega), List.nil_append]

theorem flat_get (hf : ∀ x, (f x).length = n) (ls : List α) (i j : Nat) (hj : j < n) : (ls.flatMap f)[i * n + j]? = (ls[i]?).bind fun x => (f x)[j]? := by
  induction ls generalizing i with
  | nil => simp
  | cons x r ih =>
    cases i with
    | zero => simp [List.getElem?_append, hf, hj]
    | succ i =>
      rw [List.flatMap_cons, List.getElem?_append, hf, if_neg (by rw [Nat.add_mul]; omega), show (i + 1) * n + j - n = i * n + j by rw [Nat.add_mul]; omega, ih]
      simp

theorem flat_one (h1 : ∀ x, ∀ u ∈ f x, u.oneCell' = true) (ls : List α) : ∀ u ∈ ls.flatMap f, u.oneCell' = true := by
  intro u hu
  obtain ⟨x, _, hx⟩ := List.mem_flatMap.1 hu
  exact h1 x u hx
end

/-- The block of a slice's address. -/
def blk (sa : Option Addr) (k : Nat) : Prop := ∃ a, sa = some a ∧ a.block = k

theorem blk_none (k : Nat) : ¬ blk none k := fun ⟨_, h, _⟩ => by cases h
theorem blk_some {g off k : Nat} : blk (some ⟨g, off, none⟩) k ↔ g = k := by simp [blk]

/-- A slice of n elements (size cells each, of the type e) whose cells are xs, and whose block nobody has frozen. -/
def Own (w : World) (e : TypeId) (size : Nat) (sa : Option Addr) (n cap : Nat) (xs : List Value) : Prop :=
  xs.length = n * size ∧ n ≤ cap ∧ cap ≤ maxLen ∧
  ((sa = none ∧ cap = 0) ∨ ∃ g off cur, sa = some ⟨g, off, none⟩ ∧ w.heap[g]? = some (.cells cur e (0, 0)) ∧ off + cap * size ≤ cur.size ∧ (cur.toList.drop off).take (n * size) = xs)

/-- A slice whose cells are read: they are news. -/
def Src (w : World) (size : Nat) (xa : Option Addr) (m : Nat) (news : List Value) : Prop :=
  news.length = m * size ∧ (xa = none → m = 0) ∧ ∀ a, xa = some a → ∀ j u, news[j]? = some u → w.cell? (a.add j) = some u

theorem Own.nil (w : World) (e : TypeId) (size : Nat) : Own w e size none 0 0 [] := ⟨by simp, Nat.le_refl _, Nat.zero_le _, .inl ⟨rfl, rfl⟩⟩

theorem Own.lt {w : World} {e : TypeId} {size : Nat} {sa : Option Addr} {n cap : Nat} {xs : List Value} (h : Own w e size sa n cap xs) : ∀ k, blk sa k → k < w.heap.size := by
  rintro k ⟨a, ha, hk⟩
  rcases h.2.2.2 with ⟨rfl, _⟩ | ⟨g, off, cur, rfl, hg, _⟩
  · cases ha
  · cases ha; subst hk; exact lt_of_heap hg

/-- An owned slice stays owned where its block is not written. -/
theorem Own.mod {S : Nat → Prop} {w w' : World} {e : TypeId} {size : Nat} {sa : Option Addr} {n cap : Nat} {xs : List Value}
    (h : Own w e size sa n cap xs) (hm : Mod S w w') (hne : ∀ k, blk sa k → ¬ S k) : Own w' e size sa n cap xs := by
  refine ⟨h.1, h.2.1, h.2.2.1, ?_⟩
  rcases h.2.2.2 with hn | ⟨g, off, cur, rfl, hg, rest⟩
  · exact .inl hn
  · refine .inr ⟨g, off, cur, rfl, ?_, rest⟩
    rw [hm.block g (lt_of_heap hg) (hne g ⟨_, rfl, rfl⟩)]
    exact hg

theorem Own.src {w : World} {e : TypeId} {size : Nat} {sa : Option Addr} {n cap : Nat} {xs : List Value} (h : Own w e size sa n cap xs) : Src w size sa n xs := by
  refine ⟨h.1, fun hn => ?_, fun a ha j u hu => ?_⟩
  · rcases h.2.2.2 with ⟨_, hc⟩ | ⟨g, off, cur, hs, _⟩
    · have := h.2.1; omega
    · rw [hn] at hs; cases hs
  · rcases h.2.2.2 with ⟨hs, hc⟩ | ⟨g, off, cur, hs, hg, hsz, htk⟩
    · rw [ha] at hs; cases hs
    · rw [ha] at hs; cases hs
      rw [Addr.add_lit, cell_of_row w g (off + j) cur e (0, 0) hg]
      rw [← htk, List.getElem?_take] at hu
      split at hu
      · simpa [List.getElem?_drop] using hu
      · cases hu

/-- A cell of an owned slice. -/
theorem Own.cell {w : World} {e : TypeId} {size g off n cap : Nat} {xs : List Value} (h : Own w e size (some ⟨g, off, none⟩) n cap xs) (j : Nat) (hj : j < n * size) : w.cell? ⟨g, off + j, none⟩ = some (xs.getD j undef) := by
  have hx : j < xs.length := by rw [h.1]; exact hj
  have := h.src.2.2 _ rfl j xs[j] (by simp [hx])
  rw [Addr.add_lit] at this
  simpa [hx] using this

/-- The cells of element i of an owned slice of records. -/
theorem Own.elem {w : World} {e : TypeId} {size g off n cap : Nat} {α : Type} {f : α → List Value} {ls : List α} (hf : ∀ x, (f x).length = size) (h : Own w e size (some ⟨g, off, none⟩) n cap (ls.flatMap f)) {i : Nat} {x : α} (hx : ls[i]? = some x) {j : Nat} {u : Value} (hu : (f x)[j]? = some u) : w.cell? ⟨g, off + i * size + j, none⟩ = some u := by
  have hj : j < size := by have := (List.getElem?_eq_some_iff.1 hu).1; rwa [hf] at this
  have := h.src.2.2 _ rfl (i * size + j) u (by rw [flat_get hf ls i j hj, hx]; exact hu)
  rw [Addr.add_lit, ← Nat.add_assoc] at this
  exact this

theorem Own.frozen {w : World} {e : TypeId} {size g off n cap : Nat} {xs : List Value} (h : Own w e size (some ⟨g, off, none⟩) n cap xs) (o : Nat) : w.frozen? ⟨g, o, none⟩ = false := by
  rcases h.2.2.2 with ⟨hs, hc⟩ | ⟨g', off', cur, hs, hg, hsz, htk⟩
  · cases hs
  · cases hs; exact frozen_of_row w g o cur e hg

theorem Src.mod {S : Nat → Prop} {w w' : World} {size : Nat} {xa : Option Addr} {m : Nat} {news : List Value} (h : Src w size xa m news) (hm : Mod S w w') (hs : ∀ k, blk xa k → ¬ S k) : Src w' size xa m news := by
  refine ⟨h.1, h.2.1, fun a ha j u hu => ?_⟩
  have hc := h.2.2 a ha j u hu
  have hb : (a.add j).block = a.block := by unfold Addr.add; split <;> rfl
  rw [hm.cell (World.block_lt_of_cell? _ _ hc) (by rw [hb]; exact hs _ ⟨a, ha, rfl⟩)]
  exact hc

/-- A block of cells, just laid, as a source. -/
theorem src_new {w : World} {g m size : Nat} {cs : List Value} {t : TypeId} {fr : Nat × Nat} (hg : w.heap[g]? = some (.cells cs.toArray t fr)) (hl : cs.length = m * size) : Src w size (some ⟨g, 0, none⟩) m cs := by
  refine ⟨hl, (fun h => nomatch h), fun a ha j u hu => ?_⟩
  cases ha
  rw [Addr.add_lit, cell_of_row w g (0 + j) _ t fr hg]
  simpa using hu

/-- An empty slice, just laid. -/
theorem Own.fresh {w : World} {e : TypeId} {size g : Nat} (hg : w.heap[g]? = some (.cells #[] e (0, 0))) : Own w e size (some ⟨g, 0, none⟩) 0 0 [] :=
  ⟨by simp, Nat.le_refl _, Nat.zero_le _, .inr ⟨_, 0, #[], rfl, hg, by simp, by simp⟩⟩

/-- A store into an owned slice. -/
theorem Own.set {w : World} {e : TypeId} {size g off n cap : Nat} {xs : List Value} (h : Own w e size (some ⟨g, off, none⟩) n cap xs) (j : Nat) (hj : j < n * size) (v : Value) : Own (w.setCell ⟨g, off + j, none⟩ v) e size (some ⟨g, off, none⟩) n cap (xs.set j v) := by
  refine ⟨by rw [List.length_set]; exact h.1, h.2.1, h.2.2.1, ?_⟩
  rcases h.2.2.2 with ⟨h1, _⟩ | ⟨g', off', cur, h1, h2, h3, h4⟩
  · cases h1
  · cases h1
    refine .inr ⟨g, off, _, rfl, heap_setCell_same w g (off + j) cur e v h2, by simpa using h3, ?_⟩
    have hc : n * size ≤ cap * size := Nat.mul_le_mul_right _ h.2.1
    apply List.ext_getElem?
    intro k
    have h4k := congrArg (fun l : List Value => l[k]?) h4
    simp only [List.getElem?_take, List.getElem?_drop] at h4k
    simp only [Array.toList_setIfInBounds, List.getElem?_take, List.getElem?_drop, List.getElem?_set, h.1]
    by_cases hk : k < n * size
    · simp only [hk, if_true] at h4k ⊢
      by_cases hjk : j = k
      · subst hjk
        simp [hk, Array.length_toList]
        omega
      · rw [if_neg (by omega), if_neg hjk]
        exact h4k
    · simp only [hk, if_false] at h4k ⊢
      rw [← h4k]
      simp; omega

theorem run_firstCells_src {P : Program} {w : World} {size m c : Nat} {xa : Option Addr} {news : List Value} (h : Src w size xa m news) :
    (Builtin.firstCells size m (.slice xa m c)).run P w = .ok news.toArray w := by
  cases xa with
  | none =>
    have h0 := h.2.1 rfl
    have hn : news = [] := List.eq_nil_of_length_eq_zero (by rw [h.1, h0]; simp)
    subst hn
    rfl
  | some a => exact run_firstCells_some (P := P) w size m a m c news h.1 (h.2.2 a rfl)

/-- append to an owned slice: the result is owned; its block is the old one or a new one. -/
theorem run_append_Own {P : Program} (w : World) (t ty e : TypeId) (i : TypeInfo) (z : Value) (size bytes : Nat) (ht : P.underlying t = some (.slice e)) (hi : P.info? e = some i) (hz : i.zero = some z)
    (hsize : i.size = size) (hby : i.bytes = bytes) (hzs : z.cells.size = size)
    (sa : Option Addr) (n cap : Nat) (xs : List Value) (hown : Own w e size sa n cap xs)
    (xa : Option Addr) (m c : Nat) (news : List Value) (hsrc : Src w size xa m news) (h1 : ∀ u ∈ news, u.oneCell' = true)
    (h63 : n + m ≤ maxLen) (hbytes : (n + m) * bytes ≤ 140737488355328) :
    ∃ sa' cap' w', (Builtin.append_ #[t, t] ty #[.slice sa n cap, .slice xa m c]).run P w = .ok (.slice sa' (n + m) cap') w' ∧ Own w' e size sa' (n + m) cap' (xs ++ news) ∧
      Mod (blk sa) w w' ∧ (∀ k, blk sa' k → blk sa k ∨ w.heap.size ≤ k) ∧ (sa' = none → sa = none ∧ m = 0) ∧ (n + m ≤ cap → sa' = sa ∧ cap' = cap) := by
  subst hsize
  subst hby
  have hlen : (xs ++ news).length = (n + m) * i.size := by rw [List.length_append, hown.1, hsrc.1, Nat.add_mul]
  have hf := run_firstCells_src (P := P) (c := c) hsrc
  by_cases hroom : n + m ≤ cap
  · rcases hown.2.2.2 with ⟨rfl, rfl⟩ | ⟨g, off, cur, rfl, hg, hsz, htk⟩
    · have hn : n = 0 := by omega
      have hm : m = 0 := by omega
      subst hn hm
      have hx : xs = [] := List.eq_nil_of_length_eq_zero (by rw [hown.1]; simp)
      have hw : news = [] := List.eq_nil_of_length_eq_zero (by rw [hsrc.1]; simp)
      subst hx hw
      refine ⟨none, 0, w, ?_, Own.nil w e i.size, Mod.refl _ _, fun k hk => (blk_none k hk).elim, fun _ => ⟨rfl, rfl⟩, fun _ => ⟨rfl, rfl⟩⟩
      simp [Builtin.append_, run_underlying ht, sizeOf, typeInfo, hi, Builtin.lenOf, hf]
    · have hb : n * i.size + news.length ≤ cap * i.size := by rw [hsrc.1, ← Nat.add_mul]; exact Nat.mul_le_mul_right _ hroom
      have hst := run_storeCells_at P g (off + n * i.size) e news 0 cur w hg (by omega) h1
      simp only [Nat.add_zero] at hst
      have hcl : cur.toList.length = cur.size := Array.length_toList
      refine ⟨some ⟨g, off, none⟩, cap, w.setRow g (cur.toList.take (off + n * i.size) ++ news ++ cur.toList.drop (off + n * i.size + news.length)).toArray, ?_, ⟨hlen, hroom, hown.2.2.1, .inr ⟨g, off, _, rfl, setRow_heap w g cur _ e _ hg, ?_, ?_⟩⟩, ⟨rfl, rfl, rfl, by simp, fun k _ hk => setRow_other w g k _ (fun e => hk (by simp [blk, e]))⟩, fun k hk => .inl hk, (fun h => nomatch h), fun _ => ⟨rfl, rfl⟩⟩
      · simp [Builtin.append_, run_underlying ht, sizeOf, typeInfo, hi, Builtin.lenOf, hroom, hf, Addr.add_lit, hst]
      · simp only [List.size_toArray, List.length_append, List.length_take, List.length_drop]
        omega
      · rw [List.append_assoc, List.drop_append_of_le_length (by simp only [List.length_take]; omega), List.drop_take]
        rw [show off + n * i.size - off = n * i.size by omega, htk, ← List.append_assoc, ← hlen]
        exact List.take_left
  · have hm0 : 0 < m := by have := hown.2.1; omega
    obtain ⟨a, rfl⟩ : ∃ a, xa = some a := by
      cases xa with
      | none => have := hsrc.2.1 rfl; omega
      | some a => exact ⟨a, rfl⟩
    have hsmall : n + m ≤ 9223372036854775807 := by simp only [maxLen] at h63; omega
    have hge := grownCap_ge w (n + m) cap e
    have hcm : grownCap w (n + m) cap e ≤ maxLen := grownCap_le_maxLen w (n + m) cap e h63
    have hnew : Own (w.drew.alloc (.cells (xs.toArray ++ news.toArray ++ Builtin.zeroCells z.cells (grownCap w (n + m) cap e - (n + m))) e)) e i.size (some ⟨w.heap.size, 0, none⟩) (n + m) (grownCap w (n + m) cap e) (xs ++ news) := by
      refine ⟨hlen, hge, hcm, .inr ⟨w.heap.size, 0, _, rfl, heap_alloc_new w.drew _, ?_, ?_⟩⟩
      · simp only [Array.size_append, List.size_toArray, size_zeroCells, hzs, hown.1, hsrc.1, ← Nat.add_mul, Nat.zero_add]
        exact Nat.mul_le_mul_right _ (by omega)
      · simp only [Array.toList_append, List.append_assoc, List.drop_zero]
        rw [← List.append_assoc, ← hlen]
        exact List.take_left
    have hmod : Mod (blk sa) w (w.drew.alloc (.cells (xs.toArray ++ news.toArray ++ Builtin.zeroCells z.cells (grownCap w (n + m) cap e - (n + m))) e)) := (Mod.refl _ _).drew.alloc _
    have hnb : ∀ k, blk (some ⟨w.heap.size, 0, none⟩) k → blk sa k ∨ w.heap.size ≤ k := fun k hk => .inr (by rw [blk_some] at hk; omega)
    rcases hown.2.2.2 with ⟨rfl, rfl⟩ | ⟨g, off, cur, rfl, hg, hsz, htk⟩
    · have hn : n = 0 := by have := hown.2.1; omega
      subst hn
      have hx : xs = [] := List.eq_nil_of_length_eq_zero (by rw [hown.1]; simp)
      subst hx
      have hr := run_append_nil (P := P) w t ty e i z ht hi hz a m c news hsrc.1 (hsrc.2.2 a rfl) (by omega) (by omega) (by have hb := hbytes; simp only [Nat.zero_add] at hb; omega)
      simp only [Nat.zero_add, List.nil_append, Array.empty_append] at hnew hmod ⊢
      exact ⟨_, _, _, hr, hnew, hmod, hnb, (fun h => nomatch h), fun h => by omega⟩
    · have hr := run_append_grow (P := P) w t ty e i z ht hi hz ⟨g, off, none⟩ n cap xs hown.1 (hown.src.2.2 _ rfl) a m c news hsrc.1 (hsrc.2.2 a rfl) (by omega) (by omega) (growslice_fits (by omega) hbytes)
      exact ⟨_, _, _, hr, hnew, hmod, hnb, (fun h => nomatch h), fun h => by omega⟩

/-- append to an owned slice, as one step of a region that draws. -/
theorem step_append_Own {P : Program} {ops : Array Oper} {o : Oper} {a : Act} {w : World} {K : Act → World → Prop} {Q : Exit → Act → World → Prop} {E : Prop}
    (hg : o.guard = none) (s x : Operand) (t : TypeId) (hop : o.op = Op.call { callee := Callee.builtin Builtin.append, args := #[s, x], argTypes := #[t, t] })
    (e : TypeId) (i : TypeInfo) (z : Value) (size bytes : Nat) (h1 : P.underlying t = some (.slice e)) (h2 : P.info? e = some i) (hz : i.zero = some z) (h4 : i.size = size) (hby : i.bytes = bytes) (hzs : z.cells.size = size)
    (sa : Option Addr) (n cap : Nat) (xs : List Value) (hs : a.eval s = .slice sa n cap) (hown : Own w e size sa n cap xs)
    (xa : Option Addr) (m c : Nat) (news : List Value) (hx : a.eval x = .slice xa m c) (hsrc : Src w size xa m news) (h1c : ∀ u ∈ news, u.oneCell' = true)
    (h63 : n + m ≤ maxLen) (hbytes : (n + m) * bytes ≤ 140737488355328)
    (hK : ∀ sa' cap' w', Own w' e size sa' (n + m) cap' (xs ++ news) → Mod (blk sa) w w' → (∀ k, blk sa' k → blk sa k ∨ w.heap.size ≤ k) → (sa' = none → sa = none ∧ m = 0) → (n + m ≤ cap → sa' = sa ∧ cap' = cap) → K (a.put o.dst (.slice sa' (n + m) cap')) w') :
    if Region.wanted o (yielded ops a.tmps) = true then Oper.wp P o a w K Q else E := by
  have hw : Region.wanted o (yielded ops a.tmps) = true := by simp [Region.wanted, hg]
  rw [if_pos hw]
  obtain ⟨sa', cap', w', hrun, r1, r2, r3, r4, r5⟩ := run_append_Own (P := P) w t o.type e i z size bytes h1 h2 hz h4 hby hzs sa n cap xs hown xa m c news hsrc h1c h63 hbytes
  unfold Oper.wp
  simp [execOp, hop, resolve, invoke, builtin, hs, hx, hrun, Result.andThen]
  exact hK sa' cap' w' r1 r2 r3 r4 r5

/-- append to an owned slice, as an operation of a region in the order of its text. -/
theorem wpList_append_Own {P : Program} {ops : Array Oper} {rest : List Oper} {o : Oper} {a : Act} {w : World} {Q : Exit → Act → World → Prop}
    (hg : o.guard = none) (s x : Operand) (t : TypeId) (hop : o.op = Op.call { callee := Callee.builtin Builtin.append, args := #[s, x], argTypes := #[t, t] })
    (e : TypeId) (i : TypeInfo) (z : Value) (size bytes : Nat) (h1 : P.underlying t = some (.slice e)) (h2 : P.info? e = some i) (hz : i.zero = some z) (h4 : i.size = size) (hby : i.bytes = bytes) (hzs : z.cells.size = size)
    (sa : Option Addr) (n cap : Nat) (xs : List Value) (hs : a.eval s = .slice sa n cap) (hown : Own w e size sa n cap xs)
    (xa : Option Addr) (m c : Nat) (news : List Value) (hx : a.eval x = .slice xa m c) (hsrc : Src w size xa m news) (h1c : ∀ u ∈ news, u.oneCell' = true)
    (h63 : n + m ≤ maxLen) (hbytes : (n + m) * bytes ≤ 140737488355328)
    (hK : ∀ sa' cap' w', Own w' e size sa' (n + m) cap' (xs ++ news) → Mod (blk sa) w w' → (∀ k, blk sa' k → blk sa k ∨ w.heap.size ≤ k) → (sa' = none → sa = none ∧ m = 0) → (n + m ≤ cap → sa' = sa ∧ cap' = cap) → wpList P ops Q rest (a.put o.dst (.slice sa' (n + m) cap')) w') :
    wpList P ops Q (o :: rest) a w := by
  have h := step_append_Own (ops := ops) (Q := Q) (E := False) hg s x t hop e i z size bytes h1 h2 hz h4 hby hzs sa n cap xs hs hown xa m c news hx hsrc h1c h63 hbytes hK
  have hw : Region.wanted o (yielded ops a.tmps) = true := by simp [Region.wanted, hg]
  rw [if_pos hw] at h
  unfold wpList
  rw [if_pos hw]
  exact .inl h

/-- clear of what stands behind an owned slice's elements, within its capacity. -/
theorem run_clear_tail {P : Program} (w : World) (t ty e : TypeId) (i : TypeInfo) (z : Value) (size : Nat) (ht : P.underlying t = some (.slice e)) (hi : P.info? e = some i) (hz : i.zero = some z)
    (hzs : z.cells.size = size) (h1z : ∀ v ∈ z.cells, v.oneCell' = true) (hsz : 0 < size)
    (g off k cap : Nat) (ys : List Value) (hown : Own w e size (some ⟨g, off, none⟩) k cap ys) (m c : Nat) (hm : k + m ≤ cap) :
    ∃ w', (Builtin.clear_ #[t] ty #[.slice (some ⟨g, off + k * size, none⟩) m c]).run P w = .ok (.tuple #[]) w' ∧ Own w' e size (some ⟨g, off, none⟩) k cap ys ∧ Mod (fun j => j = g) w w' := by
  rcases hown.2.2.2 with ⟨h, _⟩ | ⟨g', off', cur, h1, hg, h3, h4⟩
  · cases h
  cases h1
  rcases Nat.eq_zero_or_pos m with rfl | hpos
  · exact ⟨w, by simp [Builtin.clear_, run_underlying ht], hown, Mod.refl _ _⟩
  obtain ⟨m, rfl⟩ : ∃ p, m = p + 1 := ⟨m - 1, by omega⟩
  have hlen : (Builtin.zeroCells z.cells (m + 1)).toList.length = (m + 1) * size := by rw [Array.length_toList, size_zeroCells, hzs]
  have hb : k * size + (m + 1) * size ≤ cap * size := by rw [← Nat.add_mul]; exact Nat.mul_le_mul_right _ hm
  have hst := run_storeCells_at P g (off + k * size) e (Builtin.zeroCells z.cells (m + 1)).toList 0 cur w hg (by omega) (by
    intro v hv
    simp only [Builtin.zeroCells, Array.toList_map, List.mem_map] at hv
    obtain ⟨j, _, rfl⟩ := hv
    have hlt : j % z.cells.size < z.cells.size := Nat.mod_lt _ (by omega)
    rw [getElem!_pos z.cells _ hlt]
    exact h1z _ (Array.getElem_mem hlt))
  simp only [Nat.add_zero] at hst
  have hcl : cur.toList.length = cur.size := Array.length_toList
  refine ⟨w.setRow g (cur.toList.take (off + k * size) ++ (Builtin.zeroCells z.cells (m + 1)).toList ++ cur.toList.drop (off + k * size + (Builtin.zeroCells z.cells (m + 1)).toList.length)).toArray, ?_, ⟨hown.1, hown.2.1, hown.2.2.1, .inr ⟨g, off, _, rfl, setRow_heap w g cur _ e _ hg, ?_, ?_⟩⟩, ⟨rfl, rfl, rfl, by simp, fun k _ hk => setRow_other w g k _ hk⟩⟩
  · simp [Builtin.clear_, run_underlying ht, zeroValue, typeInfo, hi, hz, hst]
  · simp only [List.size_toArray, List.length_append, List.length_take, List.length_drop]
    omega
  · rw [List.append_assoc, List.drop_append_of_le_length (by simp only [List.length_take]; omega), List.drop_take]
    rw [show off + k * size - off = k * size by omega, h4, List.take_append_of_le_length (by rw [hown.1]; exact Nat.le_refl _), List.take_of_length_le (by rw [hown.1]; exact Nat.le_refl _)]

theorem wpList_clear_tail {P : Program} {ops : Array Oper} {rest : List Oper} {o : Oper} {a : Act} {w : World} {Q : Exit → Act → World → Prop}
    (hg : o.guard = none) (s : Operand) (t : TypeId) (hop : o.op = Op.call { callee := Callee.builtin Builtin.clear, args := #[s], argTypes := #[t] })
    (e : TypeId) (i : TypeInfo) (z : Value) (size : Nat) (h1 : P.underlying t = some (.slice e)) (h2 : P.info? e = some i) (hz : i.zero = some z) (hzs : z.cells.size = size) (h1z : ∀ v ∈ z.cells, v.oneCell' = true) (hsz : 0 < size)
    (g off k cap : Nat) (ys : List Value) (hown : Own w e size (some ⟨g, off, none⟩) k cap ys) (m c : Nat) (hs : a.eval s = .slice (some ⟨g, off + k * size, none⟩) m c) (hm : k + m ≤ cap)
    (hK : ∀ w', Own w' e size (some ⟨g, off, none⟩) k cap ys → Mod (fun j => j = g) w w' → wpList P ops Q rest (a.put o.dst (.tuple #[])) w') :
    wpList P ops Q (o :: rest) a w := by
  have hw : Region.wanted o (yielded ops a.tmps) = true := by simp [Region.wanted, hg]
  obtain ⟨w', hrun, r1, r2⟩ := run_clear_tail (P := P) w t o.type e i z size h1 h2 hz hzs h1z hsz g off k cap ys hown m c hm
  unfold wpList
  rw [if_pos hw]
  refine .inl ?_
  unfold Oper.wp
  simp [execOp, hop, resolve, invoke, builtin, hs, hrun, Result.andThen]
  exact hK w' r1 r2

theorem Mod.drewN {S : Nat → Prop} {a w : World} (h : Mod S a w) (n : Nat) : Mod S a (w.drewN n) := ⟨h.os, h.tape, h.output, h.size, h.block⟩

/-- A world that has all that w has, as it was, and perhaps more. -/
structure Ext (w : World) where
  val : World
  mod : Mod (fun _ => False) w val

instance (w : World) : Nonempty (Ext w) := ⟨⟨w, Mod.refl _ w⟩⟩

theorem Ext.cell {w : World} (x : Ext w) {p : Addr} {v : Value} (h : w.cell? p = some v) : x.val.cell? p = some v := (x.mod.cell (World.block_lt_of_cell? _ _ h) (fun h => h)).trans h
theorem Ext.heap {w : World} (x : Ext w) {b : Nat} {o : Obj} (h : w.heap[b]? = some o) : x.val.heap[b]? = some o := (x.mod.block b (lt_of_heap h) (fun h => h)).trans h

/-- A region that draws its order, whose operations read and whose calls leave what there was as it was and answer one value in every such world: one walk in the order of the text. -/
theorem wp_region_ext {P : Program} {id : Nat} {Q : Exit → Act → World → Prop} {a : Act} {w : World} {l : List Oper} (hm : P.follows .mixedOrders = true) (hB : Region.lexB .any l.toArray = true)
    (h : wpQuiet P l.toArray (fun w' => ∃ x : Ext w, w' = x.val) (fun a' => ∀ w', (∃ x : Ext w, w' = x.val) → Q .normal a' w') l a) : (Code.region id l.toArray true).wp P Q a w :=
  wp_region_quiet (C := fun w' => ∃ x : Ext w, w' = x.val) hm hB ⟨⟨_, (Mod.refl _ w).drew⟩, rfl⟩ (by simpa using h)

theorem ext_call {P : Program} {f : FuncId} {args : Array Value} {w : World} {x : Ext w} {v : Value}
    (h : Calls P f args x.val fun e w' => e = .returned v ∧ Mod (fun _ => False) x.val w') : Calls P f args x.val fun e w'' => e = .returned v ∧ ∃ y : Ext w, w'' = y.val :=
  h.mono fun _ w' ⟨he, hm⟩ => ⟨he, ⟨w', x.mod.trans hm⟩, rfl⟩

theorem ext_same {P : Program} {f : FuncId} {args : Array Value} {w : World} {x : Ext w} {v : Value}
    (h : Calls P f args x.val fun e w' => e = .returned v ∧ x.val = w') : Calls P f args x.val fun e w'' => e = .returned v ∧ ∃ y : Ext w, w'' = y.val :=
  h.mono fun _ _ ⟨he, hm⟩ => ⟨he, x, hm.symm⟩

end Go.Proofs.Ythdopgejikcfbaa
