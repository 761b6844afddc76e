/- merged: Mem Bld PackL Pack Open2 Lies -/
import Derived.WalkKit
import Derived.Deep.RegionLaw
import Derived.OneCell
import Derived.Deep.QuietTactic
import Derived.BigQuiet
import Derived.Shelf.Strings.Builder1
import Derived.Test.YtkinkgbmlhiakaaGreatDoorProg
import Derived.Laws.IdiomStrings
import Derived.ProofKit
import Derived.Deep.Slices
import Derived.SizedLaws
namespace Go.Proofs.YtkinkgbmlhiakaaGreatDoor
theorem sTA {α : Type} (l : List α) (i : Nat) (a : α) : l.toArray.setIfInBounds i a = (l.set i a).toArray := List.setIfInBounds_toArray l i a
theorem sC0 {α : Type} (x : α) (xs : List α) (a : α) : List.set (x :: xs) 0 a = a :: xs := rfl
theorem sC1 {α : Type} (x : α) (xs : List α) (n : Nat) (a : α) : List.set (x :: xs) (n + 1) a = x :: List.set xs n a := rfl
section
open Go Go.RowKit
theorem hid {p : Prop} (h : p) : Hid p := h
structure Mod (S : Nat -> Prop) (w w' : World) : Prop where
 os : w'.os = w.os
 tape : w'.tape = w.tape
 output : w'.output = w.output
 size : w.heap.size <= w'.heap.size
 block : ∀ k, k < w.heap.size -> ¬ S k -> w'.heap[k]? = w.heap[k]?
theorem Mod.refl (S : Nat -> Prop) (w : World) : Mod S w w := ⟨rfl, rfl, rfl, Nat.le_refl _, fun _ _ _ => rfl⟩
theorem Mod.mono {S T : Nat -> Prop} {w w' : World} (h : Mod S w w') (hst : ∀ k, k < w.heap.size -> S k -> T k) : Mod T w w' :=
 ⟨h.os, h.tape, h.output, h.size, fun k hk hn => h.block k hk (fun hs => hn (hst k hk hs))⟩
theorem Mod.trans {S : Nat -> Prop} {a b c : World} (h : Mod S a b) (k : Mod S b c) : Mod S a c :=
 ⟨k.os.trans h.os, k.tape.trans h.tape, k.output.trans h.output, Nat.le_trans h.size k.size,
  fun i hi hn => (k.block i (Nat.lt_of_lt_of_le hi h.size) hn).trans (h.block i hi hn)⟩
theorem Mod.then {S T : Nat -> Prop} {a b c : World} (h : Mod S a b) (k : Mod T b c) (hst : ∀ i, i < a.heap.size -> T i -> S i) : Mod S a c :=
 ⟨k.os.trans h.os, k.tape.trans h.tape, k.output.trans h.output, Nat.le_trans h.size k.size,
  fun i hi hn => (k.block i (Nat.lt_of_lt_of_le hi h.size) (fun ht => hn (hst i hi ht))).trans (h.block i hi hn)⟩
theorem Mod.drew {S : Nat -> Prop} {a w : World} (h : Mod S a w) : Mod S a w.drew := ⟨h.os, h.tape, h.output, h.size, h.block⟩
theorem Mod.alloc {S : Nat -> Prop} {a w : World} (h : Mod S a w) (o : Obj) : Mod S a (w.alloc o) :=
 h.trans ⟨rfl, rfl, rfl, by simp, fun k hk _ => Below.heap_alloc _ _ _ hk⟩
theorem Mod.setCell {S : Nat -> Prop} {a w : World} (h : Mod S a w) {p : Addr} (hp : p.block < a.heap.size -> S p.block) (u : Value) : Mod S a (w.setCell p u) :=
 ⟨h.os, h.tape, h.output, by have := h.size; simpa [World.setCell] using this,
  fun k hk hn => by
  by_cases e : k = p.block
  ·subst e; exact absurd (hp hk) hn
  ·rw [Below.heap_setCell _ _ _ _ e]; exact h.block k hk hn⟩
theorem Mod.cell {S : Nat -> Prop} {w w' : World} (h : Mod S w w') {p : Addr} (hp : p.block < w.heap.size) (hn : ¬ S p.block) : w'.cell? p = w.cell? p := World.cell?_of_block (w := w) (h.block p.block hp hn)
theorem Mod.frozen {S : Nat -> Prop} {w w' : World} (h : Mod S w w') {p : Addr} (hp : p.block < w.heap.size) (hn : ¬ S p.block) : w'.frozen? p = w.frozen? p := World.frozen?_of_block (w := w) (h.block p.block hp hn)
theorem Mod.below {S : Nat -> Prop} {B : Nat} {w w' : World} (h : Mod S w w') (hB : B <= w.heap.size) (hs : ∀ k, S k -> B <= k) : Below B w w' :=
 ⟨h.os, h.tape, h.output, h.size, fun k hk => h.block k (by omega) (fun e => by have := hs k e; omega)⟩
theorem Mod.of_below {B : Nat} {w w' : World} (h : Below B w w') : Mod (fun k => B <= k) w w' :=
 ⟨h.os, h.tape, h.output, h.size, fun k _ hn => h.block k (by omega)⟩
theorem lth {w : World} {b : Nat} {o : Obj} (h : w.heap[b]? = some o) : b < w.heap.size := (Array.getElem?_eq_some_iff.1 h).1
section
variable {α : Type} {f : α -> List Value} {n : Nat}
theorem qDo (hf : ∀ x, (f x).length = n) (ls : List α) : (ls.flatMap f).length = ls.length * n := by
 induction ls with
 | nil => simp
 | cons x r ih => rw [List.flatMap_cons, List.length_append, ih, hf, List.length_cons, Nat.add_mul]; omega
theorem qRy (hf : ∀ x, (f x).length = n) (ls : List α) (i : Nat) : (ls.flatMap f).take (i * n) = (ls.take i).flatMap f := by
 induction ls generalizing i with
 | nil => simp
 | cons x r ih =>
  cases i with
  | zero => simp
  | succ i =>
   rw [List.flatMap_cons, List.take_succ_cons, List.flatMap_cons, List.take_append, hf, show (i + 1) * n - n = i * n by rw [Nat.add_mul]; omega, ih, List.take_of_length_le (by rw [hf, Nat.add_mul]; omega)]
theorem jCt (hf : ∀ x, (f x).length = n) (ls : List α) (i : Nat) : (ls.flatMap f).drop (i * n) = (ls.drop i).flatMap f := by
 induction ls generalizing i with
 | nil => simp
 | cons x r ih =>
  cases i with
  | zero => simp
  | succ i =>
   rw [List.flatMap_cons, List.drop_succ_cons, List.drop_append, hf, show (i + 1) * n - n = i * n by rw [Nat.add_mul]; omega, ih, List.drop_of_length_le (by rw [hf, Nat.add_mul]; omega), List.nil_append]
theorem qJi (hf : ∀ x, (f x).length = n) (ls : List α) (i j : Nat) (hj : j < n) : (ls.flatMap f)[i * n + j]? = (ls[i]?).bind fun x => (f x)[j]? := by
 induction ls generalizing i with
 | nil => simp
 | cons x r ih =>
  cases i with
  | zero => simp [List.getElem?_append, hf, hj]
  | succ i =>
   rw [List.flatMap_cons, List.getElem?_append, hf, if_neg (by rw [Nat.add_mul]; omega), show (i + 1) * n + j - n = i * n + j by rw [Nat.add_mul]; omega, ih]
   simp
end
def blk (sa : Option Addr) (k : Nat) : Prop := ∃ a, sa = some a /\ a.block = k
theorem qAj (k : Nat) : ¬ blk none k := fun ⟨_, h, _⟩ => by cases h
theorem qAc {g off k : Nat} : blk (some ⟨g, off, none⟩) k ↔ g = k := by simp [blk]
def Own (w : World) (e : TypeId) (size : Nat) (sa : Option Addr) (n cap : Nat) (xs : List Value) : Prop :=
 xs.length = n * size /\ n <= cap /\ cap <= maxLen ∧
 ((sa = none /\ cap = 0) \/ ∃ g off cur, sa = some ⟨g, off, none⟩ /\ w.heap[g]? = some (.cells cur e (0, 0)) /\ off + cap * size <= cur.size /\ (cur.toList.drop off).take (n * size) = xs)
def Src (w : World) (size : Nat) (xa : Option Addr) (m : Nat) (news : List Value) : Prop :=
 news.length = m * size /\ (xa = none -> m = 0) /\ ∀ a, xa = some a -> ∀ j u, news[j]? = some u -> w.cell? (a.add j) = some u
theorem Own.nil (w : World) (e : TypeId) (size : Nat) : Own w e size none 0 0 [] := ⟨by simp, Nat.le_refl _, Nat.zero_le _, .inl ⟨rfl, rfl⟩⟩
theorem Own.lt {w : World} {e : TypeId} {size : Nat} {sa : Option Addr} {n cap : Nat} {xs : List Value} (h : Own w e size sa n cap xs) : ∀ k, blk sa k -> k < w.heap.size := by
 rintro k ⟨a, ha, hk⟩; rcases h.2.2.2 with ⟨rfl, _⟩ | ⟨g, off, cur, rfl, hg, _⟩
 ·cases ha
 ·cases ha; subst hk; exact lth hg
theorem Own.mod {S : Nat -> Prop} {w w' : World} {e : TypeId} {size : Nat} {sa : Option Addr} {n cap : Nat} {xs : List Value}
  (h : Own w e size sa n cap xs) (hm : Mod S w w') (hne : ∀ k, blk sa k -> ¬ S k) : Own w' e size sa n cap xs := by
 refine ⟨h.1, h.2.1, h.2.2.1, ?_⟩; rcases h.2.2.2 with hn | ⟨g, off, cur, rfl, hg, rest⟩
 ·exact .inl hn
 ·refine .inr ⟨g, off, cur, rfl, ?_, rest⟩; rw [hm.block g (lth hg) (hne g ⟨_, rfl, rfl⟩)]; exact hg
theorem Own.src {w : World} {e : TypeId} {size : Nat} {sa : Option Addr} {n cap : Nat} {xs : List Value} (h : Own w e size sa n cap xs) : Src w size sa n xs := by
 refine ⟨h.1, fun hn => ?_, fun a ha j u hu => ?_⟩
 ·rcases h.2.2.2 with ⟨_, hc⟩ | ⟨g, off, cur, hs, _⟩
  ·have := h.2.1; omega
  ·rw [hn] at hs; cases hs
 ·rcases h.2.2.2 with ⟨hs, hc⟩ | ⟨g, off, cur, hs, hg, hsz, htk⟩
  ·rw [ha] at hs; cases hs
  ·rw [ha] at hs; cases hs
   rw [Addr.add_lit, cell_of_row w g (off + j) cur e (0, 0) hg]; rw [<- htk, List.getElem?_take] at hu; split at hu
   ·simpa [List.getElem?_drop] using hu
   ·cases hu
theorem Own.cell {w : World} {e : TypeId} {size g off n cap : Nat} {xs : List Value} (h : Own w e size (some ⟨g, off, none⟩) n cap xs) (j : Nat) (hj : j < n * size) : w.cell? ⟨g, off + j, none⟩ = some (xs.getD j undef) := by
 have hx : j < xs.length := by rw [h.1]; exact hj
 have := h.src.2.2 _ rfl j xs[j] (by simp [hx])
 rw [Addr.add_lit] at this
 simpa [hx] using this
theorem Own.frozen {w : World} {e : TypeId} {size g off n cap : Nat} {xs : List Value} (h : Own w e size (some ⟨g, off, none⟩) n cap xs) (o : Nat) : w.frozen? ⟨g, o, none⟩ = false := by
 rcases h.2.2.2 with ⟨hs, hc⟩ | ⟨g', off', cur, hs, hg, hsz, htk⟩
 ·cases hs
 ·cases hs; exact frozen_of_row w g o cur e hg
theorem Src.mod {S : Nat -> Prop} {w w' : World} {size : Nat} {xa : Option Addr} {m : Nat} {news : List Value} (h : Src w size xa m news) (hm : Mod S w w') (hs : ∀ k, blk xa k -> ¬ S k) : Src w' size xa m news := by
 refine ⟨h.1, h.2.1, fun a ha j u hu => ?_⟩
 have hc := h.2.2 a ha j u hu; have hb : (a.add j).block = a.block := by unfold Addr.add; split <;> rfl
 rw [hm.cell (World.block_lt_of_cell? _ _ hc) (by rw [hb]; exact hs _ ⟨a, ha, rfl⟩)]
 exact hc
theorem qAw {w : World} {g m size : Nat} {cs : List Value} {t : TypeId} {fr : Nat × Nat} (hg : w.heap[g]? = some (.cells cs.toArray t fr)) (hl : cs.length = m * size) : Src w size (some ⟨g, 0, none⟩) m cs := by
 refine ⟨hl, (fun h => nomatch h), fun a ha j u hu => ?_⟩
 cases ha
 rw [Addr.add_lit, cell_of_row w g (0 + j) _ t fr hg]
 simpa using hu
theorem Own.set {w : World} {e : TypeId} {size g off n cap : Nat} {xs : List Value} (h : Own w e size (some ⟨g, off, none⟩) n cap xs) (j : Nat) (hj : j < n * size) (v : Value) : Own (w.setCell ⟨g, off + j, none⟩ v) e size (some ⟨g, off, none⟩) n cap (xs.set j v) := by
 refine ⟨by rw [List.length_set]; exact h.1, h.2.1, h.2.2.1, ?_⟩
 rcases h.2.2.2 with ⟨h1, _⟩ | ⟨g', off', cur, h1, h2, h3, h4⟩
 ·cases h1
 ·cases h1
  refine .inr ⟨g, off, _, rfl, heap_setCell_same w g (off + j) cur e v h2, by simpa using h3, ?_⟩
  have hc : n * size <= cap * size := Nat.mul_le_mul_right _ h.2.1; apply List.ext_getElem?; intro k; have h4k := congrArg (fun l : List Value => l[k]?) h4
  simp only [List.getElem?_take, List.getElem?_drop] at h4k; simp only [Array.toList_setIfInBounds, List.getElem?_take, List.getElem?_drop, List.getElem?_set, h.1]; by_cases hk : k < n * size
  ·simp only [hk, if_true] at h4k ⊢; by_cases hjk : j = k
   ·subst hjk; simp [hk, Array.length_toList]
    omega
   ·rw [if_neg (by omega), if_neg hjk]
    exact h4k
  ·simp only [hk, if_false] at h4k ⊢; rw [<- h4k]; simp; omega
theorem qIw {P : Program} {w : World} {size m c : Nat} {xa : Option Addr} {news : List Value} (h : Src w size xa m news) :
  (Builtin.firstCells size m (.slice xa m c)).run P w = .ok news.toArray w := by
 cases xa with
 | none =>
  have h0 := h.2.1 rfl; have hn : news = [] := List.eq_nil_of_length_eq_zero (by rw [h.1, h0]; simp)
  subst hn; rfl
 | some a => exact run_firstCells_some (P := P) w size m a m c news h.1 (h.2.2 a rfl)
theorem qHx {P : Program} (w : World) (t ty e : TypeId) (i : TypeInfo) (z : Value) (size bytes : Nat) (ht : P.underlying t = some (.slice e)) (hi : P.info? e = some i) (hz : i.zero = some z)
  (hsize : i.size = size) (hby : i.bytes = bytes) (hzs : z.cells.size = size)
  (sa : Option Addr) (n cap : Nat) (xs : List Value) (hown : Own w e size sa n cap xs)
  (xa : Option Addr) (m c : Nat) (news : List Value) (hsrc : Src w size xa m news) (h1 : ∀ u ∈ news, u.oneCell' = true)
  (h63 : n + m <= maxLen) (hbytes : (n + m) * bytes <= 140737488355328) :
  ∃ sa' cap' w', (Builtin.append_ #[t, t] ty #[.slice sa n cap, .slice xa m c]).run P w = .ok (.slice sa' (n + m) cap') w' /\ Own w' e size sa' (n + m) cap' (xs ++ news) ∧
   Mod (blk sa) w w' /\ (∀ k, blk sa' k -> blk sa k \/ w.heap.size <= k) /\ (sa' = none -> sa = none /\ m = 0) /\ (n + m <= cap -> sa' = sa /\ cap' = cap) := by
 subst hsize; subst hby; have hlen : (xs ++ news).length = (n + m) * i.size := by rw [List.length_append, hown.1, hsrc.1, Nat.add_mul]
 have hf := qIw (P := P) (c := c) hsrc; by_cases hroom : n + m <= cap
 ·rcases hown.2.2.2 with ⟨rfl, rfl⟩ | ⟨g, off, cur, rfl, hg, hsz, htk⟩
  ·have hn : n = 0 := by omega
   have hm : m = 0 := by omega
   subst hn hm; have hx : xs = [] := List.eq_nil_of_length_eq_zero (by rw [hown.1]; simp)
   have hw : news = [] := List.eq_nil_of_length_eq_zero (by rw [hsrc.1]; simp)
   subst hx hw; refine ⟨none, 0, w, ?_, Own.nil w e i.size, Mod.refl _ _, fun k hk => (qAj k hk).elim, fun _ => ⟨rfl, rfl⟩, fun _ => ⟨rfl, rfl⟩⟩
   simp [Builtin.append_, run_underlying ht, sizeOf, typeInfo, hi, Builtin.lenOf, hf]
  ·have hb : n * i.size + news.length <= cap * i.size := by rw [hsrc.1, <- Nat.add_mul]; exact Nat.mul_le_mul_right _ hroom
   have hst := run_storeCells_at P g (off + n * i.size) e news 0 cur w hg (by omega) h1
   simp only [Nat.add_zero] at hst; have hcl : cur.toList.length = cur.size := Array.length_toList; refine ⟨some ⟨g, off, none⟩, cap, w.setRow g (cur.toList.take (off + n * i.size) ++ news ++ cur.toList.drop (off + n * i.size + news.length)).toArray, ?_, ⟨hlen, hroom, hown.2.2.1, .inr ⟨g, off, _, rfl, setRow_heap w g cur _ e _ hg, ?_, ?_⟩⟩, ⟨rfl, rfl, rfl, by simp, fun k _ hk => setRow_other w g k _ (fun e => hk (by simp [blk, e]))⟩, fun k hk => .inl hk, (fun h => nomatch h), fun _ => ⟨rfl, rfl⟩⟩
   ·simp [Builtin.append_, run_underlying ht, sizeOf, typeInfo, hi, Builtin.lenOf, hroom, hf, Addr.add_lit, hst]
   ·simp only [List.size_toArray, List.length_append, List.length_take, List.length_drop]; omega
   ·rw [List.append_assoc, List.drop_append_of_le_length (by simp only [List.length_take]; omega), List.drop_take]
    rw [show off + n * i.size - off = n * i.size by omega, htk, <- List.append_assoc, <- hlen]
    exact List.take_left
 ·have hm0 : 0 < m := by have := hown.2.1; omega
  obtain ⟨a, rfl⟩ : ∃ a, xa = some a := by
   cases xa with
   | none => have := hsrc.2.1 rfl; omega
   | some a => exact ⟨a, rfl⟩
  have hsmall : n + m <= 9223372036854775807 := by simp only [maxLen] at h63; omega
  have hge := grownCap_ge w (n + m) cap e; have hcm : grownCap w (n + m) cap e <= maxLen := grownCap_le_maxLen w (n + m) cap e h63; have hnew : Own (w.drew.alloc (.cells (xs.toArray ++ news.toArray ++ Builtin.zeroCells z.cells (grownCap w (n + m) cap e - (n + m))) e)) e i.size (some ⟨w.heap.size, 0, none⟩) (n + m) (grownCap w (n + m) cap e) (xs ++ news) := by
   refine ⟨hlen, hge, hcm, .inr ⟨w.heap.size, 0, _, rfl, heap_alloc_new w.drew _, ?_, ?_⟩⟩
   ·simp only [Array.size_append, List.size_toArray, size_zeroCells, hzs, hown.1, hsrc.1, <- Nat.add_mul, Nat.zero_add]; exact Nat.mul_le_mul_right _ (by omega)
   ·simp only [Array.toList_append, List.append_assoc, List.drop_zero]; rw [<- List.append_assoc, <- hlen]; exact List.take_left
  have hmod : Mod (blk sa) w (w.drew.alloc (.cells (xs.toArray ++ news.toArray ++ Builtin.zeroCells z.cells (grownCap w (n + m) cap e - (n + m))) e)) := (Mod.refl _ _).drew.alloc _; have hnb : ∀ k, blk (some ⟨w.heap.size, 0, none⟩) k -> blk sa k \/ w.heap.size <= k := fun k hk => .inr (by rw [qAc] at hk; omega)
  rcases hown.2.2.2 with ⟨rfl, rfl⟩ | ⟨g, off, cur, rfl, hg, hsz, htk⟩
  ·have hn : n = 0 := by have := hown.2.1; omega
   subst hn; have hx : xs = [] := List.eq_nil_of_length_eq_zero (by rw [hown.1]; simp)
   subst hx; have hr := run_append_nil (P := P) w t ty e i z ht hi hz a m c news hsrc.1 (hsrc.2.2 a rfl) (by omega) (by omega) (by have hb := hbytes; simp only [Nat.zero_add] at hb; omega)
   simp only [Nat.zero_add, List.nil_append, Array.empty_append] at hnew hmod ⊢; exact ⟨_, _, _, hr, hnew, hmod, hnb, (fun h => nomatch h), fun h => by omega⟩
  ·have hr := run_append_grow (P := P) w t ty e i z ht hi hz ⟨g, off, none⟩ n cap xs hown.1 (hown.src.2.2 _ rfl) a m c news hsrc.1 (hsrc.2.2 a rfl) (by omega) (by omega) (growslice_fits (by omega) hbytes)
   exact ⟨_, _, _, hr, hnew, hmod, hnb, (fun h => nomatch h), fun h => by omega⟩
theorem qAr {P : Program} {ops : Array Oper} {o : Oper} {a : Act} {w : World} {K : Act -> World -> Prop} {Q : Exit -> Act -> World -> Prop} {E : Prop}
  (hg : o.guard = none) (s x : Operand) (t : TypeId) (hop : o.op = Op.call { callee := Callee.builtin Builtin.append, args := #[s, x], argTypes := #[t, t] })
  (e : TypeId) (i : TypeInfo) (z : Value) (size bytes : Nat) (h1 : P.underlying t = some (.slice e)) (h2 : P.info? e = some i) (hz : i.zero = some z) (h4 : i.size = size) (hby : i.bytes = bytes) (hzs : z.cells.size = size)
  (sa : Option Addr) (n cap : Nat) (xs : List Value) (hs : a.eval s = .slice sa n cap) (hown : Own w e size sa n cap xs)
  (xa : Option Addr) (m c : Nat) (news : List Value) (hx : a.eval x = .slice xa m c) (hsrc : Src w size xa m news) (h1c : ∀ u ∈ news, u.oneCell' = true)
  (h63 : n + m <= maxLen) (hbytes : (n + m) * bytes <= 140737488355328)
  (hK : ∀ sa' cap' w', Own w' e size sa' (n + m) cap' (xs ++ news) -> Mod (blk sa) w w' -> (∀ k, blk sa' k -> blk sa k \/ w.heap.size <= k) -> (sa' = none -> sa = none /\ m = 0) -> (n + m <= cap -> sa' = sa /\ cap' = cap) -> K (a.put o.dst (.slice sa' (n + m) cap')) w') :
  if Region.wanted o (yielded ops a.tmps) = true then Oper.wp P o a w K Q else E := by
 have hw : Region.wanted o (yielded ops a.tmps) = true := by simp [Region.wanted, hg]
 rw [if_pos hw]; obtain ⟨sa', cap', w', hrun, r1, r2, r3, r4, r5⟩ := qHx (P := P) w t o.type e i z size bytes h1 h2 hz h4 hby hzs sa n cap xs hown xa m c news hsrc h1c h63 hbytes; unfold Oper.wp; simp [execOp, hop, resolve, invoke, builtin, hs, hx, hrun, Result.andThen]
 exact hK sa' cap' w' r1 r2 r3 r4 r5
theorem qAd {P : Program} {ops : Array Oper} {rest : List Oper} {o : Oper} {a : Act} {w : World} {Q : Exit -> Act -> World -> Prop}
  (hg : o.guard = none) (s x : Operand) (t : TypeId) (hop : o.op = Op.call { callee := Callee.builtin Builtin.append, args := #[s, x], argTypes := #[t, t] })
  (e : TypeId) (i : TypeInfo) (z : Value) (size bytes : Nat) (h1 : P.underlying t = some (.slice e)) (h2 : P.info? e = some i) (hz : i.zero = some z) (h4 : i.size = size) (hby : i.bytes = bytes) (hzs : z.cells.size = size)
  (sa : Option Addr) (n cap : Nat) (xs : List Value) (hs : a.eval s = .slice sa n cap) (hown : Own w e size sa n cap xs)
  (xa : Option Addr) (m c : Nat) (news : List Value) (hx : a.eval x = .slice xa m c) (hsrc : Src w size xa m news) (h1c : ∀ u ∈ news, u.oneCell' = true)
  (h63 : n + m <= maxLen) (hbytes : (n + m) * bytes <= 140737488355328)
  (hK : ∀ sa' cap' w', Own w' e size sa' (n + m) cap' (xs ++ news) -> Mod (blk sa) w w' -> (∀ k, blk sa' k -> blk sa k \/ w.heap.size <= k) -> (sa' = none -> sa = none /\ m = 0) -> (n + m <= cap -> sa' = sa /\ cap' = cap) -> wpList P ops Q rest (a.put o.dst (.slice sa' (n + m) cap')) w') :
  wpList P ops Q (o :: rest) a w := by
 have h := qAr (ops := ops) (Q := Q) (E := False) hg s x t hop e i z size bytes h1 h2 hz h4 hby hzs sa n cap xs hs hown xa m c news hx hsrc h1c h63 hbytes hK; have hw : Region.wanted o (yielded ops a.tmps) = true := by simp [Region.wanted, hg]
 rw [if_pos hw] at h; unfold wpList; rw [if_pos hw]; exact .inl h
theorem Mod.drewN {S : Nat -> Prop} {a w : World} (h : Mod S a w) (n : Nat) : Mod S a (w.drewN n) := ⟨h.os, h.tape, h.output, h.size, h.block⟩
structure Ext (w : World) where
 val : World
 mod : Mod (fun _ => False) w val
instance (w : World) : Nonempty (Ext w) := ⟨⟨w, Mod.refl _ w⟩⟩
theorem Ext.cell {w : World} (x : Ext w) {p : Addr} {v : Value} (h : w.cell? p = some v) : x.val.cell? p = some v := (x.mod.cell (World.block_lt_of_cell? _ _ h) (fun h => h)).trans h
theorem Ext.heap {w : World} (x : Ext w) {b : Nat} {o : Obj} (h : w.heap[b]? = some o) : x.val.heap[b]? = some o := (x.mod.block b (lth h) (fun h => h)).trans h
theorem qAm {P : Program} {id : Nat} {Q : Exit -> Act -> World -> Prop} {a : Act} {w : World} {l : List Oper} (hm : P.follows .mixedOrders = true) (hB : Region.lexB .any l.toArray = true)
  (h : wpQuiet P l.toArray (fun w' => ∃ x : Ext w, w' = x.val) (fun a' => ∀ w', (∃ x : Ext w, w' = x.val) -> Q .normal a' w') l a) : (Code.region id l.toArray true).wp P Q a w :=
 wp_region_quiet (C := fun w' => ∃ x : Ext w, w' = x.val) hm hB ⟨⟨_, (Mod.refl _ w).drew⟩, rfl⟩ (by simpa using h)
theorem qBe {P : Program} {f : FuncId} {args : Array Value} {w : World} {x : Ext w} {v : Value}
  (h : Calls P f args x.val fun e w' => e = .returned v /\ Mod (fun _ => False) x.val w') : Calls P f args x.val fun e w'' => e = .returned v /\ ∃ y : Ext w, w'' = y.val :=
 h.mono fun _ w' ⟨he, hm⟩ => ⟨he, ⟨w', x.mod.trans hm⟩, rfl⟩
theorem jHn {P : Program} {f : FuncId} {args : Array Value} {w : World} {x : Ext w} {v : Value}
  (h : Calls P f args x.val fun e w' => e = .returned v /\ x.val = w') : Calls P f args x.val fun e w'' => e = .returned v /\ ∃ y : Ext w, w'' = y.val :=
 h.mono fun _ _ ⟨he, hm⟩ => ⟨he, x, hm.symm⟩
end
section
open Go Go.RowKit Go.Shelf Go.Proofs
def qMh : Go.Shelf.Ren := ⟨fun | 169 => 108 | n => n, fun | 70 => 206 | 9 => 9 | 0 => 0 | 72 => 208 | 37 => 128 | 127 => 235 | 3 => 3 | 5 => 5 | n => n, fun | n => n⟩
theorem jJk : Go.Proofs.Lays.n169 Tryz.prog qMh := {
 mixed := by kernel_rfl
 f169 := Tryz.func108.trans (congrArg some (by kernel_rfl))
 t0 := Tryz.underlying0
 a0 := Tryz.isAgg0
 z0 := Tryz.sizeOf0
 v0 := Tryz.zeroValue0
 t3 := Tryz.underlying3
 a3 := Tryz.isAgg3
 z3 := Tryz.sizeOf3
 v3 := Tryz.zeroValue3
 t9 := Tryz.underlying9
 a9 := Tryz.isAgg9
 z9 := Tryz.sizeOf9
 v9 := Tryz.zeroValue9
 t37 := Tryz.underlying128
 a37 := Tryz.isAgg128
 z37 := Tryz.sizeOf128
 v37 := Tryz.zeroValue128
 t70 := Tryz.underlying206
 a70 := Tryz.isAgg206
 z70 := Tryz.sizeOf206
 v70 := Tryz.zeroValue206
 t72 := Tryz.underlying208
 a72 := Tryz.isAgg208
 z72 := Tryz.sizeOf208
 v72 := Tryz.zeroValue208
 t127 := Tryz.underlying235
 a127 := Tryz.isAgg235
 z127 := Tryz.sizeOf235
 v127 := Tryz.zeroValue235 }
theorem qLg : Builder.Extra Tryz.prog qMh := {
 sizeBuilder := by kernel_rfl
 liesBuilder := by kernel_rfl
 t5 := Tryz.underlying5
 a5 := Tryz.isAgg5
 z5 := Tryz.sizeOf5
 v5 := Tryz.zeroValue5
 infoByte := by kernel_rfl
 cellsByte := by kernel_rfl
 sizeByte := by kernel_rfl
 neB5 := by decide }
theorem qHg (B b : Nat) (l : List UInt8) (w : World) (h : Lib.IsBuilder 208 5 B b (Lib.byteCells l) w) (hBw : B <= w.heap.size) :
  Calls Tryz.prog 108 #[.pointer (some ⟨b, 0, none⟩)] w fun e w' => e = .returned (.string ⟨l.toArray⟩) /\ Below B w w' := Any.Builder_String_any jJk qLg B b l w h hBw
theorem jAi : (Tryz.prog.info? 208).map (·.size) = some 2 := by kernel_rfl
theorem jId : (Tryz.prog.info? 5).map (fun i => (i.zero, i.size, i.bytes)) = some (some (.int .u8 0), 1, 1) := by kernel_rfl
set_option maxRecDepth 100000
theorem qNn (b : Nat) (w : World) (h0 : w.cell? ⟨b, 0, none⟩ = some (.pointer (some ⟨b, 0, none⟩))) :
  Calls Tryz.prog 141 #[.pointer (some ⟨b, 0, none⟩)] w fun e w' => e = .returned (.tuple #[]) /\ w = w' := by
 obtain ⟨j, hj, _⟩ := Option.map_eq_some_iff.1 jAi; have hne := fun w => Lib.run_neq_ptr_same (P := Tryz.prog) w ⟨b, 0, none⟩ Tryz.underlying206 hj
 go_enter Tryz.func141, Tryz.ntmps141
 go_wp2
 go_end0; exact ⟨rfl, rfl⟩
theorem qMr (b : Nat) (w : World) (h0 : w.cell? ⟨b, 0, none⟩ = some (.pointer none)) (hsh : w.shape? b = some (208, 2)) (hfz : w.frozen? ⟨b, 0, none⟩ = false) :
  Calls Tryz.prog 141 #[.pointer (some ⟨b, 0, none⟩)] w fun e w' => e = .returned (.tuple #[]) /\ w' = w.setCell ⟨b, 0, none⟩ (.pointer (some ⟨b, 0, none⟩)) := by
 obtain ⟨j, hj, hjs⟩ := Option.map_eq_some_iff.1 jAi; have hne := fun w => Lib.run_neq_ptr_same (P := Tryz.prog) w ⟨b, 0, none⟩ Tryz.underlying206 hj
 go_enter Tryz.func141, Tryz.ntmps141
 go_wp2
 rw [Lib.run_to_unsafe w ⟨b, 0, none⟩ Tryz.underlying206 Tryz.underlying265 hj (by rw [hjs]; decide) hsh (Nat.zero_lt_succ 1)]
 simp only [Result.andThen]; rw [Oper.upon_value]; go_wp2
 rw [run_callFunc_extern Tryz.func171 (by kernel_rfl) (by kernel_rfl) (by kernel_rfl) (e := Extern.AbiNoEscape.same) (by kernel_rfl)]
 rw [Lib.run_noEscape]; simp only [Result.andThen]; rw [Oper.upon_value]; go_wp2
 rw [Lib.run_from_unsafe w ⟨b, 0, none⟩ Tryz.underlying265 Tryz.underlying206 hj hsh qLg.liesBuilder]; simp only [Result.andThen]; rw [Oper.upon_value]; go_wp2
 go_end0; exact ⟨rfl, rfl⟩
theorem qJq (B b : Nat) (bs : List Value) (w : World) (h : Lib.IsBuilder 208 5 B b bs w) :
  Calls Tryz.prog 141 #[.pointer (some ⟨b, 0, none⟩)] w fun e w' => e = .returned (.tuple #[]) /\ (Lib.BuilderAt 208 5 B b (.pointer (some ⟨b, 0, none⟩)) bs w' /\ Below B w w') := by
 rcases h with h | h
 ·refine (qMr b w h.cell0 h.shape h.frozen0).mono ?_; rintro e w' ⟨rfl, rfl⟩; exact ⟨rfl, h.used _, (Below.refl B w).setCell (p := ⟨b, 0, none⟩) h.1 _⟩
 ·refine (qNn b w h.cell0).mono ?_; rintro e w' ⟨rfl, rfl⟩; exact ⟨rfl, h, Below.refl B _⟩
set_option maxHeartbeats 1000000 in
theorem qDr (B b : Nat) (bs : List Value) (c : Int) (w : World) (h : Lib.IsBuilder 208 5 B b bs w) (hlen : bs.length + 1 <= 140737488355328) (hBw : B <= w.heap.size) :
  Calls Tryz.prog 107 #[.pointer (some ⟨b, 0, none⟩), .int .u8 c] w fun e w' => e = .returned .nilIface /\ (Lib.IsBuilder 208 5 B b (bs ++ [.int .u8 c]) w' /\ Below B w w') := by
 obtain ⟨i0, hi, hz0, hz1, hz2⟩ := info_parts jId; have HC := hid (qJq B b bs w h); clear h; go_enter Tryz.func107, Tryz.ntmps107
 go_wp2_with (go_at_call 141; refine HC.out.mono ?_)
 rintro e w1 ⟨rfl, h1, hb1⟩; obtain ⟨hB, v, hbk, hown, hne⟩ := h1; have c0 : w1.cell? ⟨b, 0, none⟩ = some (.pointer (some ⟨b, 0, none⟩)) := by rw [Lib.cell_of_heap hbk]; rfl
 have c1 : w1.cell? ⟨b, 1, none⟩ = some v := by rw [Lib.cell_of_heap hbk]; rfl
 go_wp2_with (at_builtin; refine wpList_append_own _ rfl _ _ 128 rfl B 5 i0 (.int .u8 0) 1 1 Tryz.underlying128 hi hz0 hz1 hz2 rfl (by decide) _ _ _ rfl (hown.alloc _) ⟨w1.heap.size, 0, none⟩ 1 1 [.int .u8 c] rfl rfl ?c1 ?c2 ?c3 ?c4 ?c5 ?_)
 case c1 =>
  intro j u hj
  match j, hj with
  | 0, hj => simp at hj; subst hj; simp [Addr.add]
 case c2 => intro u hu; simp at hu; subst hu; rfl
 case c3 => unfold maxLen; omega
 case c4 => omega
 case c5 => have := hb1.size; simp; omega
 intro v' w2 hown' hgrow _; have hlt : b < w1.heap.size := lth hbk; have hb2 : w2.heap[b]? = some (.cells #[.pointer (some ⟨b, 0, none⟩), v] 208 (0, 0)) := by
  rw [hgrow.block b (by simp; omega) (fun e => hne e.symm), Lib.alloc_old w1 _ b hlt]
  exact hbk
 have d0 : w2.cell? ⟨b, 0, none⟩ = some (.pointer (some ⟨b, 0, none⟩)) := by rw [Lib.cell_of_heap hb2]; rfl
 have d1 : w2.cell? ⟨b, 1, none⟩ = some v := by rw [Lib.cell_of_heap hb2]; rfl
 have f1 : w2.frozen? ⟨b, 1, none⟩ = false := Lib.frozen_of_heap hb2 1; obtain ⟨g, cap, rfl⟩ : ∃ g cap, v' = .slice (some ⟨g, 0, none⟩) (bs.length + 1) cap := by
  rcases hown'.2 with ⟨_, h0⟩ | ⟨g, cap, cur, hv, _⟩
  ·omega
  ·exact ⟨g, cap, hv⟩
 go_wp2
 go_ret; refine ⟨rfl, .inr ?_, ?_⟩
 ·exact Lib.BuilderAt.put (T := 208) (e := 5) hB hb2 (bs' := bs ++ [.int .u8 c]) (by simpa using hown') (by decide)
 ·exact ((hb1.alloc (by have := hb1.size; omega) _).grown hgrow (by have := hb1.size; simp; omega) (fun k hk => (hown.lt k hk).1)).setCell (p := ⟨b, 1, none⟩) hB _
set_option maxHeartbeats 1000000 in
theorem qBy (B b : Nat) (bs : List Value) (s : ByteArray) (w : World) (h : Lib.IsBuilder 208 5 B b bs w) (hlen : bs.length + s.size <= 140737488355328) (hBw : B <= w.heap.size) :
  Calls Tryz.prog 115 #[.pointer (some ⟨b, 0, none⟩), .string s] w fun e w' => e = .returned (.tuple #[.int .i64 s.size, .nilIface]) /\ (Lib.IsBuilder 208 5 B b (bs ++ Lib.strCells s) w' /\ Below B w w') := by
 obtain ⟨i0, hi, hz0, hz1, hz2⟩ := info_parts jId; have HC := hid (qJq B b bs w h); clear h; go_enter Tryz.func115, Tryz.ntmps115
 go_wp2_with (go_at_call 141; refine HC.out.mono ?_)
 rintro e w1 ⟨rfl, h1, hb1⟩; obtain ⟨hB, v, hbk, hown, hne⟩ := h1; have c0 : w1.cell? ⟨b, 0, none⟩ = some (.pointer (some ⟨b, 0, none⟩)) := by rw [Lib.cell_of_heap hbk]; rfl
 have c1 : w1.cell? ⟨b, 1, none⟩ = some v := by rw [Lib.cell_of_heap hbk]; rfl
 go_wp2_with (at_builtin; refine Lib.wpList_append_own_string _ rfl _ _ 128 9 rfl B 5 i0 Tryz.underlying128 Tryz.underlying9 hi hz0 hz1 hz2 _ _ _ rfl hown s rfl ?c3 ?c4 ?c5 ?_)
 case c3 => unfold maxLen; omega
 case c4 => omega
 case c5 => have := hb1.size; omega
 intro v' w2 hown' hgrow _; have hlt : b < w1.heap.size := lth hbk; have hb2 : w2.heap[b]? = some (.cells #[.pointer (some ⟨b, 0, none⟩), v] 208 (0, 0)) := by
  rw [hgrow.block b hlt (fun e => hne e.symm)]
  exact hbk
 have d0 : w2.cell? ⟨b, 0, none⟩ = some (.pointer (some ⟨b, 0, none⟩)) := by rw [Lib.cell_of_heap hb2]; rfl
 have d1 : w2.cell? ⟨b, 1, none⟩ = some v := by rw [Lib.cell_of_heap hb2]; rfl
 have f1 : w2.frozen? ⟨b, 1, none⟩ = false := Lib.frozen_of_heap hb2 1; have hv1 := v'.oneCell'; obtain ⟨ao, n', cap, rfl⟩ : ∃ ao n' cap, v' = .slice ao n' cap := by
  rcases hown'.2 with ⟨hv, _⟩ | ⟨g, cap, cur, hv, _⟩
  ·exact ⟨_, _, _, hv⟩
  ·exact ⟨_, _, _, hv⟩
 go_wp2
 go_ret2; refine ⟨rfl, .inr ?_, ?_⟩
 ·exact Lib.BuilderAt.put (T := 208) (e := 5) hB hb2 (bs' := bs ++ Lib.strCells s) (by simpa [Lib.strCells_length] using hown') (by decide)
 ·exact (hb1.grown hgrow (by have := hb1.size; omega) (fun k hk => (hown.lt k hk).1)).setCell (p := ⟨b, 1, none⟩) hB _
theorem jAr (B b : Nat) (bs : List Value) (w : World) (h : Lib.IsBuilder 208 5 B b bs w) :
  Calls Tryz.prog 136 #[.pointer (some ⟨b, 0, none⟩)] w fun e w' => e = .returned (.tuple #[]) /\ (Lib.IsBuilder 208 5 B b [] w' /\ Below B w w') := by
 obtain ⟨p, hB, v, hbk, hown, hne⟩ : ∃ p, Lib.BuilderAt 208 5 B b p bs w := by
  rcases h with h | h
  ·exact ⟨_, h⟩
  ·exact ⟨_, h⟩
 have c0 : w.cell? ⟨b, 0, none⟩ = some p := by rw [Lib.cell_of_heap hbk]; rfl
 have f0 : w.frozen? ⟨b, 0, none⟩ = false := Lib.frozen_of_heap hbk 0; have hb2 := heap_setCell_same w b 0 #[p, v] 208 (.pointer none) hbk; have c1 : (w.setCell ⟨b, 0, none⟩ (.pointer none)).cell? ⟨b, 1, none⟩ = some v := by rw [Lib.cell_of_heap hb2]; rfl
 have f1 : (w.setCell ⟨b, 0, none⟩ (.pointer none)).frozen? ⟨b, 1, none⟩ = false := Lib.frozen_of_heap hb2 1; have HB2 := hid hb2; have HB := hid hB; clear h hown hne hbk hb2 hB; go_enter Tryz.func136, Tryz.ntmps136
 go_wp2
 go_end0; refine ⟨rfl, .inl ⟨HB.out, .slice none 0 0, ?_, ?_, by simp [Value.ownBlock]⟩, ((Below.refl B w).setCell (p := ⟨b, 0, none⟩) HB.out _).setCell (p := ⟨b, 1, none⟩) HB.out _⟩
 ·have := heap_setCell_same _ b 1 _ 208 (.slice none 0 0) HB2.out; exact this
 ·exact World.ownsRow_nil _ _ _ _
theorem qKl {B b : Nat} {bs : List Value} {w w' : World} (h : Lib.IsBuilder 208 5 B b bs w) (hm : Mod (fun _ => False) w w') : Lib.IsBuilder 208 5 B b bs w' := by
 have key : ∀ p, Lib.BuilderAt 208 5 B b p bs w -> Lib.BuilderAt 208 5 B b p bs w' := fun p ⟨hB, v, hb, hown, hne⟩ =>
  ⟨hB, v, (hm.block b (lth hb) (fun h => h)).trans hb, hown.kept (row := none) ⟨hm.os, hm.tape, hm.output, hm.size, fun k hk _ => hm.block k hk (fun h => h)⟩ (Classical.em _), hne⟩
 rcases h with h | h
 ·exact .inl (key _ h)
 ·exact .inr (key _ h)
end
section
open Go Go.RowKit
def uvar (n : Nat) : List UInt8 :=
 if n <= 127 then [UInt8.ofNat n] else UInt8.ofNat (n % 128 + 128) :: uvar (n / 128)
termination_by n
decreasing_by omega
theorem qCn {n : Nat} (h : n <= 127) : uvar n = [UInt8.ofNat n] := by rw [uvar, if_pos h]
theorem qLj {n : Nat} (h : ¬ n <= 127) : uvar n = UInt8.ofNat (n % 128 + 128) :: uvar (n / 128) := by rw [uvar, if_neg h]
theorem qFe (n : Nat) : 0 < (uvar n).length := by
 rw [uvar]; split <;> simp
theorem qIs : ∀ (k n : Nat), n < 128 ^ (k + 1) -> (uvar n).length <= k + 1
 | 0, n, h => by rw [qCn (by simpa using Nat.lt_succ_iff.1 h)]; simp
 | k + 1, n, h => by
  by_cases hn : n <= 127
  ·rw [qCn hn]; simp
  ·rw [qLj hn, List.length_cons]; have : n / 128 < 128 ^ (k + 1) := by
    rw [Nat.div_lt_iff_lt_mul (by decide)]
    rw [Nat.pow_succ] at h; exact h
   have := qIs k (n / 128) this; omega
theorem qAs {n : Nat} (h : n < 18446744073709551616) : (uvar n).length <= 10 := by
 have : n < 128 ^ (9 + 1) := Nat.lt_of_lt_of_le h (by decide)
 exact qIs 9 n this
theorem qDi (n : Nat) (h : n < 256) : (UInt8.ofNat n).toNat = n := by
 rw [UInt8.toNat_ofNat']; exact Nat.mod_eq_of_lt h
end
section
open Go Go.RowKit
def ba (l : List UInt8) : ByteArray := ⟨l.toArray⟩
theorem qMw {a b : ByteArray} (h : a.data.toList = b.data.toList) : a = b := by
 cases a
 cases b
 rw [ByteArray.mk.injEq]; exact Array.toList_inj.1 h
theorem qBf (a b : List UInt8) : ba a ++ ba b = ba (a ++ b) := by
 apply qMw; simp [ba, ByteArray.data_append]
theorem qAf (l : List UInt8) : (ba l).size = l.length := by simp [ba, ByteArray.size]
theorem qUi (s : ByteArray) : ba s.data.toList = s := by apply qMw; simp [ba]
theorem qBk (l : List UInt8) : (ba l).data.toList = l := by simp [ba]
theorem jBg : ∀ x : Fin 256, bits BinOp.or IntKind.u8 ((x.val : Nat) : Int) 128 = ((x.val % 128 + 128 : Nat) : Int) := by decide +kernel
theorem or128 (m : Nat) : bits BinOp.or IntKind.u8 ((m : Int) % 256) 128 = ((m % 128 + 128 : Nat) : Int) := by
 have h := jBg ⟨m % 256, by omega⟩
 simp only at h; rw [show m % 256 % 128 = m % 128 by omega] at h
 rw [show ((m % 256 : Nat) : Int) = (m : Int) % 256 by omega] at h
 exact h
set_option maxRecDepth 100000
set_option maxHeartbeats 1000000 in
theorem qEm (n : Nat) (w : World) (hn : n < 18446744073709551616) : Calls Tryz.prog 67 #[.int .u64 n] w fun e w' => e = .returned (.string (ba (uvar n))) /\ Mod (fun _ => False) w w' := by
 have HB0 := hid (Lib.fresh_isBuilder 208 5 w); go_enter Tryz.func67, Tryz.ntmps67
 go_wp2
 go_loopw [0] (fun v wr => ∃ (m : Nat) (l : List UInt8), v = .int .u64 m /\ m <= n /\ l ++ uvar m = uvar n /\ Lib.IsBuilder 208 5 w.heap.size w.heap.size (Lib.byteCells l) wr /\ Mod (fun _ => False) w wr) (fun v _ => (intOf v).toNat)
 case atStart => exact ⟨n, [], rfl, Nat.le_refl _, rfl, HB0.out, (Mod.refl _ _).alloc _⟩
 case round =>
  obtain ⟨m, l, rfl, hmn, hl, hB, hm⟩ := hrel; have HL := hid hl; have HB := hid hB; have HM := hid hm; clear hl hB hm; by_cases hbig : 127 < m
  ·have hu := qLj (n := m) (by omega)
   have hlen : (Lib.byteCells l).length + 1 <= 140737488355328 := by
    have h1 := qAs hn; have h2 := congrArg List.length HL.out; rw [List.length_append] at h2; simp only [Lib.byteCells, List.length_map]; omega
   have hor := or128 m; have Hu := hid hu; clear hu; go_wp2_with fail
   clear hor; refine (qDr w.heap.size w.heap.size _ _ wr HB.out hlen HM.out.size).mono ?_; rintro e w1 ⟨rfl, hb1, hbl⟩; have HB1 := hid hb1; have HBl := hid hbl; clear hb1 hbl; go_wp2_with fail
   go_roundw
   case rel =>
    refine ⟨m / 128, l ++ [UInt8.ofNat (m % 128 + 128)], ?_, by omega, ?_, ?_, HM.out.then (Mod.of_below HBl.out) (fun i hi h => by omega)⟩
    ·congr 1
    ·rw [List.append_assoc, <- HL.out, Hu.out]; rfl
    ·have := HB1.out; simp only [Lib.byteCells, List.map_append, List.map_cons, List.map_nil] at this ⊢; rw [qDi _ (by omega)]
     exact_mod_cast this
   case measure => simp [intOf]; omega
  ·have hu := qCn (n := m) (by omega)
   have hlen : (Lib.byteCells l).length + 1 <= 140737488355328 := by
    have h1 := qAs hn; have h2 := congrArg List.length HL.out; rw [List.length_append] at h2; simp only [Lib.byteCells, List.length_map]; omega
   have Hu := hid hu; clear hu; go_wp2_with fail
   refine (qDr w.heap.size w.heap.size _ _ wr HB.out hlen HM.out.size).mono ?_; rintro e w1 ⟨rfl, hb1, hbl⟩; have hb2 : Lib.IsBuilder 208 5 w.heap.size w.heap.size (Lib.byteCells (uvar n)) w1 := by
    rw [<- HL.out, Hu.out]; simp only [Lib.byteCells, List.map_append, List.map_cons, List.map_nil] at hb1 ⊢; rw [qDi _ (by omega)]
    exact hb1
   have HB1 := hid hb2; have HBl := hid hbl; have hsz := HM.out.size; have hsz1 := hbl.size; clear hb1 hbl hb2; go_wp2_with fail
   refine (qHg w.heap.size w.heap.size _ w1 HB1.out (by omega)).mono ?_
   rintro e w2 ⟨rfl, hb3⟩; have HB3 := hid hb3; clear hb3; go_wp2_with fail
   go_ret; exact ⟨rfl, (HM.out.then (Mod.of_below HBl.out) (fun i hi h => by omega)).then (Mod.of_below HB3.out) (fun i hi h => by omega)⟩
def qCq (s : ByteArray) : List UInt8 := uvar s.size ++ s.data.toList
theorem qEt {s : ByteArray} (h : s.size < 18446744073709551616) : (qCq s).length <= 10 + s.size := by
 have := qAs h; have e : s.data.toList.length = s.size := by rw [Array.length_toList]; rfl
 simp only [qCq, List.length_append]; omega
theorem qOx (s : ByteArray) (w : World) (hs : s.size <= 140737488351232) : Calls Tryz.prog 62 #[.string s] w fun e w' => e = .returned (.string (ba (qCq s))) /\ Mod (fun _ => False) w w' := by
 have HU := hid (qEm s.size w (by omega))
 have hsu : (ba (uvar s.size)).size <= 10 := by rw [qAf]; exact qAs (by omega)
 go_enter Tryz.func62, Tryz.ntmps62
 go_wp2_with (go_at_call 67; refine HU.out.mono ?_; rintro e w1 ⟨rfl, hm⟩; have HM := hid hm; clear hm)
 go_ret; refine ⟨?_, HM.out⟩; show Ending.returned (.string (ba (uvar s.size) ++ s)) = _; rw [<- qUi s, qBf, qUi s]; rfl
end
section
open Go Go.RowKit
section
variable {H : Type} {enc : TypeId × Value -> H} {P : Program} {w : World} {base : Nat} {spare : Nat -> Bool} {held : Bool}
structure Lies {α : Type} (w : World) (size : Nat) (f : α -> List Value) (a : Option Addr) (ls : List α) : Prop where
 src : Src w size a ls.length (ls.flatMap f)
 spot : 0 < ls.length -> ∀ x, a = some x -> x.spot = none
 lt : ∀ k, 0 < ls.length -> blk a k -> k < w.heap.size
end
end
section
open Go Go.RowKit
theorem Lies.mod {α : Type} {S : Nat -> Prop} {w w' : World} {size : Nat} {f : α -> List Value} {a : Option Addr} {ls : List α} (h : Lies w size f a ls) (hm : Mod S w w') (hs : 0 < ls.length -> ∀ k, blk a k -> ¬ S k) : Lies w' size f a ls := by
 rcases Nat.eq_zero_or_pos ls.length with h0 | h0
 ·have e : ls = [] := List.eq_nil_of_length_eq_zero h0; subst e; exact ⟨⟨by simp, fun _ => rfl, fun a _ j u hu => by simp at hu⟩, fun h => by simp at h, fun _ h => by simp at h⟩
 ·exact ⟨h.src.mod hm (hs h0), h.spot, fun k h0 hk => Nat.lt_of_lt_of_le (h.lt k h0 hk) hm.size⟩
theorem Lies.ext {α : Type} {w w' : World} {size : Nat} {f : α -> List Value} {a : Option Addr} {ls : List α} (h : Lies w size f a ls) (hm : Mod (fun _ => False) w w') : Lies w' size f a ls := h.mod hm (fun _ _ _ h => h)
theorem Lies.old {α : Type} {S : Nat -> Prop} {w w' : World} {size : Nat} {f : α -> List Value} {a : Option Addr} {ls : List α} (h : Lies w size f a ls) (hm : Mod S w w') (hs : ∀ k, S k -> w.heap.size <= k) : Lies w' size f a ls :=
 h.mod hm (fun h0 k hk hsk => by have := h.lt k h0 hk; have := hs k hsk; omega)
theorem Lies.some {α : Type} {w : World} {size : Nat} {f : α -> List Value} {a : Option Addr} {ls : List α} (h : Lies w size f a ls) (h0 : 0 < ls.length) : ∃ g off, a = .some ⟨g, off, none⟩ := by
 cases a with
 | none => have := h.src.2.1 rfl; omega
 | some a =>
  obtain ⟨g, off, sp⟩ := a; have := h.spot h0 _ rfl; simp only at this; subst this; exact ⟨g, off, rfl⟩
theorem Lies.cell {α : Type} {w : World} {g off size : Nat} {f : α -> List Value} {ls : List α} (h : Lies w size f (.some ⟨g, off, none⟩) ls) (hf : ∀ x, (f x).length = size) {i : Nat} {x : α} (hi : ls[i]? = .some x) {j : Nat} {u : Value} (hu : (f x)[j]? = .some u) : w.cell? ⟨g, off + i * size + j, none⟩ = .some u := by
 have hj : j < size := by have := (List.getElem?_eq_some_iff.1 hu).1; rwa [hf] at this
 have := h.src.2.2 _ rfl (i * size + j) u (by rw [qJi hf ls i j hj, hi]; exact hu)
 rw [Addr.add_lit, <- Nat.add_assoc] at this; exact this
theorem qVt {α : Type} (w : World) (size : Nat) (f : α -> List Value) (a : Option Addr) : Lies w size f a ([] : List α) :=
 ⟨⟨by simp, fun _ => rfl, fun a _ j u hu => by simp at hu⟩, fun h => by simp at h, fun _ h => by simp at h⟩
theorem qEg {α : Type} {w : World} {b size : Nat} {t : TypeId} {f : α -> List Value} {ls : List α} (hf : ∀ x, (f x).length = size) (h : w.heap[b]? = some (.cells (ls.flatMap f).toArray t (0, 0))) : Lies w size f (some ⟨b, 0, none⟩) ls :=
 ⟨qAw h (qDo hf ls), fun _ x hx => by cases hx; rfl, fun k _ hk => by rw [qAc] at hk; subst hk; exact lth h⟩
theorem Own.lies {α : Type} {w : World} {t : TypeId} {size cap : Nat} {f : α -> List Value} {a : Option Addr} {ls : List α} (h : Own w t size a ls.length cap (ls.flatMap f)) : Lies w size f a ls := by
 refine ⟨h.src, fun _ x hx => ?_, fun k _ hk => h.lt k hk⟩
 rcases h.2.2.2 with ⟨hs, _⟩ | ⟨g, off, cur, hs, _⟩
 ·rw [hx] at hs; cases hs
 ·rw [hx] at hs; cases hs; rfl
end
end Go.Proofs.YtkinkgbmlhiakaaGreatDoor
