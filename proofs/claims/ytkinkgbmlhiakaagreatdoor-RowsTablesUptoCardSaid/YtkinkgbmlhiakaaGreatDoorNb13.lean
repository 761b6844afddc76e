/- merged: Sl Tw TwN -/
import Derived.Test.YtkinkgbmlhiakaaGreatDoorNb12
import Derived.Test.YtkinkgbmlhiakaaGreatDoorNb02
import Derived.Test.YtkinkgbmlhiakaaGreatDoorNb05
import Derived.Test.YtkinkgbmlhiakaaGreatDoorNb07
import Derived.Test.YtkinkgbmlhiakaaGreatDoorNb08
import Derived.Test.YtkinkgbmlhiakaaGreatDoorNb11
import Derived.Deep.DeepCutAuto
import Derived.Deep.CutBlock
namespace Go.Proofs.YtkinkgbmlhiakaaGreatDoor
section
open Go Go.RowKit
theorem qBw {b : Nat} : ∀ (vs : List Value) (o : Nat) (w : World) (cur : Array Value) (t : TypeId), w.heap[b]? = some (.cells cur t (0, 0)) -> ∃ cur' : Array Value, (w.setCells b o vs).heap[b]? = some (.cells cur' t (0, 0)) /\ cur'.size = cur.size
 | [], _, _, cur, _, h => ⟨cur, h, rfl⟩
 | v :: r, o, w, cur, t, h => by
  obtain ⟨cur', h1, h2⟩ := qBw (b := b) r (o + 1) (w.setCell ⟨b, o, none⟩ v) _ t (heap_setCell_same w b o cur t v h); exact ⟨cur', h1, by simpa using h2⟩
theorem qCg {b : Nat} : ∀ (vs : List Value) (o : Nat) (w0 w : World) {S : Nat -> Prop}, Mod S w0 w -> (b < w0.heap.size -> S b) -> Mod S w0 (w.setCells b o vs)
 | [], _, _, _, _, h, _ => h
 | v :: r, o, w0, w, _, h, hs => qCg (b := b) r (o + 1) w0 (w.setCell ⟨b, o, none⟩ v) (h.setCell (p := ⟨b, o, none⟩) hs v) hs
theorem Own.of_cells {w : World} {e : TypeId} {size g off n cap : Nat} {xs : List Value} {cur : Array Value} (h : w.heap[g]? = some (.cells cur e (0, 0))) (hl : xs.length = n * size) (h1 : n <= cap) (h2 : cap <= maxLen) (hs : off + cap * size <= cur.size)
  (hx : ∀ j, j < n * size -> w.cell? ⟨g, off + j, none⟩ = xs[j]?) : Own w e size (some ⟨g, off, none⟩) n cap xs := by
 refine ⟨hl, h1, h2, .inr ⟨g, off, cur, rfl, h, hs, ?_⟩⟩; apply List.ext_getElem?; intro j; rw [List.getElem?_take]; by_cases hj : j < n * size
 ·rw [if_pos hj, List.getElem?_drop, <- hx j hj, cell_of_row w g (off + j) cur e (0, 0) h]; simp
 ·rw [if_neg hj, List.getElem?_eq_none (by omega)]
theorem qFx {α : Type} (f : α -> Value) : ∀ l : List α, l.flatMap (fun x => [f x]) = l.map f
 | [] => rfl
 | x :: r => by rw [List.flatMap_cons, qFx f r]; rfl
theorem qEq (l : List ByteArray) : l.flatMap scs = l.map Value.string := qFx Value.string l
theorem qZc (l : List Int) : l.flatMap ics = l.map (Value.int .i64) := qFx (Value.int .i64) l
theorem qNf {w : World} {base e n : Nat} {v : Value} {xs : List Value} (h : w.ownsRow base e 1 v n xs) : ∃ a cap, v = .slice a n cap /\ Own w e 1 a n cap xs /\ ∀ b, blk a b -> base <= b := by
 rcases h.2 with ⟨rfl, rfl⟩ | ⟨g, cap, cur, rfl, hb, hg, h1, h2, h3, h4⟩
 ·exact ⟨none, 0, rfl, ⟨by simpa using h.1, Nat.le_refl _, Nat.zero_le _, .inl ⟨rfl, rfl⟩⟩, fun b hb => (qAi b hb).elim⟩
 ·exact ⟨some ⟨g, 0, none⟩, cap, rfl, ⟨h.1, h1, h2, .inr ⟨g, 0, cur, rfl, hg, by omega, by simpa using h4⟩⟩, fun b hb' => by rw [qAb] at hb'; omega⟩
def NewL (w : World) (e : TypeId) (n : Nat) (xs : List Value) (r : Ending) (w' : World) : Prop :=
 ∃ a cap, r = .returned (.slice a n cap) /\ Own w' e 1 a n cap xs /\ (∀ b, blk a b -> w.heap.size <= b) /\ Mod (fun _ => False) w w'
theorem qEm {w w' : World} (h : Below w.heap.size w w') : Mod (fun _ => False) w w' := (Mod.of_below h).mono (fun k hk h => by omega)
theorem qRr {w : World} {a : Option Addr} {l : List ByteArray} (cap : Nat) (h : Lies w 1 scs a l) (hb : l.length <= 8388608) : Calls Tryz.prog 98 #[.slice a l.length cap] w fun e w' => NewL w 9 l.length (l.flatMap scs) e w' := by
 by_cases h0 : l = []
 ·subst h0; cases a with
  | none =>
   refine (Tryz.slices_Clone_string_nil 0 cap w).mono ?_; rintro e w' ⟨rfl, rfl⟩; exact ⟨none, 0, rfl, Own.nil _ _ _, fun b hb => (qAi b hb).elim, Mod.refl _ _⟩
  | some a =>
   refine (Tryz.slices_Clone_string_zero a cap w).mono ?_; rintro e w' ⟨v, rfl, h1, _, h2⟩; obtain ⟨a', cap', rfl, h3, h4⟩ := qNf h1; exact ⟨a', cap', rfl, h3, h4, qEm h2⟩
 ·have hl : 0 < l.length := List.length_pos_iff.2 h0; obtain ⟨g, off, rfl⟩ := h.some hl; refine (Tryz.slices_Clone_string g off l.length cap l w (Nat.le_refl _) (by omega) (fun j hj => ?_)).mono ?_
  ·obtain ⟨g', off', e1, e2⟩ := Lies.one (f := fun x => .string x) h (i := j) (x := l[j]) (List.getElem?_eq_getElem hj)
   cases e1
   rw [e2]; simp [hj]
  ·rintro e w' ⟨v, rfl, h1, _, h2⟩; obtain ⟨a', cap', rfl, h3, h4⟩ := qNf h1; rw [List.take_length, <- qEq] at h3; exact ⟨a', cap', rfl, h3, h4, qEm h2⟩
theorem jGp {w : World} {a : Option Addr} {l : List Int} (cap : Nat) (h : Lies w 1 ics a l) (hb : l.length <= 8388608) : Calls Tryz.prog 128 #[.slice a l.length cap] w fun e w' => NewL w 3 l.length (l.flatMap ics) e w' := by
 by_cases h0 : l = []
 ·subst h0; cases a with
  | none =>
   refine (Tryz.slices_Clone_int_nil 0 cap w).mono ?_; rintro e w' ⟨rfl, rfl⟩; exact ⟨none, 0, rfl, Own.nil _ _ _, fun b hb => (qAi b hb).elim, Mod.refl _ _⟩
  | some a =>
   refine (Tryz.slices_Clone_int_zero a cap w).mono ?_; rintro e w' ⟨v, rfl, h1, _, h2⟩; obtain ⟨a', cap', rfl, h3, h4⟩ := qNf h1; exact ⟨a', cap', rfl, h3, h4, qEm h2⟩
 ·have hl : 0 < l.length := List.length_pos_iff.2 h0; obtain ⟨g, off, rfl⟩ := h.some hl; refine (Tryz.slices_Clone_int g off l.length cap l w (Nat.le_refl _) (by omega) (fun j hj => ?_)).mono ?_
  ·obtain ⟨g', off', e1, e2⟩ := Lies.one (f := fun x => .int .i64 x) h (i := j) (x := l[j]) (List.getElem?_eq_getElem hj)
   cases e1
   rw [e2]; simp [hj]
  ·rintro e w' ⟨v, rfl, h1, _, h2⟩; obtain ⟨a', cap', rfl, h3, h4⟩ := qNf h1; rw [List.take_length, <- qZc] at h3; exact ⟨a', cap', rfl, h3, h4, qEm h2⟩
theorem jFc (l : List ByteArray) : Lib.strsOf (fun i => l.getD i ⟨#[]⟩) l.length = l.map fun x => x.data.toList := by
 unfold Lib.strsOf; apply List.ext_getElem?; intro i; rw [List.getElem?_map, List.getElem?_map]; by_cases hi : i < l.length
 ·rw [List.getElem?_range hi, List.getElem?_eq_getElem hi]; simp [hi]
 ·rw [List.getElem?_eq_none (by simpa using hi), List.getElem?_eq_none (l := l) (by omega)]
  rfl
theorem qTu {w : World} {g off cap : Nat} {l : List ByteArray} (h : Own w 9 1 (some ⟨g, off, none⟩) l.length cap (l.flatMap scs)) (i : Nat) (hi : i < l.length) :
  Calls Tryz.prog 99 #[.slice (some ⟨g, off, none⟩) l.length cap, .int .i64 i, .int .i64 ((i : Int) + 1)] w fun e w' => e = .returned (.slice (some ⟨g, off, none⟩) (l.length - 1 : Nat) cap) /\ Own w' 9 1 (some ⟨g, off, none⟩) (l.length - 1) cap ((l.take i ++ l.drop (i + 1)).flatMap scs) /\ Mod (fun k => k = g) w w' := by
 have hh := h; rw [qEq] at hh; have hc := h.2.2.1; have hcl := h.2.1; have hr := Tryz.slices_Delete_string_cells g off l.length cap i (i + 1) (fun i => l.getD i ⟨#[]⟩) w h.2.1 (by simpa [maxLen] using hc) (by omega) (by omega) (fun j hj => by
  refine hh.at ?_; rw [List.getElem?_map, List.getElem?_eq_getElem hj]; simp [hj]) (fun j _ => h.frozen _)
 rw [jFc] at hr; refine hr.mono ?_; rintro e w' ⟨rfl, q, rfl⟩; have hlen : (l.take i ++ l.drop (i + 1)).length = l.length - 1 := by rw [List.length_append, List.length_take, List.length_drop]; omega
 have hmap : List.map encStr ((l.map fun x => x.data.toList).take i ++ (l.map fun x => x.data.toList).drop (i + 1) ++ List.replicate (i + 1 - i) []) = (l.take i ++ l.drop (i + 1)).map Value.string ++ [.string ⟨#[]⟩] := by
  rw [<- List.map_take, <- List.map_drop, <- List.map_append, List.map_append, List.map_map, Nat.add_sub_cancel_left]; rfl
 rw [hmap]; obtain ⟨cur, hg, hsz⟩ := h.there; obtain ⟨cur', hg', hsz'⟩ := qBw ((l.take i ++ l.drop (i + 1)).map Value.string ++ [Value.string ⟨#[]⟩]) off (w.drewN q) cur 9 hg; refine ⟨by simp, Own.of_cells hg' (by rw [qEq, List.length_map, hlen, Nat.mul_one]) (by omega) hc (by omega) (fun j hj => ?_), qCg _ _ _ _ ((Mod.refl _ _).drewN q) (fun _ => rfl)⟩
 have hj' : j < ((l.take i ++ l.drop (i + 1)).map Value.string ++ [Value.string ⟨#[]⟩]).length := by
  rw [List.length_append, List.length_map, hlen]; simp only [List.length_cons, List.length_nil]; omega
 rw [World.cell?_setCells_in g _ off (w.drewN q) (fun k hk => ?_) j hj', qEq, <- List.getElem?_eq_getElem hj', List.getElem?_append_left (by rw [List.length_map, hlen]; omega)]
 have hk' : k < l.length := by
  rw [List.length_append, List.length_map, hlen] at hk; simp only [List.length_cons, List.length_nil] at hk; omega
 have : w.cell? ⟨g, off + k, none⟩ = some (.string l[k]) := hh.at (by rw [List.getElem?_map, List.getElem?_eq_getElem hk']; rfl)
 show (w.cell? ⟨g, off + k, none⟩).isSome = true; rw [this]; rfl
theorem qGy (l : List ByteArray) (i : Nat) (s : ByteArray) (hi : i <= l.length) : (l.take i ++ s :: l.drop i).length = l.length + 1 := by
 rw [List.length_append, List.length_take, List.length_cons, List.length_drop]; omega
theorem qNu (l : List Value) (i : Nat) (s : Value) (hi : i <= l.length) (j : Nat) : (l.take i ++ s :: l.drop i)[j]? = if j < i then l[j]? else if j = i then some s else l[j - 1]? := by
 have hl : (l.take i).length = i := by rw [List.length_take]; omega
 by_cases h1 : j < i
 ·rw [if_pos h1, List.getElem?_append_left (by omega), List.getElem?_take, if_pos h1]
 ·rw [if_neg h1, List.getElem?_append_right (by omega), hl]
  by_cases h2 : j = i
  ·subst h2; rw [if_pos rfl, Nat.sub_self]; rfl
  ·rw [if_neg h2]; obtain ⟨k, hk⟩ : ∃ k, j - i = k + 1 := ⟨j - i - 1, by omega⟩
   rw [hk, List.getElem?_cons_succ, List.getElem?_drop]; congr 1
   omega
theorem qGi {w : World} {a : Option Addr} {cap : Nat} {l : List ByteArray} (h : Own w 9 1 a l.length cap (l.flatMap scs)) (i : Nat) (hi : i <= l.length) (hb : l.length <= 8388608) {vb : Nat} {s : ByteArray} (hv : w.heap[vb]? = some (.cells #[.string s] 9 (0, 0))) (hne : ¬ blk a vb) :
  Calls Tryz.prog 100 #[.slice a l.length cap, .int .i64 i, .slice (some ⟨vb, 0, none⟩) 1 1] w fun e w' => ∃ a' cap', e = .returned (.slice a' (l.length + 1 : Nat) cap') /\ Own w' 9 1 a' (l.length + 1) cap' ((l.take i ++ s :: l.drop i).flatMap scs) /\ (∀ b, blk a' b -> blk a b \/ w.heap.size <= b) /\ Mod (blk a) w w' := by
 have hc63 := h.2.2.1; have hnc := h.2.1; have hh := h; rw [qEq] at hh; have hvs : ∀ j v, ([Value.string s])[j]? = some v -> w.cell? ⟨vb, 0 + j, none⟩ = some v := fun j v hj => by
  rw [cell_of_row w vb (0 + j) _ 9 (0, 0) hv]
  simpa using hj
 have h1v : ∀ v ∈ [Value.string s], v.oneCell' = true := fun v hv => by rw [List.mem_singleton] at hv; subst hv; rfl
 have h1c : ∀ v ∈ l.map Value.string, v.oneCell' = true := fun v hv => by obtain ⟨x, _, rfl⟩ := List.mem_map.1 hv; rfl
 have hres : (l.take i ++ s :: l.drop i).flatMap scs = (l.map Value.string).take i ++ .string s :: (l.map Value.string).drop i := by rw [qEq, List.map_append, List.map_cons, List.map_take, List.map_drop]
 have hrl : ((l.map Value.string).take i ++ .string s :: (l.map Value.string).drop i).length = (l.length + 1) * 1 := by rw [<- hres, qEq, List.length_map, qGy _ _ _ hi, Nat.mul_one]
 have hil : i <= (l.map Value.string).length := by rw [List.length_map]; exact hi
 rw [hres]; rcases h.any with ⟨rfl, rfl⟩ | ⟨g, off, rfl⟩
 ·have hl0 : l = [] := List.eq_nil_of_length_eq_zero (by omega)
  subst hl0; have hi0 : i = 0 := by simpa using hi
  subst hi0; refine (Any2.slices_Insert_string_end_grow qKs none 0 0 vb 0 1 1 [] [.string s] w (by omega) (by omega) (by omega) (by omega) rfl rfl (fun _ => rfl) (fun _ h => (by cases h)) hvs h1v).mono ?_
  rintro e w' ⟨rfl, rfl⟩; refine ⟨_, _, rfl, Own.of_cells (heap_alloc_new w.drew _) hrl (grownCap_ge w (0 + 1) 0 _) (grownCap_le_maxLen w (0 + 1) 0 _ (by simp [maxLen])) ?_ (fun j hj => ?_), fun b hb => .inr (by rw [qAb] at hb; omega), (Mod.refl _ _).drew.alloc _⟩
  ·have := grownCap_ge w (0 + 1) 0 9; simp only [Array.size_append, List.size_toArray, size_zeroCells, List.length_append, List.length_cons, List.length_nil]; show 0 + grownCap w (0 + 1) 0 9 * 1 <= 0 + (0 + 1) + (grownCap w (0 + 1) 0 9 - (0 + 1)) * 1; omega
  ·have hj0 : j = 0 := by simpa using hj
   subst hj0; rw [cell_of_row _ w.heap.size _ _ _ _ (heap_alloc_new w.drew _), Array.getElem?_append_left (by simp)]
   rfl
 ·obtain ⟨cur, hg, hsz⟩ := h.there; have hcs : ∀ j v, (l.map Value.string)[j]? = some v -> w.cell? ⟨g, off + j, none⟩ = some v := fun j v hj => hh.at hj
  have hvg : vb ≠ g := fun e => hne (by rw [qAb]; exact e.symm)
  have hfz : ∀ o, w.frozen? ⟨g, o, none⟩ = false := fun o => h.frozen o
  have hsp : ∀ j, j < cap -> (w.cell? ⟨g, off + j, none⟩).isSome = true := fun j hj => by
   rw [cell_of_row w g (off + j) cur 9 (0, 0) hg]; have : off + j < cur.size := by omega
   simp [this]
  by_cases hroom : l.length + 1 <= cap
  ·by_cases hlt : i < l.length
   ·refine (Any2.slices_Insert_string_shift qKs g off l.length cap i vb 0 1 1 (l.map Value.string) [.string s] w hlt (by omega) hroom (by simpa [maxLen] using hc63) hvg (by simp) rfl hcs (fun j hj => hsp j (by omega)) (fun j _ => hfz _) hvs h1c h1v
     9 9 1 cur.size (by simp [World.shape?, hv]) (by simp [World.shape?, hg]) (by omega) (frozen_of_row w vb 0 _ 9 hv) (frozen_of_row w vb 1 _ 9 hv)).mono ?_
    rintro e w' ⟨rfl, rfl⟩; obtain ⟨c1, g1, z1⟩ := qBw ((l.map Value.string).drop i) (off + (i + 1)) w.drew cur 9 hg; obtain ⟨c2, g2, z2⟩ := qBw [.string s] (off + i) _ c1 9 g1; have hdl : ((l.map Value.string).drop i).length = l.length - i := by rw [List.length_drop, List.length_map]
    refine ⟨_, _, rfl, Own.of_cells g2 hrl hroom hc63 (by omega) (fun j hj => ?_), fun b hb => .inl hb, qCg _ _ _ _ (qCg _ _ _ _ (Mod.refl _ _).drew (fun _ => qAb.2 rfl)) (fun _ => qAb.2 rfl)⟩
    rw [qNu _ _ _ hil]; have hw1 : ∀ k, k < cap -> ((w.drew.setCells g (off + (i + 1)) ((l.map Value.string).drop i)).cell? ⟨g, off + k, none⟩).isSome = true := fun k hk => by
     rw [cell_of_row _ g (off + k) c1 9 (0, 0) g1]; have : off + k < c1.size := by omega
     simp [this]
    by_cases h1 : j < i
    ·rw [if_pos h1, World.cell?_setCells_out g _ _ _ _ (fun _ _ => by show off + j < off + i \/ _; omega), World.cell?_setCells_out g _ _ _ _ (fun _ _ => by show off + j < off + (i + 1) \/ _; omega)]
     have hjl : j < l.length := by omega
     have := hcs j (.string l[j]) (by rw [List.getElem?_map, List.getElem?_eq_getElem hjl]; rfl)
     rw [List.getElem?_map, List.getElem?_eq_getElem hjl]; exact this
    ·rw [if_neg h1]; by_cases h2 : j = i
     ·subst h2; rw [if_pos rfl]; exact World.cell?_setCells_in g [.string s] (off + j) _ (fun k hk => by
       have hk0 : k = 0 := by simpa using hk
       subst hk0; exact hw1 j (by omega)) 0 (by simp)
     ·rw [if_neg h2, World.cell?_setCells_out g _ _ _ _ (fun _ _ => by show _ \/ off + i + 1 <= off + j; omega)]
      have hk : j - (i + 1) < ((l.map Value.string).drop i).length := by omega
      have := World.cell?_setCells_in g ((l.map Value.string).drop i) (off + (i + 1)) w.drew (fun k hk => by
       have := hsp (i + 1 + k) (by omega)
       rw [Nat.add_assoc]; exact this) (j - (i + 1)) hk
      rw [show off + (i + 1) + (j - (i + 1)) = off + j by omega] at this
      rw [this, <- List.getElem?_eq_getElem hk, List.getElem?_drop]; congr 1
      omega
   ·have hie : i = l.length := by omega
    subst hie; refine (Any2.slices_Insert_string_end_room qKs g off l.length cap vb 0 1 1 [.string s] w (by omega) hroom (by simpa [maxLen] using hc63) rfl (fun j hj => by rw [Nat.add_assoc]; exact hsp _ (by omega)) (fun j _ => hfz _) hvs h1v).mono ?_
    rintro e w' ⟨rfl, rfl⟩; obtain ⟨c1, g1, z1⟩ := qBw [.string s] (off + l.length) w cur 9 hg; refine ⟨_, _, rfl, Own.of_cells g1 hrl hroom hc63 (by omega) (fun j hj => ?_), fun b hb => .inl hb, qCg _ _ _ _ (Mod.refl _ _) (fun _ => qAb.2 rfl)⟩
    rw [qNu _ _ _ hil]; by_cases h1 : j < l.length
    ·rw [if_pos h1, World.cell?_setCells_out g _ _ _ _ (fun _ _ => by show off + j < off + l.length \/ _; omega)]
     have := hcs j (.string l[j]) (by rw [List.getElem?_map, List.getElem?_eq_getElem h1]; rfl)
     rw [List.getElem?_map, List.getElem?_eq_getElem h1]; exact this
    ·have h2 : j = l.length := by omega
     subst h2; rw [if_neg h1, if_pos rfl]; exact World.cell?_setCells_in g [.string s] (off + l.length) w (fun k hk => by
      have hk0 : k = 0 := by simpa using hk
      subst hk0; exact hsp _ (by omega)) 0 (by simp)
  ·have hmx : l.length + 1 <= maxLen := by simp only [maxLen]; omega
   have hge := grownCap_ge w (l.length + 1) cap 9; have hle := grownCap_le_maxLen w (l.length + 1) cap 9 hmx; by_cases hlt : i < l.length
   ·refine (Any2.slices_Insert_string_grow qKs g off l.length cap i vb 0 1 1 (l.map Value.string) [.string s] w hlt (by omega) hnc (by omega) (by omega) (by simp) rfl hcs hvs h1c h1v).mono ?_
    rintro e w' ⟨rfl, rfl⟩; generalize hcur : ((l.map Value.string).take i).toArray ++ Builtin.zeroCells (Value.string ⟨#[]⟩).cells (l.length + 1 - i) ++ Builtin.zeroCells (Value.string ⟨#[]⟩).cells (grownCap w (l.length + 1) cap (qJd.t 9) - (l.length + 1)) = c0; have hg0 : ((w.alloc (.cells c0 (qJd.t 9))).drew).heap[w.heap.size]? = some (.cells c0 9 (0, 0)) := heap_alloc_new w _; have hz0 : c0.size = grownCap w (l.length + 1) cap 9 := by
     rw [<- hcur]; simp only [Array.size_append, List.size_toArray, size_zeroCells, List.length_take, List.length_map]; show min i l.length + (l.length + 1 - i) * 1 + (grownCap w (l.length + 1) cap 9 - (l.length + 1)) * 1 = _; omega
    obtain ⟨c1, g1, z1⟩ := qBw [.string s] i _ c0 9 hg0; obtain ⟨c2, g2, z2⟩ := qBw ((l.map Value.string).drop i) (i + 1) (((w.alloc (.cells c0 (qJd.t 9))).drew.setCells w.heap.size i [.string s]).drew) c1 9 g1; have hdl : ((l.map Value.string).drop i).length = l.length - i := by rw [List.length_drop, List.length_map]
    refine ⟨_, _, rfl, Own.of_cells g2 hrl hge hle (by show 0 + grownCap w (l.length + 1) cap 9 * 1 <= _; omega) (fun j hj => ?_), fun b hb => .inr (by rw [qAb] at hb; omega),
     qCg _ _ _ _ (qCg _ _ _ _ ((Mod.refl _ _).alloc _).drew (fun h => absurd h (Nat.lt_irrefl _))).drew (fun h => absurd h (Nat.lt_irrefl _))⟩
    rw [qNu _ _ _ hil, Nat.zero_add]; by_cases h1 : j < i
    ·rw [if_pos h1, World.cell?_setCells_out _ _ _ _ _ (fun _ _ => by show j < i + 1 \/ _; omega)]
     show ((w.alloc (.cells c0 (qJd.t 9))).drew.setCells w.heap.size i [.string s]).cell? ⟨w.heap.size, j, none⟩ = _; rw [World.cell?_setCells_out _ _ _ _ _ (fun _ _ => by show j < i \/ _; omega), cell_of_row _ _ _ _ _ _ hg0, <- hcur]
     have hjl : j < l.length := by omega
     have hti : ((l.map Value.string).take i).length = i := by rw [List.length_take]; omega
     rw [Array.getElem?_append_left (by simp only [Array.size_append, List.size_toArray]; omega), Array.getElem?_append_left (by simp only [List.size_toArray]; omega), List.getElem?_toArray, List.getElem?_take, if_pos h1]
    ·rw [if_neg h1]; by_cases h2 : j = i
     ·subst h2; rw [if_pos rfl, World.cell?_setCells_out _ _ _ _ _ (fun _ _ => by show j < j + 1 \/ _; omega)]
      show ((w.alloc (.cells c0 (qJd.t 9))).drew.setCells w.heap.size j [.string s]).cell? ⟨w.heap.size, j, none⟩ = _; exact World.cell?_setCells_in w.heap.size [.string s] j _ (fun k hk => by
       have hk0 : k = 0 := by simpa using hk
       subst hk0; rw [cell_of_row _ _ _ _ _ _ hg0]; have : j < c0.size := by omega
       simp [this]) 0 (by simp)
     ·rw [if_neg h2]; have hk : j - (i + 1) < ((l.map Value.string).drop i).length := by omega
      have := World.cell?_setCells_in w.heap.size ((l.map Value.string).drop i) (i + 1) (((w.alloc (.cells c0 (qJd.t 9))).drew.setCells w.heap.size i [.string s]).drew) (fun k hk => by
       have g1' : ((w.alloc (.cells c0 (qJd.t 9))).drew.setCells w.heap.size i [.string s]).drew.heap[w.heap.size]? = some (.cells c1 9 (0, 0)) := g1; rw [cell_of_row _ w.heap.size _ c1 9 (0, 0) g1']; have : i + 1 + k < c1.size := by omega
       simp [this]) (j - (i + 1)) hk
      rw [show i + 1 + (j - (i + 1)) = j by omega] at this
      rw [this, <- List.getElem?_eq_getElem hk, List.getElem?_drop]; congr 1
      omega
   ·have hie : i = l.length := by omega
    subst hie; refine (Any2.slices_Insert_string_end_grow qKs (some ⟨g, off, none⟩) l.length cap vb 0 1 1 (l.map Value.string) [.string s] w (by omega) hnc (by omega) (by omega) (by simp) rfl (fun h => (by cases h)) (fun a ha j v hj => by cases ha; rw [Addr.add_lit]; exact hcs j v hj) hvs h1v).mono ?_
    rintro e w' ⟨rfl, rfl⟩; refine ⟨_, _, rfl, Own.of_cells (heap_alloc_new w.drew _) hrl hge hle ?_ (fun j hj => ?_), fun b hb => .inr (by rw [qAb] at hb; omega), (Mod.refl _ _).drew.alloc _⟩
    ·simp only [Array.size_append, List.size_toArray, size_zeroCells, List.length_append, List.length_cons, List.length_nil, List.length_map]; show 0 + grownCap w (l.length + 1) cap 9 * 1 <= l.length + (0 + 1) + (grownCap w (l.length + 1) cap 9 - (l.length + 1)) * 1; omega
    ·rw [cell_of_row _ w.heap.size _ _ _ _ (heap_alloc_new w.drew _), qNu _ _ _ hil, Nat.zero_add]; rw [Array.getElem?_append_left (by simp; omega), List.getElem?_toArray]
     by_cases h1 : j < l.length
     ·rw [if_pos h1, List.getElem?_append_left (by simpa using h1)]
     ·have h2 : j = l.length := by omega
      subst h2; rw [if_neg h1, if_pos rfl, List.getElem?_append_right (by simp)]
      simp
end
section
open Go Go.RowKit
section
variable {K : Type} [DecidableEq K]
theorem qJw (l : List (K × Value)) (k x : K) (v : Value) : aget (aput l k v) x = if x = k then some v else aget l x := by
 unfold aput; by_cases h : (l.any fun p => p.1 = k) = true
 ·rw [if_pos h]; induction l with
  | nil => simp at h
  | cons p r ih =>
   unfold aget at ih ⊢; rw [List.map_cons]; by_cases hp : p.1 = k
   ·rw [if_pos hp]; by_cases hx : x = k
    ·rw [if_pos hx, List.find?_cons_of_pos (by simp [hx])]
     rfl
    ·rw [if_neg hx, List.find?_cons_of_neg (by simpa using fun e => hx e.symm), List.find?_cons_of_neg (by rw [hp]; simpa using fun e => hx e.symm)]
     by_cases hr : (r.any fun p => p.1 = k) = true
     ·have := ih hr; rw [if_neg hx] at this; exact this
     ·congr 1
      congr 1
      have hid : r.map (fun p => if p.1 = k then (k, v) else p) = r.map id := List.map_congr_left (fun q hq => by
       rw [if_neg (fun e => hr (List.any_eq_true.2 ⟨q, hq, by simpa using e⟩))]
       rfl)
      rw [hid, List.map_id]
   ·rw [if_neg hp]; have hr : (r.any fun p => p.1 = k) = true := by
     rw [List.any_cons, decide_eq_false hp, Bool.false_or] at h; exact h
    have := ih hr; by_cases hpx : p.1 = x
    ·have hxk : x ≠ k := fun e => hp (hpx.trans e)
     rw [if_neg hxk, List.find?_cons_of_pos (by simpa using hpx), List.find?_cons_of_pos (by simpa using hpx)]
    ·rw [List.find?_cons_of_neg (by simpa using hpx), List.find?_cons_of_neg (by simpa using hpx)]
     exact this
 ·rw [if_neg h]; unfold aget; rw [List.find?_append]; by_cases hx : x = k
  ·rw [if_pos hx]; have h1 : l.find? (fun p => decide (p.1 = x)) = none := List.find?_eq_none.2 (fun p hp e => h (List.any_eq_true.2 ⟨p, hp, by rw [<- hx]; exact e⟩))
   rw [h1, hx]; simp
  ·rw [if_neg hx]; have h1 : ([(k, v)] : List (K × Value)).find? (fun p => decide (p.1 = x)) = none := by simpa using fun e => hx e.symm
   rw [h1]; simp
theorem qIz {l : List (K × Value)} (hn : (l.map (·.1)).Nodup) (k x : K) : aget (match l.findIdx? (fun p => decide (p.1 = k)) with | some i => l.eraseIdx i | none => l) x = if x = k then none else aget l x := by
 induction l with
 | nil => simp [aget]
 | cons p r ih =>
  obtain ⟨hp, hr⟩ := List.nodup_cons.1 hn; rw [List.findIdx?_cons]; by_cases hk : p.1 = k
  ·rw [decide_eq_true hk]; simp only [if_true]; rw [List.eraseIdx_cons_zero]; by_cases hx : x = k
   ·rw [if_pos hx]; unfold aget; have : r.find? (fun q => decide (q.1 = x)) = none := List.find?_eq_none.2 (fun q hq e => hp (by
     have e1 : q.1 = x := by simpa using e
     show p.1 ∈ r.map (·.1); rw [hk, <- hx, <- e1]; exact List.mem_map_of_mem hq))
    rw [this]; rfl
   ·rw [if_neg hx]; unfold aget; rw [List.find?_cons_of_neg (by rw [hk]; simpa using fun e => hx e.symm)]
  ·rw [decide_eq_false hk]; simp only [Bool.false_eq_true, if_false]; have ih' := ih hr; cases hf : r.findIdx? (fun p => decide (p.1 = k)) with
   | none =>
    rw [hf] at ih'; simp only [Option.map_none]; simp only at ih'; unfold aget at ih' ⊢; by_cases hpx : p.1 = x
    ·have hxk : x ≠ k := fun e => hk (hpx.trans e)
     rw [if_neg hxk]
    ·rw [List.find?_cons_of_neg (by simpa using hpx)]
     exact ih'
   | some i =>
    rw [hf] at ih'; simp only [Option.map_some]; simp only at ih'; rw [List.eraseIdx_cons_succ]; unfold aget at ih' ⊢; by_cases hpx : p.1 = x
    ·have hxk : x ≠ k := fun e => hk (hpx.trans e)
     rw [if_neg hxk, List.find?_cons_of_pos (by simpa using hpx), List.find?_cons_of_pos (by simpa using hpx)]
    ·rw [List.find?_cons_of_neg (by simpa using hpx), List.find?_cons_of_neg (by simpa using hpx)]
     exact ih'
end
theorem qOn (w : World) : (zeroValue 3).run Tryz.prog w = .ok (.int .i64 0) w := by kernel_rfl
def zNode : Value := .agg #[.bool false, .slice none 0 0, .slice none 0 0, .slice none 0 0]
structure NdC (w : World) (m : Nd) : Prop where
 nd : NdAt w m
 ck : m.keys.length <= m.kc /\ m.kc <= maxLen
 cv : m.values.length <= m.vc /\ m.vc <= maxLen
 ci : m.kids.length <= m.ic /\ m.ic <= maxLen
def qEf (S : Nat -> Prop) (w : World) (b : Nat) (f : Int -> Option NP) : Prop :=
 ∃ l, qAy KI.kv w b l /\ (∀ s, f s = none -> aget l s = none) /\ ∀ s n, f s = some n -> qBx n.1 n.2 /\ ∃ m : Nd, aget l s = some m.val /\ Has m n.1 n.2 /\ NdC w m /\ ∀ k, m.bs k -> ¬ S k /\ k < w.heap.size
def qEg (w : World) (b : Nat) (g : Int -> Option Int) : Prop := ∃ l, qAy KI.kv w b l /\ ∀ s, aget l s = (g s).map (fun x => Value.int .i64 x)
def qOl (w : World) (b : Nat) (t : Int -> Bool) : Prop := ∃ l, qAy KI.kv w b l /\ ∀ s, (t s = false -> aget l s = none) /\ (t s = true -> ∃ x, aget l s = some (.int .i64 x))
theorem jCt {S S' : Nat -> Prop} {w w' : World} {m : Nd} (h : NdAt w m) (hb : ∀ k, m.bs k -> ¬ S k) (hm : Mod S' w w') (hs : ∀ k, S' k -> S k) : NdAt w' m :=
 ⟨h.k.mod hm (fun _ k hk e => hb k (.inl hk) (hs k e)), h.v.mod hm (fun _ k hk e => hb k (.inr (.inl hk)) (hs k e)), h.i.mod hm (fun _ k hk e => hb k (.inr (.inr hk)) (hs k e)), h.bk, h.bv, h.bi, h.sk, h.sv, h.rk⟩
theorem qBn {S S' : Nat -> Prop} {w w' : World} {m : Nd} (h : NdC w m) (hb : ∀ k, m.bs k -> ¬ S k) (hm : Mod S' w w') (hs : ∀ k, S' k -> S k) : NdC w' m := ⟨jCt h.nd hb hm hs, h.ck, h.cv, h.ci⟩
structure TB where
 tb : Nat
 nb : Nat
 ab : Nat
 j : Nat
 d : Nat
 sa : Option Addr
 room : Nat
structure WB where
 wb : Nat
 nb : Nat
 ab : Nat
 kb : Nat
def TS (B : TB) (k : Nat) : Prop := k = B.tb \/ k = B.nb \/ k = B.ab \/ k = B.j \/ qBg B.d B.sa k
def WS (C : WB) (k : Nat) : Prop := k = C.wb \/ k = C.nb \/ k = C.ab \/ k = C.kb
def MS (B : TB) (C : WB) (k : Nat) : Prop := TS B k \/ WS C k
def jHh (B : TB) (T : TM) (off : Bool) : Array Value := #[.int .i64 T.root, .int .i64 T.next, .int .i64 T.free, .int .i64 T.count, .pointer (some ⟨B.j, 0, none⟩), .int .i64 (B.room : Int), .map (some B.nb), .map (some B.ab), .bool off]
def qLs (B : TB) (C : WB) (W : WM) : Array Value := #[.int .i64 W.root, .int .i64 W.next, .int .i64 W.free, .int .i64 W.count, .pointer (some ⟨B.tb, 0, none⟩), .map (some C.nb), .map (some C.ab), .map (some C.kb), .bool W.full]
structure qCa (S : Nat -> Prop) (w : World) (B : TB) (T : TM) (D : Dsk) (off : Bool) : Prop where
 box : w.heap[B.tb]? = some (.cells (jHh B T off) 84 (0, 0))
 nodes : qEf S w B.nb T.nodes
 after : qEg w B.ab T.after
 disk : qAr w B.d B.sa D
 jr : JAt w B.j B.d B.room
 sep : ¬ qBg B.d B.sa B.j
 hn : D.secs.length <= 16384
 hr : B.room <= 500
structure qUe (S : Nat -> Prop) (w : World) (B : TB) (C : WB) (W : WM) : Prop where
 box : w.heap[C.wb]? = some (.cells (qLs B C W) 117 (0, 0))
 nodes : qEf S w C.nb W.nodes
 after : qEg w C.ab W.after
 taken : qOl w C.kb W.taken
 nx : 0 <= W.next
structure Apart (B : TB) (C : WB) : Prop where
 wn : C.wb ≠ C.nb
 wa : C.wb ≠ C.ab
 wk : C.wb ≠ C.kb
 na : C.nb ≠ C.ab
 nk : C.nb ≠ C.kb
 ak : C.ab ≠ C.kb
 tree : ∀ k, WS C k -> ¬ TS B k
structure Ws (S : Nat -> Prop) (w : World) (B : TB) (C : WB) (T : TM) (D : Dsk) (W : WM) : Prop where
 tree : qCa S w B T D false
 work : qUe S w B C W
 apart : Apart B C
 sub : ∀ k, MS B C k -> S k
theorem qEf.put {S : Nat -> Prop} {w w' : World} {b : Nat} {f : Int -> Option NP} {l : List (Int × Value)} (h2 : ∀ s, f s = none -> aget l s = none) (h3 : ∀ s n, f s = some n -> qBx n.1 n.2 /\ ∃ m : Nd, aget l s = some m.val /\ Has m n.1 n.2 /\ NdC w m /\ ∀ k, m.bs k -> ¬ S k /\ k < w.heap.size)
  {s : Int} {n : NP} {m : Nd} (hg : qBx n.1 n.2) (hm : Has m n.1 n.2) (hat : NdC w m) (hbs : ∀ k, m.bs k -> ¬ S k /\ k < w.heap.size) (hb : S b) (hat' : qAy KI.kv w' b (aput l s m.val)) (hmod : Mod (fun j => j = b) w w') : qEf S w' b (fset f s (some n)) := by
 have hs : ∀ k, k = b -> S k := fun k e => by rw [e]; exact hb
 refine ⟨_, hat', fun x hx => ?_, fun x nx hx => ?_⟩
 ·rw [qJw]; by_cases e : x = s
  ·rw [e, qDq] at hx; cases hx
  ·rw [if_neg e]; rw [qAz _ _ e] at hx; exact h2 x hx
 ·rw [qJw]; by_cases e : x = s
  ·rw [e, qDq] at hx; cases hx
   rw [if_pos e]; exact ⟨hg, m, rfl, hm, qBn hat (fun k hk => (hbs k hk).1) hmod hs, fun k hk => ⟨(hbs k hk).1, Nat.lt_of_lt_of_le (hbs k hk).2 hmod.size⟩⟩
  ·rw [if_neg e]; rw [qAz _ _ e] at hx; obtain ⟨k0, m', k1, k2, k3, k4⟩ := h3 x nx hx; exact ⟨k0, m', k1, k2, qBn k3 (fun k hk => (k4 k hk).1) hmod hs, fun k hk => ⟨(k4 k hk).1, Nat.lt_of_lt_of_le (k4 k hk).2 hmod.size⟩⟩
theorem qEf.del {S : Nat -> Prop} {w w' : World} {b : Nat} {f : Int -> Option NP} {l : List (Int × Value)} (h : qAy KI.kv w b l) (h2 : ∀ s, f s = none -> aget l s = none) (h3 : ∀ s n, f s = some n -> qBx n.1 n.2 /\ ∃ m : Nd, aget l s = some m.val /\ Has m n.1 n.2 /\ NdC w m /\ ∀ k, m.bs k -> ¬ S k /\ k < w.heap.size)
  {s : Int} (hb : S b) (hat' : qAy KI.kv w' b (match l.findIdx? (fun p => decide (p.1 = s)) with | some i => l.eraseIdx i | none => l)) (hmod : Mod (fun j => j = b) w w') : qEf S w' b (fset f s none) := by
 have hs : ∀ k, k = b -> S k := fun k e => by rw [e]; exact hb
 obtain ⟨_, _, _, _, hnd, _⟩ := h; refine ⟨_, hat', fun x hx => ?_, fun x nx hx => ?_⟩
 ·rw [qIz hnd]; by_cases e : x = s
  ·rw [if_pos e]
  ·rw [if_neg e]; rw [qAz _ _ e] at hx; exact h2 x hx
 ·rw [qIz hnd]; by_cases e : x = s
  ·rw [e, qDq] at hx; cases hx
  ·rw [if_neg e]; rw [qAz _ _ e] at hx; obtain ⟨k0, m', k1, k2, k3, k4⟩ := h3 x nx hx; exact ⟨k0, m', k1, k2, qBn k3 (fun k hk => (k4 k hk).1) hmod hs, fun k hk => ⟨(k4 k hk).1, Nat.lt_of_lt_of_le (k4 k hk).2 hmod.size⟩⟩
theorem qEg.put {w' : World} {b : Nat} {g : Int -> Option Int} {l : List (Int × Value)} (h2 : ∀ s, aget l s = (g s).map (fun x => Value.int .i64 x)) {s v : Int} (hat' : qAy KI.kv w' b (aput l s (.int .i64 v))) : qEg w' b (fset g s (some v)) := by
 refine ⟨_, hat', fun x => ?_⟩
 rw [qJw]; by_cases e : x = s
 ·rw [if_pos e, e, qDq]; rfl
 ·rw [if_neg e, qAz _ _ e]; exact h2 x
theorem qEg.del {w w' : World} {b : Nat} {g : Int -> Option Int} {l : List (Int × Value)} (h : qAy KI.kv w b l) (h2 : ∀ s, aget l s = (g s).map (fun x => Value.int .i64 x)) {s : Int} (hat' : qAy KI.kv w' b (match l.findIdx? (fun p => decide (p.1 = s)) with | some i => l.eraseIdx i | none => l)) : qEg w' b (fset g s none) := by
 obtain ⟨_, _, _, _, hnd, _⟩ := h; refine ⟨_, hat', fun x => ?_⟩
 rw [qIz hnd]; by_cases e : x = s
 ·rw [if_pos e, e, qDq]; rfl
 ·rw [if_neg e, qAz _ _ e]; exact h2 x
theorem qOl.put {w' : World} {b : Nat} {t : Int -> Bool} {l : List (Int × Value)} (h2 : ∀ s, (t s = false -> aget l s = none) /\ (t s = true -> ∃ x, aget l s = some (.int .i64 x))) {s v : Int} (hat' : qAy KI.kv w' b (aput l s (.int .i64 v))) : qOl w' b (fun x => decide (x = s) || t x) := by
 refine ⟨_, hat', fun x => ?_⟩
 rw [qJw]; by_cases e : x = s
 ·rw [if_pos e]; simp only [decide_eq_true e, Bool.true_or]; exact ⟨fun h => by simp at h, fun _ => ⟨v, rfl⟩⟩
 ·rw [if_neg e]; simp only [decide_eq_false e, Bool.false_or]; exact h2 x
end
section
open Go Go.RowKit
def jHc (S : Nat -> Prop) (w : World) (n : NP) (e : Ending) (w' : World) : Prop := ∃ m : Nd, e = .returned m.val /\ Has m n.1 n.2 /\ NdC w' m /\ (∀ k, m.bs k -> ¬ S k /\ k < w.heap.size) /\ Mod (fun _ => False) w w'
set_option maxRecDepth 100000
set_option maxHeartbeats 1000000 in
theorem qDk {S : Nat -> Prop} {w : World} {B : TB} {C : WB} {T : TM} {D : Dsk} {W : WM} (h : Ws S w B C T D W) {s : Int} {n : NP} (hn : W.look T s = some n) :
  Calls Tryz.prog 96 #[.pointer (some ⟨C.wb, 0, none⟩), .int .i64 s] w fun e w' => jHc S w n e w' := by
 have hz : Mod (fun _ => False) w (w.alloc (.cells #[.bool false, .slice none 0 0, .slice none 0 0, .slice none 0 0] 123)) := (Mod.refl _ _).alloc _
 have h1 := h.ext hz; obtain ⟨_, _, _, _, c4, c5, _⟩ := h1.cells; unfold WM.look at hn; cases hw : W.nodes s with
 | some n' =>
  rw [hw] at hn; simp only [Option.some.injEq] at hn; subst hn; obtain ⟨m, hlk0, hh, hat, hbs⟩ := h.work.nodes.get hw; have hlk := hlk0 _ hz true; simp only [Nd.val, if_true] at hlk; clear hlk0; have HH := hid hh; have HAt := hid hat; have HB := hid hbs; clear h h1 hw hh hat hbs c4; go_enter Tryz.func96, Tryz.ntmps96
  go_wp2
  refine bodyPost_ret (v := .agg #[.bool m.leaf, .slice m.ka m.keys.length m.kc, .slice m.va m.values.length m.vc, .slice m.ia m.kids.length m.ic]) (by simp only [results, Tryz.results96]; go_simp) rfl ⟨m, rfl, HH.out, ?_, HB.out, ?_⟩
  ·exact HAt.out.ext (((Mod.refl _ _).alloc _).alloc _)
  ·exact ((Mod.refl _ _).alloc _).alloc _
 | none =>
  rw [hw] at hn; simp only at hn; have hlk := h1.work.nodes.miss hw true; simp only [zNode, if_true] at hlk; have hz2 : Mod (fun _ => False) w ((w.alloc (.cells #[.bool false, .slice none 0 0, .slice none 0 0, .slice none 0 0] 123)).alloc (.cells #[.bool false, .slice none 0 0, .slice none 0 0, .slice none 0 0] 123)) := hz.alloc _
  have h2 := h.ext hz2; obtain ⟨_, _, _, _, d4, _⟩ := h2.cells; obtain ⟨_, _, _, _, _, _, e6, _⟩ := h2.tree.cells; obtain ⟨m, hlk0, hh, hat, hbs⟩ := h.tree.nodes.get hn; have hlk2 := hlk0 _ hz2 false; simp only [Nd.val, Bool.false_eq_true, if_false] at hlk2; clear hlk0; have HH := hid hh; have HAt := hid hat; have HB := hid hbs; clear h h1 h2 hz2 hw hn hh hat hbs c4; go_enter Tryz.func96, Tryz.ntmps96
  go_wp2
  refine bodyPost_ret (v := .agg #[.bool m.leaf, .slice m.ka m.keys.length m.kc, .slice m.va m.values.length m.vc, .slice m.ia m.kids.length m.ic]) (by simp only [results, Tryz.results96]; go_simp) rfl ⟨m, rfl, HH.out, ?_, HB.out, ?_⟩
  ·exact HAt.out.ext (((Mod.refl _ _).alloc _).alloc _)
  ·exact ((Mod.refl _ _).alloc _).alloc _
theorem qAe {w : World} {b o : Nat} {cur : Array Value} {t : TypeId} (h : w.heap[b]? = some (.cells cur t (0, 0))) (v : Value) : (w.setCell ⟨b, o, none⟩ v).heap[b]? = some (.cells (cur.setIfInBounds o v) t (0, 0)) := heap_setCell_same w b o cur t v h
set_option maxHeartbeats 1000000 in
theorem qGw {S : Nat -> Prop} {w : World} {B : TB} {C : WB} {T : TM} {D : Dsk} {W : WM} (h : Ws S w B C T D W) (s : Int) :
  Calls Tryz.prog 97 #[.pointer (some ⟨C.wb, 0, none⟩), .int .i64 s] w fun e w' => e = .returned (.tuple #[]) /\ Ws S w' B C T D (W.release s) /\ Mod (WS C) w w' := by
 obtain ⟨_, _, _, _, _, c5, _⟩ := h.cells; obtain ⟨l, hl1, hl2, hl3⟩ := id h.work.nodes; have HL1 := hid hl1; have HL2 := hid hl2; have HL3 := hid hl3; obtain ⟨w1, hdel, hat1, hm1⟩ := qCw (P := Tryz.prog) 0 KI Tryz.underlying81 hl1 s; have hdel' : (Builtin.delete_ #[81, 3] 0 #[.map (some C.nb), .int .i64 s]).run Tryz.prog w = .ok (.tuple #[]) w1 := hdel; have H1 := hid (h.setNodes hm1 (qEf.del HL1.out HL2.out HL3.out (h.sub _ (.inr (.inr (.inl rfl)))) hat1 hm1)); have HM1 : Hid (Mod (WS C) w w1) := hid (hm1.mono (fun k _ e => .inr (.inl e)))
 clear hl1 hl2 hl3 h hdel HL1 HL2 HL3 hat1 hm1; go_enter Tryz.func97, Tryz.ntmps97
 go_wp2_with fail
 clear c5 hdel'; have h1 := H1.out; obtain ⟨_, _, d2, _, _, _, d6, _⟩ := h1.cells; obtain ⟨la, ha1, ha2⟩ := id h1.work.after; have g2 := fun x : Ext w1 => x.cell d2
 have g6 := fun x : Ext w1 => x.cell d6
 have HA1 := hid ha1; have HA2 := hid ha2; clear h1 ha1 ha2; refine qAf 10 (by kernel_rfl) (by kernel_rfl) ?_
 simp only [List.take_succ_cons, List.take_zero, List.drop_succ_cons, List.drop_zero]; repeat (go_big_quiet_step ((fail)))
 refine wpQuiet_nil ?_; rintro _ ⟨y, rfl⟩; obtain ⟨w2, hup, hat2, hm2⟩ := qAs (P := Tryz.prog) KI Tryz.underlying82 (HA1.out.mod y.mod (fun e => e)) s (.int .i64 W.free)
 have hup' : (Instr.mapUpdate 82 (.map (some C.ab)) (.int .i64 s) (.int .i64 W.free)).run Tryz.prog y.val = .ok () w2 := hup; have h2 := (H1.out.ext y.mod).setAfter hm2 (qEg.put HA2.out hat2); have HM2 : Hid (Mod (WS C) w w2) := hid (HM1.out.then ((y.mod.mono (fun _ _ e => e.elim)).trans (hm2.mono (fun k _ e => .inr (.inr (.inl e))))) (fun _ _ e => e))
 obtain ⟨_, _, e2, _⟩ := h2.cells; have f2 := frozen_of_row w2 C.wb 2 _ _ h2.work.box; have H2 := hid h2; clear g2 g6 hup hat2 hm2 h2 H1 HM1 HA1 HA2 d2 d6; go_wp2_with fail
 go_end0; refine ⟨rfl, ?_, HM2.out.setCell (p := ⟨C.wb, 2, none⟩) (fun _ => .inl rfl) _⟩
 exact H2.out.box (Mod.setCell (S := fun k => k = C.wb) (p := ⟨C.wb, 2, none⟩) (Mod.refl _ _) (fun _ => rfl) _) (qAe H2.out.work.box _) rfl rfl rfl H2.out.work.nx
set_option maxHeartbeats 1000000 in
theorem jBo {S : Nat -> Prop} {w : World} {B : TB} {C : WB} {T : TM} {D : Dsk} {W : WM} (h : Ws S w B C T D W) (h0 : W.free = 0) (hb : W.next <= 1152921504606846975) :
  Calls Tryz.prog 104 #[.pointer (some ⟨C.wb, 0, none⟩)] w fun e w' => e = .returned (.int .i64 (W.take T (jlen B.room D : Int)).1) /\ Ws S w' B C T D (W.take T (jlen B.room D : Int)).2 /\ Mod (WS C) w w' := by
 have ht : W.take T (jlen B.room D : Int) = (W.next, { W with next := W.next + 1, full := W.full || decide ((jlen B.room D : Int) <= W.next) }) := by unfold WM.take; rw [if_pos h0]
 rw [ht]; have h1 : Ws S (w.setCell ⟨C.wb, 1, none⟩ (.int .i64 (W.next + 1))) B C T D { W with next := W.next + 1 } := h.cell1 (W' := { W with next := W.next + 1 }) rfl rfl rfl rfl (by have := h.work.nx; show 0 <= W.next + 1; omega)
 have hm1 : Mod (WS C) w (w.setCell ⟨C.wb, 1, none⟩ (.int .i64 (W.next + 1))) := Mod.setCell (p := ⟨C.wb, 1, none⟩) (Mod.refl _ _) (fun _ => .inl rfl) _
 obtain ⟨_, c1, c2, _⟩ := h.cells; obtain ⟨_, _, _, _, d4, _, _, _, d8⟩ := h1.cells; have f1 := frozen_of_row w C.wb 1 _ _ h.work.box; obtain ⟨_, _, _, _, e4, _⟩ := h1.tree.cells; have s1 : IntKind.i64.wrap (W.next + 1) = W.next + 1 := by rw [IntKind.wrap_i64]; have := h.work.nx; omega
 have HJ := hid (qJr h1.tree.disk h1.tree.jr h1.tree.hn h1.tree.hr); have HM1 := hid hm1; have H1 := hid h1; have f8 := frozen_of_row _ C.wb 8 _ _ h1.work.box; simp only [h0] at c2; clear ht h h1 hm1 h0; cases hfull : W.full with
 | true =>
  simp only [hfull] at d8; go_enter Tryz.func104, Tryz.ntmps104
  go_wp2_with fail
  go_ret; refine ⟨rfl, ?_, HM1.out.setCell (p := ⟨C.wb, 8, none⟩) (fun _ => .inl rfl) _⟩
  exact H1.out.cell1 rfl rfl rfl rfl H1.out.work.nx
 | false =>
  simp only [hfull] at d8; go_enter Tryz.func104, Tryz.ntmps104
  go_wp2_with (go_at_call 27; refine HJ.out.mono ?_; rintro e w2 ⟨rfl, hm2⟩; have HM2 := hid hm2; have h2 := H1.out.ext hm2; have H2 := hid h2; have f82 := frozen_of_row _ C.wb 8 _ _ h2.work.box; obtain ⟨_, _, _, _, _, _, _, _, d82⟩ := h2.cells; clear hm2 h2)
  go_ret; refine ⟨rfl, H2.out.cell1 rfl rfl rfl rfl H2.out.work.nx, (HM1.out.then (HM2.out.mono (fun _ _ e => e.elim)) (fun _ _ e => e)).setCell (p := ⟨C.wb, 8, none⟩) (fun _ => .inl rfl) _⟩
set_option maxHeartbeats 1000000 in
theorem jBn {S : Nat -> Prop} {w : World} {B : TB} {C : WB} {T : TM} {D : Dsk} {W : WM} (h : Ws S w B C T D W) (h0 : W.free ≠ 0) (L : Int) :
  Calls Tryz.prog 104 #[.pointer (some ⟨C.wb, 0, none⟩)] w fun e w' => e = .returned (.int .i64 (W.take T L).1) /\ Ws S w' B C T D (W.take T L).2 /\ Mod (WS C) w w' := by
 have ht : W.take T L = (W.free, { W with after := fset W.after W.free none, taken := fun x => decide (x = W.free) || W.taken x, free := (W.link T W.free).getD 0 }) := by unfold WM.take; rw [if_neg h0]
 rw [ht]; obtain ⟨_, _, c2, _, c4, _, c6, c7, _⟩ := h.cells; obtain ⟨_, _, _, _, _, _, _, e7, _⟩ := h.tree.cells; have hlk := h.work.after.look W.free true; have hlt := h.tree.after.look W.free false; simp only [if_true, Bool.false_eq_true, if_false] at hlk hlt; have d0 : (W.free == 0) = false := by rw [beq_eq_false_iff_ne]; exact h0
 obtain ⟨l, hl1, hl2⟩ := id h.work.after; obtain ⟨w1, hdel, hat1, hm1⟩ := qCw (P := Tryz.prog) 0 KI Tryz.underlying82 hl1 W.free; have hdel' : (Builtin.delete_ #[82, 3] 0 #[.map (some C.ab), .int .i64 W.free]).run Tryz.prog w = .ok (.tuple #[]) w1 := hdel; have h1 := h.setAfter hm1 (qEg.del hl1 hl2 hat1); have hm1' : Mod (WS C) w w1 := hm1.mono (fun k _ e => .inr (.inr (.inl e)))
 obtain ⟨x, hlk1⟩ := h1.work.taken.look W.free; obtain ⟨lt, ht1, ht2⟩ := id h1.work.taken; obtain ⟨w2, hup, hat2, hm2⟩ := qAs (P := Tryz.prog) KI Tryz.underlying82 ht1 W.free (.int .i64 (wrap64 (x + 1))); have hup' : (Instr.mapUpdate 82 (.map (some C.kb)) (.int .i64 W.free) (.int .i64 (wrap64 (x + 1)))).run Tryz.prog w1 = .ok () w2 := hup; have h2 := h1.setTaken hm2 (qOl.put ht2 hat2); have hm2' : Mod (WS C) w w2 := hm1'.then (hm2.mono (fun k _ e => .inr (.inr (.inr e)))) (fun _ _ e => e)
 obtain ⟨_, _, _, _, _, _, _, g7, _⟩ := h1.cells; obtain ⟨_, _, k2, _⟩ := h2.cells; have f2 := frozen_of_row w2 C.wb 2 _ _ h2.work.box; have H2 := hid h2; have HM2 := hid hm2'; clear ht h h0 hl1 hl2 hdel hat1 hm1 h1 hm1' ht1 ht2 hup hat2 hm2 h2 hm2'; cases ha : W.after W.free with
 | some y =>
  rw [ha] at hlk; simp only [Option.getD_some, Option.isSome_some] at hlk; have hy : (W.link T W.free).getD 0 = y := by unfold WM.link; rw [ha]; rfl
  clear hlt; go_enter Tryz.func104, Tryz.ntmps104
  go_wp2_with fail
  go_ret; exact ⟨rfl, H2.out.cell1 rfl rfl rfl rfl H2.out.work.nx, HM2.out.setCell (p := ⟨C.wb, 2, none⟩) (fun _ => .inl rfl) _⟩
 | none =>
  rw [ha] at hlk; simp only [Option.getD_none, Option.isSome_none] at hlk; have hy : (W.link T W.free).getD 0 = (T.after W.free).getD 0 := by unfold WM.link; rw [ha]
  go_enter Tryz.func104, Tryz.ntmps104
  go_wp2_with fail
  go_ret; exact ⟨rfl, H2.out.cell1 rfl rfl rfl rfl H2.out.work.nx, HM2.out.setCell (p := ⟨C.wb, 2, none⟩) (fun _ => .inl rfl) _⟩
theorem jBp {S : Nat -> Prop} {w : World} {B : TB} {C : WB} {T : TM} {D : Dsk} {W : WM} (h : Ws S w B C T D W) (hb : W.next <= 1152921504606846975) :
  Calls Tryz.prog 104 #[.pointer (some ⟨C.wb, 0, none⟩)] w fun e w' => e = .returned (.int .i64 (W.take T (jlen B.room D : Int)).1) /\ Ws S w' B C T D (W.take T (jlen B.room D : Int)).2 /\ Mod (WS C) w w' := by
 by_cases h0 : W.free = 0
 ·exact jBo h h0 hb
 ·exact jBn h h0 _
end
end Go.Proofs.YtkinkgbmlhiakaaGreatDoor
