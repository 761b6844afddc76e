/- merged: Sl Tw -/
import Derived.Test.YtkinkgbmlhiakaaGreatDoorNd18
import Derived.Test.YtkinkgbmlhiakaaGreatDoorNd02
import Derived.Test.YtkinkgbmlhiakaaGreatDoorNd06
import Derived.Test.YtkinkgbmlhiakaaGreatDoorNd08
import Derived.Test.YtkinkgbmlhiakaaGreatDoorNd10
import Derived.Test.YtkinkgbmlhiakaaGreatDoorNd13
namespace Go.Proofs.YtkinkgbmlhiakaaGreatDoor
section
open Go Go.RowKit
theorem qCd {b : Nat} : ∀ (vs : List Value) (o : Nat) (w : World) (cur : Array Value) (t : TypeId), w.heap[b]? = some (.cells cur t (0, 0)) -> ∃ cur' : Array Value, (w.setCells b o vs).heap[b]? = some (.cells cur' t (0, 0)) /\ cur'.size = cur.size
 | [], _, _, cur, _, h => ⟨cur, h, rfl⟩
 | v :: r, o, w, cur, t, h => by
  obtain ⟨cur', h1, h2⟩ := qCd (b := b) r (o + 1) (w.setCell ⟨b, o, none⟩ v) _ t (heap_setCell_same w b o cur t v h); exact ⟨cur', h1, by simpa using h2⟩
theorem qCv {b : Nat} : ∀ (vs : List Value) (o : Nat) (w0 w : World) {S : Nat -> Prop}, Mod S w0 w -> (b < w0.heap.size -> S b) -> Mod S w0 (w.setCells b o vs)
 | [], _, _, _, _, h, _ => h
 | v :: r, o, w0, w, _, h, hs => qCv (b := b) r (o + 1) w0 (w.setCell ⟨b, o, none⟩ v) (h.setCell (p := ⟨b, o, none⟩) hs v) hs
theorem Own.of_cells {w : World} {e : TypeId} {size g off n cap : Nat} {xs : List Value} {cur : Array Value} (h : w.heap[g]? = some (.cells cur e (0, 0))) (hl : xs.length = n * size) (h1 : n <= cap) (h2 : cap <= maxLen) (hs : off + cap * size <= cur.size)
  (hx : ∀ j, j < n * size -> w.cell? ⟨g, off + j, none⟩ = xs[j]?) : Own w e size (some ⟨g, off, none⟩) n cap xs := by
 refine ⟨hl, h1, h2, .inr ⟨g, off, cur, rfl, h, hs, ?_⟩⟩; apply List.ext_getElem?; intro j; rw [List.getElem?_take]; by_cases hj : j < n * size
 ·rw [if_pos hj, List.getElem?_drop, <- hx j hj, cell_of_row w g (off + j) cur e (0, 0) h]; simp
 ·rw [if_neg hj, List.getElem?_eq_none (by omega)]
theorem Own.at {w : World} {e : TypeId} {g off n cap : Nat} {xs : List Value} (h : Own w e 1 (some ⟨g, off, none⟩) n cap xs) {j : Nat} {v : Value} (hx : xs[j]? = some v) : w.cell? ⟨g, off + j, none⟩ = some v := by
 have := h.src.2.2 _ rfl j v hx; rw [Addr.add_lit] at this; exact this
theorem Own.there {w : World} {e : TypeId} {size g off n cap : Nat} {xs : List Value} (h : Own w e size (some ⟨g, off, none⟩) n cap xs) : ∃ cur, w.heap[g]? = some (.cells cur e (0, 0)) /\ off + cap * size <= cur.size := by
 rcases h.2.2.2 with ⟨h1, _⟩ | ⟨g', off', cur, h1, h2, h3, _⟩
 ·cases h1
 ·cases h1; exact ⟨cur, h2, h3⟩
theorem Own.any {w : World} {e : TypeId} {size n cap : Nat} {sa : Option Addr} {xs : List Value} (h : Own w e size sa n cap xs) : (sa = none /\ cap = 0) \/ ∃ g off, sa = some ⟨g, off, none⟩ := by
 rcases h.2.2.2 with h1 | ⟨g, off, cur, h1, _⟩
 ·exact .inl h1
 ·exact .inr ⟨g, off, h1⟩
theorem qGw {α : Type} (f : α -> Value) : ∀ l : List α, l.flatMap (fun x => [f x]) = l.map f
 | [] => rfl
 | x :: r => by rw [List.flatMap_cons, qGw f r]; rfl
theorem qFl (l : List ByteArray) : l.flatMap scs = l.map Value.string := qGw Value.string l
theorem jCg (l : List Int) : l.flatMap ics = l.map (Value.int .i64) := qGw (Value.int .i64) l
theorem qOz {w : World} {base e n : Nat} {v : Value} {xs : List Value} (h : w.ownsRow base e 1 v n xs) : ∃ a cap, v = .slice a n cap /\ Own w e 1 a n cap xs /\ ∀ b, blk a b -> base <= b := by
 rcases h.2 with ⟨rfl, rfl⟩ | ⟨g, cap, cur, rfl, hb, hg, h1, h2, h3, h4⟩
 ·exact ⟨none, 0, rfl, ⟨by simpa using h.1, Nat.le_refl _, Nat.zero_le _, .inl ⟨rfl, rfl⟩⟩, fun b hb => (qAj b hb).elim⟩
 ·exact ⟨some ⟨g, 0, none⟩, cap, rfl, ⟨h.1, h1, h2, .inr ⟨g, 0, cur, rfl, hg, by omega, by simpa using h4⟩⟩, fun b hb' => by rw [qAc] at hb'; omega⟩
def NewL (w : World) (e : TypeId) (n : Nat) (xs : List Value) (r : Ending) (w' : World) : Prop :=
 ∃ a cap, r = .returned (.slice a n cap) /\ Own w' e 1 a n cap xs /\ (∀ b, blk a b -> w.heap.size <= b) /\ Mod (fun _ => False) w w'
theorem qFh {w w' : World} (h : Below w.heap.size w w') : Mod (fun _ => False) w w' := (Mod.of_below h).mono (fun k hk h => by omega)
theorem qTz {w : World} {a : Option Addr} {l : List ByteArray} (cap : Nat) (h : Lies w 1 scs a l) (hb : l.length <= 8388608) : Calls Tryz.prog 98 #[.slice a l.length cap] w fun e w' => NewL w 9 l.length (l.flatMap scs) e w' := by
 by_cases h0 : l = []
 ·subst h0; cases a with
  | none =>
   refine (Tryz.slices_Clone_string_nil 0 cap w).mono ?_; rintro e w' ⟨rfl, rfl⟩; exact ⟨none, 0, rfl, Own.nil _ _ _, fun b hb => (qAj b hb).elim, Mod.refl _ _⟩
  | some a =>
   refine (Tryz.slices_Clone_string_zero a cap w).mono ?_; rintro e w' ⟨v, rfl, h1, _, h2⟩; obtain ⟨a', cap', rfl, h3, h4⟩ := qOz h1; exact ⟨a', cap', rfl, h3, h4, qFh h2⟩
 ·have hl : 0 < l.length := List.length_pos_iff.2 h0; obtain ⟨g, off, rfl⟩ := h.some hl; refine (Tryz.slices_Clone_string g off l.length cap l w (Nat.le_refl _) (by omega) (fun j hj => ?_)).mono ?_
  ·obtain ⟨g', off', e1, e2⟩ := Lies.one (f := fun x => .string x) h (i := j) (x := l[j]) (List.getElem?_eq_getElem hj)
   cases e1
   rw [e2]; simp [hj]
  ·rintro e w' ⟨v, rfl, h1, _, h2⟩; obtain ⟨a', cap', rfl, h3, h4⟩ := qOz h1; rw [List.take_length, <- qFl] at h3; exact ⟨a', cap', rfl, h3, h4, qFh h2⟩
theorem jKi {w : World} {a : Option Addr} {l : List Int} (cap : Nat) (h : Lies w 1 ics a l) (hb : l.length <= 8388608) : Calls Tryz.prog 128 #[.slice a l.length cap] w fun e w' => NewL w 3 l.length (l.flatMap ics) e w' := by
 by_cases h0 : l = []
 ·subst h0; cases a with
  | none =>
   refine (Tryz.slices_Clone_int_nil 0 cap w).mono ?_; rintro e w' ⟨rfl, rfl⟩; exact ⟨none, 0, rfl, Own.nil _ _ _, fun b hb => (qAj b hb).elim, Mod.refl _ _⟩
  | some a =>
   refine (Tryz.slices_Clone_int_zero a cap w).mono ?_; rintro e w' ⟨v, rfl, h1, _, h2⟩; obtain ⟨a', cap', rfl, h3, h4⟩ := qOz h1; exact ⟨a', cap', rfl, h3, h4, qFh h2⟩
 ·have hl : 0 < l.length := List.length_pos_iff.2 h0; obtain ⟨g, off, rfl⟩ := h.some hl; refine (Tryz.slices_Clone_int g off l.length cap l w (Nat.le_refl _) (by omega) (fun j hj => ?_)).mono ?_
  ·obtain ⟨g', off', e1, e2⟩ := Lies.one (f := fun x => .int .i64 x) h (i := j) (x := l[j]) (List.getElem?_eq_getElem hj)
   cases e1
   rw [e2]; simp [hj]
  ·rintro e w' ⟨v, rfl, h1, _, h2⟩; obtain ⟨a', cap', rfl, h3, h4⟩ := qOz h1; rw [List.take_length, <- jCg] at h3; exact ⟨a', cap', rfl, h3, h4, qFh h2⟩
theorem jIq (l : List ByteArray) : Lib.strsOf (fun i => l.getD i ⟨#[]⟩) l.length = l.map fun x => x.data.toList := by
 unfold Lib.strsOf; apply List.ext_getElem?; intro i; rw [List.getElem?_map, List.getElem?_map]; by_cases hi : i < l.length
 ·rw [List.getElem?_range hi, List.getElem?_eq_getElem hi]; simp [hi]
 ·rw [List.getElem?_eq_none (by simpa using hi), List.getElem?_eq_none (l := l) (by omega)]
  rfl
theorem qWl {w : World} {g off cap : Nat} {l : List ByteArray} (h : Own w 9 1 (some ⟨g, off, none⟩) l.length cap (l.flatMap scs)) (i : Nat) (hi : i < l.length) :
  Calls Tryz.prog 99 #[.slice (some ⟨g, off, none⟩) l.length cap, .int .i64 i, .int .i64 ((i : Int) + 1)] w fun e w' => e = .returned (.slice (some ⟨g, off, none⟩) (l.length - 1 : Nat) cap) /\ Own w' 9 1 (some ⟨g, off, none⟩) (l.length - 1) cap ((l.take i ++ l.drop (i + 1)).flatMap scs) /\ Mod (fun k => k = g) w w' := by
 have hh := h; rw [qFl] at hh; have hc := h.2.2.1; have hcl := h.2.1; have hr := Tryz.slices_Delete_string_cells g off l.length cap i (i + 1) (fun i => l.getD i ⟨#[]⟩) w h.2.1 (by simpa [maxLen] using hc) (by omega) (by omega) (fun j hj => by
  refine hh.at ?_; rw [List.getElem?_map, List.getElem?_eq_getElem hj]; simp [hj]) (fun j _ => h.frozen _)
 rw [jIq] at hr; refine hr.mono ?_; rintro e w' ⟨rfl, q, rfl⟩; have hlen : (l.take i ++ l.drop (i + 1)).length = l.length - 1 := by rw [List.length_append, List.length_take, List.length_drop]; omega
 have hmap : List.map encStr ((l.map fun x => x.data.toList).take i ++ (l.map fun x => x.data.toList).drop (i + 1) ++ List.replicate (i + 1 - i) []) = (l.take i ++ l.drop (i + 1)).map Value.string ++ [.string ⟨#[]⟩] := by
  rw [<- List.map_take, <- List.map_drop, <- List.map_append, List.map_append, List.map_map, Nat.add_sub_cancel_left]; rfl
 rw [hmap]; obtain ⟨cur, hg, hsz⟩ := h.there; obtain ⟨cur', hg', hsz'⟩ := qCd ((l.take i ++ l.drop (i + 1)).map Value.string ++ [Value.string ⟨#[]⟩]) off (w.drewN q) cur 9 hg; refine ⟨by simp, Own.of_cells hg' (by rw [qFl, List.length_map, hlen, Nat.mul_one]) (by omega) hc (by omega) (fun j hj => ?_), qCv _ _ _ _ ((Mod.refl _ _).drewN q) (fun _ => rfl)⟩
 have hj' : j < ((l.take i ++ l.drop (i + 1)).map Value.string ++ [Value.string ⟨#[]⟩]).length := by
  rw [List.length_append, List.length_map, hlen]; simp only [List.length_cons, List.length_nil]; omega
 rw [World.cell?_setCells_in g _ off (w.drewN q) (fun k hk => ?_) j hj', qFl, <- List.getElem?_eq_getElem hj', List.getElem?_append_left (by rw [List.length_map, hlen]; omega)]
 have hk' : k < l.length := by
  rw [List.length_append, List.length_map, hlen] at hk; simp only [List.length_cons, List.length_nil] at hk; omega
 have : w.cell? ⟨g, off + k, none⟩ = some (.string l[k]) := hh.at (by rw [List.getElem?_map, List.getElem?_eq_getElem hk']; rfl)
 show (w.cell? ⟨g, off + k, none⟩).isSome = true; rw [this]; rfl
theorem qIh (l : List ByteArray) (i : Nat) (s : ByteArray) (hi : i <= l.length) : (l.take i ++ s :: l.drop i).length = l.length + 1 := by
 rw [List.length_append, List.length_take, List.length_cons, List.length_drop]; omega
theorem qPv (l : List Value) (i : Nat) (s : Value) (hi : i <= l.length) (j : Nat) : (l.take i ++ s :: l.drop i)[j]? = if j < i then l[j]? else if j = i then some s else l[j - 1]? := by
 have hl : (l.take i).length = i := by rw [List.length_take]; omega
 by_cases h1 : j < i
 ·rw [if_pos h1, List.getElem?_append_left (by omega), List.getElem?_take, if_pos h1]
 ·rw [if_neg h1, List.getElem?_append_right (by omega), hl]
  by_cases h2 : j = i
  ·subst h2; rw [if_pos rfl, Nat.sub_self]; rfl
  ·rw [if_neg h2]; obtain ⟨k, hk⟩ : ∃ k, j - i = k + 1 := ⟨j - i - 1, by omega⟩
   rw [hk, List.getElem?_cons_succ, List.getElem?_drop]; congr 1
   omega
theorem qHm {w : World} {a : Option Addr} {cap : Nat} {l : List ByteArray} (h : Own w 9 1 a l.length cap (l.flatMap scs)) (i : Nat) (hi : i <= l.length) (hb : l.length <= 8388608) {vb : Nat} {s : ByteArray} (hv : w.heap[vb]? = some (.cells #[.string s] 9 (0, 0))) (hne : ¬ blk a vb) :
  Calls Tryz.prog 100 #[.slice a l.length cap, .int .i64 i, .slice (some ⟨vb, 0, none⟩) 1 1] w fun e w' => ∃ a' cap', e = .returned (.slice a' (l.length + 1 : Nat) cap') /\ Own w' 9 1 a' (l.length + 1) cap' ((l.take i ++ s :: l.drop i).flatMap scs) /\ (∀ b, blk a' b -> blk a b \/ w.heap.size <= b) /\ Mod (blk a) w w' := by
 have hc63 := h.2.2.1; have hnc := h.2.1; have hh := h; rw [qFl] at hh; have hvs : ∀ j v, ([Value.string s])[j]? = some v -> w.cell? ⟨vb, 0 + j, none⟩ = some v := fun j v hj => by
  rw [cell_of_row w vb (0 + j) _ 9 (0, 0) hv]
  simpa using hj
 have h1v : ∀ v ∈ [Value.string s], v.oneCell' = true := fun v hv => by rw [List.mem_singleton] at hv; subst hv; rfl
 have h1c : ∀ v ∈ l.map Value.string, v.oneCell' = true := fun v hv => by obtain ⟨x, _, rfl⟩ := List.mem_map.1 hv; rfl
 have hres : (l.take i ++ s :: l.drop i).flatMap scs = (l.map Value.string).take i ++ .string s :: (l.map Value.string).drop i := by rw [qFl, List.map_append, List.map_cons, List.map_take, List.map_drop]
 have hrl : ((l.map Value.string).take i ++ .string s :: (l.map Value.string).drop i).length = (l.length + 1) * 1 := by rw [<- hres, qFl, List.length_map, qIh _ _ _ hi, Nat.mul_one]
 have hil : i <= (l.map Value.string).length := by rw [List.length_map]; exact hi
 rw [hres]; rcases h.any with ⟨rfl, rfl⟩ | ⟨g, off, rfl⟩
 ·have hl0 : l = [] := List.eq_nil_of_length_eq_zero (by omega)
  subst hl0; have hi0 : i = 0 := by simpa using hi
  subst hi0; refine (Any2.slices_Insert_string_end_grow qMk none 0 0 vb 0 1 1 [] [.string s] w (by omega) (by omega) (by omega) (by omega) rfl rfl (fun _ => rfl) (fun _ h => (by cases h)) hvs h1v).mono ?_
  rintro e w' ⟨rfl, rfl⟩; refine ⟨_, _, rfl, Own.of_cells (heap_alloc_new w.drew _) hrl (grownCap_ge w (0 + 1) 0 _) (grownCap_le_maxLen w (0 + 1) 0 _ (by simp [maxLen])) ?_ (fun j hj => ?_), fun b hb => .inr (by rw [qAc] at hb; omega), (Mod.refl _ _).drew.alloc _⟩
  ·have := grownCap_ge w (0 + 1) 0 9; simp only [Array.size_append, List.size_toArray, size_zeroCells, List.length_append, List.length_cons, List.length_nil]; show 0 + grownCap w (0 + 1) 0 9 * 1 <= 0 + (0 + 1) + (grownCap w (0 + 1) 0 9 - (0 + 1)) * 1; omega
  ·have hj0 : j = 0 := by simpa using hj
   subst hj0; rw [cell_of_row _ w.heap.size _ _ _ _ (heap_alloc_new w.drew _), Array.getElem?_append_left (by simp)]
   rfl
 ·obtain ⟨cur, hg, hsz⟩ := h.there; have hcs : ∀ j v, (l.map Value.string)[j]? = some v -> w.cell? ⟨g, off + j, none⟩ = some v := fun j v hj => hh.at hj
  have hvg : vb ≠ g := fun e => hne (by rw [qAc]; exact e.symm)
  have hfz : ∀ o, w.frozen? ⟨g, o, none⟩ = false := fun o => h.frozen o
  have hsp : ∀ j, j < cap -> (w.cell? ⟨g, off + j, none⟩).isSome = true := fun j hj => by
   rw [cell_of_row w g (off + j) cur 9 (0, 0) hg]; have : off + j < cur.size := by omega
   simp [this]
  by_cases hroom : l.length + 1 <= cap
  ·by_cases hlt : i < l.length
   ·refine (Any2.slices_Insert_string_shift qMk g off l.length cap i vb 0 1 1 (l.map Value.string) [.string s] w hlt (by omega) hroom (by simpa [maxLen] using hc63) hvg (by simp) rfl hcs (fun j hj => hsp j (by omega)) (fun j _ => hfz _) hvs h1c h1v
     9 9 1 cur.size (by simp [World.shape?, hv]) (by simp [World.shape?, hg]) (by omega) (frozen_of_row w vb 0 _ 9 hv) (frozen_of_row w vb 1 _ 9 hv)).mono ?_
    rintro e w' ⟨rfl, rfl⟩; obtain ⟨c1, g1, z1⟩ := qCd ((l.map Value.string).drop i) (off + (i + 1)) w.drew cur 9 hg; obtain ⟨c2, g2, z2⟩ := qCd [.string s] (off + i) _ c1 9 g1; have hdl : ((l.map Value.string).drop i).length = l.length - i := by rw [List.length_drop, List.length_map]
    refine ⟨_, _, rfl, Own.of_cells g2 hrl hroom hc63 (by omega) (fun j hj => ?_), fun b hb => .inl hb, qCv _ _ _ _ (qCv _ _ _ _ (Mod.refl _ _).drew (fun _ => qAc.2 rfl)) (fun _ => qAc.2 rfl)⟩
    rw [qPv _ _ _ hil]; have hw1 : ∀ k, k < cap -> ((w.drew.setCells g (off + (i + 1)) ((l.map Value.string).drop i)).cell? ⟨g, off + k, none⟩).isSome = true := fun k hk => by
     rw [cell_of_row _ g (off + k) c1 9 (0, 0) g1]; have : off + k < c1.size := by omega
     simp [this]
    by_cases h1 : j < i
    ·rw [if_pos h1, World.cell?_setCells_out g _ _ _ _ (fun _ _ => by show off + j < off + i \/ _; omega), World.cell?_setCells_out g _ _ _ _ (fun _ _ => by show off + j < off + (i + 1) \/ _; omega)]
     have hjl : j < l.length := by omega
     have := hcs j (.string l[j]) (by rw [List.getElem?_map, List.getElem?_eq_getElem hjl]; rfl)
     rw [List.getElem?_map, List.getElem?_eq_getElem hjl]; exact this
    ·rw [if_neg h1]; by_cases h2 : j = i
     ·subst h2; rw [if_pos rfl]; exact World.cell?_setCells_in g [.string s] (off + j) _ (fun k hk => by
       have hk0 : k = 0 := by simpa using hk
       subst hk0; exact hw1 j (by omega)) 0 (by simp)
     ·rw [if_neg h2, World.cell?_setCells_out g _ _ _ _ (fun _ _ => by show _ \/ off + i + 1 <= off + j; omega)]
      have hk : j - (i + 1) < ((l.map Value.string).drop i).length := by omega
      have := World.cell?_setCells_in g ((l.map Value.string).drop i) (off + (i + 1)) w.drew (fun k hk => by
       have := hsp (i + 1 + k) (by omega)
       rw [Nat.add_assoc]; exact this) (j - (i + 1)) hk
      rw [show off + (i + 1) + (j - (i + 1)) = off + j by omega] at this
      rw [this, <- List.getElem?_eq_getElem hk, List.getElem?_drop]; congr 1
      omega
   ·have hie : i = l.length := by omega
    subst hie; refine (Any2.slices_Insert_string_end_room qMk g off l.length cap vb 0 1 1 [.string s] w (by omega) hroom (by simpa [maxLen] using hc63) rfl (fun j hj => by rw [Nat.add_assoc]; exact hsp _ (by omega)) (fun j _ => hfz _) hvs h1v).mono ?_
    rintro e w' ⟨rfl, rfl⟩; obtain ⟨c1, g1, z1⟩ := qCd [.string s] (off + l.length) w cur 9 hg; refine ⟨_, _, rfl, Own.of_cells g1 hrl hroom hc63 (by omega) (fun j hj => ?_), fun b hb => .inl hb, qCv _ _ _ _ (Mod.refl _ _) (fun _ => qAc.2 rfl)⟩
    rw [qPv _ _ _ hil]; by_cases h1 : j < l.length
    ·rw [if_pos h1, World.cell?_setCells_out g _ _ _ _ (fun _ _ => by show off + j < off + l.length \/ _; omega)]
     have := hcs j (.string l[j]) (by rw [List.getElem?_map, List.getElem?_eq_getElem h1]; rfl)
     rw [List.getElem?_map, List.getElem?_eq_getElem h1]; exact this
    ·have h2 : j = l.length := by omega
     subst h2; rw [if_neg h1, if_pos rfl]; exact World.cell?_setCells_in g [.string s] (off + l.length) w (fun k hk => by
      have hk0 : k = 0 := by simpa using hk
      subst hk0; exact hsp _ (by omega)) 0 (by simp)
  ·have hmx : l.length + 1 <= maxLen := by simp only [maxLen]; omega
   have hge := grownCap_ge w (l.length + 1) cap 9; have hle := grownCap_le_maxLen w (l.length + 1) cap 9 hmx; by_cases hlt : i < l.length
   ·refine (Any2.slices_Insert_string_grow qMk g off l.length cap i vb 0 1 1 (l.map Value.string) [.string s] w hlt (by omega) hnc (by omega) (by omega) (by simp) rfl hcs hvs h1c h1v).mono ?_
    rintro e w' ⟨rfl, rfl⟩; generalize hcur : ((l.map Value.string).take i).toArray ++ Builtin.zeroCells (Value.string ⟨#[]⟩).cells (l.length + 1 - i) ++ Builtin.zeroCells (Value.string ⟨#[]⟩).cells (grownCap w (l.length + 1) cap (qLc.t 9) - (l.length + 1)) = c0; have hg0 : ((w.alloc (.cells c0 (qLc.t 9))).drew).heap[w.heap.size]? = some (.cells c0 9 (0, 0)) := heap_alloc_new w _; have hz0 : c0.size = grownCap w (l.length + 1) cap 9 := by
     rw [<- hcur]; simp only [Array.size_append, List.size_toArray, size_zeroCells, List.length_take, List.length_map]; show min i l.length + (l.length + 1 - i) * 1 + (grownCap w (l.length + 1) cap 9 - (l.length + 1)) * 1 = _; omega
    obtain ⟨c1, g1, z1⟩ := qCd [.string s] i _ c0 9 hg0; obtain ⟨c2, g2, z2⟩ := qCd ((l.map Value.string).drop i) (i + 1) (((w.alloc (.cells c0 (qLc.t 9))).drew.setCells w.heap.size i [.string s]).drew) c1 9 g1; have hdl : ((l.map Value.string).drop i).length = l.length - i := by rw [List.length_drop, List.length_map]
    refine ⟨_, _, rfl, Own.of_cells g2 hrl hge hle (by show 0 + grownCap w (l.length + 1) cap 9 * 1 <= _; omega) (fun j hj => ?_), fun b hb => .inr (by rw [qAc] at hb; omega),
     qCv _ _ _ _ (qCv _ _ _ _ ((Mod.refl _ _).alloc _).drew (fun h => absurd h (Nat.lt_irrefl _))).drew (fun h => absurd h (Nat.lt_irrefl _))⟩
    rw [qPv _ _ _ hil, Nat.zero_add]; by_cases h1 : j < i
    ·rw [if_pos h1, World.cell?_setCells_out _ _ _ _ _ (fun _ _ => by show j < i + 1 \/ _; omega)]
     show ((w.alloc (.cells c0 (qLc.t 9))).drew.setCells w.heap.size i [.string s]).cell? ⟨w.heap.size, j, none⟩ = _; rw [World.cell?_setCells_out _ _ _ _ _ (fun _ _ => by show j < i \/ _; omega), cell_of_row _ _ _ _ _ _ hg0, <- hcur]
     have hjl : j < l.length := by omega
     have hti : ((l.map Value.string).take i).length = i := by rw [List.length_take]; omega
     rw [Array.getElem?_append_left (by simp only [Array.size_append, List.size_toArray]; omega), Array.getElem?_append_left (by simp only [List.size_toArray]; omega), List.getElem?_toArray, List.getElem?_take, if_pos h1]
    ·rw [if_neg h1]; by_cases h2 : j = i
     ·subst h2; rw [if_pos rfl, World.cell?_setCells_out _ _ _ _ _ (fun _ _ => by show j < j + 1 \/ _; omega)]
      show ((w.alloc (.cells c0 (qLc.t 9))).drew.setCells w.heap.size j [.string s]).cell? ⟨w.heap.size, j, none⟩ = _; exact World.cell?_setCells_in w.heap.size [.string s] j _ (fun k hk => by
       have hk0 : k = 0 := by simpa using hk
       subst hk0; rw [cell_of_row _ _ _ _ _ _ hg0]; have : j < c0.size := by omega
       simp [this]) 0 (by simp)
     ·rw [if_neg h2]; have hk : j - (i + 1) < ((l.map Value.string).drop i).length := by omega
      have := World.cell?_setCells_in w.heap.size ((l.map Value.string).drop i) (i + 1) (((w.alloc (.cells c0 (qLc.t 9))).drew.setCells w.heap.size i [.string s]).drew) (fun k hk => by
       have g1' : ((w.alloc (.cells c0 (qLc.t 9))).drew.setCells w.heap.size i [.string s]).drew.heap[w.heap.size]? = some (.cells c1 9 (0, 0)) := g1; rw [cell_of_row _ w.heap.size _ c1 9 (0, 0) g1']; have : i + 1 + k < c1.size := by omega
       simp [this]) (j - (i + 1)) hk
      rw [show i + 1 + (j - (i + 1)) = j by omega] at this
      rw [this, <- List.getElem?_eq_getElem hk, List.getElem?_drop]; congr 1
      omega
   ·have hie : i = l.length := by omega
    subst hie; refine (Any2.slices_Insert_string_end_grow qMk (some ⟨g, off, none⟩) l.length cap vb 0 1 1 (l.map Value.string) [.string s] w (by omega) hnc (by omega) (by omega) (by simp) rfl (fun h => (by cases h)) (fun a ha j v hj => by cases ha; rw [Addr.add_lit]; exact hcs j v hj) hvs h1v).mono ?_
    rintro e w' ⟨rfl, rfl⟩; refine ⟨_, _, rfl, Own.of_cells (heap_alloc_new w.drew _) hrl hge hle ?_ (fun j hj => ?_), fun b hb => .inr (by rw [qAc] at hb; omega), (Mod.refl _ _).drew.alloc _⟩
    ·simp only [Array.size_append, List.size_toArray, size_zeroCells, List.length_append, List.length_cons, List.length_nil, List.length_map]; show 0 + grownCap w (l.length + 1) cap 9 * 1 <= l.length + (0 + 1) + (grownCap w (l.length + 1) cap 9 - (l.length + 1)) * 1; omega
    ·rw [cell_of_row _ w.heap.size _ _ _ _ (heap_alloc_new w.drew _), qPv _ _ _ hil, Nat.zero_add]; rw [Array.getElem?_append_left (by simp; omega), List.getElem?_toArray]
     by_cases h1 : j < l.length
     ·rw [if_pos h1, List.getElem?_append_left (by simpa using h1)]
     ·have h2 : j = l.length := by omega
      subst h2; rw [if_neg h1, if_pos rfl, List.getElem?_append_right (by simp)]
      simp
end
section
open Go Go.RowKit
section
variable {K : Type} [DecidableEq K]
theorem qLs (l : List (K × Value)) (k x : K) (v : Value) : aget (aput l k v) x = if x = k then some v else aget l x := by
 unfold aput; by_cases h : (l.any fun p => p.1 = k) = true
 ·rw [if_pos h]; induction l with
  | nil => simp at h
  | cons p r ih =>
   unfold aget at ih ⊢; rw [List.map_cons]; by_cases hp : p.1 = k
   ·rw [if_pos hp]; by_cases hx : x = k
    ·rw [if_pos hx, List.find?_cons_of_pos (by simp [hx])]
     rfl
    ·rw [if_neg hx, List.find?_cons_of_neg (by simpa using fun e => hx e.symm), List.find?_cons_of_neg (by rw [hp]; simpa using fun e => hx e.symm)]
     by_cases hr : (r.any fun p => p.1 = k) = true
     ·have := ih hr; rw [if_neg hx] at this; exact this
     ·congr 1
      congr 1
      have hid : r.map (fun p => if p.1 = k then (k, v) else p) = r.map id := List.map_congr_left (fun q hq => by
       rw [if_neg (fun e => hr (List.any_eq_true.2 ⟨q, hq, by simpa using e⟩))]
       rfl)
      rw [hid, List.map_id]
   ·rw [if_neg hp]; have hr : (r.any fun p => p.1 = k) = true := by
     rw [List.any_cons, decide_eq_false hp, Bool.false_or] at h; exact h
    have := ih hr; by_cases hpx : p.1 = x
    ·have hxk : x ≠ k := fun e => hp (hpx.trans e)
     rw [if_neg hxk, List.find?_cons_of_pos (by simpa using hpx), List.find?_cons_of_pos (by simpa using hpx)]
    ·rw [List.find?_cons_of_neg (by simpa using hpx), List.find?_cons_of_neg (by simpa using hpx)]
     exact this
 ·rw [if_neg h]; unfold aget; rw [List.find?_append]; by_cases hx : x = k
  ·rw [if_pos hx]; have h1 : l.find? (fun p => decide (p.1 = x)) = none := List.find?_eq_none.2 (fun p hp e => h (List.any_eq_true.2 ⟨p, hp, by rw [<- hx]; exact e⟩))
   rw [h1, hx]; simp
  ·rw [if_neg hx]; have h1 : ([(k, v)] : List (K × Value)).find? (fun p => decide (p.1 = x)) = none := by simpa using fun e => hx e.symm
   rw [h1]; simp
theorem qKy {l : List (K × Value)} (hn : (l.map (·.1)).Nodup) (k x : K) : aget (match l.findIdx? (fun p => decide (p.1 = k)) with | some i => l.eraseIdx i | none => l) x = if x = k then none else aget l x := by
 induction l with
 | nil => simp [aget]
 | cons p r ih =>
  obtain ⟨hp, hr⟩ := List.nodup_cons.1 hn; rw [List.findIdx?_cons]; by_cases hk : p.1 = k
  ·rw [decide_eq_true hk]; simp only [if_true]; rw [List.eraseIdx_cons_zero]; by_cases hx : x = k
   ·rw [if_pos hx]; unfold aget; have : r.find? (fun q => decide (q.1 = x)) = none := List.find?_eq_none.2 (fun q hq e => hp (by
     have e1 : q.1 = x := by simpa using e
     show p.1 ∈ r.map (·.1); rw [hk, <- hx, <- e1]; exact List.mem_map_of_mem hq))
    rw [this]; rfl
   ·rw [if_neg hx]; unfold aget; rw [List.find?_cons_of_neg (by rw [hk]; simpa using fun e => hx e.symm)]
  ·rw [decide_eq_false hk]; simp only [Bool.false_eq_true, if_false]; have ih' := ih hr; cases hf : r.findIdx? (fun p => decide (p.1 = k)) with
   | none =>
    rw [hf] at ih'; simp only [Option.map_none]; simp only at ih'; unfold aget at ih' ⊢; by_cases hpx : p.1 = x
    ·have hxk : x ≠ k := fun e => hk (hpx.trans e)
     rw [if_neg hxk]
    ·rw [List.find?_cons_of_neg (by simpa using hpx)]
     exact ih'
   | some i =>
    rw [hf] at ih'; simp only [Option.map_some]; simp only at ih'; rw [List.eraseIdx_cons_succ]; unfold aget at ih' ⊢; by_cases hpx : p.1 = x
    ·have hxk : x ≠ k := fun e => hk (hpx.trans e)
     rw [if_neg hxk, List.find?_cons_of_pos (by simpa using hpx), List.find?_cons_of_pos (by simpa using hpx)]
    ·rw [List.find?_cons_of_neg (by simpa using hpx), List.find?_cons_of_neg (by simpa using hpx)]
     exact ih'
end
theorem qXb (w : World) : (zeroValue 3).run Tryz.prog w = .ok (.int .i64 0) w := by kernel_rfl
def jEf : Value := .agg #[.bool false, .slice none 0 0, .slice none 0 0, .slice none 0 0]
theorem jKz (w : World) : (zeroValue 123).run Tryz.prog w = .ok jEf w := by kernel_rfl
structure NdC (w : World) (m : Nd) : Prop where
 nd : NdAt w m
 ck : m.keys.length <= m.kc /\ m.kc <= maxLen
 cv : m.values.length <= m.vc /\ m.vc <= maxLen
 ci : m.kids.length <= m.ic /\ m.ic <= maxLen
theorem NdC.ext {w w' : World} {m : Nd} (h : NdC w m) (hm : Mod (fun _ => False) w w') : NdC w' m := ⟨h.nd.ext hm, h.ck, h.cv, h.ci⟩
theorem Gd.ndc {w : World} {m : Nd} (g : Gd w m) (h : NdAt w m) : NdC w m := ⟨h, ⟨g.k.2.1, g.k.2.2.1⟩, ⟨g.v.2.1, g.v.2.2.1⟩, ⟨g.i.2.1, g.i.2.2.1⟩⟩
def qBm (S : Nat -> Prop) (w : World) (b : Nat) (f : Int -> Option NP) : Prop :=
 ∃ l, qAv KI.kv w b l /\ (∀ s, f s = none -> aget l s = none) /\ ∀ s n, f s = some n -> qBg n.1 n.2 /\ ∃ m : Nd, aget l s = some m.val /\ Has m n.1 n.2 /\ NdC w m /\ ∀ k, m.bs k -> ¬ S k /\ k < w.heap.size
def qCg (w : World) (b : Nat) (g : Int -> Option Int) : Prop := ∃ l, qAv KI.kv w b l /\ ∀ s, aget l s = (g s).map (fun x => Value.int .i64 x)
def qFn (w : World) (b : Nat) (t : Int -> Bool) : Prop := ∃ l, qAv KI.kv w b l /\ ∀ s, (t s = false -> aget l s = none) /\ (t s = true -> ∃ x, aget l s = some (.int .i64 x))
theorem jGd {S S' : Nat -> Prop} {w w' : World} {m : Nd} (h : NdAt w m) (hb : ∀ k, m.bs k -> ¬ S k) (hm : Mod S' w w') (hs : ∀ k, S' k -> S k) : NdAt w' m :=
 ⟨h.k.mod hm (fun _ k hk e => hb k (.inl hk) (hs k e)), h.v.mod hm (fun _ k hk e => hb k (.inr (.inl hk)) (hs k e)), h.i.mod hm (fun _ k hk e => hb k (.inr (.inr hk)) (hs k e)), h.bk, h.bv, h.bi, h.sk, h.sv, h.rk⟩
theorem qBq {S S' : Nat -> Prop} {w w' : World} {m : Nd} (h : NdC w m) (hb : ∀ k, m.bs k -> ¬ S k) (hm : Mod S' w w') (hs : ∀ k, S' k -> S k) : NdC w' m := ⟨jGd h.nd hb hm hs, h.ck, h.cv, h.ci⟩
theorem qBm.mod {S S' : Nat -> Prop} {w w' : World} {b : Nat} {f : Int -> Option NP} (h : qBm S w b f) (hm : Mod S' w w') (hs : ∀ k, S' k -> S k) (hb : ¬ S' b) : qBm S w' b f := by
 obtain ⟨l, h1, h2, h3⟩ := h; refine ⟨l, h1.mod hm hb, h2, fun s n hn => ?_⟩
 obtain ⟨hg, m, k1, k2, k3, k4⟩ := h3 s n hn; exact ⟨hg, m, k1, k2, qBq k3 (fun k hk => (k4 k hk).1) hm hs, fun k hk => ⟨(k4 k hk).1, Nat.lt_of_lt_of_le (k4 k hk).2 hm.size⟩⟩
theorem qCg.mod {S' : Nat -> Prop} {w w' : World} {b : Nat} {f : Int -> Option Int} (h : qCg w b f) (hm : Mod S' w w') (hb : ¬ S' b) : qCg w' b f := by
 obtain ⟨l, h1, h2⟩ := h; exact ⟨l, h1.mod hm hb, h2⟩
theorem qFn.mod {S' : Nat -> Prop} {w w' : World} {b : Nat} {f : Int -> Bool} (h : qFn w b f) (hm : Mod S' w w') (hb : ¬ S' b) : qFn w' b f := by
 obtain ⟨l, h1, h2⟩ := h; exact ⟨l, h1.mod hm hb, h2⟩
structure TB where
 tb : Nat
 nb : Nat
 ab : Nat
 j : Nat
 d : Nat
 sa : Option Addr
 room : Nat
structure WB where
 wb : Nat
 nb : Nat
 ab : Nat
 kb : Nat
def TS (B : TB) (k : Nat) : Prop := k = B.tb \/ k = B.nb \/ k = B.ab \/ k = B.j \/ qBj B.d B.sa k
def WS (C : WB) (k : Nat) : Prop := k = C.wb \/ k = C.nb \/ k = C.ab \/ k = C.kb
def MS (B : TB) (C : WB) (k : Nat) : Prop := TS B k \/ WS C k
def jLc (B : TB) (T : TM) (off : Bool) : Array Value := #[.int .i64 T.root, .int .i64 T.next, .int .i64 T.free, .int .i64 T.count, .pointer (some ⟨B.j, 0, none⟩), .int .i64 (B.room : Int), .map (some B.nb), .map (some B.ab), .bool off]
def qIq (B : TB) (C : WB) (W : WM) : Array Value := #[.int .i64 W.root, .int .i64 W.next, .int .i64 W.free, .int .i64 W.count, .pointer (some ⟨B.tb, 0, none⟩), .map (some C.nb), .map (some C.ab), .map (some C.kb), .bool W.full]
structure qAu (S : Nat -> Prop) (w : World) (B : TB) (T : TM) (D : Dsk) (off : Bool) : Prop where
 box : w.heap[B.tb]? = some (.cells (jLc B T off) 84 (0, 0))
 nodes : qBm S w B.nb T.nodes
 after : qCg w B.ab T.after
 disk : qAp w B.d B.sa D
 jr : JAt w B.j B.d B.room
 sep : ¬ qBj B.d B.sa B.j
 hn : D.secs.length <= 16384
 hr : B.room <= 500
structure qMz (S : Nat -> Prop) (w : World) (B : TB) (C : WB) (W : WM) : Prop where
 box : w.heap[C.wb]? = some (.cells (qIq B C W) 117 (0, 0))
 nodes : qBm S w C.nb W.nodes
 after : qCg w C.ab W.after
 taken : qFn w C.kb W.taken
 nx : 0 <= W.next
structure Apart (B : TB) (C : WB) : Prop where
 wn : C.wb ≠ C.nb
 wa : C.wb ≠ C.ab
 wk : C.wb ≠ C.kb
 na : C.nb ≠ C.ab
 nk : C.nb ≠ C.kb
 ak : C.ab ≠ C.kb
 tree : ∀ k, WS C k -> ¬ TS B k
structure Ws (S : Nat -> Prop) (w : World) (B : TB) (C : WB) (T : TM) (D : Dsk) (W : WM) : Prop where
 tree : qAu S w B T D false
 work : qMz S w B C W
 apart : Apart B C
 sub : ∀ k, MS B C k -> S k
theorem qBm.narrow {S S' : Nat -> Prop} {w : World} {b : Nat} {f : Int -> Option NP} (h : qBm S w b f) (hs : ∀ k, k < w.heap.size -> S' k -> S k) : qBm S' w b f := by
 obtain ⟨l, h1, h2, h3⟩ := h; refine ⟨l, h1, h2, fun s n hn => ?_⟩
 obtain ⟨hg, m, k1, k2, k3, k4⟩ := h3 s n hn; exact ⟨hg, m, k1, k2, k3, fun k hk => ⟨fun e => (k4 k hk).1 (hs k (k4 k hk).2 e), (k4 k hk).2⟩⟩
theorem Ws.narrow {S S' : Nat -> Prop} {w : World} {B : TB} {C : WB} {T : TM} {D : Dsk} {W : WM} (h : Ws S w B C T D W) (hs : ∀ k, k < w.heap.size -> S' k -> S k) (hm : ∀ k, MS B C k -> S' k) : Ws S' w B C T D W :=
 ⟨⟨h.tree.box, h.tree.nodes.narrow hs, h.tree.after, h.tree.disk, h.tree.jr, h.tree.sep, h.tree.hn, h.tree.hr⟩, ⟨h.work.box, h.work.nodes.narrow hs, h.work.after, h.work.taken, h.work.nx⟩, h.apart, hm⟩
theorem qAu.mod {S S' : Nat -> Prop} {w w' : World} {B : TB} {T : TM} {D : Dsk} {off : Bool} (h : qAu S w B T D off) (hm : Mod S' w w') (hs : ∀ k, S' k -> S k) (ht : ∀ k, S' k -> ¬ TS B k) : qAu S w' B T D off :=
 ⟨(hm.block B.tb (lth h.box) (fun e => ht _ e (.inl rfl))).trans h.box, h.nodes.mod hm hs (fun e => ht _ e (.inr (.inl rfl))), h.after.mod hm (fun e => ht _ e (.inr (.inr (.inl rfl)))),
  h.disk.mod hm (fun k hk e => ht k e (.inr (.inr (.inr (.inr hk))))), h.jr.mod hm (fun e => ht _ e (.inr (.inr (.inr (.inl rfl))))), h.sep, h.hn, h.hr⟩
theorem Ws.ext {S : Nat -> Prop} {w w' : World} {B : TB} {C : WB} {T : TM} {D : Dsk} {W : WM} (h : Ws S w B C T D W) (hm : Mod (fun _ => False) w w') : Ws S w' B C T D W :=
 ⟨h.tree.mod hm (fun _ e => e.elim) (fun _ e => e.elim), ⟨(hm.block C.wb (lth h.work.box) (fun e => e)).trans h.work.box, h.work.nodes.mod hm (fun _ e => e.elim) (fun e => e), h.work.after.mod hm (fun e => e), h.work.taken.mod hm (fun e => e), h.work.nx⟩, h.apart, h.sub⟩
theorem Ws.priv {S S' : Nat -> Prop} {w w' : World} {B : TB} {C : WB} {T : TM} {D : Dsk} {W : WM} (h : Ws S w B C T D W) (hm : Mod S' w w') (hs : ∀ k, S' k -> S k) (hn : ∀ k, S' k -> ¬ MS B C k) : Ws S w' B C T D W :=
 ⟨h.tree.mod hm hs (fun k e ht => hn k e (.inl ht)), ⟨(hm.block C.wb (lth h.work.box) (fun e => hn _ e (.inr (.inl rfl)))).trans h.work.box, h.work.nodes.mod hm hs (fun e => hn _ e (.inr (.inr (.inl rfl)))), h.work.after.mod hm (fun e => hn _ e (.inr (.inr (.inr (.inl rfl))))), h.work.taken.mod hm (fun e => hn _ e (.inr (.inr (.inr (.inr rfl))))), h.work.nx⟩, h.apart, h.sub⟩
theorem Ws.box {S : Nat -> Prop} {w w' : World} {B : TB} {C : WB} {T : TM} {D : Dsk} {W W' : WM} (h : Ws S w B C T D W) (hm : Mod (fun k => k = C.wb) w w') (hb : w'.heap[C.wb]? = some (.cells (qIq B C W') 117 (0, 0))) (h1 : W'.nodes = W.nodes) (h2 : W'.after = W.after) (h3 : W'.taken = W.taken) (hn : 0 <= W'.next) : Ws S w' B C T D W' :=
 ⟨h.tree.mod hm (fun _ e => by rw [e]; exact h.sub _ (.inr (.inl rfl))) (fun k e => h.apart.tree k (.inl e)), ⟨hb, by rw [h1]; exact h.work.nodes.mod hm (fun _ e => by rw [e]; exact h.sub _ (.inr (.inl rfl))) (fun e => h.apart.wn e.symm), by rw [h2]; exact h.work.after.mod hm (fun e => h.apart.wa e.symm), by rw [h3]; exact h.work.taken.mod hm (fun e => h.apart.wk e.symm), hn⟩, h.apart, h.sub⟩
theorem Ws.setNodes {S : Nat -> Prop} {w w' : World} {B : TB} {C : WB} {T : TM} {D : Dsk} {W : WM} {f : Int -> Option NP} (h : Ws S w B C T D W) (hm : Mod (fun k => k = C.nb) w w') (hn : qBm S w' C.nb f) : Ws S w' B C T D { W with nodes := f } :=
 ⟨h.tree.mod hm (fun _ e => by rw [e]; exact h.sub _ (.inr (.inr (.inl rfl)))) (fun k e => h.apart.tree k (.inr (.inl e))), ⟨(hm.block C.wb (lth h.work.box) h.apart.wn).trans h.work.box, hn, h.work.after.mod hm (fun e => h.apart.na e.symm), h.work.taken.mod hm (fun e => h.apart.nk e.symm), h.work.nx⟩, h.apart, h.sub⟩
theorem Ws.setAfter {S : Nat -> Prop} {w w' : World} {B : TB} {C : WB} {T : TM} {D : Dsk} {W : WM} {f : Int -> Option Int} (h : Ws S w B C T D W) (hm : Mod (fun k => k = C.ab) w w') (hn : qCg w' C.ab f) : Ws S w' B C T D { W with after := f } :=
 ⟨h.tree.mod hm (fun _ e => by rw [e]; exact h.sub _ (.inr (.inr (.inr (.inl rfl))))) (fun k e => h.apart.tree k (.inr (.inr (.inl e)))), ⟨(hm.block C.wb (lth h.work.box) h.apart.wa).trans h.work.box, h.work.nodes.mod hm (fun _ e => by rw [e]; exact h.sub _ (.inr (.inr (.inr (.inl rfl))))) (fun e => h.apart.na e), hn, h.work.taken.mod hm (fun e => h.apart.ak e.symm), h.work.nx⟩, h.apart, h.sub⟩
theorem Ws.setTaken {S : Nat -> Prop} {w w' : World} {B : TB} {C : WB} {T : TM} {D : Dsk} {W : WM} {f : Int -> Bool} (h : Ws S w B C T D W) (hm : Mod (fun k => k = C.kb) w w') (hn : qFn w' C.kb f) : Ws S w' B C T D { W with taken := f } :=
 ⟨h.tree.mod hm (fun _ e => by rw [e]; exact h.sub _ (.inr (.inr (.inr (.inr rfl))))) (fun k e => h.apart.tree k (.inr (.inr (.inr e)))), ⟨(hm.block C.wb (lth h.work.box) h.apart.wk).trans h.work.box, h.work.nodes.mod hm (fun _ e => by rw [e]; exact h.sub _ (.inr (.inr (.inr (.inr rfl))))) (fun e => h.apart.nk e), h.work.after.mod hm (fun e => h.apart.ak e), hn, h.work.nx⟩, h.apart, h.sub⟩
theorem Ws.cells {S : Nat -> Prop} {w : World} {B : TB} {C : WB} {T : TM} {D : Dsk} {W : WM} (h : Ws S w B C T D W) : w.cell? ⟨C.wb, 0, none⟩ = some (.int .i64 W.root) /\ w.cell? ⟨C.wb, 1, none⟩ = some (.int .i64 W.next) /\ w.cell? ⟨C.wb, 2, none⟩ = some (.int .i64 W.free) /\ w.cell? ⟨C.wb, 3, none⟩ = some (.int .i64 W.count) ∧
  w.cell? ⟨C.wb, 4, none⟩ = some (.pointer (some ⟨B.tb, 0, none⟩)) /\ w.cell? ⟨C.wb, 5, none⟩ = some (.map (some C.nb)) /\ w.cell? ⟨C.wb, 6, none⟩ = some (.map (some C.ab)) /\ w.cell? ⟨C.wb, 7, none⟩ = some (.map (some C.kb)) /\ w.cell? ⟨C.wb, 8, none⟩ = some (.bool W.full) := by
 refine ⟨?_, ?_, ?_, ?_, ?_, ?_, ?_, ?_, ?_⟩ <;> (rw [cell_of_row _ _ _ _ _ _ h.work.box]; rfl)
theorem qAu.cells {S : Nat -> Prop} {w : World} {B : TB} {T : TM} {D : Dsk} {off : Bool} (h : qAu S w B T D off) : w.cell? ⟨B.tb, 0, none⟩ = some (.int .i64 T.root) /\ w.cell? ⟨B.tb, 1, none⟩ = some (.int .i64 T.next) /\ w.cell? ⟨B.tb, 2, none⟩ = some (.int .i64 T.free) /\ w.cell? ⟨B.tb, 3, none⟩ = some (.int .i64 T.count) ∧
  w.cell? ⟨B.tb, 4, none⟩ = some (.pointer (some ⟨B.j, 0, none⟩)) /\ w.cell? ⟨B.tb, 5, none⟩ = some (.int .i64 (B.room : Int)) /\ w.cell? ⟨B.tb, 6, none⟩ = some (.map (some B.nb)) /\ w.cell? ⟨B.tb, 7, none⟩ = some (.map (some B.ab)) /\ w.cell? ⟨B.tb, 8, none⟩ = some (.bool off) := by
 refine ⟨?_, ?_, ?_, ?_, ?_, ?_, ?_, ?_, ?_⟩ <;> (rw [cell_of_row _ _ _ _ _ _ h.box]; rfl)
theorem qBm.get {S : Nat -> Prop} {w : World} {b : Nat} {f : Int -> Option NP} (h : qBm S w b f) {s : Int} {n : NP} (hn : f s = some n) :
  ∃ m : Nd, (∀ w', Mod (fun _ => False) w w' -> ∀ ok, (Instr.lookup 81 (.map (some b)) (.int .i64 s) ok).run Tryz.prog w' = .ok (if ok then .tuple #[m.val, .bool true] else m.val) w') /\ Has m n.1 n.2 /\ NdC w m /\ ∀ k, m.bs k -> ¬ S k /\ k < w.heap.size := by
 obtain ⟨l, h1, _, h3⟩ := h; obtain ⟨_, m, k1, k2, k3, k4⟩ := h3 s n hn; refine ⟨m, fun w' hm ok => ?_, k2, k3, k4⟩
 have := qCe KI Tryz.underlying81 (jKz w') (h1.mod hm (fun e => e)) s ok
 rw [k1] at this; exact this
theorem qBm.miss {S : Nat -> Prop} {w : World} {b : Nat} {f : Int -> Option NP} (h : qBm S w b f) {s : Int} (hn : f s = none) (ok : Bool) :
  (Instr.lookup 81 (.map (some b)) (.int .i64 s) ok).run Tryz.prog w = .ok (if ok then .tuple #[jEf, .bool false] else jEf) w := by
 obtain ⟨l, h1, h2, _⟩ := h; have := qCe KI Tryz.underlying81 (jKz w) h1 s ok; rw [h2 s hn] at this; exact this
theorem qCg.look {w : World} {b : Nat} {g : Int -> Option Int} (h : qCg w b g) (s : Int) (ok : Bool) :
  (Instr.lookup 82 (.map (some b)) (.int .i64 s) ok).run Tryz.prog w = .ok (if ok then .tuple #[.int .i64 ((g s).getD 0), .bool (g s).isSome] else .int .i64 ((g s).getD 0)) w := by
 obtain ⟨l, h1, h2⟩ := h; have := qCe KI Tryz.underlying82 (qXb w) h1 s ok; rw [h2 s] at this; cases hg : g s <;> rw [hg] at this <;> exact this
theorem qFn.look {w : World} {b : Nat} {t : Int -> Bool} (h : qFn w b t) (s : Int) :
  ∃ x, (Instr.lookup 82 (.map (some b)) (.int .i64 s) false).run Tryz.prog w = .ok (.int .i64 x) w := by
 obtain ⟨l, h1, h2⟩ := h; have := qCe KI Tryz.underlying82 (qXb w) h1 s false; cases ht : t s with
 | false => rw [(h2 s).1 ht] at this; exact ⟨0, this⟩
 | true => obtain ⟨x, hx⟩ := (h2 s).2 ht; rw [hx] at this; exact ⟨x, this⟩
theorem qBm.put {S : Nat -> Prop} {w w' : World} {b : Nat} {f : Int -> Option NP} {l : List (Int × Value)} (h2 : ∀ s, f s = none -> aget l s = none) (h3 : ∀ s n, f s = some n -> qBg n.1 n.2 /\ ∃ m : Nd, aget l s = some m.val /\ Has m n.1 n.2 /\ NdC w m /\ ∀ k, m.bs k -> ¬ S k /\ k < w.heap.size)
  {s : Int} {n : NP} {m : Nd} (hg : qBg n.1 n.2) (hm : Has m n.1 n.2) (hat : NdC w m) (hbs : ∀ k, m.bs k -> ¬ S k /\ k < w.heap.size) (hb : S b) (hat' : qAv KI.kv w' b (aput l s m.val)) (hmod : Mod (fun j => j = b) w w') : qBm S w' b (fset f s (some n)) := by
 have hs : ∀ k, k = b -> S k := fun k e => by rw [e]; exact hb
 refine ⟨_, hat', fun x hx => ?_, fun x nx hx => ?_⟩
 ·rw [qLs]; by_cases e : x = s
  ·rw [e, qCi] at hx; cases hx
  ·rw [if_neg e]; rw [qAn _ _ e] at hx; exact h2 x hx
 ·rw [qLs]; by_cases e : x = s
  ·rw [e, qCi] at hx; cases hx
   rw [if_pos e]; exact ⟨hg, m, rfl, hm, qBq hat (fun k hk => (hbs k hk).1) hmod hs, fun k hk => ⟨(hbs k hk).1, Nat.lt_of_lt_of_le (hbs k hk).2 hmod.size⟩⟩
  ·rw [if_neg e]; rw [qAn _ _ e] at hx; obtain ⟨k0, m', k1, k2, k3, k4⟩ := h3 x nx hx; exact ⟨k0, m', k1, k2, qBq k3 (fun k hk => (k4 k hk).1) hmod hs, fun k hk => ⟨(k4 k hk).1, Nat.lt_of_lt_of_le (k4 k hk).2 hmod.size⟩⟩
theorem qBm.del {S : Nat -> Prop} {w w' : World} {b : Nat} {f : Int -> Option NP} {l : List (Int × Value)} (h : qAv KI.kv w b l) (h2 : ∀ s, f s = none -> aget l s = none) (h3 : ∀ s n, f s = some n -> qBg n.1 n.2 /\ ∃ m : Nd, aget l s = some m.val /\ Has m n.1 n.2 /\ NdC w m /\ ∀ k, m.bs k -> ¬ S k /\ k < w.heap.size)
  {s : Int} (hb : S b) (hat' : qAv KI.kv w' b (match l.findIdx? (fun p => decide (p.1 = s)) with | some i => l.eraseIdx i | none => l)) (hmod : Mod (fun j => j = b) w w') : qBm S w' b (fset f s none) := by
 have hs : ∀ k, k = b -> S k := fun k e => by rw [e]; exact hb
 obtain ⟨_, _, _, _, hnd, _⟩ := h; refine ⟨_, hat', fun x hx => ?_, fun x nx hx => ?_⟩
 ·rw [qKy hnd]; by_cases e : x = s
  ·rw [if_pos e]
  ·rw [if_neg e]; rw [qAn _ _ e] at hx; exact h2 x hx
 ·rw [qKy hnd]; by_cases e : x = s
  ·rw [e, qCi] at hx; cases hx
  ·rw [if_neg e]; rw [qAn _ _ e] at hx; obtain ⟨k0, m', k1, k2, k3, k4⟩ := h3 x nx hx; exact ⟨k0, m', k1, k2, qBq k3 (fun k hk => (k4 k hk).1) hmod hs, fun k hk => ⟨(k4 k hk).1, Nat.lt_of_lt_of_le (k4 k hk).2 hmod.size⟩⟩
theorem qCg.put {w' : World} {b : Nat} {g : Int -> Option Int} {l : List (Int × Value)} (h2 : ∀ s, aget l s = (g s).map (fun x => Value.int .i64 x)) {s v : Int} (hat' : qAv KI.kv w' b (aput l s (.int .i64 v))) : qCg w' b (fset g s (some v)) := by
 refine ⟨_, hat', fun x => ?_⟩
 rw [qLs]; by_cases e : x = s
 ·rw [if_pos e, e, qCi]; rfl
 ·rw [if_neg e, qAn _ _ e]; exact h2 x
theorem qCg.del {w w' : World} {b : Nat} {g : Int -> Option Int} {l : List (Int × Value)} (h : qAv KI.kv w b l) (h2 : ∀ s, aget l s = (g s).map (fun x => Value.int .i64 x)) {s : Int} (hat' : qAv KI.kv w' b (match l.findIdx? (fun p => decide (p.1 = s)) with | some i => l.eraseIdx i | none => l)) : qCg w' b (fset g s none) := by
 obtain ⟨_, _, _, _, hnd, _⟩ := h; refine ⟨_, hat', fun x => ?_⟩
 rw [qKy hnd]; by_cases e : x = s
 ·rw [if_pos e, e, qCi]; rfl
 ·rw [if_neg e, qAn _ _ e]; exact h2 x
theorem qFn.put {w' : World} {b : Nat} {t : Int -> Bool} {l : List (Int × Value)} (h2 : ∀ s, (t s = false -> aget l s = none) /\ (t s = true -> ∃ x, aget l s = some (.int .i64 x))) {s v : Int} (hat' : qAv KI.kv w' b (aput l s (.int .i64 v))) : qFn w' b (fun x => decide (x = s) || t x) := by
 refine ⟨_, hat', fun x => ?_⟩
 rw [qLs]; by_cases e : x = s
 ·rw [if_pos e]; simp only [decide_eq_true e, Bool.true_or]; exact ⟨fun h => by simp at h, fun _ => ⟨v, rfl⟩⟩
 ·rw [if_neg e]; simp only [decide_eq_false e, Bool.false_or]; exact h2 x
end
end Go.Proofs.YtkinkgbmlhiakaaGreatDoor
