/- What each step comes behind -/
import Derived.Test.YthbfgeaojgfafaaChN
namespace Go.Proofs.Ythbfgeaojgfafaa
open Go Go.RowKit
open Relation (TransGen)

/-- The map of step i: the steps that i comes behind. -/
structure Good (ss : List Stp) (i : Nat) (l : List (Int × Value)) : Prop where
  keys : ∀ x : Int, x ∈ l.map (·.1) ↔ ∃ k : Nat, x = k ∧ TransGen (Ed ss) i k
  vals : ∀ p ∈ l, ∃ c : Int, p.2 = .int .i64 c ∧ 1 ≤ c ∧ c ≤ 1152921504606846976

structure Beh (W w : World) (bb : Nat) (nm : ByteArray) (a : Option Addr) (cap : Nat) (ss : List Stp) (mb g1 g2 : Nat) (sets : List (Option Nat)) (opn : List Bool) : Prop where
  mod : Mod (fun _ => False) W w
  box : w.heap[bb]? = some (.cells #[.string nm, .slice a ss.length cap, .map (some mb), .slice (some ⟨g1, 0, none⟩) ss.length ss.length, .slice (some ⟨g2, 0, none⟩) ss.length ss.length] 46 (0, 0))
  own1 : Own w 47 1 (some ⟨g1, 0, none⟩) ss.length ss.length (sets.map .map)
  own2 : Own w 4 1 (some ⟨g2, 0, none⟩) ss.length ss.length (opn.map .bool)
  map : MapAt KS.kv w mb (ent ss ss.length)
  n1 : bb ≠ g1
  n2 : bb ≠ g2
  n3 : g1 ≠ g2
  n4 : mb ≠ g1
  n5 : mb ≠ g2
  lo1 : W.heap.size ≤ g1
  lo2 : W.heap.size ≤ g2
  maps : ∀ (i b : Nat), sets[i]? = some (some b) → b ≠ g1 ∧ b ≠ g2 ∧ ∃ l, MapAt KI.kv w b l ∧ Good ss i l
  dis : ∀ (i b : Nat), sets[i]? = some (some b) → opn[i]? = some false
  clo : ∀ (i b k : Nat), sets[i]? = some (some b) → Ed ss i k → ∃ b', sets[k]? = some (some b')
  acy : ∀ (i b : Nat), sets[i]? = some (some b) → ¬ TransGen (Ed ss) i i

section
variable {W w : World} {bb : Nat} {nm : ByteArray} {a : Option Addr} {cap : Nat} {ss : List Stp} {mb g1 g2 : Nat} {sets : List (Option Nat)} {opn : List Bool}

theorem Beh.len1 (h : Beh W w bb nm a cap ss mb g1 g2 sets opn) : sets.length = ss.length := by have := h.own1.1; simpa using this
theorem Beh.len2 (h : Beh W w bb nm a cap ss mb g1 g2 sets opn) : opn.length = ss.length := by have := h.own2.1; simpa using this

theorem Beh.keep {S : Nat → Prop} {w' : World} (h : Beh W w bb nm a cap ss mb g1 g2 sets opn) (hm : Mod S w w') (hS : ∀ k, S k → W.heap.size ≤ k) (h1 : ¬ S bb) (h2 : ¬ S g1) (h3 : ¬ S g2) (h4 : ¬ S mb) (h5 : ∀ (i b : Nat), sets[i]? = some (some b) → ¬ S b) : Beh W w' bb nm a cap ss mb g1 g2 sets opn where
  mod := h.mod.then hm (fun i hi hs => by have := hS i hs; omega)
  box := (hm.block bb (lt_of_heap h.box) h1).trans h.box
  own1 := h.own1.mod hm (fun k hk hs => by rw [blk_some] at hk; subst hk; exact h2 hs)
  own2 := h.own2.mod hm (fun k hk hs => by rw [blk_some] at hk; subst hk; exact h3 hs)
  map := h.map.mod hm h4
  n1 := h.n1
  n2 := h.n2
  n3 := h.n3
  n4 := h.n4
  n5 := h.n5
  lo1 := h.lo1
  lo2 := h.lo2
  maps := fun i b hb => by
    obtain ⟨p, q, l, hl, hg⟩ := h.maps i b hb
    exact ⟨p, q, l, hl.mod hm (h5 i b hb), hg⟩
  dis := h.dis
  clo := h.clo
  acy := h.acy

theorem Beh.ext {w' : World} (h : Beh W w bb nm a cap ss mb g1 g2 sets opn) (hm : Mod (fun _ => False) w w') : Beh W w' bb nm a cap ss mb g1 g2 sets opn :=
  h.keep hm (fun _ h => h.elim) (fun h => h) (fun h => h) (fun h => h) (fun h => h) (fun _ _ _ h => h)

theorem Beh.cells (h : Beh W w bb nm a cap ss mb g1 g2 sets opn) : w.cell? ⟨bb, 0, none⟩ = some (.string nm) ∧ w.cell? ⟨bb, 1, none⟩ = some (.slice a ss.length cap) ∧ w.cell? ⟨bb, 2, none⟩ = some (.map (some mb)) ∧ w.cell? ⟨bb, 3, none⟩ = some (.slice (some ⟨g1, 0, none⟩) ss.length ss.length) ∧ w.cell? ⟨bb, 4, none⟩ = some (.slice (some ⟨g2, 0, none⟩) ss.length ss.length) := by
  refine ⟨?_, ?_, ?_, ?_, ?_⟩ <;> (rw [cell_of_row _ _ _ _ _ _ h.box]; rfl)

theorem Beh.at1 (h : Beh W w bb nm a cap ss mb g1 g2 sets opn) {i : Nat} {x : Option Nat} (hi : sets[i]? = some x) : w.cell? ⟨g1, i, none⟩ = some (.map x) ∧ w.frozen? ⟨g1, i, none⟩ = false := by
  have := h.own1.src.2.2 _ rfl i (.map x) (by rw [List.getElem?_map, hi]; rfl)
  rw [Addr.add_lit, Nat.zero_add] at this
  exact ⟨this, h.own1.frozen i⟩

theorem Beh.at2 (h : Beh W w bb nm a cap ss mb g1 g2 sets opn) {i : Nat} {x : Bool} (hi : opn[i]? = some x) : w.cell? ⟨g2, i, none⟩ = some (.bool x) ∧ w.frozen? ⟨g2, i, none⟩ = false := by
  have := h.own2.src.2.2 _ rfl i (.bool x) (by rw [List.getElem?_map, hi]; rfl)
  rw [Addr.add_lit, Nat.zero_add] at this
  exact ⟨this, h.own2.frozen i⟩

/-- Step i is being asked. -/
theorem Beh.opened (h : Beh W w bb nm a cap ss mb g1 g2 sets opn) {i : Nat} (hi : i < ss.length) (hs : sets[i]? = some none) : Beh W (w.setCell ⟨g2, i, none⟩ (.bool true)) bb nm a cap ss mb g1 g2 sets (opn.set i true) := by
  have hm : Mod (fun k => k = g2) w (w.setCell ⟨g2, i, none⟩ (.bool true)) := Mod.setCell (S := fun k => k = g2) (Mod.refl _ _) (fun _ => rfl) _
  have hl := h.len2
  refine ⟨h.mod.then hm (fun k hk hs => by have := h.lo2; omega), (hm.block bb (lt_of_heap h.box) h.n2).trans h.box, h.own1.mod hm (fun k hk hs => by rw [blk_some] at hk; have := h.n3; omega), ?_, h.map.mod hm h.n5, h.n1, h.n2, h.n3, h.n4, h.n5, h.lo1, h.lo2, fun j b hb => ?_, fun j b hb => ?_, h.clo, h.acy⟩
  · have := h.own2.set i (by omega) (.bool true)
    rw [Nat.zero_add] at this
    rw [List.map_set]
    exact this
  · obtain ⟨p, q, l, hl, hg⟩ := h.maps j b hb
    exact ⟨p, q, l, hl.mod hm q, hg⟩
  · rw [List.getElem?_set]
    rw [if_neg (fun e => by subst e; rw [hs] at hb; cases hb)]
    exact h.dis j b hb

/-- Step i has been asked: its map is kept. -/
theorem Beh.closed (h : Beh W w bb nm a cap ss mb g1 g2 sets opn) {i : Nat} (hi : i < ss.length) {sb : Nat} {l : List (Int × Value)} (hsb : sb ≠ g1) (hsb2 : sb ≠ g2) (hl : MapAt KI.kv w sb l) (hg : Good ss i l) (ho : opn[i]? = some true) (hd : ∀ k, Ed ss i k → ∃ b', sets[k]? = some (some b'))
    {w' : World} (hm : Mod (fun k => k = g1 ∨ k = g2) w w') (o1 : Own w' 47 1 (some ⟨g1, 0, none⟩) ss.length ss.length ((sets.set i (some sb)).map .map)) (o2 : Own w' 4 1 (some ⟨g2, 0, none⟩) ss.length ss.length ((opn.set i false).map .bool)) :
    Beh W w' bb nm a cap ss mb g1 g2 (sets.set i (some sb)) (opn.set i false) := by
  have hl1 := h.len1
  have hl2 := h.len2
  have n3 := h.n3
  have hio : i < sets.length := by omega
  have closedTo : ∀ k, TransGen (Ed ss) i k → ∃ b', sets[k]? = some (some b') := fun k hk => by
    induction hk with
    | single h1 => exact hd _ h1
    | tail _ h2 ih =>
      obtain ⟨b', hb'⟩ := ih
      exact h.clo _ b' _ hb' h2
  have noti : ¬ TransGen (Ed ss) i i := fun hii => by
    obtain ⟨b', hb'⟩ := closedTo i hii
    have := h.dis i b' hb'
    rw [ho] at this
    cases this
  have sx : ∀ (j b : Nat), (sets.set i (some sb))[j]? = some (some b) → (j = i ∧ b = sb) ∨ (j ≠ i ∧ sets[j]? = some (some b)) := fun j b hb => by
    rw [List.getElem?_set] at hb
    by_cases e : i = j
    · subst e
      rw [if_pos rfl, if_pos hio] at hb
      exact .inl ⟨rfl, by cases hb; rfl⟩
    · rw [if_neg e] at hb
      exact .inr ⟨fun e' => e e'.symm, hb⟩
  refine ⟨h.mod.then hm (fun k hk hs => by have := h.lo1; have := h.lo2; omega), (hm.block bb (lt_of_heap h.box) (fun e => e.elim h.n1 h.n2)).trans h.box, o1, o2, h.map.mod hm (fun e => e.elim h.n4 h.n5), h.n1, h.n2, h.n3, h.n4, h.n5, h.lo1, h.lo2, fun j b hb => ?_, fun j b hb => ?_, fun j b k hb hk => ?_, fun j b hb => ?_⟩
  · rcases sx j b hb with ⟨rfl, rfl⟩ | ⟨hj, hb'⟩
    · exact ⟨hsb, hsb2, l, hl.mod hm (fun e => e.elim hsb hsb2), hg⟩
    · obtain ⟨p, q, l', hl', hg'⟩ := h.maps j b hb'
      exact ⟨p, q, l', hl'.mod hm (fun e => e.elim p q), hg'⟩
  · rw [List.getElem?_set]
    rcases sx j b hb with ⟨rfl, rfl⟩ | ⟨hj, hb'⟩
    · rw [if_pos rfl, if_pos (by omega)]
    · rw [if_neg (fun e => hj e.symm)]
      exact h.dis j b hb'
  · have hex : ∃ b', sets[k]? = some (some b') := by
      rcases sx j b hb with ⟨rfl, rfl⟩ | ⟨hj, hb'⟩
      · exact hd k hk
      · exact h.clo j b k hb' hk
    obtain ⟨b', hb'⟩ := hex
    by_cases e : i = k
    · subst e; exact ⟨sb, by rw [List.getElem?_set, if_pos rfl, if_pos hio]⟩
    · exact ⟨b', by rw [List.getElem?_set, if_neg e]; exact hb'⟩
  · rcases sx j b hb with ⟨rfl, rfl⟩ | ⟨hj, hb'⟩
    · exact noti
    · exact h.acy j b hb'

/-- The two stores, in both orders. -/
theorem Beh.stores (h : Beh W w bb nm a cap ss mb g1 g2 sets opn) {i : Nat} (hi : i < ss.length) (sb : Nat) :
    let wa := (w.setCell ⟨g2, i, none⟩ (.bool false)).setCell ⟨g1, i, none⟩ (.map (some sb))
    let wb := (w.setCell ⟨g1, i, none⟩ (.map (some sb))).setCell ⟨g2, i, none⟩ (.bool false)
    (Mod (fun k => k = g1 ∨ k = g2) w wa ∧ Own wa 47 1 (some ⟨g1, 0, none⟩) ss.length ss.length ((sets.set i (some sb)).map .map) ∧ Own wa 4 1 (some ⟨g2, 0, none⟩) ss.length ss.length ((opn.set i false).map .bool)) ∧
    (Mod (fun k => k = g1 ∨ k = g2) w wb ∧ Own wb 47 1 (some ⟨g1, 0, none⟩) ss.length ss.length ((sets.set i (some sb)).map .map) ∧ Own wb 4 1 (some ⟨g2, 0, none⟩) ss.length ss.length ((opn.set i false).map .bool)) := by
  intro wa wb
  have n3 := h.n3
  have m1 : ∀ (w : World) (v : Value), Mod (fun k => k = g1) w (w.setCell ⟨g1, i, none⟩ v) := fun w v => Mod.setCell (S := fun k => k = g1) (Mod.refl _ _) (fun _ => rfl) _
  have m2 : ∀ (w : World) (v : Value), Mod (fun k => k = g2) w (w.setCell ⟨g2, i, none⟩ v) := fun w v => Mod.setCell (S := fun k => k = g2) (Mod.refl _ _) (fun _ => rfl) _
  have s1 : ∀ (w : World), Own w 47 1 (some ⟨g1, 0, none⟩) ss.length ss.length (sets.map .map) → Own (w.setCell ⟨g1, i, none⟩ (.map (some sb))) 47 1 (some ⟨g1, 0, none⟩) ss.length ss.length ((sets.set i (some sb)).map .map) := fun w h => by
    have := h.set i (by omega) (.map (some sb))
    rw [Nat.zero_add] at this
    rw [List.map_set]
    exact this
  have s2 : ∀ (w : World), Own w 4 1 (some ⟨g2, 0, none⟩) ss.length ss.length (opn.map .bool) → Own (w.setCell ⟨g2, i, none⟩ (.bool false)) 4 1 (some ⟨g2, 0, none⟩) ss.length ss.length ((opn.set i false).map .bool) := fun w h => by
    have := h.set i (by omega) (.bool false)
    rw [Nat.zero_add] at this
    rw [List.map_set]
    exact this
  have a1 : ∀ k, blk (some ⟨g1, 0, none⟩) k → ¬ k = g2 := fun k hk hs => by rw [blk_some] at hk; omega
  have a2 : ∀ k, blk (some ⟨g2, 0, none⟩) k → ¬ k = g1 := fun k hk hs => by rw [blk_some] at hk; omega
  exact ⟨⟨((m2 w _).mono fun _ _ h => .inr h).trans ((m1 _ _).mono fun _ _ h => .inl h), s1 _ (h.own1.mod (m2 w _) a1), (s2 _ h.own2).mod (m1 _ _) a2⟩,
    ((m1 w _).mono fun _ _ h => .inl h).trans ((m2 _ _).mono fun _ _ h => .inr h), (s1 _ h.own1).mod (m2 _ _) a1, s2 _ (h.own2.mod (m1 w _) a2)⟩

theorem neqSome (b : Nat) (w : World) : (binOp .neq 47 (.map (some b)) (.map none)).run Try.prog w = .ok (.bool true) w := by kernel_rfl
theorem neqNil (w : World) : (binOp .neq 47 (.map none) (.map none)).run Try.prog w = .ok (.bool false) w := by kernel_rfl

/-- What of leaves. -/
def OfAns (W w : World) (bb : Nat) (nm : ByteArray) (a : Option Addr) (cap : Nat) (ss : List Stp) (mb g1 g2 : Nat) (sets : List (Option Nat)) (opn : List Bool) (i : Nat) (e : Ending) (w' : World) : Prop :=
  (∃ sets' b, e = .returned (.tuple #[.map (some b), .bool true]) ∧ Beh W w' bb nm a cap ss mb g1 g2 sets' opn ∧ sets'[i]? = some (some b) ∧ (∀ (j c : Nat), sets[j]? = some (some c) → sets'[j]? = some (some c)) ∧ (∀ (j c : Nat), sets'[j]? = some (some c) → sets[j]? = some (some c) ∨ w.heap.size ≤ c) ∧ Mod (fun k => k = g1 ∨ k = g2) w w') ∨
  (e = .returned (.tuple #[.map none, .bool false]) ∧ (∃ k, TransGen (Ed ss) k k) ∧ Mod (fun k => k = g1 ∨ k = g2) w w')

set_option maxRecDepth 100000 in
theorem of_done (h : Beh W w bb nm a cap ss mb g1 g2 sets opn) {i b : Nat} (hs : sets[i]? = some (some b)) (hb : ss.length ≤ 2199023255552) :
    Calls Try.prog 14 #[.pointer (some ⟨bb, 0, none⟩), .int .i64 i] w fun e w' => OfAns W w bb nm a cap ss mb g1 g2 sets opn i e w' := by
  obtain ⟨c0, c1, c2, c3, c4⟩ := h.cells
  obtain ⟨d1, d2⟩ := h.at1 hs
  have hi : i < ss.length := by rw [← h.len1]; exact (List.getElem?_eq_some_iff.1 hs).1
  have i1 : (i : Int) < (ss.length : Int) := by omega
  have H := hid h
  have Hs := hid hs
  clear h hs
  have ne := neqSome b
  go_enter Try.func14, Try.ntmps14
  go_wp2
  go_ret2
  exact .inl ⟨sets, b, rfl, H.out, Hs.out, fun _ _ h => h, fun _ _ h => .inl h, Mod.refl _ _⟩

set_option maxRecDepth 100000 in
theorem of_open (h : Beh W w bb nm a cap ss mb g1 g2 sets opn) {i : Nat} (hi : i < ss.length) (hs : sets[i]? = some none) (ho : opn[i]? = some true) (hb : ss.length ≤ 2199023255552) (hc : TransGen (Ed ss) i i) :
    Calls Try.prog 14 #[.pointer (some ⟨bb, 0, none⟩), .int .i64 i] w fun e w' => OfAns W w bb nm a cap ss mb g1 g2 sets opn i e w' := by
  obtain ⟨c0, c1, c2, c3, c4⟩ := h.cells
  obtain ⟨d1, d2⟩ := h.at1 hs
  obtain ⟨d3, d4⟩ := h.at2 ho
  have i1 : (i : Int) < (ss.length : Int) := by omega
  have H := hid h
  have Hc := hid hc
  clear h hs ho hc
  have ne := neqNil
  go_enter Try.func14, Try.ntmps14
  go_wp2
  go_ret2
  exact .inr ⟨rfl, ⟨i, Hc.out⟩, Mod.refl _ _⟩
end

end Go.Proofs.Ythbfgeaojgfafaa
