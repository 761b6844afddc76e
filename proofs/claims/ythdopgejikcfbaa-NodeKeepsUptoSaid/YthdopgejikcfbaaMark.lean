/- Marks: stores that change what a list holds, not its shape; the list that Split answers -/
import Derived.Test.YthdopgejikcfbaaTwin
import Derived.Test.YthdopgejikcfbaaEq
namespace Go.Proofs.Ythdopgejikcfbaa
open Go Go.RowKit

theorem infoNode : (Try.prog.info? 26).map (fun i => (i.zero, i.size, i.bytes)) = some (some (.agg #[.bool false, .slice none 0 0, .slice none 0 0, .slice none 0 0]), 4, 80) := by kernel_rfl

/-- A slice into which may be stored. -/
def Wr (w : World) (e : TypeId) (sa : Option Addr) (n : Nat) : Prop := 0 < n → ∃ (g off : Nat) (cur : Array Value), sa = some ⟨g, off, none⟩ ∧ w.heap[g]? = some (Obj.cells cur e (0, 0)) ∧ off + n ≤ cur.size

/-- Each block of cells has its type and its size. -/
def Shp (w w' : World) : Prop := ∀ (b : Nat) (cur : Array Value) (e : TypeId), w.heap[b]? = some (Obj.cells cur e (0, 0)) → ∃ cur' : Array Value, w'.heap[b]? = some (Obj.cells cur' e (0, 0)) ∧ cur'.size = cur.size

theorem Shp.refl (w : World) : Shp w w := fun _ cur _ h => ⟨cur, h, rfl⟩
theorem Shp.trans {a b c : World} (h : Shp a b) (k : Shp b c) : Shp a c := fun g cur e hg => by
  obtain ⟨c1, h1, h2⟩ := h g cur e hg
  obtain ⟨c2, h3, h4⟩ := k g c1 e h1
  exact ⟨c2, h3, h4.trans h2⟩
theorem Shp.of_mod {a b : World} (h : Mod (fun _ => False) a b) : Shp a b := fun g cur _ hg => ⟨cur, (h.block g (lt_of_heap hg) (fun h => h)).trans hg, rfl⟩
theorem Shp.set (w : World) (b j : Nat) (v : Value) : Shp w (w.setCell ⟨b, j, none⟩ v) := fun g cur e hg => by
  by_cases hb : g = b
  · subst hb
    exact ⟨_, heap_setCell_same w g j cur e v hg, by simp⟩
  · exact ⟨cur, (Below.heap_setCell _ _ _ _ hb).trans hg, rfl⟩

theorem Wr.shp {w w' : World} {e : TypeId} {sa : Option Addr} {n : Nat} (h : Wr w e sa n) (hs : Shp w w') : Wr w' e sa n := fun h0 => by
  obtain ⟨g, off, cur, h1, h2, h3⟩ := h h0
  obtain ⟨c', h4, h5⟩ := hs g cur e h2
  exact ⟨g, off, c', h1, h4, by omega⟩
theorem Wr.of_own {w : World} {e : TypeId} {sa : Option Addr} {n cap : Nat} {xs : List Value} (h : Own w e 1 sa n cap xs) : Wr w e sa n := fun h0 => by
  rcases h.2.2.2 with ⟨_, h1⟩ | ⟨g, off, cur, h1, h2, h3, _⟩
  · have := h.2.1; omega
  · exact ⟨g, off, cur, h1, h2, by have := h.2.1; omega⟩

/-- What may be stored into, at place k. -/
theorem Wr.spot {w : World} {e : TypeId} {sa : Option Addr} {n : Nat} (h : Wr w e sa n) {k : Nat} (hk : k < n) : ∃ g off v, sa = some ⟨g, off, none⟩ ∧ w.cell? ⟨g, off + k, none⟩ = some v ∧ w.frozen? ⟨g, off + k, none⟩ = false := by
  obtain ⟨g, off, cur, h1, h2, h3⟩ := h (by omega)
  have hlt : off + k < cur.size := by omega
  refine ⟨g, off, cur[off + k], h1, ?_, frozen_of_row _ _ _ _ _ h2⟩
  rw [cell_of_row _ _ _ _ _ _ h2]
  simp [hlt]

/-- Between the worlds: stores into old blocks from L on, and not into G. -/
structure Mrk (L X G : Nat) (a b : World) : Prop where
  m : Mod (fun k => L ≤ k ∧ k < X ∧ k ≠ G) a b
  s : Shp a b

theorem Mrk.refl (L X G : Nat) (w : World) : Mrk L X G w w := ⟨Mod.refl _ _, Shp.refl _⟩
theorem Mrk.trans {L X G : Nat} {a b c : World} (h : Mrk L X G a b) (k : Mrk L X G b c) : Mrk L X G a c := ⟨h.m.trans k.m, h.s.trans k.s⟩
theorem Mrk.ext {L X G : Nat} {a b c : World} (h : Mrk L X G a b) (k : Mod (fun _ => False) b c) : Mrk L X G a c := h.trans ⟨k.mono (fun _ _ h => h.elim), Shp.of_mod k⟩
theorem Mrk.set {L X G : Nat} {a w : World} (h : Mrk L X G a w) {b : Nat} (hb : L ≤ b ∧ b < X ∧ b ≠ G) (j : Nat) (v : Value) : Mrk L X G a (w.setCell ⟨b, j, none⟩ v) :=
  ⟨h.m.setCell (fun _ => hb) v, h.s.trans (Shp.set w b j v)⟩

/-- A node whose lists may be stored into, and where they lie. -/
structure Mk (w : World) (L X G : Nat) (x : Nd) : Prop where
  k : Wr w 9 x.ka x.keys.length
  v : Wr w 9 x.va x.values.length
  i : Wr w 3 x.ia x.kids.length
  b : ∀ b, x.bs b → L ≤ b ∧ b < X ∧ b ≠ G
  lk : x.keys.length ≤ 8388608
  lv : x.values.length ≤ 8388608
  li : x.kids.length ≤ 8388608

theorem Mk.mrk {w w' : World} {L X G : Nat} {x : Nd} (h : Mk w L X G x) (hm : Mrk L X G w w') : Mk w' L X G x := ⟨h.k.shp hm.s, h.v.shp hm.s, h.i.shp hm.s, h.b, h.lk, h.lv, h.li⟩

theorem cs_len (x : Nd) : (Nd.cs x).length = 4 := rfl
theorem cs_one (x : Nd) : ∀ u ∈ x.cs, u.oneCell' = true := by
  intro u hu
  simp only [Nd.cs, List.mem_cons, List.not_mem_nil, or_false] at hu
  rcases hu with rfl | rfl | rfl | rfl <;> rfl

/-- What Split answers, as a list. -/
structure SplitL (w w' : World) (g : Nat) (xs : List Nd) : Prop where
  lo : 1 ≤ xs.length
  hi : xs.length ≤ 2
  own : Own w' 26 4 (some ⟨g, 0, none⟩) xs.length xs.length (xs.flatMap Nd.cs)
  gd : ∀ x ∈ xs, Gd w' x
  bs : ∀ x ∈ xs, ∀ b, x.bs b → w.heap.size ≤ b ∧ b ≠ g
  sz : ∀ x ∈ xs, x.keys.length ≤ 8388608 ∧ x.values.length ≤ 8388608 ∧ x.kids.length ≤ 8388608
  mod : Mod (fun _ => False) w w'
  gl : w.heap.size ≤ g

def SplitA (w : World) (e : Ending) (w' : World) : Prop := ∃ g xs, e = .returned (.slice (some ⟨g, 0, none⟩) xs.length xs.length) ∧ SplitL w w' g xs

theorem has_sz {m : Nd} {leaf : Bool} {es : List Ent} (h : Has m leaf es) (hl : es.length ≤ 8388608) : m.keys.length ≤ 8388608 ∧ m.values.length ≤ 8388608 ∧ m.kids.length ≤ 8388608 := by
  obtain ⟨h1, h2, h3⟩ := h.len_le
  exact ⟨by omega, by omega, by omega⟩

theorem split_list {w w' : World} {leaf : Bool} {es : List Ent} {e : Ending} (hl : es.length ≤ 8388608) (h : SplitAns w leaf es e w') : SplitA w e w' := by
  obtain ⟨hm, g, hg, h⟩ := h
  rcases h with ⟨m, _, hh, gd, hb, hr, rfl⟩ | ⟨i, m, q, _, hh, hq, gd, gq, hb, hbq, hr, rfl⟩
  · refine ⟨g, [m], rfl, by simp, by simp, ?_, ?_, ?_, ?_, hm, hg⟩
    · exact ⟨rfl, by simp, by unfold maxLen; simp, .inr ⟨g, 0, _, rfl, hr, by simp [Nd.cs], by simp [Nd.cs]⟩⟩
    · intro x hx; rw [List.mem_singleton.1 hx]; exact gd
    · intro x hx; rw [List.mem_singleton.1 hx]; exact hb
    · intro x hx; rw [List.mem_singleton.1 hx]; exact has_sz hh hl
  · refine ⟨g, [m, q], rfl, by simp, by simp, ?_, ?_, ?_, ?_, hm, hg⟩
    · exact ⟨rfl, by simp, by unfold maxLen; simp, .inr ⟨g, 0, _, rfl, hr, by simp [Nd.cs], by simp [Nd.cs]⟩⟩
    · intro x hx
      simp only [List.mem_cons, List.not_mem_nil, or_false] at hx
      rcases hx with rfl | rfl
      · exact gd
      · exact gq
    · intro x hx
      simp only [List.mem_cons, List.not_mem_nil, or_false] at hx
      rcases hx with rfl | rfl
      · exact fun b h => ⟨(hb b h).1, (hb b h).2.1⟩
      · exact hbq
    · intro x hx
      simp only [List.mem_cons, List.not_mem_nil, or_false] at hx
      rcases hx with rfl | rfl
      · exact has_sz hh (by rw [List.length_take]; omega)
      · exact has_sz hq (by rw [List.length_drop]; omega)

theorem own_some {w : World} {e : TypeId} {size n cap : Nat} {sa : Option Addr} {xs : List Value} (h : Own w e size sa n cap xs) (h0 : 0 < n) : ∃ g off, sa = some ⟨g, off, none⟩ := by
  rcases h.2.2.2 with ⟨_, h1⟩ | ⟨g, off, cur, h1, _⟩
  · have := h.2.1; omega
  · exact ⟨g, off, h1⟩

/-- A twin is a node where n is one. -/
theorem Gd.node {w v : World} {m n : Nd} (g : Gd w m) (h : NdAt v n) (h2 : m.keys = n.keys) (h3 : m.values = n.values) (h4 : m.kids = n.kids) : NdAt w m :=
  ⟨g.k.lies, g.v.lies, g.i.lies, by rw [h2]; exact h.bk, by rw [h3]; exact h.bv, by rw [h4]; exact h.bi, by rw [h2]; exact h.sk, by rw [h3]; exact h.sv, by rw [h4]; exact h.rk⟩

theorem Gd.mark {w : World} {x : Nd} {L X G : Nat} (g : Gd w x) (hb : ∀ b, x.bs b → L ≤ b ∧ b < X ∧ b ≠ G) (h : x.keys.length ≤ 8388608 ∧ x.values.length ≤ 8388608 ∧ x.kids.length ≤ 8388608) : Mk w L X G x :=
  ⟨.of_own g.k, .of_own g.v, .of_own g.i, hb, h.1, h.2.1, h.2.2⟩

theorem equal_same {w : World} {a n : Nd} (ha : NdAt w a) (hn : NdAt w n) (h1 : a.leaf = n.leaf) (h2 : a.keys = n.keys) (h3 : a.values = n.values) (h4 : a.kids = n.kids) :
    Calls Try.prog 21 #[.agg #[.bool a.leaf, .slice a.ka a.keys.length a.kc, .slice a.va a.values.length a.vc, .slice a.ia a.kids.length a.ic], .agg #[.bool n.leaf, .slice n.ka n.keys.length n.kc, .slice n.va n.values.length n.vc, .slice n.ia n.kids.length n.ic]] w fun e w' => e = .returned (.bool true) ∧ Mod (fun _ => False) w w' := by
  obtain ⟨l, ks, vs, is, ka, kc, va, vc, ia, ic⟩ := a
  obtain ⟨l', ks', vs', is', kb, kd, vb, vd, ib, id⟩ := n
  simp only at h1 h2 h3 h4
  subst h1 h2 h3 h4
  exact equal_any ha hn

end Go.Proofs.Ythdopgejikcfbaa
