/- The law's ref (printed by genref23.py) -/
import Derived.Test.YtigoikepcbbhjaaAuN
namespace Go.Proofs.Ytigoikepcbbhjaa
open Go Go.RowKit

variable {v0 v1 v2 v3 v4 v5 v6 v7 v8 v9 v10 v11 v12 v13 v14 : Value}
variable {ha la ga aa oa ta ia : Option Addr} {hs : List Hl} {ls : List Lv} {gs : List Gd} {acs : List Ac} {os : List Od} {ts : List Lt} {ins : List In}

theorem take_one {α : Type} {l : List α} {k : Nat} {x : α} (hx : l[k]? = some x) : l.take (k + 1) = l.take k ++ [x] := by
  obtain ⟨hk, he⟩ := List.getElem?_eq_some_iff.1 hx
  rw [List.take_succ_eq_append_getElem hk, he]

/-- The goods' lines lie. -/
def GLn (w : World) (gs : List Gd) : Prop := ∀ x ∈ gs, Lies w 2 Ln.cs x.la x.ls ∧ x.ls.length ≤ 140737488351232

theorem froz8 {V : World} {b : Nat} {T : TypeId} {u0 u1 u2 u3 u4 u5 u6 u7 : Value} (h : V.heap[b]? = some (.cells #[u0, u1, u2, u3, u4, u5, u6, u7] T (0, 0))) :
    V.frozen? ⟨b, 0, none⟩ = false ∧ V.frozen? ⟨b, 1, none⟩ = false ∧ V.frozen? ⟨b, 2, none⟩ = false ∧ V.frozen? ⟨b, 3, none⟩ = false ∧ V.frozen? ⟨b, 4, none⟩ = false ∧ V.frozen? ⟨b, 5, none⟩ = false ∧ V.frozen? ⟨b, 6, none⟩ = false ∧ V.frozen? ⟨b, 7, none⟩ = false :=
  ⟨frozen_of_row _ _ 0 _ _ h, frozen_of_row _ _ 1 _ _ h, frozen_of_row _ _ 2 _ _ h, frozen_of_row _ _ 3 _ _ h, frozen_of_row _ _ 4 _ _ h, frozen_of_row _ _ 5 _ _ h, frozen_of_row _ _ 6 _ _ h, frozen_of_row _ _ 7 _ _ h⟩
theorem set8_0 {V : World} {b : Nat} {T : TypeId} {u0 u1 u2 u3 u4 u5 u6 u7 : Value} (h : V.heap[b]? = some (.cells #[u0, u1, u2, u3, u4, u5, u6, u7] T (0, 0))) (z : Value) : (V.setCell ⟨b, 0, none⟩ z).heap[b]? = some (.cells #[z, u1, u2, u3, u4, u5, u6, u7] T (0, 0)) := heap_setCell_same V b 0 _ T z h
theorem set8_1 {V : World} {b : Nat} {T : TypeId} {u0 u1 u2 u3 u4 u5 u6 u7 : Value} (h : V.heap[b]? = some (.cells #[u0, u1, u2, u3, u4, u5, u6, u7] T (0, 0))) (z : Value) : (V.setCell ⟨b, 1, none⟩ z).heap[b]? = some (.cells #[u0, z, u2, u3, u4, u5, u6, u7] T (0, 0)) := heap_setCell_same V b 1 _ T z h
theorem set8_2 {V : World} {b : Nat} {T : TypeId} {u0 u1 u2 u3 u4 u5 u6 u7 : Value} (h : V.heap[b]? = some (.cells #[u0, u1, u2, u3, u4, u5, u6, u7] T (0, 0))) (z : Value) : (V.setCell ⟨b, 2, none⟩ z).heap[b]? = some (.cells #[u0, u1, z, u3, u4, u5, u6, u7] T (0, 0)) := heap_setCell_same V b 2 _ T z h
theorem set8_3 {V : World} {b : Nat} {T : TypeId} {u0 u1 u2 u3 u4 u5 u6 u7 : Value} (h : V.heap[b]? = some (.cells #[u0, u1, u2, u3, u4, u5, u6, u7] T (0, 0))) (z : Value) : (V.setCell ⟨b, 3, none⟩ z).heap[b]? = some (.cells #[u0, u1, u2, z, u4, u5, u6, u7] T (0, 0)) := heap_setCell_same V b 3 _ T z h
theorem set8_4 {V : World} {b : Nat} {T : TypeId} {u0 u1 u2 u3 u4 u5 u6 u7 : Value} (h : V.heap[b]? = some (.cells #[u0, u1, u2, u3, u4, u5, u6, u7] T (0, 0))) (z : Value) : (V.setCell ⟨b, 4, none⟩ z).heap[b]? = some (.cells #[u0, u1, u2, u3, z, u5, u6, u7] T (0, 0)) := heap_setCell_same V b 4 _ T z h
theorem set8_5 {V : World} {b : Nat} {T : TypeId} {u0 u1 u2 u3 u4 u5 u6 u7 : Value} (h : V.heap[b]? = some (.cells #[u0, u1, u2, u3, u4, u5, u6, u7] T (0, 0))) (z : Value) : (V.setCell ⟨b, 5, none⟩ z).heap[b]? = some (.cells #[u0, u1, u2, u3, u4, z, u6, u7] T (0, 0)) := heap_setCell_same V b 5 _ T z h
theorem set8_6 {V : World} {b : Nat} {T : TypeId} {u0 u1 u2 u3 u4 u5 u6 u7 : Value} (h : V.heap[b]? = some (.cells #[u0, u1, u2, u3, u4, u5, u6, u7] T (0, 0))) (z : Value) : (V.setCell ⟨b, 6, none⟩ z).heap[b]? = some (.cells #[u0, u1, u2, u3, u4, u5, z, u7] T (0, 0)) := heap_setCell_same V b 6 _ T z h
theorem set8_7 {V : World} {b : Nat} {T : TypeId} {u0 u1 u2 u3 u4 u5 u6 u7 : Value} (h : V.heap[b]? = some (.cells #[u0, u1, u2, u3, u4, u5, u6, u7] T (0, 0))) (z : Value) : (V.setCell ⟨b, 7, none⟩ z).heap[b]? = some (.cells #[u0, u1, u2, u3, u4, u5, u6, z] T (0, 0)) := heap_setCell_same V b 7 _ T z h
theorem Hl.one (x : Hl) : ∀ u ∈ x.cs, u.oneCell' = true := by
  intro u hu
  simp only [Hl.cs, List.mem_cons, List.not_mem_nil, or_false] at hu
  rcases hu with rfl | rfl | rfl <;> rfl
theorem Lv.one (x : Lv) : ∀ u ∈ x.cs, u.oneCell' = true := by
  intro u hu
  simp only [Lv.cs, List.mem_cons, List.not_mem_nil, or_false] at hu
  rcases hu with rfl | rfl | rfl | rfl | rfl | rfl <;> rfl
theorem AP.one (x : AP) : ∀ u ∈ x.cs, u.oneCell' = true := by
  intro u hu
  simp only [AP.cs, List.mem_cons, List.not_mem_nil, or_false] at hu
  rcases hu with rfl | rfl | rfl | rfl | rfl | rfl | rfl | rfl | rfl <;> rfl
theorem OP.one (x : OP) : ∀ u ∈ x.cs, u.oneCell' = true := by
  intro u hu
  simp only [OP.cs, List.mem_cons, List.not_mem_nil, or_false] at hu
  rcases hu with rfl | rfl | rfl | rfl | rfl | rfl <;> rfl
theorem KP.one (x : KP) : ∀ u ∈ x.cs, u.oneCell' = true := by
  intro u hu
  simp only [KP.cs, List.mem_cons, List.not_mem_nil, or_false] at hu
  rcases hu with rfl | rfl | rfl | rfl | rfl | rfl | rfl | rfl <;> rfl
theorem IP.one (x : IP) : ∀ u ∈ x.cs, u.oneCell' = true := by
  intro u hu
  simp only [IP.cs, List.mem_cons, List.not_mem_nil, or_false] at hu
  rcases hu with rfl | rfl | rfl | rfl | rfl | rfl <;> rfl
theorem infoRHELD : (Try.prog.info? 56).map (fun i => (i.zero, i.size, i.bytes)) = some (some (.agg #[.int .i64 0, .int .i64 0, .int .i64 0]), 3, 24) := by kernel_rfl
theorem infoRLEVEL : (Try.prog.info? 59).map (fun i => (i.zero, i.size, i.bytes)) = some (some (.agg #[.int .i64 0, .int .i64 0, .int .i64 0, .int .i64 0, .int .i64 0, .int .i64 0]), 6, 48) := by kernel_rfl
theorem infoRGOODS : (Try.prog.info? 67).map (fun i => (i.zero, i.size, i.bytes)) = some (some (.agg #[.int .i64 0, .int .i64 0, .slice none 0 0]), 3, 40) := by kernel_rfl
theorem infoRACC : (Try.prog.info? 72).map (fun i => (i.zero, i.size, i.bytes)) = some (some (.agg #[.int .i64 0, .int .i64 0, .int .i64 0, .int .i64 0, .int .i64 0, .int .i64 0, .int .i64 0, .int .i64 0, .int .i64 0]), 9, 72) := by kernel_rfl
theorem infoRORD : (Try.prog.info? 76).map (fun i => (i.zero, i.size, i.bytes)) = some (some (.agg #[.int .i64 0, .int .i64 0, .string ⟨#[]⟩, .slice none 0 0, .int .i64 0, .int .i64 0]), 6, 72) := by kernel_rfl
theorem infoRLETTER : (Try.prog.info? 79).map (fun i => (i.zero, i.size, i.bytes)) = some (some (.agg #[.int .i64 0, .int .i64 0, .int .i64 0, .int .i64 0, .int .i64 0, .int .i64 0, .int .i64 0, .string ⟨#[]⟩]), 8, 72) := by kernel_rfl
theorem infoRINST : (Try.prog.info? 88).map (fun i => (i.zero, i.size, i.bytes)) = some (some (.agg #[.int .i64 0, .int .i64 0, .bool false, .slice none 0 0, .slice none 0 0, .pointer none]), 6, 80) := by kernel_rfl

def GdS (b : Nat) (xo xs : Int) (xla : Option Addr) (n xlc : Nat) (w : World) : Prop := w.cell? ⟨b, 0, none⟩ = some (.int .i64 xo) ∧ w.cell? ⟨b, 1, none⟩ = some (.int .i64 xs) ∧ w.cell? ⟨b, 2, none⟩ = some (.slice xla n xlc)

theorem set_other {V : World} {b c : Nat} {o : Nat} {x : Obj} (h : V.heap[b]? = some x) (hne : b ≠ c) (u : Value) : (V.setCell ⟨c, o, none⟩ u).heap[b]? = some x := by
  rw [Below.heap_setCell _ _ _ _ hne]; exact h

theorem Gd.one (x : Gd) : ∀ u ∈ x.cs, u.oneCell' = true := by
  intro u hu
  simp only [Gd.cs, List.mem_cons, List.not_mem_nil, or_false] at hu
  rcases hu with rfl | rfl | rfl <;> rfl

theorem goods_step {W2 wo D w3 Bw w6 : World} {k cap' cap3 : Nat} {O n : Nat} {sa sa' sa3 : Option Addr} {xo xs : Int} {xla : Option Addr} {xlc : Nat} {xls : List Ln} {gs yl : List Gd} {c : Value} {b0 b1 b3 b4 b5 b6 b7 u2 : Value} {T : TypeId}
    (hq : O < W2.heap.size) (hr : Mod (fun j => j = O) W2 wo) (ha : Mod (fun _ => False) wo D) (_hD : D.heap.size = wo.heap.size + 1) (hb3 : Mod (fun _ => False) w3 Bw) (h3 : Mod (fun _ => False) D w3)
    (ho6 : Own w6 67 3 sa' (k + 1) cap' (yl.flatMap Gd.cs ++ Gd.cs ⟨xo, xs, sa3, cap3, xls⟩)) (h6 : Mod (blk sa) Bw w6) (hbn : ∀ b, blk sa' b → blk sa b ∨ Bw.heap.size ≤ b) (h7 : Mod (fun j => j = O) w6 (w6.setCell ⟨O, 2, none⟩ (.slice sa' (k + 1) cap')))
    (hu6 : w6.heap[O]? = some (.cells #[b0, b1, u2, b3, b4, b5, b6, b7] T (0, 0))) (hnw : ∀ b, blk sa b → W2.heap.size ≤ b) (hsw : ∀ b, blk sa b → W2.heap.size ≤ b ∧ b < wo.heap.size)
    (hyl : yl.length = k) (hyp : yl.map Gd.pl = (gs.map Gd.pl).take k) (htk : (gs.map Gd.pl).take (k + 1) = (gs.map Gd.pl).take k ++ [Gd.pl ⟨xo, xs, xla, xlc, xls⟩]) (hya : GLn D yl) (hyn : ∀ y ∈ yl, ∀ b, blk y.la b → W2.heap.size ≤ b)
    (hl3 : Lies w3 2 Ln.cs sa3 xls) (hn3 : ∀ b, blk sa3 b → D.heap.size ≤ b) (hnl : xls.length ≤ 140737488351232) (hlt : k < n) (hc : c = .int .i64 ((k + 1 : Nat) : Int)) (hyd : ∀ y ∈ yl, 0 < y.ls.length → ∀ b, blk y.la b → ¬ blk sa b) :
    ∃ (k' : Nat) (s : Option Addr) (cp : Nat), k' ≤ n ∧ c = .int .i64 (k' : Int) ∧ (∃ zl : List Gd, zl.length = k' ∧ zl.map Gd.pl = (gs.map Gd.pl).take k' ∧ GLn (w6.setCell ⟨O, 2, none⟩ (.slice sa' (k + 1) cap')) zl ∧ (∀ y ∈ zl, ∀ b, blk y.la b → W2.heap.size ≤ b) ∧ (∀ y ∈ zl, 0 < y.ls.length → ∀ b, blk y.la b → ¬ blk s b) ∧ Own (w6.setCell ⟨O, 2, none⟩ (.slice sa' (k + 1) cap')) 67 3 s k' cp (zl.flatMap Gd.cs)) ∧ (∀ b, blk s b → W2.heap.size ≤ b) ∧ Mod (fun j => j = O) W2 (w6.setCell ⟨O, 2, none⟩ (.slice sa' (k + 1) cap')) ∧ (w6.setCell ⟨O, 2, none⟩ (.slice sa' (k + 1) cap')).heap[O]? = some (.cells #[b0, b1, .slice s k' cp, b3, b4, b5, b6, b7] T (0, 0)) := by
  have hs3 := h3.size
  have hsb := hb3.size
  have hsd := ha.size
  have hsr := hr.size
  have h6w : Mod (blk sa) D w6 := ((h3.trans hb3).mono (fun _ _ h => h.elim)).trans h6
  have hall : ∀ (la : Option Addr) (xs' : List Ln), Lies Bw 2 Ln.cs la xs' → (0 < xs'.length → ∀ b, blk la b → ¬ blk sa b) → (0 < xs'.length → ∀ b, blk la b → W2.heap.size ≤ b) → Lies (w6.setCell ⟨O, 2, none⟩ (.slice sa' (k + 1) cap')) 2 Ln.cs la xs' := fun la xs' hl hd hb =>
    (hl.mod h6 (fun h0 b hb => hd h0 b hb)).mod h7 (fun h0 b hb' he => by have := hb h0 b hb'; omega)
  have hyb : GLn Bw yl := fun y hy => ⟨((hya y hy).1.ext h3).ext hb3, (hya y hy).2⟩
  have hl3b : Lies Bw 2 Ln.cs sa3 xls := hl3.ext hb3
  refine ⟨k + 1, sa', cap', by omega, hc, ⟨yl ++ [⟨xo, xs, sa3, cap3, xls⟩], by simp [hyl], by rw [List.map_append, hyp, htk]; rfl, fun y hy => ?_, fun y hy b hb => ?_, fun y hy h0 b hb hbs => ?_, ?_⟩, fun b hb => ?_, ?_, ?_⟩
  · rcases List.mem_append.1 hy with h | h
    · exact ⟨hall _ _ (hyb y h).1 (fun h0 b hb => hyd y h h0 b hb) (fun _ b hb => hyn y h b hb), (hyb y h).2⟩
    · rw [List.mem_singleton] at h
      subst h
      exact ⟨hall _ _ hl3b (fun _ b hb hs => by have := hn3 b hb; have := (hsw b hs).2; omega) (fun _ b hb => by have := hn3 b hb; omega), hnl⟩
  · rcases List.mem_append.1 hy with h | h
    · exact hyn y h b hb
    · rw [List.mem_singleton] at h
      subst h
      have := hn3 b hb
      omega
  · rcases List.mem_append.1 hy with h | h
    · have h1 := (hyb y h).1.lt b h0 hb
      rcases hbn b hbs with h2 | h2
      · exact hyd y h h0 b hb h2
      · omega
    · rw [List.mem_singleton] at h
      subst h
      have h1 := hl3b.lt b h0 hb
      rcases hbn b hbs with h2 | h2
      · have := hn3 b hb
        have := (hsw b h2).2
        omega
      · omega
  · rw [List.flatMap_append, List.flatMap_singleton]
    refine ho6.mod h7 (fun b hb he => ?_)
    rcases hbn b hb with h2 | h2
    · have := hnw b h2
      omega
    · omega
  · rcases hbn b hb with h2 | h2
    · exact hnw b h2
    · omega
  · exact ((hr.trans (ha.mono (fun _ _ h => h.elim))).then h6w (fun i hi h => by have := hnw i h; omega)).trans h7
  · exact heap_setCell_same w6 O 2 _ T _ hu6

/-- What ref answers: the document's records, as they lie. -/
structure RL (w : World) (ha la ga aa oa ta ia : Option Addr) (hs : List Hl) (ls : List Lv) (gs : List Gd) (acs : List AP) (os : List OP) (ts : List KP) (ins : List IP) : Prop where
  h : Lies w 3 Hl.cs ha hs
  l : Lies w 6 Lv.cs la ls
  g : GL w ga gs
  a : Lies w 9 AP.cs aa acs
  o : Lies w 6 OP.cs oa os
  t : Lies w 8 KP.cs ta ts
  i : Lies w 6 IP.cs ia ins

def RefAns (w : World) (hs : List Hl) (ls : List Lv) (gs : List Gd) (acs : List Ac) (os : List Od) (next : Int) (ts : List Lt) (ins : List In) (e : Ending) (w' : World) : Prop :=
  ∃ (bha bla bga baa boa bta bia : Option Addr) (bhc blc bgc bac boc btc bic : Nat) (yl : List Gd), yl.map Gd.pl = gs.map Gd.pl ∧ yl.length = gs.length ∧
    e = .returned (.agg #[.slice bha hs.length bhc, .slice bla ls.length blc, .slice bga gs.length bgc, .slice baa acs.length bac, .slice boa os.length boc, .int .i64 next, .slice bta ts.length btc, .slice bia ins.length bic]) ∧ RL w' bha bla bga baa boa bta bia hs ls yl (acs.map Ac.pl) (os.map Od.pl) (ts.map Lt.pl) (ins.map In.pl) ∧ Mod (fun _ => False) w w'

set_option maxRecDepth 100000 in
set_option maxHeartbeats 16000000 in
theorem ref_any {w : World} (hc lc gc ac oc tc ic : Nat) (next : Int) (t : TL w ha la ga aa oa ta ia hs ls gs acs os ts ins) :
    Calls Try.prog 4 #[.agg #[v0, v1, v2, .slice ha hs.length hc, .slice la ls.length lc, .slice ga gs.length gc, .slice aa acs.length ac, v7, v8, .slice oa os.length oc, v10, .int .i64 next, .slice ta ts.length tc, v13, .slice ia ins.length ic]] w fun e w' => RefAns w hs ls gs acs os next ts ins e w' := by
  obtain ⟨i0, hi0, hz00, hz01, hz02⟩ := info_parts infoRHELD
  obtain ⟨i1, hi1, hz10, hz11, hz12⟩ := info_parts infoRLEVEL
  obtain ⟨i2, hi2, hz20, hz21, hz22⟩ := info_parts infoRGOODS
  obtain ⟨i3, hi3, hz30, hz31, hz32⟩ := info_parts infoRACC
  obtain ⟨i4, hi4, hz40, hz41, hz42⟩ := info_parts infoRORD
  obtain ⟨i5, hi5, hz50, hz51, hz52⟩ := info_parts infoRLETTER
  obtain ⟨i6, hi6, hz60, hz61, hz62⟩ := info_parts infoRINST
  obtain ⟨a1, a2, a3⟩ := alloc3 w (.cells #[v0, v1, v2, .slice ha hs.length hc, .slice la ls.length lc, .slice ga gs.length gc, .slice aa acs.length ac, v7, v8, .slice oa os.length oc, v10, .int .i64 next, .slice ta ts.length tc, v13, .slice ia ins.length ic] 35) (.cells #[.slice none 0 0, .slice none 0 0, .slice none 0 0, .slice none 0 0, .slice none 0 0, .int .i64 0, .slice none 0 0, .slice none 0 0] 44) (.cells #[.slice none 0 0, .slice none 0 0, .slice none 0 0, .slice none 0 0, .slice none 0 0, .int .i64 next, .slice none 0 0, .slice none 0 0] 44)
  have hmq : Mod (fun _ => False) w (((w.alloc (.cells #[v0, v1, v2, .slice ha hs.length hc, .slice la ls.length lc, .slice ga gs.length gc, .slice aa acs.length ac, v7, v8, .slice oa os.length oc, v10, .int .i64 next, .slice ta ts.length tc, v13, .slice ia ins.length ic] 35)).alloc (.cells #[.slice none 0 0, .slice none 0 0, .slice none 0 0, .slice none 0 0, .slice none 0 0, .int .i64 0, .slice none 0 0, .slice none 0 0] 44)).alloc (.cells #[.slice none 0 0, .slice none 0 0, .slice none 0 0, .slice none 0 0, .slice none 0 0, .int .i64 next, .slice none 0 0, .slice none 0 0] 44)) := (((Mod.refl _ _).alloc _).alloc _).alloc _
  have hsz : (((w.alloc (.cells #[v0, v1, v2, .slice ha hs.length hc, .slice la ls.length lc, .slice ga gs.length gc, .slice aa acs.length ac, v7, v8, .slice oa os.length oc, v10, .int .i64 next, .slice ta ts.length tc, v13, .slice ia ins.length ic] 35)).alloc (.cells #[.slice none 0 0, .slice none 0 0, .slice none 0 0, .slice none 0 0, .slice none 0 0, .int .i64 0, .slice none 0 0, .slice none 0 0] 44)).alloc (.cells #[.slice none 0 0, .slice none 0 0, .slice none 0 0, .slice none 0 0, .slice none 0 0, .int .i64 next, .slice none 0 0, .slice none 0 0] 44)).heap.size = w.heap.size + 3 := by simp
  have HMq0 := hid hmq
  have HBq0 := hid a1
  have HRs0 := hid a2
  have HOut0 : Hid ((((w.alloc (.cells #[v0, v1, v2, .slice ha hs.length hc, .slice la ls.length lc, .slice ga gs.length gc, .slice aa acs.length ac, v7, v8, .slice oa os.length oc, v10, .int .i64 next, .slice ta ts.length tc, v13, .slice ia ins.length ic] 35)).alloc (.cells #[.slice none 0 0, .slice none 0 0, .slice none 0 0, .slice none 0 0, .slice none 0 0, .int .i64 0, .slice none 0 0, .slice none 0 0] 44)).alloc (.cells #[.slice none 0 0, .slice none 0 0, .slice none 0 0, .slice none 0 0, .slice none 0 0, .int .i64 next, .slice none 0 0, .slice none 0 0] 44)).heap[w.heap.size + 1 + 1]? = some (.cells #[.slice none 0 0, .slice none 0 0, .slice none 0 0, .slice none 0 0, .slice none 0 0, .int .i64 next, .slice none 0 0, .slice none 0 0] 44 (0, 0))) := hid a3
  have HSq0 : Hid (w.heap.size + 1 + 1 < (((w.alloc (.cells #[v0, v1, v2, .slice ha hs.length hc, .slice la ls.length lc, .slice ga gs.length gc, .slice aa acs.length ac, v7, v8, .slice oa os.length oc, v10, .int .i64 next, .slice ta ts.length tc, v13, .slice ia ins.length ic] 35)).alloc (.cells #[.slice none 0 0, .slice none 0 0, .slice none 0 0, .slice none 0 0, .slice none 0 0, .int .i64 0, .slice none 0 0, .slice none 0 0] 44)).alloc (.cells #[.slice none 0 0, .slice none 0 0, .slice none 0 0, .slice none 0 0, .slice none 0 0, .int .i64 next, .slice none 0 0, .slice none 0 0] 44)).heap.size) := hid (by omega)
  have HT := hid t
  have bj := row_at (j := 3) (v := .slice ha hs.length hc) a1 rfl
  have bn := row_at (j := 11) (v := .int .i64 next) a1 rfl
  clear hmq a1 a2 a3 hsz t
  go_enter Try.func4, Try.ntmps4
  go_wp2_with fail
  clear bj bn
  generalize (((w.alloc (.cells #[v0, v1, v2, .slice ha hs.length hc, .slice la ls.length lc, .slice ga gs.length gc, .slice aa acs.length ac, v7, v8, .slice oa os.length oc, v10, .int .i64 next, .slice ta ts.length tc, v13, .slice ia ins.length ic] 35)).alloc (.cells #[.slice none 0 0, .slice none 0 0, .slice none 0 0, .slice none 0 0, .slice none 0 0, .int .i64 0, .slice none 0 0, .slice none 0 0] 44)).alloc (.cells #[.slice none 0 0, .slice none 0 0, .slice none 0 0, .slice none 0 0, .slice none 0 0, .int .i64 next, .slice none 0 0, .slice none 0 0] 44)) = W0 at *
  go_loopw [24] (fun c wr => ∃ (k : Nat) (sa : Option Addr) (cap : Nat), k ≤ hs.length ∧ c = .int .i64 (k : Int) ∧ Own wr 56 3 sa k cap (((hs).take k).flatMap Hl.cs) ∧ (∀ b, blk sa b → W0.heap.size ≤ b) ∧ Mod (fun j => j = w.heap.size + 1 + 1) W0 wr ∧ wr.heap[w.heap.size + 1 + 1]? = some (.cells #[.slice sa k cap, .slice none 0 0, .slice none 0 0, .slice none 0 0, .slice none 0 0, .int .i64 next, .slice none 0 0, .slice none 0 0] 44 (0, 0))) (fun c _ => hs.length - (intOf c).toNat)
  case atStart => exact ⟨0, none, 0, Nat.zero_le _, rfl, Own.nil _ _ _, (fun b hb => (blk_none b hb).elim), Mod.refl _ _, HOut0.out⟩
  case round =>
    obtain ⟨k, sa, cap, hk, rfl, hown, hnew, hm, hob⟩ := hrel
    have HOw := hid hown
    have HNw := hid hnew
    have HMr := hid hm
    have HOb := hid hob
    clear hown hnew hm hob
    obtain ⟨wo, rfl⟩ : ∃ y : World, y = wr := ⟨wr, rfl⟩
    have HMw : Hid (Mod (fun _ => False) w wo) := hid (HMq0.out.then HMr.out (fun i hi h => by omega))
    have HBx := hid ((HMr.out.block _ (lt_of_heap HBq0.out) (fun h => by omega)).trans HBq0.out)
    by_cases hlt : k < hs.length
    case neg =>
      have hke : k = hs.length := by omega
      subst hke
      have HFin0 : Hid (Lies wo 3 Hl.cs sa (hs)) := hid (by have := HOw.out; rw [List.take_of_length_le (by simp)] at this; exact Own.lies (by simpa using this))
      have HLow0 : Hid (∀ b, blk sa b → w.heap.size + 1 + 1 < b) := hid (fun b hb => by have := HNw.out b hb; have := HSq0.out; omega)
      obtain ⟨bha, hbe⟩ : ∃ y, y = sa := ⟨_, rfl⟩
      subst hbe
      obtain ⟨bhc, hbe⟩ : ∃ y, y = cap := ⟨_, rfl⟩
      subst hbe
      have HSq1 : Hid (w.heap.size + 1 + 1 < wo.heap.size) := hid (by have := HSq0.out; have := HMr.out.size; omega)
      obtain ⟨W1, rfl⟩ : ∃ y : World, y = wo := ⟨wo, rfl⟩
      have HRs1 := hid ((HMr.out.block _ (lt_of_heap HRs0.out) (fun h => by omega)).trans HRs0.out)
      have HMq1 := HMw
      have HBq1 := HBx
      have HOut1 := HOb
      clear HMw HBx HOb HMr HOw HNw
      have bj := row_at (j := 4) (v := .slice la ls.length lc) HBq1.out rfl
      go_wp2_with fail
      clear bj
      go_loopw [44] (fun c wr => ∃ (k : Nat) (sa : Option Addr) (cap : Nat), k ≤ ls.length ∧ c = .int .i64 (k : Int) ∧ Own wr 59 6 sa k cap (((ls).take k).flatMap Lv.cs) ∧ (∀ b, blk sa b → W1.heap.size ≤ b) ∧ Mod (fun j => j = w.heap.size + 1 + 1) W1 wr ∧ wr.heap[w.heap.size + 1 + 1]? = some (.cells #[.slice bha hs.length bhc, .slice sa k cap, .slice none 0 0, .slice none 0 0, .slice none 0 0, .int .i64 next, .slice none 0 0, .slice none 0 0] 44 (0, 0))) (fun c _ => ls.length - (intOf c).toNat)
      case atStart => exact ⟨0, none, 0, Nat.zero_le _, rfl, Own.nil _ _ _, (fun b hb => (blk_none b hb).elim), Mod.refl _ _, HOut1.out⟩
      case round =>
        obtain ⟨k, sa, cap, hk, rfl, hown, hnew, hm, hob⟩ := hrel
        have HOw := hid hown
        have HNw := hid hnew
        have HMr := hid hm
        have HOb := hid hob
        clear hown hnew hm hob
        obtain ⟨wo, rfl⟩ : ∃ y : World, y = wr := ⟨wr, rfl⟩
        have HMw : Hid (Mod (fun _ => False) w wo) := hid (HMq1.out.then HMr.out (fun i hi h => by omega))
        have HBx := hid ((HMr.out.block _ (lt_of_heap HBq1.out) (fun h => by omega)).trans HBq1.out)
        by_cases hlt : k < ls.length
        case neg =>
          have hke : k = ls.length := by omega
          subst hke
          have HFin1 : Hid (Lies wo 6 Lv.cs sa (ls)) := hid (by have := HOw.out; rw [List.take_of_length_le (by simp)] at this; exact Own.lies (by simpa using this))
          have HLow1 : Hid (∀ b, blk sa b → w.heap.size + 1 + 1 < b) := hid (fun b hb => by have := HNw.out b hb; have := HSq1.out; omega)
          have HFin0' := hid (HFin0.out.mod HMr.out (fun _ i hi h => by have := HLow0.out i hi; omega))
          clear HFin0
          have HFin0 := HFin0'
          clear HFin0'
          obtain ⟨bla, hbe⟩ : ∃ y, y = sa := ⟨_, rfl⟩
          subst hbe
          obtain ⟨blc, hbe⟩ : ∃ y, y = cap := ⟨_, rfl⟩
          subst hbe
          have HSq2 : Hid (w.heap.size + 1 + 1 < wo.heap.size) := hid (by have := HSq1.out; have := HMr.out.size; omega)
          obtain ⟨W2, rfl⟩ : ∃ y : World, y = wo := ⟨wo, rfl⟩
          have HRs2 := hid ((HMr.out.block _ (lt_of_heap HRs1.out) (fun h => by omega)).trans HRs1.out)
          have HMq2 := HMw
          have HBq2 := HBx
          have HOut2 := HOb
          clear HMw HBx HOb HMr HOw HNw
          have bj := row_at (j := 5) (v := .slice ga gs.length gc) HBq2.out rfl
          go_wp2_with fail
          clear bj
          go_loopw [70] (fun c wr => ∃ (k : Nat) (sa : Option Addr) (cap : Nat), k ≤ gs.length ∧ c = .int .i64 (k : Int) ∧ (∃ yl : List Gd, yl.length = k ∧ yl.map Gd.pl = (gs.map Gd.pl).take k ∧ GLn wr yl ∧ (∀ y ∈ yl, ∀ b, blk y.la b → W2.heap.size ≤ b) ∧ (∀ y ∈ yl, 0 < y.ls.length → ∀ b, blk y.la b → ¬ blk sa b) ∧ Own wr 67 3 sa k cap (yl.flatMap Gd.cs)) ∧ (∀ b, blk sa b → W2.heap.size ≤ b) ∧ Mod (fun j => j = w.heap.size + 1 + 1) W2 wr ∧ wr.heap[w.heap.size + 1 + 1]? = some (.cells #[.slice bha hs.length bhc, .slice bla ls.length blc, .slice sa k cap, .slice none 0 0, .slice none 0 0, .int .i64 next, .slice none 0 0, .slice none 0 0] 44 (0, 0))) (fun c _ => gs.length - (intOf c).toNat)
          case atStart => exact ⟨0, none, 0, Nat.zero_le _, rfl, ⟨[], rfl, rfl, (fun y h => by cases h), (fun y h => by cases h), (fun y h => by cases h), Own.nil _ _ _⟩, (fun b hb => (blk_none b hb).elim), Mod.refl _ _, HOut2.out⟩
          case round =>
            obtain ⟨k, sa, cap, hk, rfl, ⟨yl, hyl, hyp, hyg, hyn, hyd, hown⟩, hnew, hm, hob⟩ := hrel
            have HOw := hid hown
            have HNw := hid hnew
            have HMr := hid hm
            have HOb := hid hob
            have HYl := hid hyl
            have HYp := hid hyp
            have HYg := hid hyg
            have HYn := hid hyn
            have HYd := hid hyd
            clear hyl hyp hyg hyn hyd
            clear hown hnew hm hob
            obtain ⟨wo, rfl⟩ : ∃ y : World, y = wr := ⟨wr, rfl⟩
            have HMw : Hid (Mod (fun _ => False) w wo) := hid (HMq2.out.then HMr.out (fun i hi h => by omega))
            have HBx := hid ((HMr.out.block _ (lt_of_heap HBq2.out) (fun h => by omega)).trans HBq2.out)
            by_cases hlt : k < gs.length
            case neg =>
              have hke : k = gs.length := by omega
              subst hke
              have HFin2 : Hid (GL wo sa yl ∧ yl.map Gd.pl = gs.map Gd.pl ∧ yl.length = gs.length ∧ (∀ y ∈ yl, ∀ b, blk y.la b → W2.heap.size ≤ b)) := hid ⟨⟨by have := HOw.out; rw [← HYl.out] at this; exact this.lies, HYg.out⟩, by have := HYp.out; rwa [List.take_of_length_le (by simp)] at this, HYl.out, HYn.out⟩
              have HLow2 : Hid (∀ b, blk sa b → w.heap.size + 1 + 1 < b) := hid (fun b hb => by have := HNw.out b hb; have := HSq2.out; omega)
              have HLowG : Hid (∀ y ∈ yl, ∀ b, blk y.la b → w.heap.size + 1 + 1 < b) := hid (fun y hy b hb => by have := HYn.out y hy b hb; have := HSq2.out; omega)
              have HFin0' := hid (HFin0.out.mod HMr.out (fun _ i hi h => by have := HLow0.out i hi; omega))
              clear HFin0
              have HFin0 := HFin0'
              clear HFin0'
              have HFin1' := hid (HFin1.out.mod HMr.out (fun _ i hi h => by have := HLow1.out i hi; omega))
              clear HFin1
              have HFin1 := HFin1'
              clear HFin1'
              obtain ⟨bga, hbe⟩ : ∃ y, y = sa := ⟨_, rfl⟩
              subst hbe
              obtain ⟨bgc, hbe⟩ : ∃ y, y = cap := ⟨_, rfl⟩
              subst hbe
              have HSq3 : Hid (w.heap.size + 1 + 1 < wo.heap.size) := hid (by have := HSq2.out; have := HMr.out.size; omega)
              obtain ⟨W3, rfl⟩ : ∃ y : World, y = wo := ⟨wo, rfl⟩
              have HRs3 := hid ((HMr.out.block _ (lt_of_heap HRs2.out) (fun h => by omega)).trans HRs2.out)
              have HMq3 := HMw
              have HBq3 := HBx
              have HOut3 := HOb
              clear HMw HBx HOb HMr HOw HNw
              have bj := row_at (j := 6) (v := .slice aa acs.length ac) HBq3.out rfl
              go_wp2_with fail
              clear bj
              go_loopw [91] (fun c wr => ∃ (k : Nat) (sa : Option Addr) (cap : Nat), k ≤ acs.length ∧ c = .int .i64 (k : Int) ∧ Own wr 72 9 sa k cap (((acs.map Ac.pl).take k).flatMap AP.cs) ∧ (∀ b, blk sa b → W3.heap.size ≤ b) ∧ Mod (fun j => j = w.heap.size + 1 + 1) W3 wr ∧ wr.heap[w.heap.size + 1 + 1]? = some (.cells #[.slice bha hs.length bhc, .slice bla ls.length blc, .slice bga gs.length bgc, .slice sa k cap, .slice none 0 0, .int .i64 next, .slice none 0 0, .slice none 0 0] 44 (0, 0))) (fun c _ => acs.length - (intOf c).toNat)
              case atStart => exact ⟨0, none, 0, Nat.zero_le _, rfl, Own.nil _ _ _, (fun b hb => (blk_none b hb).elim), Mod.refl _ _, HOut3.out⟩
              case round =>
                obtain ⟨k, sa, cap, hk, rfl, hown, hnew, hm, hob⟩ := hrel
                have HOw := hid hown
                have HNw := hid hnew
                have HMr := hid hm
                have HOb := hid hob
                clear hown hnew hm hob
                obtain ⟨wo, rfl⟩ : ∃ y : World, y = wr := ⟨wr, rfl⟩
                have HMw : Hid (Mod (fun _ => False) w wo) := hid (HMq3.out.then HMr.out (fun i hi h => by omega))
                have HBx := hid ((HMr.out.block _ (lt_of_heap HBq3.out) (fun h => by omega)).trans HBq3.out)
                by_cases hlt : k < acs.length
                case neg =>
                  have hke : k = acs.length := by omega
                  subst hke
                  have HFin3 : Hid (Lies wo 9 AP.cs sa (acs.map Ac.pl)) := hid (by have := HOw.out; rw [List.take_of_length_le (by simp)] at this; exact Own.lies (by simpa using this))
                  have HLow3 : Hid (∀ b, blk sa b → w.heap.size + 1 + 1 < b) := hid (fun b hb => by have := HNw.out b hb; have := HSq3.out; omega)
                  have HFin0' := hid (HFin0.out.mod HMr.out (fun _ i hi h => by have := HLow0.out i hi; omega))
                  clear HFin0
                  have HFin0 := HFin0'
                  clear HFin0'
                  have HFin1' := hid (HFin1.out.mod HMr.out (fun _ i hi h => by have := HLow1.out i hi; omega))
                  clear HFin1
                  have HFin1 := HFin1'
                  clear HFin1'
                  have HFin2' : Hid (GL wo bga yl ∧ yl.map Gd.pl = gs.map Gd.pl ∧ yl.length = gs.length ∧ (∀ y ∈ yl, ∀ b, blk y.la b → W2.heap.size ≤ b)) := hid ⟨⟨HFin2.out.1.g.mod HMr.out (fun _ i hi h => by have := HLow2.out i hi; omega), fun y hy => ⟨(HFin2.out.1.l y hy).1.mod HMr.out (fun _ i hi h => by have := HLowG.out y hy i hi; omega), (HFin2.out.1.l y hy).2⟩⟩, HFin2.out.2⟩
                  clear HFin2
                  have HFin2 := HFin2'
                  clear HFin2'
                  obtain ⟨baa, hbe⟩ : ∃ y, y = sa := ⟨_, rfl⟩
                  subst hbe
                  obtain ⟨bac, hbe⟩ : ∃ y, y = cap := ⟨_, rfl⟩
                  subst hbe
                  have HSq4 : Hid (w.heap.size + 1 + 1 < wo.heap.size) := hid (by have := HSq3.out; have := HMr.out.size; omega)
                  obtain ⟨W4, rfl⟩ : ∃ y : World, y = wo := ⟨wo, rfl⟩
                  have HRs4 := hid ((HMr.out.block _ (lt_of_heap HRs3.out) (fun h => by omega)).trans HRs3.out)
                  have HMq4 := HMw
                  have HBq4 := HBx
                  have HOut4 := HOb
                  clear HMw HBx HOb HMr HOw HNw
                  have bj := row_at (j := 9) (v := .slice oa os.length oc) HBq4.out rfl
                  go_wp2_with fail
                  clear bj
                  go_loopw [115] (fun c wr => ∃ (k : Nat) (sa : Option Addr) (cap : Nat), k ≤ os.length ∧ c = .int .i64 (k : Int) ∧ Own wr 76 6 sa k cap (((os.map Od.pl).take k).flatMap OP.cs) ∧ (∀ b, blk sa b → W4.heap.size ≤ b) ∧ Mod (fun j => j = w.heap.size + 1 + 1) W4 wr ∧ wr.heap[w.heap.size + 1 + 1]? = some (.cells #[.slice bha hs.length bhc, .slice bla ls.length blc, .slice bga gs.length bgc, .slice baa acs.length bac, .slice sa k cap, .int .i64 next, .slice none 0 0, .slice none 0 0] 44 (0, 0))) (fun c _ => os.length - (intOf c).toNat)
                  case atStart => exact ⟨0, none, 0, Nat.zero_le _, rfl, Own.nil _ _ _, (fun b hb => (blk_none b hb).elim), Mod.refl _ _, HOut4.out⟩
                  case round =>
                    obtain ⟨k, sa, cap, hk, rfl, hown, hnew, hm, hob⟩ := hrel
                    have HOw := hid hown
                    have HNw := hid hnew
                    have HMr := hid hm
                    have HOb := hid hob
                    clear hown hnew hm hob
                    obtain ⟨wo, rfl⟩ : ∃ y : World, y = wr := ⟨wr, rfl⟩
                    have HMw : Hid (Mod (fun _ => False) w wo) := hid (HMq4.out.then HMr.out (fun i hi h => by omega))
                    have HBx := hid ((HMr.out.block _ (lt_of_heap HBq4.out) (fun h => by omega)).trans HBq4.out)
                    by_cases hlt : k < os.length
                    case neg =>
                      have hke : k = os.length := by omega
                      subst hke
                      have HFin4 : Hid (Lies wo 6 OP.cs sa (os.map Od.pl)) := hid (by have := HOw.out; rw [List.take_of_length_le (by simp)] at this; exact Own.lies (by simpa using this))
                      have HLow4 : Hid (∀ b, blk sa b → w.heap.size + 1 + 1 < b) := hid (fun b hb => by have := HNw.out b hb; have := HSq4.out; omega)
                      have HFin0' := hid (HFin0.out.mod HMr.out (fun _ i hi h => by have := HLow0.out i hi; omega))
                      clear HFin0
                      have HFin0 := HFin0'
                      clear HFin0'
                      have HFin1' := hid (HFin1.out.mod HMr.out (fun _ i hi h => by have := HLow1.out i hi; omega))
                      clear HFin1
                      have HFin1 := HFin1'
                      clear HFin1'
                      have HFin2' : Hid (GL wo bga yl ∧ yl.map Gd.pl = gs.map Gd.pl ∧ yl.length = gs.length ∧ (∀ y ∈ yl, ∀ b, blk y.la b → W2.heap.size ≤ b)) := hid ⟨⟨HFin2.out.1.g.mod HMr.out (fun _ i hi h => by have := HLow2.out i hi; omega), fun y hy => ⟨(HFin2.out.1.l y hy).1.mod HMr.out (fun _ i hi h => by have := HLowG.out y hy i hi; omega), (HFin2.out.1.l y hy).2⟩⟩, HFin2.out.2⟩
                      clear HFin2
                      have HFin2 := HFin2'
                      clear HFin2'
                      have HFin3' := hid (HFin3.out.mod HMr.out (fun _ i hi h => by have := HLow3.out i hi; omega))
                      clear HFin3
                      have HFin3 := HFin3'
                      clear HFin3'
                      obtain ⟨boa, hbe⟩ : ∃ y, y = sa := ⟨_, rfl⟩
                      subst hbe
                      obtain ⟨boc, hbe⟩ : ∃ y, y = cap := ⟨_, rfl⟩
                      subst hbe
                      have HSq5 : Hid (w.heap.size + 1 + 1 < wo.heap.size) := hid (by have := HSq4.out; have := HMr.out.size; omega)
                      obtain ⟨W5, rfl⟩ : ∃ y : World, y = wo := ⟨wo, rfl⟩
                      have HRs5 := hid ((HMr.out.block _ (lt_of_heap HRs4.out) (fun h => by omega)).trans HRs4.out)
                      have HMq5 := HMw
                      have HBq5 := HBx
                      have HOut5 := HOb
                      clear HMw HBx HOb HMr HOw HNw
                      have bj := row_at (j := 12) (v := .slice ta ts.length tc) HBq5.out rfl
                      go_wp2_with fail
                      clear bj
                      go_loopw [137] (fun c wr => ∃ (k : Nat) (sa : Option Addr) (cap : Nat), k ≤ ts.length ∧ c = .int .i64 (k : Int) ∧ Own wr 79 8 sa k cap (((ts.map Lt.pl).take k).flatMap KP.cs) ∧ (∀ b, blk sa b → W5.heap.size ≤ b) ∧ Mod (fun j => j = w.heap.size + 1 + 1) W5 wr ∧ wr.heap[w.heap.size + 1 + 1]? = some (.cells #[.slice bha hs.length bhc, .slice bla ls.length blc, .slice bga gs.length bgc, .slice baa acs.length bac, .slice boa os.length boc, .int .i64 next, .slice sa k cap, .slice none 0 0] 44 (0, 0))) (fun c _ => ts.length - (intOf c).toNat)
                      case atStart => exact ⟨0, none, 0, Nat.zero_le _, rfl, Own.nil _ _ _, (fun b hb => (blk_none b hb).elim), Mod.refl _ _, HOut5.out⟩
                      case round =>
                        obtain ⟨k, sa, cap, hk, rfl, hown, hnew, hm, hob⟩ := hrel
                        have HOw := hid hown
                        have HNw := hid hnew
                        have HMr := hid hm
                        have HOb := hid hob
                        clear hown hnew hm hob
                        obtain ⟨wo, rfl⟩ : ∃ y : World, y = wr := ⟨wr, rfl⟩
                        have HMw : Hid (Mod (fun _ => False) w wo) := hid (HMq5.out.then HMr.out (fun i hi h => by omega))
                        have HBx := hid ((HMr.out.block _ (lt_of_heap HBq5.out) (fun h => by omega)).trans HBq5.out)
                        by_cases hlt : k < ts.length
                        case neg =>
                          have hke : k = ts.length := by omega
                          subst hke
                          have HFin5 : Hid (Lies wo 8 KP.cs sa (ts.map Lt.pl)) := hid (by have := HOw.out; rw [List.take_of_length_le (by simp)] at this; exact Own.lies (by simpa using this))
                          have HLow5 : Hid (∀ b, blk sa b → w.heap.size + 1 + 1 < b) := hid (fun b hb => by have := HNw.out b hb; have := HSq5.out; omega)
                          have HFin0' := hid (HFin0.out.mod HMr.out (fun _ i hi h => by have := HLow0.out i hi; omega))
                          clear HFin0
                          have HFin0 := HFin0'
                          clear HFin0'
                          have HFin1' := hid (HFin1.out.mod HMr.out (fun _ i hi h => by have := HLow1.out i hi; omega))
                          clear HFin1
                          have HFin1 := HFin1'
                          clear HFin1'
                          have HFin2' : Hid (GL wo bga yl ∧ yl.map Gd.pl = gs.map Gd.pl ∧ yl.length = gs.length ∧ (∀ y ∈ yl, ∀ b, blk y.la b → W2.heap.size ≤ b)) := hid ⟨⟨HFin2.out.1.g.mod HMr.out (fun _ i hi h => by have := HLow2.out i hi; omega), fun y hy => ⟨(HFin2.out.1.l y hy).1.mod HMr.out (fun _ i hi h => by have := HLowG.out y hy i hi; omega), (HFin2.out.1.l y hy).2⟩⟩, HFin2.out.2⟩
                          clear HFin2
                          have HFin2 := HFin2'
                          clear HFin2'
                          have HFin3' := hid (HFin3.out.mod HMr.out (fun _ i hi h => by have := HLow3.out i hi; omega))
                          clear HFin3
                          have HFin3 := HFin3'
                          clear HFin3'
                          have HFin4' := hid (HFin4.out.mod HMr.out (fun _ i hi h => by have := HLow4.out i hi; omega))
                          clear HFin4
                          have HFin4 := HFin4'
                          clear HFin4'
                          obtain ⟨bta, hbe⟩ : ∃ y, y = sa := ⟨_, rfl⟩
                          subst hbe
                          obtain ⟨btc, hbe⟩ : ∃ y, y = cap := ⟨_, rfl⟩
                          subst hbe
                          have HSq6 : Hid (w.heap.size + 1 + 1 < wo.heap.size) := hid (by have := HSq5.out; have := HMr.out.size; omega)
                          obtain ⟨W6, rfl⟩ : ∃ y : World, y = wo := ⟨wo, rfl⟩
                          have HRs6 := hid ((HMr.out.block _ (lt_of_heap HRs5.out) (fun h => by omega)).trans HRs5.out)
                          have HMq6 := HMw
                          have HBq6 := HBx
                          have HOut6 := HOb
                          clear HMw HBx HOb HMr HOw HNw
                          have bj := row_at (j := 14) (v := .slice ia ins.length ic) HBq6.out rfl
                          go_wp2_with fail
                          clear bj
                          go_loopw [153] (fun c wr => ∃ (k : Nat) (sa : Option Addr) (cap : Nat), k ≤ ins.length ∧ c = .int .i64 (k : Int) ∧ Own wr 88 6 sa k cap (((ins.map In.pl).take k).flatMap IP.cs) ∧ (∀ b, blk sa b → W6.heap.size ≤ b) ∧ Mod (fun j => j = w.heap.size + 1 + 1) W6 wr ∧ wr.heap[w.heap.size + 1 + 1]? = some (.cells #[.slice bha hs.length bhc, .slice bla ls.length blc, .slice bga gs.length bgc, .slice baa acs.length bac, .slice boa os.length boc, .int .i64 next, .slice bta ts.length btc, .slice sa k cap] 44 (0, 0))) (fun c _ => ins.length - (intOf c).toNat)
                          case atStart => exact ⟨0, none, 0, Nat.zero_le _, rfl, Own.nil _ _ _, (fun b hb => (blk_none b hb).elim), Mod.refl _ _, HOut6.out⟩
                          case round =>
                            obtain ⟨k, sa, cap, hk, rfl, hown, hnew, hm, hob⟩ := hrel
                            have HOw := hid hown
                            have HNw := hid hnew
                            have HMr := hid hm
                            have HOb := hid hob
                            clear hown hnew hm hob
                            obtain ⟨wo, rfl⟩ : ∃ y : World, y = wr := ⟨wr, rfl⟩
                            have HMw : Hid (Mod (fun _ => False) w wo) := hid (HMq6.out.then HMr.out (fun i hi h => by omega))
                            have HBx := hid ((HMr.out.block _ (lt_of_heap HBq6.out) (fun h => by omega)).trans HBq6.out)
                            by_cases hlt : k < ins.length
                            case neg =>
                              have hke : k = ins.length := by omega
                              subst hke
                              have HFin6 : Hid (Lies wo 6 IP.cs sa (ins.map In.pl)) := hid (by have := HOw.out; rw [List.take_of_length_le (by simp)] at this; exact Own.lies (by simpa using this))
                              have HLow6 : Hid (∀ b, blk sa b → w.heap.size + 1 + 1 < b) := hid (fun b hb => by have := HNw.out b hb; have := HSq6.out; omega)
                              have HFin0' := hid (HFin0.out.mod HMr.out (fun _ i hi h => by have := HLow0.out i hi; omega))
                              clear HFin0
                              have HFin0 := HFin0'
                              clear HFin0'
                              have HFin1' := hid (HFin1.out.mod HMr.out (fun _ i hi h => by have := HLow1.out i hi; omega))
                              clear HFin1
                              have HFin1 := HFin1'
                              clear HFin1'
                              have HFin2' : Hid (GL wo bga yl ∧ yl.map Gd.pl = gs.map Gd.pl ∧ yl.length = gs.length ∧ (∀ y ∈ yl, ∀ b, blk y.la b → W2.heap.size ≤ b)) := hid ⟨⟨HFin2.out.1.g.mod HMr.out (fun _ i hi h => by have := HLow2.out i hi; omega), fun y hy => ⟨(HFin2.out.1.l y hy).1.mod HMr.out (fun _ i hi h => by have := HLowG.out y hy i hi; omega), (HFin2.out.1.l y hy).2⟩⟩, HFin2.out.2⟩
                              clear HFin2
                              have HFin2 := HFin2'
                              clear HFin2'
                              have HFin3' := hid (HFin3.out.mod HMr.out (fun _ i hi h => by have := HLow3.out i hi; omega))
                              clear HFin3
                              have HFin3 := HFin3'
                              clear HFin3'
                              have HFin4' := hid (HFin4.out.mod HMr.out (fun _ i hi h => by have := HLow4.out i hi; omega))
                              clear HFin4
                              have HFin4 := HFin4'
                              clear HFin4'
                              have HFin5' := hid (HFin5.out.mod HMr.out (fun _ i hi h => by have := HLow5.out i hi; omega))
                              clear HFin5
                              have HFin5 := HFin5'
                              clear HFin5'
                              obtain ⟨bia, hbe⟩ : ∃ y, y = sa := ⟨_, rfl⟩
                              subst hbe
                              obtain ⟨bic, hbe⟩ : ∃ y, y = cap := ⟨_, rfl⟩
                              subst hbe
                              have HSq7 : Hid (w.heap.size + 1 + 1 < wo.heap.size) := hid (by have := HSq6.out; have := HMr.out.size; omega)
                              obtain ⟨W7, rfl⟩ : ∃ y : World, y = wo := ⟨wo, rfl⟩
                              have HRs7 := hid ((HMr.out.block _ (lt_of_heap HRs6.out) (fun h => by omega)).trans HRs6.out)
                              have HMq7 := HMw
                              have HBq7 := HBx
                              have HOut7 := HOb
                              clear HMw HBx HOb HMr HOw HNw
                              obtain ⟨c0, c1, c2, c3, c4, c5, c6, c7⟩ := row8 HOut7.out
                              obtain ⟨d0, d1, d2, d3, d4, d5, d6, d7⟩ := row8 HRs7.out
                              obtain ⟨f0, f1, f2, f3, f4, f5, f6, f7⟩ := froz8 HRs7.out
                              go_wp2_with fail
                              clear c0 c1 c2 c3 c4 c5 c6 c7 d0 d1 d2 d3 d4 d5 d6 d7 f0 f1 f2 f3 f4 f5 f6 f7
                              have h8 : ((((((((W7.setCell ⟨w.heap.size + 1, 0, none⟩ (.slice bha hs.length bhc)).setCell ⟨w.heap.size + 1, 1, none⟩ (.slice bla ls.length blc)).setCell ⟨w.heap.size + 1, 2, none⟩ (.slice bga gs.length bgc)).setCell ⟨w.heap.size + 1, 3, none⟩ (.slice baa acs.length bac)).setCell ⟨w.heap.size + 1, 4, none⟩ (.slice boa os.length boc)).setCell ⟨w.heap.size + 1, 5, none⟩ (.int .i64 next)).setCell ⟨w.heap.size + 1, 6, none⟩ (.slice bta ts.length btc)).setCell ⟨w.heap.size + 1, 7, none⟩ (.slice bia ins.length bic)).heap[w.heap.size + 1]? = some (.cells #[.slice bha hs.length bhc, .slice bla ls.length blc, .slice bga gs.length bgc, .slice baa acs.length bac, .slice boa os.length boc, .int .i64 next, .slice bta ts.length btc, .slice bia ins.length bic] 44 (0, 0)) := (set8_7 (set8_6 (set8_5 (set8_4 (set8_3 (set8_2 (set8_1 (set8_0 HRs7.out (.slice bha hs.length bhc)) (.slice bla ls.length blc)) (.slice bga gs.length bgc)) (.slice baa acs.length bac)) (.slice boa os.length boc)) (.int .i64 next)) (.slice bta ts.length btc)) (.slice bia ins.length bic))
                              have HM8 : Hid (Mod (fun j => j = w.heap.size + 1) W7 ((((((((W7.setCell ⟨w.heap.size + 1, 0, none⟩ (.slice bha hs.length bhc)).setCell ⟨w.heap.size + 1, 1, none⟩ (.slice bla ls.length blc)).setCell ⟨w.heap.size + 1, 2, none⟩ (.slice bga gs.length bgc)).setCell ⟨w.heap.size + 1, 3, none⟩ (.slice baa acs.length bac)).setCell ⟨w.heap.size + 1, 4, none⟩ (.slice boa os.length boc)).setCell ⟨w.heap.size + 1, 5, none⟩ (.int .i64 next)).setCell ⟨w.heap.size + 1, 6, none⟩ (.slice bta ts.length btc)).setCell ⟨w.heap.size + 1, 7, none⟩ (.slice bia ins.length bic))) := hid (Mod.setCell (S := fun j => j = w.heap.size + 1) (Mod.setCell (S := fun j => j = w.heap.size + 1) (Mod.setCell (S := fun j => j = w.heap.size + 1) (Mod.setCell (S := fun j => j = w.heap.size + 1) (Mod.setCell (S := fun j => j = w.heap.size + 1) (Mod.setCell (S := fun j => j = w.heap.size + 1) (Mod.setCell (S := fun j => j = w.heap.size + 1) (Mod.setCell (S := fun j => j = w.heap.size + 1) (Mod.refl _ _) (fun _ => rfl) _) (fun _ => rfl) _) (fun _ => rfl) _) (fun _ => rfl) _) (fun _ => rfl) _) (fun _ => rfl) _) (fun _ => rfl) _) (fun _ => rfl) _)
                              generalize ((((((((W7.setCell ⟨w.heap.size + 1, 0, none⟩ (.slice bha hs.length bhc)).setCell ⟨w.heap.size + 1, 1, none⟩ (.slice bla ls.length blc)).setCell ⟨w.heap.size + 1, 2, none⟩ (.slice bga gs.length bgc)).setCell ⟨w.heap.size + 1, 3, none⟩ (.slice baa acs.length bac)).setCell ⟨w.heap.size + 1, 4, none⟩ (.slice boa os.length boc)).setCell ⟨w.heap.size + 1, 5, none⟩ (.int .i64 next)).setCell ⟨w.heap.size + 1, 6, none⟩ (.slice bta ts.length btc)).setCell ⟨w.heap.size + 1, 7, none⟩ (.slice bia ins.length bic)) = Z at *
                              obtain ⟨g0, g1, g2, g3, g4, g5, g6, g7⟩ := row8 h8
                              refine bodyPost_ret (v := .agg #[.slice bha hs.length bhc, .slice bla ls.length blc, .slice bga gs.length bgc, .slice baa acs.length bac, .slice boa os.length boc, .int .i64 next, .slice bta ts.length btc, .slice bia ins.length bic]) (by simp [results, Try.results4, go_sem, g0, g1, g2, g3, g4, g5, g6, g7]) rfl ?_
                              exact ⟨bha, bla, bga, baa, boa, bta, bia, bhc, blc, bgc, bac, boc, btc, bic, yl, HFin2.out.2.1, HFin2.out.2.2.1, rfl, ⟨(HFin0.out.mod HM8.out (fun _ i hi h => by have := HLow0.out i hi; omega)), (HFin1.out.mod HM8.out (fun _ i hi h => by have := HLow1.out i hi; omega)), ⟨HFin2.out.1.g.mod HM8.out (fun _ i hi h => by have := HLow2.out i hi; omega), fun y hy => ⟨(HFin2.out.1.l y hy).1.mod HM8.out (fun _ i hi h => by have := HLowG.out y hy i hi; omega), (HFin2.out.1.l y hy).2⟩⟩, (HFin3.out.mod HM8.out (fun _ i hi h => by have := HLow3.out i hi; omega)), (HFin4.out.mod HM8.out (fun _ i hi h => by have := HLow4.out i hi; omega)), (HFin5.out.mod HM8.out (fun _ i hi h => by have := HLow5.out i hi; omega)), (HFin6.out.mod HM8.out (fun _ i hi h => by have := HLow6.out i hi; omega))⟩, HMq7.out.then HM8.out (fun i hi h => by omega)⟩
                            case pos =>
                              obtain ⟨x, hx⟩ : ∃ x, ins[k]? = some x := ⟨_, List.getElem?_eq_getElem hlt⟩
                              have hlt0 := HT.out.ni
                              have hlc := HT.out.i.ext HMw.out
                              have HFl := hid (flat_succ IP.cs (pl_at (f := In.pl) hx))
                              obtain ⟨xo, xs, xp, xma, xml, xmc, xta, xtl, xtc, xf⟩ := x
                              obtain ⟨g, off, hge⟩ := hlc.some (by omega)
                              subst hge
                              have q0 := hlc.cell In.len hx (j := 0) rfl
                              have q1 := hlc.cell In.len hx (j := 1) rfl
                              have q2 := hlc.cell In.len hx (j := 2) rfl
                              have q3 := hlc.cell In.len hx (j := 3) rfl
                              have q4 := hlc.cell In.len hx (j := 4) rfl
                              have q5 := hlc.cell In.len hx (j := 5) rfl
                              rw [Nat.add_zero] at q0
                              simp only at q0 q1 q2 q3 q4 q5
                              have hma : Mod (fun _ => False) wo ((wo.alloc (.cells #[.int .i64 xo, .int .i64 xs, .bool xp, .slice xma xml xmc, .slice xta xtl xtc, .string xf] 85)).alloc (.cells #[.int .i64 xo, .int .i64 xs, .bool false, .slice none 0 0, .slice none 0 0, .pointer none] 88)) := ((Mod.refl _ _).alloc _).alloc _
                              have HMa := hid hma
                              have HOa := hid (HOw.out.mod hma (fun _ _ h => h))
                              have HSa : Hid (Src ((wo.alloc (.cells #[.int .i64 xo, .int .i64 xs, .bool xp, .slice xma xml xmc, .slice xta xtl xtc, .string xf] 85)).alloc (.cells #[.int .i64 xo, .int .i64 xs, .bool false, .slice none 0 0, .slice none 0 0, .pointer none] 88)) 6 (some ⟨wo.heap.size + 1, 0, none⟩) 1 [.int .i64 xo, .int .i64 xs, .bool false, .slice none 0 0, .slice none 0 0, .pointer none]) := hid (src_new (by have := heap_alloc_new (wo.alloc (.cells #[.int .i64 xo, .int .i64 xs, .bool xp, .slice xma xml xmc, .slice xta xtl xtc, .string xf] 85)) (.cells #[.int .i64 xo, .int .i64 xs, .bool false, .slice none 0 0, .slice none 0 0, .pointer none] 88); rw [World.size_alloc] at this; exact this) rfl)
                              have HUa := hid ((hma.block _ (lt_of_heap HOb.out) (fun h => h)).trans HOb.out)
                              obtain ⟨c0, c1, c2, c3, c4, c5, c6, c7⟩ := row8 ((((Mod.refl (fun _ => False) wo).alloc (.cells #[.int .i64 xo, .int .i64 xs, .bool xp, .slice xma xml xmc, .slice xta xtl xtc, .string xf] 85)).block _ (lt_of_heap HOb.out) (fun h => h)).trans HOb.out)
                              clear hma hlc hx
                              go_wp2_with (at_builtin; refine wpList_append_Own rfl (.tmp 158) (.tmp 166) 42 rfl 88 i6 _ 6 80 Try.underlying42 hi6 hz60 hz61 hz62 rfl sa k cap _ rfl HOa.out (some ⟨wo.heap.size + 1, 0, none⟩) 1 1 _ rfl HSa.out (IP.one ⟨xo, xs⟩) (by unfold maxLen; omega) (by omega) ?_; intro sa' cap' w6 hown6 hm6 hb6 hn6 hr6; have HO6 := hid hown6; have HM6 := hid hm6; have HB6 := hid hb6; clear hown6 hm6 hb6 hn6 hr6 c0 c1 c2 c3 c4 c5 c6 c7; have HU6 := hid ((HM6.out.block _ (lt_of_heap HUa.out) (fun h => by have h1 := HNw.out _ h; have h2 := HSq6.out; omega)).trans HUa.out); obtain ⟨c0, c1, c2, c3, c4, c5, c6, c7⟩ := row8 HU6.out; obtain ⟨f0, f1, f2, f3, f4, f5, f6, f7⟩ := froz8 HU6.out)
                              go_roundw
                              case rel =>
                                have hm7 : Mod (fun j => j = w.heap.size + 1 + 1) w6 (w6.setCell ⟨w.heap.size + 1 + 1, 7, none⟩ (.slice sa' (k + 1) cap')) := Mod.setCell (S := fun j => j = w.heap.size + 1 + 1) (Mod.refl _ _) (fun _ => rfl) _
                                have hbn : ∀ b, blk sa' b → W6.heap.size ≤ b := fun b hb => by
                                  rcases HB6.out b hb with h | h
                                  · exact HNw.out b h
                                  · have h1 := HMr.out.size
                                    have h2 := HMa.out.size
                                    omega
                                refine ⟨k + 1, sa', cap', by omega, by go_num, by rw [HFl.out]; exact HO6.out.mod hm7 (fun i hi h => by have := hbn i hi; have := HSq6.out; omega), hbn, ?_, set8_7 HU6.out _⟩
                                exact ((HMr.out.trans (HMa.out.mono (fun _ _ h => h.elim))).then HM6.out (fun i hi h => by have := HNw.out i h; omega)).trans hm7
                              case measure => simp [intOf]; omega
                        case pos =>
                          obtain ⟨x, hx⟩ : ∃ x, ts[k]? = some x := ⟨_, List.getElem?_eq_getElem hlt⟩
                          have hlt0 := HT.out.nt
                          have hlc := HT.out.t.ext HMw.out
                          have HFl := hid (flat_succ KP.cs (pl_at (f := Lt.pl) hx))
                          obtain ⟨xi, xa, xb, xc, xd, xe, xf, xs⟩ := x
                          obtain ⟨g, off, hge⟩ := hlc.some (by omega)
                          subst hge
                          have q0 := hlc.cell Lt.len hx (j := 0) rfl
                          have q1 := hlc.cell Lt.len hx (j := 1) rfl
                          have q2 := hlc.cell Lt.len hx (j := 2) rfl
                          have q3 := hlc.cell Lt.len hx (j := 3) rfl
                          have q4 := hlc.cell Lt.len hx (j := 4) rfl
                          have q5 := hlc.cell Lt.len hx (j := 5) rfl
                          have q6 := hlc.cell Lt.len hx (j := 6) rfl
                          have q7 := hlc.cell Lt.len hx (j := 7) rfl
                          rw [Nat.add_zero] at q0
                          simp only at q0 q1 q2 q3 q4 q5 q6 q7
                          have hma : Mod (fun _ => False) wo ((wo.alloc (.cells #[.int .i64 xi, .int .i64 xa, .int .i64 xb, .int .i64 xc, .int .i64 xd, .int .i64 xe, .int .i64 xf, .string xs] 78)).alloc (.cells #[.int .i64 xi, .int .i64 0, .int .i64 0, .int .i64 0, .int .i64 0, .int .i64 0, .int .i64 0, .string ⟨#[]⟩] 79)) := ((Mod.refl _ _).alloc _).alloc _
                          have HMa := hid hma
                          have HOa := hid (HOw.out.mod hma (fun _ _ h => h))
                          have HSa : Hid (Src ((wo.alloc (.cells #[.int .i64 xi, .int .i64 xa, .int .i64 xb, .int .i64 xc, .int .i64 xd, .int .i64 xe, .int .i64 xf, .string xs] 78)).alloc (.cells #[.int .i64 xi, .int .i64 0, .int .i64 0, .int .i64 0, .int .i64 0, .int .i64 0, .int .i64 0, .string ⟨#[]⟩] 79)) 8 (some ⟨wo.heap.size + 1, 0, none⟩) 1 [.int .i64 xi, .int .i64 0, .int .i64 0, .int .i64 0, .int .i64 0, .int .i64 0, .int .i64 0, .string ⟨#[]⟩]) := hid (src_new (by have := heap_alloc_new (wo.alloc (.cells #[.int .i64 xi, .int .i64 xa, .int .i64 xb, .int .i64 xc, .int .i64 xd, .int .i64 xe, .int .i64 xf, .string xs] 78)) (.cells #[.int .i64 xi, .int .i64 0, .int .i64 0, .int .i64 0, .int .i64 0, .int .i64 0, .int .i64 0, .string ⟨#[]⟩] 79); rw [World.size_alloc] at this; exact this) rfl)
                          have HUa := hid ((hma.block _ (lt_of_heap HOb.out) (fun h => h)).trans HOb.out)
                          obtain ⟨c0, c1, c2, c3, c4, c5, c6, c7⟩ := row8 ((((Mod.refl (fun _ => False) wo).alloc (.cells #[.int .i64 xi, .int .i64 xa, .int .i64 xb, .int .i64 xc, .int .i64 xd, .int .i64 xe, .int .i64 xf, .string xs] 78)).block _ (lt_of_heap HOb.out) (fun h => h)).trans HOb.out)
                          clear hma hlc hx
                          go_wp2_with (at_builtin; refine wpList_append_Own rfl (.tmp 142) (.tmp 146) 41 rfl 79 i5 _ 8 72 Try.underlying41 hi5 hz50 hz51 hz52 rfl sa k cap _ rfl HOa.out (some ⟨wo.heap.size + 1, 0, none⟩) 1 1 _ rfl HSa.out (KP.one ⟨xi⟩) (by unfold maxLen; omega) (by omega) ?_; intro sa' cap' w6 hown6 hm6 hb6 hn6 hr6; have HO6 := hid hown6; have HM6 := hid hm6; have HB6 := hid hb6; clear hown6 hm6 hb6 hn6 hr6 c0 c1 c2 c3 c4 c5 c6 c7; have HU6 := hid ((HM6.out.block _ (lt_of_heap HUa.out) (fun h => by have h1 := HNw.out _ h; have h2 := HSq5.out; omega)).trans HUa.out); obtain ⟨c0, c1, c2, c3, c4, c5, c6, c7⟩ := row8 HU6.out; obtain ⟨f0, f1, f2, f3, f4, f5, f6, f7⟩ := froz8 HU6.out)
                          go_roundw
                          case rel =>
                            have hm7 : Mod (fun j => j = w.heap.size + 1 + 1) w6 (w6.setCell ⟨w.heap.size + 1 + 1, 6, none⟩ (.slice sa' (k + 1) cap')) := Mod.setCell (S := fun j => j = w.heap.size + 1 + 1) (Mod.refl _ _) (fun _ => rfl) _
                            have hbn : ∀ b, blk sa' b → W5.heap.size ≤ b := fun b hb => by
                              rcases HB6.out b hb with h | h
                              · exact HNw.out b h
                              · have h1 := HMr.out.size
                                have h2 := HMa.out.size
                                omega
                            refine ⟨k + 1, sa', cap', by omega, by go_num, by rw [HFl.out]; exact HO6.out.mod hm7 (fun i hi h => by have := hbn i hi; have := HSq5.out; omega), hbn, ?_, set8_6 HU6.out _⟩
                            exact ((HMr.out.trans (HMa.out.mono (fun _ _ h => h.elim))).then HM6.out (fun i hi h => by have := HNw.out i h; omega)).trans hm7
                          case measure => simp [intOf]; omega
                    case pos =>
                      obtain ⟨x, hx⟩ : ∃ x, os[k]? = some x := ⟨_, List.getElem?_eq_getElem hlt⟩
                      have hlt0 := HT.out.no
                      have hlc := HT.out.o.ext HMw.out
                      have HFl := hid (flat_succ OP.cs (pl_at (f := Od.pl) hx))
                      obtain ⟨xi, xc, xf, xla, xll, xlc, xn, xt⟩ := x
                      obtain ⟨g, off, hge⟩ := hlc.some (by omega)
                      subst hge
                      have q0 := hlc.cell Od.len hx (j := 0) rfl
                      have q1 := hlc.cell Od.len hx (j := 1) rfl
                      have q2 := hlc.cell Od.len hx (j := 2) rfl
                      have q3 := hlc.cell Od.len hx (j := 3) rfl
                      have q4 := hlc.cell Od.len hx (j := 4) rfl
                      have q5 := hlc.cell Od.len hx (j := 5) rfl
                      rw [Nat.add_zero] at q0
                      simp only at q0 q1 q2 q3 q4 q5
                      have hma : Mod (fun _ => False) wo ((wo.alloc (.cells #[.int .i64 xi, .int .i64 xc, .string xf, .slice xla xll xlc, .int .i64 xn, .int .i64 xt] 74)).alloc (.cells #[.int .i64 xi, .int .i64 xc, .string ⟨#[]⟩, .slice none 0 0, .int .i64 xn, .int .i64 xt] 76)) := ((Mod.refl _ _).alloc _).alloc _
                      have HMa := hid hma
                      have HOa := hid (HOw.out.mod hma (fun _ _ h => h))
                      have HSa : Hid (Src ((wo.alloc (.cells #[.int .i64 xi, .int .i64 xc, .string xf, .slice xla xll xlc, .int .i64 xn, .int .i64 xt] 74)).alloc (.cells #[.int .i64 xi, .int .i64 xc, .string ⟨#[]⟩, .slice none 0 0, .int .i64 xn, .int .i64 xt] 76)) 6 (some ⟨wo.heap.size + 1, 0, none⟩) 1 [.int .i64 xi, .int .i64 xc, .string ⟨#[]⟩, .slice none 0 0, .int .i64 xn, .int .i64 xt]) := hid (src_new (by have := heap_alloc_new (wo.alloc (.cells #[.int .i64 xi, .int .i64 xc, .string xf, .slice xla xll xlc, .int .i64 xn, .int .i64 xt] 74)) (.cells #[.int .i64 xi, .int .i64 xc, .string ⟨#[]⟩, .slice none 0 0, .int .i64 xn, .int .i64 xt] 76); rw [World.size_alloc] at this; exact this) rfl)
                      have HUa := hid ((hma.block _ (lt_of_heap HOb.out) (fun h => h)).trans HOb.out)
                      obtain ⟨c0, c1, c2, c3, c4, c5, c6, c7⟩ := row8 ((((Mod.refl (fun _ => False) wo).alloc (.cells #[.int .i64 xi, .int .i64 xc, .string xf, .slice xla xll xlc, .int .i64 xn, .int .i64 xt] 74)).block _ (lt_of_heap HOb.out) (fun h => h)).trans HOb.out)
                      clear hma hlc hx
                      go_wp2_with (at_builtin; refine wpList_append_Own rfl (.tmp 120) (.tmp 130) 40 rfl 76 i4 _ 6 72 Try.underlying40 hi4 hz40 hz41 hz42 rfl sa k cap _ rfl HOa.out (some ⟨wo.heap.size + 1, 0, none⟩) 1 1 _ rfl HSa.out (OP.one ⟨xi, xc, xn, xt⟩) (by unfold maxLen; omega) (by omega) ?_; intro sa' cap' w6 hown6 hm6 hb6 hn6 hr6; have HO6 := hid hown6; have HM6 := hid hm6; have HB6 := hid hb6; clear hown6 hm6 hb6 hn6 hr6 c0 c1 c2 c3 c4 c5 c6 c7; have HU6 := hid ((HM6.out.block _ (lt_of_heap HUa.out) (fun h => by have h1 := HNw.out _ h; have h2 := HSq4.out; omega)).trans HUa.out); obtain ⟨c0, c1, c2, c3, c4, c5, c6, c7⟩ := row8 HU6.out; obtain ⟨f0, f1, f2, f3, f4, f5, f6, f7⟩ := froz8 HU6.out)
                      go_roundw
                      case rel =>
                        have hm7 : Mod (fun j => j = w.heap.size + 1 + 1) w6 (w6.setCell ⟨w.heap.size + 1 + 1, 4, none⟩ (.slice sa' (k + 1) cap')) := Mod.setCell (S := fun j => j = w.heap.size + 1 + 1) (Mod.refl _ _) (fun _ => rfl) _
                        have hbn : ∀ b, blk sa' b → W4.heap.size ≤ b := fun b hb => by
                          rcases HB6.out b hb with h | h
                          · exact HNw.out b h
                          · have h1 := HMr.out.size
                            have h2 := HMa.out.size
                            omega
                        refine ⟨k + 1, sa', cap', by omega, by go_num, by rw [HFl.out]; exact HO6.out.mod hm7 (fun i hi h => by have := hbn i hi; have := HSq4.out; omega), hbn, ?_, set8_4 HU6.out _⟩
                        exact ((HMr.out.trans (HMa.out.mono (fun _ _ h => h.elim))).then HM6.out (fun i hi h => by have := HNw.out i h; omega)).trans hm7
                      case measure => simp [intOf]; omega
                case pos =>
                  obtain ⟨x, hx⟩ : ∃ x, acs[k]? = some x := ⟨_, List.getElem?_eq_getElem hlt⟩
                  have hlt0 := HT.out.na
                  have hlc := HT.out.a.ext HMw.out
                  have HFl := hid (flat_succ AP.cs (pl_at (f := Ac.pl) hx))
                  obtain ⟨xo, xc, xs, xl, xn, xt, xp, xw, xd⟩ := x
                  obtain ⟨g, off, hge⟩ := hlc.some (by omega)
                  subst hge
                  have q0 := hlc.cell Ac.len hx (j := 0) rfl
                  have q1 := hlc.cell Ac.len hx (j := 1) rfl
                  have q2 := hlc.cell Ac.len hx (j := 2) rfl
                  have q3 := hlc.cell Ac.len hx (j := 3) rfl
                  have q4 := hlc.cell Ac.len hx (j := 4) rfl
                  have q5 := hlc.cell Ac.len hx (j := 5) rfl
                  have q6 := hlc.cell Ac.len hx (j := 6) rfl
                  have q7 := hlc.cell Ac.len hx (j := 7) rfl
                  have q8 := hlc.cell Ac.len hx (j := 8) rfl
                  rw [Nat.add_zero] at q0
                  simp only at q0 q1 q2 q3 q4 q5 q6 q7 q8
                  have hma : Mod (fun _ => False) wo ((wo.alloc (.cells #[.int .i64 xo, .int .i64 xc, .int .i64 xs, .int .i64 xl, .int .i64 xn, .int .i64 xt, .int .i64 xp, .int .i64 xw, .int .i64 xd] 70)).alloc (.cells #[.int .i64 xo, .int .i64 xc, .int .i64 xs, .int .i64 0, .int .i64 xn, .int .i64 xt, .int .i64 0, .int .i64 0, .int .i64 0] 72)) := ((Mod.refl _ _).alloc _).alloc _
                  have HMa := hid hma
                  have HOa := hid (HOw.out.mod hma (fun _ _ h => h))
                  have HSa : Hid (Src ((wo.alloc (.cells #[.int .i64 xo, .int .i64 xc, .int .i64 xs, .int .i64 xl, .int .i64 xn, .int .i64 xt, .int .i64 xp, .int .i64 xw, .int .i64 xd] 70)).alloc (.cells #[.int .i64 xo, .int .i64 xc, .int .i64 xs, .int .i64 0, .int .i64 xn, .int .i64 xt, .int .i64 0, .int .i64 0, .int .i64 0] 72)) 9 (some ⟨wo.heap.size + 1, 0, none⟩) 1 [.int .i64 xo, .int .i64 xc, .int .i64 xs, .int .i64 0, .int .i64 xn, .int .i64 xt, .int .i64 0, .int .i64 0, .int .i64 0]) := hid (src_new (by have := heap_alloc_new (wo.alloc (.cells #[.int .i64 xo, .int .i64 xc, .int .i64 xs, .int .i64 xl, .int .i64 xn, .int .i64 xt, .int .i64 xp, .int .i64 xw, .int .i64 xd] 70)) (.cells #[.int .i64 xo, .int .i64 xc, .int .i64 xs, .int .i64 0, .int .i64 xn, .int .i64 xt, .int .i64 0, .int .i64 0, .int .i64 0] 72); rw [World.size_alloc] at this; exact this) rfl)
                  have HUa := hid ((hma.block _ (lt_of_heap HOb.out) (fun h => h)).trans HOb.out)
                  obtain ⟨c0, c1, c2, c3, c4, c5, c6, c7⟩ := row8 ((((Mod.refl (fun _ => False) wo).alloc (.cells #[.int .i64 xo, .int .i64 xc, .int .i64 xs, .int .i64 xl, .int .i64 xn, .int .i64 xt, .int .i64 xp, .int .i64 xw, .int .i64 xd] 70)).block _ (lt_of_heap HOb.out) (fun h => h)).trans HOb.out)
                  clear hma hlc hx
                  go_wp2_with (at_builtin; refine wpList_append_Own rfl (.tmp 96) (.tmp 108) 39 rfl 72 i3 _ 9 72 Try.underlying39 hi3 hz30 hz31 hz32 rfl sa k cap _ rfl HOa.out (some ⟨wo.heap.size + 1, 0, none⟩) 1 1 _ rfl HSa.out (AP.one ⟨xo, xc, xs, xn, xt⟩) (by unfold maxLen; omega) (by omega) ?_; intro sa' cap' w6 hown6 hm6 hb6 hn6 hr6; have HO6 := hid hown6; have HM6 := hid hm6; have HB6 := hid hb6; clear hown6 hm6 hb6 hn6 hr6 c0 c1 c2 c3 c4 c5 c6 c7; have HU6 := hid ((HM6.out.block _ (lt_of_heap HUa.out) (fun h => by have h1 := HNw.out _ h; have h2 := HSq3.out; omega)).trans HUa.out); obtain ⟨c0, c1, c2, c3, c4, c5, c6, c7⟩ := row8 HU6.out; obtain ⟨f0, f1, f2, f3, f4, f5, f6, f7⟩ := froz8 HU6.out)
                  go_roundw
                  case rel =>
                    have hm7 : Mod (fun j => j = w.heap.size + 1 + 1) w6 (w6.setCell ⟨w.heap.size + 1 + 1, 3, none⟩ (.slice sa' (k + 1) cap')) := Mod.setCell (S := fun j => j = w.heap.size + 1 + 1) (Mod.refl _ _) (fun _ => rfl) _
                    have hbn : ∀ b, blk sa' b → W3.heap.size ≤ b := fun b hb => by
                      rcases HB6.out b hb with h | h
                      · exact HNw.out b h
                      · have h1 := HMr.out.size
                        have h2 := HMa.out.size
                        omega
                    refine ⟨k + 1, sa', cap', by omega, by go_num, by rw [HFl.out]; exact HO6.out.mod hm7 (fun i hi h => by have := hbn i hi; have := HSq3.out; omega), hbn, ?_, set8_3 HU6.out _⟩
                    exact ((HMr.out.trans (HMa.out.mono (fun _ _ h => h.elim))).then HM6.out (fun i hi h => by have := HNw.out i h; omega)).trans hm7
                  case measure => simp [intOf]; omega
            case pos =>
              obtain ⟨x, hx⟩ : ∃ x, gs[k]? = some x := ⟨_, List.getElem?_eq_getElem hlt⟩
              have hlt0 := HT.out.ng
              have hlc := HT.out.g.g.ext HMw.out
              have HXm := hid (List.mem_of_getElem? hx)
              have HTk : Hid ((gs.map Gd.pl).take (k + 1) = (gs.map Gd.pl).take k ++ [x.pl]) := hid (take_one (pl_at (f := Gd.pl) hx))
              obtain ⟨xo, xs, xla, xlc, xls⟩ := x
              obtain ⟨g, off, hge⟩ := hlc.some (by omega)
              subst hge
              have q0 := hlc.cell Gd.len hx (j := 0) rfl
              have q1 := hlc.cell Gd.len hx (j := 1) rfl
              have q2 := hlc.cell Gd.len hx (j := 2) rfl
              rw [Nat.add_zero] at q0
              simp only at q0 q1 q2
              have hll := HT.out.g.l _ HXm.out
              have hnn := HT.out.nn _ HXm.out
              simp only at hll hnn
              have hma : Mod (fun _ => False) wo (wo.alloc (.cells #[.int .i64 xo, .int .i64 xs, .slice xla xls.length xlc] 63)) := (Mod.refl _ _).alloc _
              have hcx : (wo.alloc (.cells #[.int .i64 xo, .int .i64 xs, .slice xla xls.length xlc] 63)).heap[wo.heap.size]? = some (.cells #[.int .i64 xo, .int .i64 xs, .slice xla xls.length xlc] 63 (0, 0)) := heap_alloc_new _ _
              have HMa := hid hma
              have HCx := hid hcx
              have HOa := hid (HOw.out.mod hma (fun _ _ h => h))
              have HUa := hid ((hma.block _ (lt_of_heap HOb.out) (fun h => h)).trans HOb.out)
              have HYa : Hid (GLn (wo.alloc (.cells #[.int .i64 xo, .int .i64 xs, .slice xla xls.length xlc] 63)) yl) := hid (fun y hy => ⟨(HYg.out y hy).1.ext hma, (HYg.out y hy).2⟩)
              have HLa := hid ((hll.1.ext HMw.out).ext hma)
              have HNn := hid hnn
              have HNl := hid hll.2
              have HDz : Hid ((wo.alloc (.cells #[.int .i64 xo, .int .i64 xs, .slice xla xls.length xlc] 63)).heap.size = wo.heap.size + 1) := hid (by simp)
              clear hma hcx hll hnn hlc hx
              go_upto_region 15 with fail
              clear q0 q1 q2
              generalize (wo.alloc (.cells #[.int .i64 xo, .int .i64 xs, .slice xla xls.length xlc] 63)) = D at *
              have HLn := hid (fun (v : World) (hv : Mod (fun _ => False) D v) => lines_any xlc (HLa.out.ext hv) HNn.out)
              have HUp : Hid (∀ v : World, v.heap[wo.heap.size]? = some (.cells #[.int .i64 xo, .int .i64 xs, .slice xla xls.length xlc] 63 (0, 0)) → GdS wo.heap.size xo xs xla xls.length xlc v) := hid (fun v hv => row3 hv)
              refine wp_region_held_drew (S := fun w' => GdS wo.heap.size xo xs xla xls.length xlc w') (by kernel_rfl) (HUp.out _ HCx.out) (fun hHeld => ?_)
              have HMZ : Hid (Mod (fun _ => False) D D.drew) := hid (Mod.refl _ _).drew
              generalize D.drew = Z at *
              refine wpAnyH_take_at (i := 0) (d := 74) (v := .pointer (some ⟨w.heap.size + 1 + 1, 2, none⟩)) rfl rfl (by kernel_rfl) (by kernel_rfl) (by kernel_rfl) (fun _ _ _ h => h) (Or.inl ⟨by rfl, fun w' _ => by go_simp⟩) (by assumption) ?_
              simp only [Act.put, List.setIfInBounds_toArray, List.set_cons_zero, List.set_cons_succ]
              refine wpAnyH_take_at (i := 2) (d := 76) (v := .pointer (some ⟨wo.heap.size, 0, none⟩)) rfl rfl (by kernel_rfl) (by kernel_rfl) (by kernel_rfl) (fun _ _ _ h => h) (Or.inl ⟨by rfl, fun w' _ => by go_simp⟩) (by assumption) ?_
              simp only [Act.put, List.setIfInBounds_toArray, List.set_cons_zero, List.set_cons_succ]
              refine wpAnyH_take_at (i := 3) (d := 77) (v := .int .i64 xo) rfl rfl (by kernel_rfl) (by kernel_rfl) (by kernel_rfl) (fun _ _ _ h => h) (Or.inl ⟨by rfl, fun w' hSw => by (obtain ⟨s0, s1, s2⟩ := hSw); go_simp⟩) (by assumption) ?_
              simp only [Act.put, List.setIfInBounds_toArray, List.set_cons_zero, List.set_cons_succ]
              refine wpAnyH_take_at (i := 4) (d := 78) (v := .pointer (some ⟨wo.heap.size, 1, none⟩)) rfl rfl (by kernel_rfl) (by kernel_rfl) (by kernel_rfl) (fun _ _ _ h => h) (Or.inl ⟨by rfl, fun w' _ => by go_simp⟩) (by assumption) ?_
              simp only [Act.put, List.setIfInBounds_toArray, List.set_cons_zero, List.set_cons_succ]
              refine wpAnyH_take_at (i := 5) (d := 79) (v := .int .i64 xs) rfl rfl (by kernel_rfl) (by kernel_rfl) (by kernel_rfl) (fun _ _ _ h => h) (Or.inl ⟨by rfl, fun w' hSw => by (obtain ⟨s0, s1, s2⟩ := hSw); go_simp⟩) (by assumption) ?_
              simp only [Act.put, List.setIfInBounds_toArray, List.set_cons_zero, List.set_cons_succ]
              refine wpAnyH_take_at (i := 6) (d := 80) (v := .pointer (some ⟨wo.heap.size, 2, none⟩)) rfl rfl (by kernel_rfl) (by kernel_rfl) (by kernel_rfl) (fun _ _ _ h => h) (Or.inl ⟨by rfl, fun w' _ => by go_simp⟩) (by assumption) ?_
              simp only [Act.put, List.setIfInBounds_toArray, List.set_cons_zero, List.set_cons_succ]
              refine wpAnyH_take_at (i := 7) (d := 81) (v := .slice xla xls.length xlc) rfl rfl (by kernel_rfl) (by kernel_rfl) (by kernel_rfl) (fun _ _ _ h => h) (Or.inl ⟨by rfl, fun w' hSw => by (obtain ⟨s0, s1, s2⟩ := hSw); go_simp⟩) (by assumption) ?_
              simp only [Act.put, List.setIfInBounds_toArray, List.set_cons_zero, List.set_cons_succ]
              refine wpAnyH_ready (rs := [1, 8]) (by kernel_rfl) (by simp) (AllReadyH.cons rfl (fun K hK => ?_) (AllReadyH.cons rfl (fun K hK => ?_) AllReadyH.nil))
              · have c2 := row_at (j := 2) (v := .slice sa k cap) ((HMZ.out.block _ (lt_of_heap HUa.out) (fun h => h)).trans HUa.out) rfl
                go_simp
                refine hK.out _ _ (HUp.out _ ((HMZ.out.block _ (lt_of_heap HCx.out) (fun h => h)).trans HCx.out)) (fun hHeld2 => ?_)
                clear c2
                clear hK K hHeld
                have hHeld := hHeld2
                clear hHeld2
                try simp only [Act.put, List.setIfInBounds_toArray, List.set_cons_zero, List.set_cons_succ]
                refine wpAnyH_ready (rs := [8]) (by kernel_rfl) (by simp) (AllReadyH.cons rfl (fun K hK => ?_) AllReadyH.nil)
                go_simp
                refine (HLn.out Z HMZ.out).mono ?_
                rintro e w3 ⟨sa3, cap3, rfl, hl3, hb3, hm3⟩
                have HM3 : Hid (Mod (fun _ => False) D w3) := hid (Mod.trans HMZ.out hm3)
                have HL3 := hid hl3
                have HB3 : Hid (∀ b, blk sa3 b → D.heap.size ≤ b) := hid (fun b hb => Nat.le_trans HMZ.out.size (hb3 b hb))
                clear hl3 hb3 hm3
                refine hK.out _ _ (HUp.out _ ((HM3.out.block _ (lt_of_heap HCx.out) (fun h => h)).trans HCx.out)) (fun hHeld2 => ?_)
                clear hK K hHeld
                have hHeld := hHeld2
                clear hHeld2
                try simp only [Act.put, List.setIfInBounds_toArray, List.set_cons_zero, List.set_cons_succ]
                refine wpAnyH_take_at (i := 9) (d := 83) (v := .agg #[.int .i64 xo, .int .i64 xs, .slice sa3 xls.length cap3]) rfl rfl (by kernel_rfl) (by kernel_rfl) (by kernel_rfl) (fun _ _ _ h => h) (Or.inl ⟨by rfl, fun w' _ => by go_simp⟩) (by assumption) ?_
                simp only [Act.put, List.setIfInBounds_toArray, List.set_cons_zero, List.set_cons_succ]
                refine wpAnyH_ready (rs := [10]) (by kernel_rfl) (by simp) (AllReadyH.cons rfl (fun K hK => ?_) AllReadyH.nil)
                go_simp
                have hmb : Mod (fun _ => False) w3 (w3.alloc (.cells #[.int .i64 xo, .int .i64 xs, .slice sa3 xls.length cap3] 67)) := (Mod.refl _ _).alloc _
                have HMb := hid (HM3.out.trans hmb)
                have HMb3 := hid hmb
                have HOb2 := hid (HOa.out.mod HMb.out (fun _ _ h => h))
                have HSb : Hid (Src (w3.alloc (.cells #[.int .i64 xo, .int .i64 xs, .slice sa3 xls.length cap3] 67)) 3 (some ⟨w3.heap.size, 0, none⟩) 1 (Gd.cs ⟨xo, xs, sa3, cap3, xls⟩)) := hid (src_new (heap_alloc_new w3 _) rfl)
                clear hmb
                refine hK.out _ _ (HUp.out _ ((HMb.out.block _ (lt_of_heap HCx.out) (fun h => h)).trans HCx.out)) (fun hHeld2 => ?_)
                clear hK K hHeld
                have hHeld := hHeld2
                clear hHeld2
                try simp only [Act.put, List.setIfInBounds_toArray, List.set_cons_zero, List.set_cons_succ]
                refine wpAnyH_ready (rs := [11]) (by kernel_rfl) (by simp) (AllReadyH.cons rfl (fun K hK => ?_) AllReadyH.nil)
                refine step_append_Own rfl (.tmp 75) (.tmp 84) 38 rfl 67 i2 _ 3 40 Try.underlying38 hi2 hz20 hz21 hz22 rfl sa k cap _ (by simp [Act.eval]) HOb2.out (some ⟨w3.heap.size, 0, none⟩) 1 1 _ (by simp [Act.eval]) HSb.out (Gd.one _) (by unfold maxLen; omega) (by omega) ?_
                intro sa' cap' w6 hown6 hm6 hb6 hn6 hr6
                have HO6 := hid hown6
                have HM6 := hid hm6
                have HB6 := hid hb6
                clear hown6 hm6 hb6 hn6 hr6
                have HSaW : Hid (∀ i, blk sa i → W2.heap.size ≤ i ∧ i < wo.heap.size) := hid (fun i hi => ⟨HNw.out i hi, HOw.out.lt i hi⟩)
                have HU6 := hid ((HM6.out.block _ (lt_of_heap ((HMb.out.block _ (lt_of_heap HUa.out) (fun h => h)).trans HUa.out)) (fun h => by have h1 := (HSaW.out _ h).1; have h2 := HSq2.out; omega)).trans ((HMb.out.block _ (lt_of_heap HUa.out) (fun h => h)).trans HUa.out))
                have HC6 := hid ((HM6.out.block _ (lt_of_heap ((HMb.out.block _ (lt_of_heap HCx.out) (fun h => h)).trans HCx.out)) (fun h => by have h1 := (HSaW.out _ h).2; omega)).trans ((HMb.out.block _ (lt_of_heap HCx.out) (fun h => h)).trans HCx.out))
                refine hK.out _ _ (HUp.out _ HC6.out) (fun hHeld2 => ?_)
                clear hK K hHeld
                have hHeld := hHeld2
                clear hHeld2
                try simp only [Act.put, List.setIfInBounds_toArray]
                refine wpAnyH_take_at (i := 12) (d := 86) (v := .pointer (some ⟨w.heap.size + 1 + 1, 2, none⟩)) rfl rfl (by kernel_rfl) (by kernel_rfl) (by kernel_rfl) (fun _ _ _ h => h) (Or.inl ⟨by rfl, fun w' _ => by go_simp⟩) (by assumption) ?_
                simp only [Act.put]
                refine wpAnyH_ready (rs := [13]) (by kernel_rfl) (by simp) (AllReadyH.cons rfl (fun K hK => ?_) AllReadyH.nil)
                obtain ⟨c0, c1, c2, c3, c4, c5, c6, c7⟩ := row8 HU6.out
                obtain ⟨f0, f1, f2, f3, f4, f5, f6, f7⟩ := froz8 HU6.out
                go_simp
                have h7 : (w6.setCell ⟨w.heap.size + 1 + 1, 2, none⟩ (.slice sa' (k + 1) cap')).heap[wo.heap.size]? = some (.cells #[.int .i64 xo, .int .i64 xs, .slice xla xls.length xlc] 63 (0, 0)) := set_other HC6.out (by have h1 := HSq2.out; have h2 := HMr.out.size; omega) _
                refine hK.out _ _ (HUp.out _ h7) (fun hHeld2 => ?_)
                clear c0 c1 c2 c3 c4 c5 c6 c7 f0 f1 f2 f3 f4 f5 f6 f7 h7
                clear hK K hHeld
                have hHeld := hHeld2
                clear hHeld2
                try simp only [Act.put, List.setIfInBounds_toArray, List.set_cons_zero, List.set_cons_succ]
                refine wpAnyH_done (by kernel_rfl) ?_ _
                clear hHeld
                go_wp2_with fail
                go_roundw
                case rel =>
                  have hm7 : Mod (fun j => j = w.heap.size + 1 + 1) w6 (w6.setCell ⟨w.heap.size + 1 + 1, 2, none⟩ (.slice sa' (k + 1) cap')) := Mod.setCell (S := fun j => j = w.heap.size + 1 + 1) (Mod.refl _ _) (fun _ => rfl) _
                  exact goods_step HSq2.out HMr.out HMa.out HDz.out HMb3.out HM3.out HO6.out HM6.out HB6.out hm7 HU6.out HNw.out HSaW.out HYl.out HYp.out HTk.out HYa.out HYn.out HL3.out HB3.out HNl.out hlt (by go_num) HYd.out
                case measure => simp [intOf]; omega
              · go_simp
                refine (HLn.out Z HMZ.out).mono ?_
                rintro e w3 ⟨sa3, cap3, rfl, hl3, hb3, hm3⟩
                have HM3 : Hid (Mod (fun _ => False) D w3) := hid (Mod.trans HMZ.out hm3)
                have HL3 := hid hl3
                have HB3 : Hid (∀ b, blk sa3 b → D.heap.size ≤ b) := hid (fun b hb => Nat.le_trans HMZ.out.size (hb3 b hb))
                clear hl3 hb3 hm3
                refine hK.out _ _ (HUp.out _ ((HM3.out.block _ (lt_of_heap HCx.out) (fun h => h)).trans HCx.out)) (fun hHeld2 => ?_)
                clear hK K hHeld
                have hHeld := hHeld2
                clear hHeld2
                try simp only [Act.put, List.setIfInBounds_toArray, List.set_cons_zero, List.set_cons_succ]
                refine wpAnyH_take_at (i := 9) (d := 83) (v := .agg #[.int .i64 xo, .int .i64 xs, .slice sa3 xls.length cap3]) rfl rfl (by kernel_rfl) (by kernel_rfl) (by kernel_rfl) (fun _ _ _ h => h) (Or.inl ⟨by rfl, fun w' _ => by go_simp⟩) (by assumption) ?_
                simp only [Act.put, List.setIfInBounds_toArray, List.set_cons_zero, List.set_cons_succ]
                refine wpAnyH_ready (rs := [1, 10]) (by kernel_rfl) (by simp) (AllReadyH.cons rfl (fun K hK => ?_) (AllReadyH.cons rfl (fun K hK => ?_) AllReadyH.nil))
                · have c2 := row_at (j := 2) (v := .slice sa k cap) ((HM3.out.block _ (lt_of_heap HUa.out) (fun h => h)).trans HUa.out) rfl
                  go_simp
                  refine hK.out _ _ (HUp.out _ ((HM3.out.block _ (lt_of_heap HCx.out) (fun h => h)).trans HCx.out)) (fun hHeld2 => ?_)
                  clear c2
                  clear hK K hHeld
                  have hHeld := hHeld2
                  clear hHeld2
                  try simp only [Act.put, List.setIfInBounds_toArray, List.set_cons_zero, List.set_cons_succ]
                  refine wpAnyH_ready (rs := [10]) (by kernel_rfl) (by simp) (AllReadyH.cons rfl (fun K hK => ?_) AllReadyH.nil)
                  go_simp
                  have hmb : Mod (fun _ => False) w3 (w3.alloc (.cells #[.int .i64 xo, .int .i64 xs, .slice sa3 xls.length cap3] 67)) := (Mod.refl _ _).alloc _
                  have HMb := hid (HM3.out.trans hmb)
                  have HMb3 := hid hmb
                  have HOb2 := hid (HOa.out.mod HMb.out (fun _ _ h => h))
                  have HSb : Hid (Src (w3.alloc (.cells #[.int .i64 xo, .int .i64 xs, .slice sa3 xls.length cap3] 67)) 3 (some ⟨w3.heap.size, 0, none⟩) 1 (Gd.cs ⟨xo, xs, sa3, cap3, xls⟩)) := hid (src_new (heap_alloc_new w3 _) rfl)
                  clear hmb
                  refine hK.out _ _ (HUp.out _ ((HMb.out.block _ (lt_of_heap HCx.out) (fun h => h)).trans HCx.out)) (fun hHeld2 => ?_)
                  clear hK K hHeld
                  have hHeld := hHeld2
                  clear hHeld2
                  try simp only [Act.put, List.setIfInBounds_toArray, List.set_cons_zero, List.set_cons_succ]
                  refine wpAnyH_ready (rs := [11]) (by kernel_rfl) (by simp) (AllReadyH.cons rfl (fun K hK => ?_) AllReadyH.nil)
                  refine step_append_Own rfl (.tmp 75) (.tmp 84) 38 rfl 67 i2 _ 3 40 Try.underlying38 hi2 hz20 hz21 hz22 rfl sa k cap _ (by simp [Act.eval]) HOb2.out (some ⟨w3.heap.size, 0, none⟩) 1 1 _ (by simp [Act.eval]) HSb.out (Gd.one _) (by unfold maxLen; omega) (by omega) ?_
                  intro sa' cap' w6 hown6 hm6 hb6 hn6 hr6
                  have HO6 := hid hown6
                  have HM6 := hid hm6
                  have HB6 := hid hb6
                  clear hown6 hm6 hb6 hn6 hr6
                  have HSaW : Hid (∀ i, blk sa i → W2.heap.size ≤ i ∧ i < wo.heap.size) := hid (fun i hi => ⟨HNw.out i hi, HOw.out.lt i hi⟩)
                  have HU6 := hid ((HM6.out.block _ (lt_of_heap ((HMb.out.block _ (lt_of_heap HUa.out) (fun h => h)).trans HUa.out)) (fun h => by have h1 := (HSaW.out _ h).1; have h2 := HSq2.out; omega)).trans ((HMb.out.block _ (lt_of_heap HUa.out) (fun h => h)).trans HUa.out))
                  have HC6 := hid ((HM6.out.block _ (lt_of_heap ((HMb.out.block _ (lt_of_heap HCx.out) (fun h => h)).trans HCx.out)) (fun h => by have h1 := (HSaW.out _ h).2; omega)).trans ((HMb.out.block _ (lt_of_heap HCx.out) (fun h => h)).trans HCx.out))
                  refine hK.out _ _ (HUp.out _ HC6.out) (fun hHeld2 => ?_)
                  clear hK K hHeld
                  have hHeld := hHeld2
                  clear hHeld2
                  try simp only [Act.put, List.setIfInBounds_toArray]
                  refine wpAnyH_take_at (i := 12) (d := 86) (v := .pointer (some ⟨w.heap.size + 1 + 1, 2, none⟩)) rfl rfl (by kernel_rfl) (by kernel_rfl) (by kernel_rfl) (fun _ _ _ h => h) (Or.inl ⟨by rfl, fun w' _ => by go_simp⟩) (by assumption) ?_
                  simp only [Act.put]
                  refine wpAnyH_ready (rs := [13]) (by kernel_rfl) (by simp) (AllReadyH.cons rfl (fun K hK => ?_) AllReadyH.nil)
                  obtain ⟨c0, c1, c2, c3, c4, c5, c6, c7⟩ := row8 HU6.out
                  obtain ⟨f0, f1, f2, f3, f4, f5, f6, f7⟩ := froz8 HU6.out
                  go_simp
                  have h7 : (w6.setCell ⟨w.heap.size + 1 + 1, 2, none⟩ (.slice sa' (k + 1) cap')).heap[wo.heap.size]? = some (.cells #[.int .i64 xo, .int .i64 xs, .slice xla xls.length xlc] 63 (0, 0)) := set_other HC6.out (by have h1 := HSq2.out; have h2 := HMr.out.size; omega) _
                  refine hK.out _ _ (HUp.out _ h7) (fun hHeld2 => ?_)
                  clear c0 c1 c2 c3 c4 c5 c6 c7 f0 f1 f2 f3 f4 f5 f6 f7 h7
                  clear hK K hHeld
                  have hHeld := hHeld2
                  clear hHeld2
                  try simp only [Act.put, List.setIfInBounds_toArray, List.set_cons_zero, List.set_cons_succ]
                  refine wpAnyH_done (by kernel_rfl) ?_ _
                  clear hHeld
                  go_wp2_with fail
                  go_roundw
                  case rel =>
                    have hm7 : Mod (fun j => j = w.heap.size + 1 + 1) w6 (w6.setCell ⟨w.heap.size + 1 + 1, 2, none⟩ (.slice sa' (k + 1) cap')) := Mod.setCell (S := fun j => j = w.heap.size + 1 + 1) (Mod.refl _ _) (fun _ => rfl) _
                    exact goods_step HSq2.out HMr.out HMa.out HDz.out HMb3.out HM3.out HO6.out HM6.out HB6.out hm7 HU6.out HNw.out HSaW.out HYl.out HYp.out HTk.out HYa.out HYn.out HL3.out HB3.out HNl.out hlt (by go_num) HYd.out
                  case measure => simp [intOf]; omega
                · go_simp
                  have hmb : Mod (fun _ => False) w3 (w3.alloc (.cells #[.int .i64 xo, .int .i64 xs, .slice sa3 xls.length cap3] 67)) := (Mod.refl _ _).alloc _
                  have HMb := hid (HM3.out.trans hmb)
                  have HMb3 := hid hmb
                  have HOb2 := hid (HOa.out.mod HMb.out (fun _ _ h => h))
                  have HSb : Hid (Src (w3.alloc (.cells #[.int .i64 xo, .int .i64 xs, .slice sa3 xls.length cap3] 67)) 3 (some ⟨w3.heap.size, 0, none⟩) 1 (Gd.cs ⟨xo, xs, sa3, cap3, xls⟩)) := hid (src_new (heap_alloc_new w3 _) rfl)
                  clear hmb
                  refine hK.out _ _ (HUp.out _ ((HMb.out.block _ (lt_of_heap HCx.out) (fun h => h)).trans HCx.out)) (fun hHeld2 => ?_)
                  clear hK K hHeld
                  have hHeld := hHeld2
                  clear hHeld2
                  try simp only [Act.put, List.setIfInBounds_toArray, List.set_cons_zero, List.set_cons_succ]
                  refine wpAnyH_ready (rs := [1]) (by kernel_rfl) (by simp) (AllReadyH.cons rfl (fun K hK => ?_) AllReadyH.nil)
                  have c2 := row_at (j := 2) (v := .slice sa k cap) ((HMb.out.block _ (lt_of_heap HUa.out) (fun h => h)).trans HUa.out) rfl
                  go_simp
                  refine hK.out _ _ (HUp.out _ ((HMb.out.block _ (lt_of_heap HCx.out) (fun h => h)).trans HCx.out)) (fun hHeld2 => ?_)
                  clear c2
                  clear hK K hHeld
                  have hHeld := hHeld2
                  clear hHeld2
                  try simp only [Act.put, List.setIfInBounds_toArray, List.set_cons_zero, List.set_cons_succ]
                  refine wpAnyH_ready (rs := [11]) (by kernel_rfl) (by simp) (AllReadyH.cons rfl (fun K hK => ?_) AllReadyH.nil)
                  refine step_append_Own rfl (.tmp 75) (.tmp 84) 38 rfl 67 i2 _ 3 40 Try.underlying38 hi2 hz20 hz21 hz22 rfl sa k cap _ (by simp [Act.eval]) HOb2.out (some ⟨w3.heap.size, 0, none⟩) 1 1 _ (by simp [Act.eval]) HSb.out (Gd.one _) (by unfold maxLen; omega) (by omega) ?_
                  intro sa' cap' w6 hown6 hm6 hb6 hn6 hr6
                  have HO6 := hid hown6
                  have HM6 := hid hm6
                  have HB6 := hid hb6
                  clear hown6 hm6 hb6 hn6 hr6
                  have HSaW : Hid (∀ i, blk sa i → W2.heap.size ≤ i ∧ i < wo.heap.size) := hid (fun i hi => ⟨HNw.out i hi, HOw.out.lt i hi⟩)
                  have HU6 := hid ((HM6.out.block _ (lt_of_heap ((HMb.out.block _ (lt_of_heap HUa.out) (fun h => h)).trans HUa.out)) (fun h => by have h1 := (HSaW.out _ h).1; have h2 := HSq2.out; omega)).trans ((HMb.out.block _ (lt_of_heap HUa.out) (fun h => h)).trans HUa.out))
                  have HC6 := hid ((HM6.out.block _ (lt_of_heap ((HMb.out.block _ (lt_of_heap HCx.out) (fun h => h)).trans HCx.out)) (fun h => by have h1 := (HSaW.out _ h).2; omega)).trans ((HMb.out.block _ (lt_of_heap HCx.out) (fun h => h)).trans HCx.out))
                  refine hK.out _ _ (HUp.out _ HC6.out) (fun hHeld2 => ?_)
                  clear hK K hHeld
                  have hHeld := hHeld2
                  clear hHeld2
                  try simp only [Act.put, List.setIfInBounds_toArray]
                  refine wpAnyH_take_at (i := 12) (d := 86) (v := .pointer (some ⟨w.heap.size + 1 + 1, 2, none⟩)) rfl rfl (by kernel_rfl) (by kernel_rfl) (by kernel_rfl) (fun _ _ _ h => h) (Or.inl ⟨by rfl, fun w' _ => by go_simp⟩) (by assumption) ?_
                  simp only [Act.put]
                  refine wpAnyH_ready (rs := [13]) (by kernel_rfl) (by simp) (AllReadyH.cons rfl (fun K hK => ?_) AllReadyH.nil)
                  obtain ⟨c0, c1, c2, c3, c4, c5, c6, c7⟩ := row8 HU6.out
                  obtain ⟨f0, f1, f2, f3, f4, f5, f6, f7⟩ := froz8 HU6.out
                  go_simp
                  have h7 : (w6.setCell ⟨w.heap.size + 1 + 1, 2, none⟩ (.slice sa' (k + 1) cap')).heap[wo.heap.size]? = some (.cells #[.int .i64 xo, .int .i64 xs, .slice xla xls.length xlc] 63 (0, 0)) := set_other HC6.out (by have h1 := HSq2.out; have h2 := HMr.out.size; omega) _
                  refine hK.out _ _ (HUp.out _ h7) (fun hHeld2 => ?_)
                  clear c0 c1 c2 c3 c4 c5 c6 c7 f0 f1 f2 f3 f4 f5 f6 f7 h7
                  clear hK K hHeld
                  have hHeld := hHeld2
                  clear hHeld2
                  try simp only [Act.put, List.setIfInBounds_toArray, List.set_cons_zero, List.set_cons_succ]
                  refine wpAnyH_done (by kernel_rfl) ?_ _
                  clear hHeld
                  go_wp2_with fail
                  go_roundw
                  case rel =>
                    have hm7 : Mod (fun j => j = w.heap.size + 1 + 1) w6 (w6.setCell ⟨w.heap.size + 1 + 1, 2, none⟩ (.slice sa' (k + 1) cap')) := Mod.setCell (S := fun j => j = w.heap.size + 1 + 1) (Mod.refl _ _) (fun _ => rfl) _
                    exact goods_step HSq2.out HMr.out HMa.out HDz.out HMb3.out HM3.out HO6.out HM6.out HB6.out hm7 HU6.out HNw.out HSaW.out HYl.out HYp.out HTk.out HYa.out HYn.out HL3.out HB3.out HNl.out hlt (by go_num) HYd.out
                  case measure => simp [intOf]; omega
        case pos =>
          obtain ⟨x, hx⟩ : ∃ x, ls[k]? = some x := ⟨_, List.getElem?_eq_getElem hlt⟩
          have hlt0 := HT.out.nl
          have hlc := HT.out.l.ext HMw.out
          have HFl := hid (flat_succ Lv.cs hx)
          obtain ⟨xi, xr, xh, xa, xs, xb⟩ := x
          obtain ⟨g, off, hge⟩ := hlc.some (by omega)
          subst hge
          have q0 := hlc.cell Lv.len hx (j := 0) rfl
          have q1 := hlc.cell Lv.len hx (j := 1) rfl
          have q2 := hlc.cell Lv.len hx (j := 2) rfl
          have q3 := hlc.cell Lv.len hx (j := 3) rfl
          have q4 := hlc.cell Lv.len hx (j := 4) rfl
          have q5 := hlc.cell Lv.len hx (j := 5) rfl
          rw [Nat.add_zero] at q0
          simp only at q0 q1 q2 q3 q4 q5
          have hma : Mod (fun _ => False) wo ((wo.alloc (.cells #[.int .i64 xi, .int .i64 xr, .int .i64 xh, .int .i64 xa, .int .i64 xs, .int .i64 xb] 58)).alloc (.cells #[.int .i64 xi, .int .i64 xr, .int .i64 xh, .int .i64 xa, .int .i64 xs, .int .i64 xb] 59)) := ((Mod.refl _ _).alloc _).alloc _
          have HMa := hid hma
          have HOa := hid (HOw.out.mod hma (fun _ _ h => h))
          have HSa : Hid (Src ((wo.alloc (.cells #[.int .i64 xi, .int .i64 xr, .int .i64 xh, .int .i64 xa, .int .i64 xs, .int .i64 xb] 58)).alloc (.cells #[.int .i64 xi, .int .i64 xr, .int .i64 xh, .int .i64 xa, .int .i64 xs, .int .i64 xb] 59)) 6 (some ⟨wo.heap.size + 1, 0, none⟩) 1 [.int .i64 xi, .int .i64 xr, .int .i64 xh, .int .i64 xa, .int .i64 xs, .int .i64 xb]) := hid (src_new (by have := heap_alloc_new (wo.alloc (.cells #[.int .i64 xi, .int .i64 xr, .int .i64 xh, .int .i64 xa, .int .i64 xs, .int .i64 xb] 58)) (.cells #[.int .i64 xi, .int .i64 xr, .int .i64 xh, .int .i64 xa, .int .i64 xs, .int .i64 xb] 59); rw [World.size_alloc] at this; exact this) rfl)
          have HUa := hid ((hma.block _ (lt_of_heap HOb.out) (fun h => h)).trans HOb.out)
          obtain ⟨c0, c1, c2, c3, c4, c5, c6, c7⟩ := row8 ((((Mod.refl (fun _ => False) wo).alloc (.cells #[.int .i64 xi, .int .i64 xr, .int .i64 xh, .int .i64 xa, .int .i64 xs, .int .i64 xb] 58)).block _ (lt_of_heap HOb.out) (fun h => h)).trans HOb.out)
          clear hma hlc hx
          go_wp2_with (at_builtin; refine wpList_append_Own rfl (.tmp 49) (.tmp 63) 37 rfl 59 i1 _ 6 48 Try.underlying37 hi1 hz10 hz11 hz12 rfl sa k cap _ rfl HOa.out (some ⟨wo.heap.size + 1, 0, none⟩) 1 1 _ rfl HSa.out (Lv.one ⟨xi, xr, xh, xa, xs, xb⟩) (by unfold maxLen; omega) (by omega) ?_; intro sa' cap' w6 hown6 hm6 hb6 hn6 hr6; have HO6 := hid hown6; have HM6 := hid hm6; have HB6 := hid hb6; clear hown6 hm6 hb6 hn6 hr6 c0 c1 c2 c3 c4 c5 c6 c7; have HU6 := hid ((HM6.out.block _ (lt_of_heap HUa.out) (fun h => by have h1 := HNw.out _ h; have h2 := HSq1.out; omega)).trans HUa.out); obtain ⟨c0, c1, c2, c3, c4, c5, c6, c7⟩ := row8 HU6.out; obtain ⟨f0, f1, f2, f3, f4, f5, f6, f7⟩ := froz8 HU6.out)
          go_roundw
          case rel =>
            have hm7 : Mod (fun j => j = w.heap.size + 1 + 1) w6 (w6.setCell ⟨w.heap.size + 1 + 1, 1, none⟩ (.slice sa' (k + 1) cap')) := Mod.setCell (S := fun j => j = w.heap.size + 1 + 1) (Mod.refl _ _) (fun _ => rfl) _
            have hbn : ∀ b, blk sa' b → W1.heap.size ≤ b := fun b hb => by
              rcases HB6.out b hb with h | h
              · exact HNw.out b h
              · have h1 := HMr.out.size
                have h2 := HMa.out.size
                omega
            refine ⟨k + 1, sa', cap', by omega, by go_num, by rw [HFl.out]; exact HO6.out.mod hm7 (fun i hi h => by have := hbn i hi; have := HSq1.out; omega), hbn, ?_, set8_1 HU6.out _⟩
            exact ((HMr.out.trans (HMa.out.mono (fun _ _ h => h.elim))).then HM6.out (fun i hi h => by have := HNw.out i h; omega)).trans hm7
          case measure => simp [intOf]; omega
    case pos =>
      obtain ⟨x, hx⟩ : ∃ x, hs[k]? = some x := ⟨_, List.getElem?_eq_getElem hlt⟩
      have hlt0 := HT.out.nh
      have hlc := HT.out.h.ext HMw.out
      have HFl := hid (flat_succ Hl.cs hx)
      obtain ⟨xo, xc, xa⟩ := x
      obtain ⟨g, off, hge⟩ := hlc.some (by omega)
      subst hge
      have q0 := hlc.cell Hl.len hx (j := 0) rfl
      have q1 := hlc.cell Hl.len hx (j := 1) rfl
      have q2 := hlc.cell Hl.len hx (j := 2) rfl
      rw [Nat.add_zero] at q0
      simp only at q0 q1 q2
      have hma : Mod (fun _ => False) wo ((wo.alloc (.cells #[.int .i64 xo, .int .i64 xc, .int .i64 xa] 55)).alloc (.cells #[.int .i64 xo, .int .i64 xc, .int .i64 xa] 56)) := ((Mod.refl _ _).alloc _).alloc _
      have HMa := hid hma
      have HOa := hid (HOw.out.mod hma (fun _ _ h => h))
      have HSa : Hid (Src ((wo.alloc (.cells #[.int .i64 xo, .int .i64 xc, .int .i64 xa] 55)).alloc (.cells #[.int .i64 xo, .int .i64 xc, .int .i64 xa] 56)) 3 (some ⟨wo.heap.size + 1, 0, none⟩) 1 [.int .i64 xo, .int .i64 xc, .int .i64 xa]) := hid (src_new (by have := heap_alloc_new (wo.alloc (.cells #[.int .i64 xo, .int .i64 xc, .int .i64 xa] 55)) (.cells #[.int .i64 xo, .int .i64 xc, .int .i64 xa] 56); rw [World.size_alloc] at this; exact this) rfl)
      have HUa := hid ((hma.block _ (lt_of_heap HOb.out) (fun h => h)).trans HOb.out)
      obtain ⟨c0, c1, c2, c3, c4, c5, c6, c7⟩ := row8 ((((Mod.refl (fun _ => False) wo).alloc (.cells #[.int .i64 xo, .int .i64 xc, .int .i64 xa] 55)).block _ (lt_of_heap HOb.out) (fun h => h)).trans HOb.out)
      clear hma hlc hx
      go_wp2_with (at_builtin; refine wpList_append_Own rfl (.tmp 29) (.tmp 37) 36 rfl 56 i0 _ 3 24 Try.underlying36 hi0 hz00 hz01 hz02 rfl sa k cap _ rfl HOa.out (some ⟨wo.heap.size + 1, 0, none⟩) 1 1 _ rfl HSa.out (Hl.one ⟨xo, xc, xa⟩) (by unfold maxLen; omega) (by omega) ?_; intro sa' cap' w6 hown6 hm6 hb6 hn6 hr6; have HO6 := hid hown6; have HM6 := hid hm6; have HB6 := hid hb6; clear hown6 hm6 hb6 hn6 hr6 c0 c1 c2 c3 c4 c5 c6 c7; have HU6 := hid ((HM6.out.block _ (lt_of_heap HUa.out) (fun h => by have h1 := HNw.out _ h; have h2 := HSq0.out; omega)).trans HUa.out); obtain ⟨c0, c1, c2, c3, c4, c5, c6, c7⟩ := row8 HU6.out; obtain ⟨f0, f1, f2, f3, f4, f5, f6, f7⟩ := froz8 HU6.out)
      go_roundw
      case rel =>
        have hm7 : Mod (fun j => j = w.heap.size + 1 + 1) w6 (w6.setCell ⟨w.heap.size + 1 + 1, 0, none⟩ (.slice sa' (k + 1) cap')) := Mod.setCell (S := fun j => j = w.heap.size + 1 + 1) (Mod.refl _ _) (fun _ => rfl) _
        have hbn : ∀ b, blk sa' b → W0.heap.size ≤ b := fun b hb => by
          rcases HB6.out b hb with h | h
          · exact HNw.out b h
          · have h1 := HMr.out.size
            have h2 := HMa.out.size
            omega
        refine ⟨k + 1, sa', cap', by omega, by go_num, by rw [HFl.out]; exact HO6.out.mod hm7 (fun i hi h => by have := hbn i hi; have := HSq0.out; omega), hbn, ?_, set8_0 HU6.out _⟩
        exact ((HMr.out.trans (HMa.out.mono (fun _ _ h => h.elim))).then HM6.out (fun i hi h => by have := HNw.out i h; omega)).trans hm7
      case measure => simp [intOf]; omega

end Go.Proofs.Ytigoikepcbbhjaa
