/- order; holds and accounts: laws 2 and 3 -/
import Derived.Test.YtigoikepcbbhjaaAuV
namespace Go.Proofs.Ytigoikepcbbhjaa
open Go Go.RowKit

variable {v0 v1 v2 v3 v4 v5 v6 v7 v8 v9 v10 v11 v12 v13 v14 : Value}

set_option maxRecDepth 100000 in
theorem orderC_any {w : World} {b : Nat} {id : Int} (x : Od) (hb : w.cell? ⟨b, 0, none⟩ = some (.int .i64 id)) :
    Calls Try.prog 38 #[.agg #[.int .i64 x.i, .int .i64 x.c, .string x.f, .slice x.la x.ll x.lc, .int .i64 x.n, .int .i64 x.t], .pointer (some ⟨b, 0, none⟩)] w fun e w' => e = .returned (.bool (x.i == id)) ∧ Mod (fun _ => False) w w' := by
  have hma : Mod (fun _ => False) w (w.alloc (.cells #[.int .i64 x.i, .int .i64 x.c, .string x.f, .slice x.la x.ll x.lc, .int .i64 x.n, .int .i64 x.t] 74)) := (Mod.refl _ _).alloc _
  have HM := hid hma
  have hb2 : (w.alloc (.cells #[.int .i64 x.i, .int .i64 x.c, .string x.f, .slice x.la x.ll x.lc, .int .i64 x.n, .int .i64 x.t] 74)).cell? ⟨b, 0, none⟩ = some (.int .i64 id) := (hma.cell (World.block_lt_of_cell? _ _ hb) (fun h => h)).trans hb
  clear hma hb
  go_enter Try.func38, Try.ntmps38
  go_wp2_with fail
  go_ret
  exact ⟨rfl, HM.out⟩

theorem alloc3 (w : World) (A B C : Obj) : (((w.alloc A).alloc B).alloc C).heap[w.heap.size]? = some A ∧ (((w.alloc A).alloc B).alloc C).heap[w.heap.size + 1]? = some B ∧ (((w.alloc A).alloc B).alloc C).heap[w.heap.size + 1 + 1]? = some C := by
  have h1 : (w.alloc A).heap.size = w.heap.size + 1 := by simp
  have h2 : ((w.alloc A).alloc B).heap.size = w.heap.size + 2 := by simp
  refine ⟨?_, ?_, ?_⟩
  · rw [Below.heap_alloc _ _ _ (by omega), Below.heap_alloc _ _ _ (by omega)]
    exact heap_alloc_new _ _
  · rw [Below.heap_alloc _ _ _ (by omega), ← h1]
    exact heap_alloc_new _ _
  · rw [← h2]
    exact heap_alloc_new _ _

/-- What order answers. -/
def ordV (os : List Od) (id : Int) : Value := match os.find? (fun o => o.i == id) with
  | none => .tuple #[.agg #[.int .i64 0, .int .i64 0, .string ⟨#[]⟩, .slice none 0 0, .int .i64 0, .int .i64 0], .bool false]
  | some o => .tuple #[.agg #[.int .i64 o.i, .int .i64 o.c, .string o.f, .slice o.la o.ll o.lc, .int .i64 o.n, .int .i64 o.t], .bool true]

theorem froz6 {V : World} {b : Nat} {T : TypeId} {u0 u1 u2 u3 u4 u5 : Value} (h : V.heap[b]? = some (.cells #[u0, u1, u2, u3, u4, u5] T (0, 0))) :
    V.frozen? ⟨b, 0, none⟩ = false ∧ V.frozen? ⟨b, 1, none⟩ = false ∧ V.frozen? ⟨b, 2, none⟩ = false ∧ V.frozen? ⟨b, 3, none⟩ = false ∧ V.frozen? ⟨b, 4, none⟩ = false ∧ V.frozen? ⟨b, 5, none⟩ = false :=
  ⟨frozen_of_row _ _ 0 _ _ h, frozen_of_row _ _ 1 _ _ h, frozen_of_row _ _ 2 _ _ h, frozen_of_row _ _ 3 _ _ h, frozen_of_row _ _ 4 _ _ h, frozen_of_row _ _ 5 _ _ h⟩

def put6 (w : World) (b : Nat) (u0 u1 u2 u3 u4 u5 : Value) : World := (((((w.setCell ⟨b, 0, none⟩ u0).setCell ⟨b, 1, none⟩ u1).setCell ⟨b, 2, none⟩ u2).setCell ⟨b, 3, none⟩ u3).setCell ⟨b, 4, none⟩ u4).setCell ⟨b, 5, none⟩ u5

theorem set6 {w : World} {b : Nat} {T : TypeId} {a0 a1 a2 a3 a4 a5 : Value} (h : w.heap[b]? = some (.cells #[a0, a1, a2, a3, a4, a5] T (0, 0))) (u0 u1 u2 u3 u4 u5 : Value) :
    (put6 w b u0 u1 u2 u3 u4 u5).heap[b]? = some (.cells #[u0, u1, u2, u3, u4, u5] T (0, 0)) :=
  heap_setCell_same _ b 5 _ T u5 (heap_setCell_same _ b 4 _ T u4 (heap_setCell_same _ b 3 _ T u3 (heap_setCell_same _ b 2 _ T u2 (heap_setCell_same _ b 1 _ T u1 (heap_setCell_same w b 0 _ T u0 h)))))

theorem mod6 (w : World) (b : Nat) (u0 u1 u2 u3 u4 u5 : Value) : Mod (fun j => j = b) w (put6 w b u0 u1 u2 u3 u4 u5) :=
  Mod.setCell (S := fun j => j = b) (Mod.setCell (S := fun j => j = b) (Mod.setCell (S := fun j => j = b) (Mod.setCell (S := fun j => j = b) (Mod.setCell (S := fun j => j = b) (Mod.setCell (S := fun j => j = b) (Mod.refl _ _) (fun _ => rfl) _) (fun _ => rfl) _) (fun _ => rfl) _) (fun _ => rfl) _) (fun _ => rfl) _) (fun _ => rfl) _

theorem find_map {α β : Type} (f : α → β) (p : β → Bool) (l : List α) : (l.map f).find? p = (l.find? (fun x => p (f x))).map f := by
  rw [List.find?_map]; rfl

set_option maxRecDepth 100000 in
set_option maxHeartbeats 2000000 in
theorem order_any {w : World} {oa : Option Addr} {os : List Od} (oc : Nat) (id : Int) (ho : Lies w 6 Od.cs oa os) (hn : os.length ≤ 140737488351232) :
    Calls Try.prog 25 #[.agg #[v0, v1, v2, v3, v4, v5, v6, v7, v8, .slice oa os.length oc, v10, v11, v12, v13, v14], .int .i64 id] w fun e w' => e = .returned (ordV os id) ∧ Mod (fun _ => False) w w' := by
  obtain ⟨a1, a2, a3⟩ := alloc3 w (.cells #[v0, v1, v2, v3, v4, v5, v6, v7, v8, .slice oa os.length oc, v10, v11, v12, v13, v14] 35) (.cells #[.int .i64 id] 3) (.cells #[.int .i64 0, .int .i64 0, .string ⟨#[]⟩, .slice none 0 0, .int .i64 0, .int .i64 0] 74)
  have hma : Mod (fun _ => False) w (((w.alloc (.cells #[v0, v1, v2, v3, v4, v5, v6, v7, v8, .slice oa os.length oc, v10, v11, v12, v13, v14] 35)).alloc (.cells #[.int .i64 id] 3)).alloc (.cells #[.int .i64 0, .int .i64 0, .string ⟨#[]⟩, .slice none 0 0, .int .i64 0, .int .i64 0] 74)) := (((Mod.refl _ _).alloc _).alloc _).alloc _
  have HM := hid hma
  have HO := hid (ho.ext hma)
  have HA1 := hid a1
  have HA3 := hid a3
  have hid0 := row_at (j := 0) (v := .int .i64 id) a2 rfl
  have HK := hid (idxOrder oc (w.heap.size + 1) (fun x => x.i == id) (ho.ext hma) hn (fun w1 x hm1 _ => orderC_any x ((hm1.cell (World.block_lt_of_cell? _ _ hid0) (fun h => h)).trans hid0)))
  have b9 := row_at (j := 9) (v := .slice oa os.length oc) a1 rfl
  clear hma a1 a2 a3 ho hid0
  rcases idx_find (fun x : Od => x.i == id) os with ⟨hi, hf⟩ | ⟨k, x, hi, hx, hf⟩
  · rw [hi] at HK
    have HF : Hid (ordV os id = .tuple #[.agg #[.int .i64 0, .int .i64 0, .string ⟨#[]⟩, .slice none 0 0, .int .i64 0, .int .i64 0], .bool false]) := hid (by unfold ordV; rw [hf])
    rw [HF.out]
    clear hi hf
    go_enter Try.func25, Try.ntmps25
    go_wp2_with (first | (go_at_call 37; refine HK.out.mono ?_; rintro e w2 ⟨rfl, hm2⟩; have HM2 := hid hm2; have HZ := hid ((hm2.block _ (lt_of_heap HA3.out) (fun h => h)).trans HA3.out); obtain ⟨c0, c1, c2, c3, c4, c5⟩ := row6 HZ.out; obtain ⟨f0, f1, f2, f3, f4, f5⟩ := froz6 HZ.out; clear hm2))
    clear b9
    have hz6 : ((((((w2.setCell ⟨w.heap.size + 1 + 1, 0, none⟩ (.int .i64 0)).setCell ⟨w.heap.size + 1 + 1, 1, none⟩ (.int .i64 0)).setCell ⟨w.heap.size + 1 + 1, 2, none⟩ (.string ⟨#[]⟩)).setCell ⟨w.heap.size + 1 + 1, 3, none⟩ (.slice none 0 0)).setCell ⟨w.heap.size + 1 + 1, 4, none⟩ (.int .i64 0)).setCell ⟨w.heap.size + 1 + 1, 5, none⟩ (.int .i64 0)).heap[w.heap.size + 1 + 1]? = some (.cells #[.int .i64 0, .int .i64 0, .string ⟨#[]⟩, .slice none 0 0, .int .i64 0, .int .i64 0] 74 (0, 0)) := set6 HZ.out (.int .i64 0) (.int .i64 0) (.string ⟨#[]⟩) (.slice none 0 0) (.int .i64 0) (.int .i64 0)
    have HMz : Hid (Mod (fun j => j = w.heap.size + 1 + 1) w2 ((((((w2.setCell ⟨w.heap.size + 1 + 1, 0, none⟩ (.int .i64 0)).setCell ⟨w.heap.size + 1 + 1, 1, none⟩ (.int .i64 0)).setCell ⟨w.heap.size + 1 + 1, 2, none⟩ (.string ⟨#[]⟩)).setCell ⟨w.heap.size + 1 + 1, 3, none⟩ (.slice none 0 0)).setCell ⟨w.heap.size + 1 + 1, 4, none⟩ (.int .i64 0)).setCell ⟨w.heap.size + 1 + 1, 5, none⟩ (.int .i64 0))) := hid (mod6 w2 (w.heap.size + 1 + 1) (.int .i64 0) (.int .i64 0) (.string ⟨#[]⟩) (.slice none 0 0) (.int .i64 0) (.int .i64 0))
    clear c0 c1 c2 c3 c4 c5 f0 f1 f2 f3 f4 f5
    generalize ((((((w2.setCell ⟨w.heap.size + 1 + 1, 0, none⟩ (.int .i64 0)).setCell ⟨w.heap.size + 1 + 1, 1, none⟩ (.int .i64 0)).setCell ⟨w.heap.size + 1 + 1, 2, none⟩ (.string ⟨#[]⟩)).setCell ⟨w.heap.size + 1 + 1, 3, none⟩ (.slice none 0 0)).setCell ⟨w.heap.size + 1 + 1, 4, none⟩ (.int .i64 0)).setCell ⟨w.heap.size + 1 + 1, 5, none⟩ (.int .i64 0)) = Z at *
    obtain ⟨g0, g1, g2, g3, g4, g5⟩ := row6 hz6
    refine bodyPost_ret (v := .tuple #[.agg #[.int .i64 0, .int .i64 0, .string ⟨#[]⟩, .slice none 0 0, .int .i64 0, .int .i64 0], .bool false]) (by simp [results, Try.results25, go_sem, g0, g1, g2, g3, g4, g5]) rfl ⟨rfl, (HM.out.trans HM2.out).then HMz.out (fun i hi h => by omega)⟩
  · rw [hi] at HK
    have HF : Hid (ordV os id = .tuple #[.agg #[.int .i64 x.i, .int .i64 x.c, .string x.f, .slice x.la x.ll x.lc, .int .i64 x.n, .int .i64 x.t], .bool true]) := hid (by unfold ordV; rw [hf])
    rw [HF.out]
    have hkn : k < os.length := (List.getElem?_eq_some_iff.1 hx).1
    have d0 : decide ((k : Int) < 0) = false := decide_eq_false (by omega)
    have d1 : (0 : Int) ≤ (k : Int) := by omega
    have d2 : (k : Int) < (os.length : Int) := by omega
    have HX := hid hx
    obtain ⟨xi, xc, xf, xla, xll, xlc, xn, xt⟩ := x
    obtain ⟨g, off, rfl⟩ := HO.out.some (by omega)
    clear hi hf hx
    go_enter Try.func25, Try.ntmps25
    go_wp2_with (first | (go_at_call 37; refine HK.out.mono ?_; rintro e w2 ⟨rfl, hm2⟩; have HM2 := hid hm2; have HZ := hid ((hm2.block _ (lt_of_heap HA3.out) (fun h => h)).trans HA3.out); obtain ⟨c0, c1, c2, c3, c4, c5⟩ := row6 HZ.out; obtain ⟨f0, f1, f2, f3, f4, f5⟩ := froz6 HZ.out; have hl2 := HO.out.ext hm2; have q0 := hl2.cell Od.len HX.out (j := 0) rfl; have q1 := hl2.cell Od.len HX.out (j := 1) rfl; have q2 := hl2.cell Od.len HX.out (j := 2) rfl; have q3 := hl2.cell Od.len HX.out (j := 3) rfl; have q4 := hl2.cell Od.len HX.out (j := 4) rfl; have q5 := hl2.cell Od.len HX.out (j := 5) rfl; rw [Nat.add_zero] at q0; simp only at q0 q1 q2 q3 q4 q5; have b92 := row_at (j := 9) (v := .slice (some ⟨g, off, none⟩) os.length oc) ((hm2.block _ (lt_of_heap HA1.out) (fun h => h)).trans HA1.out) rfl; clear hl2; clear hm2))
    clear b9 b92 q0 q1 q2 q3 q4 q5
    have hz6 : ((((((w2.setCell ⟨w.heap.size + 1 + 1, 0, none⟩ (.int .i64 xi)).setCell ⟨w.heap.size + 1 + 1, 1, none⟩ (.int .i64 xc)).setCell ⟨w.heap.size + 1 + 1, 2, none⟩ (.string xf)).setCell ⟨w.heap.size + 1 + 1, 3, none⟩ (.slice xla xll xlc)).setCell ⟨w.heap.size + 1 + 1, 4, none⟩ (.int .i64 xn)).setCell ⟨w.heap.size + 1 + 1, 5, none⟩ (.int .i64 xt)).heap[w.heap.size + 1 + 1]? = some (.cells #[.int .i64 xi, .int .i64 xc, .string xf, .slice xla xll xlc, .int .i64 xn, .int .i64 xt] 74 (0, 0)) := set6 HZ.out (.int .i64 xi) (.int .i64 xc) (.string xf) (.slice xla xll xlc) (.int .i64 xn) (.int .i64 xt)
    have HMz : Hid (Mod (fun j => j = w.heap.size + 1 + 1) w2 ((((((w2.setCell ⟨w.heap.size + 1 + 1, 0, none⟩ (.int .i64 xi)).setCell ⟨w.heap.size + 1 + 1, 1, none⟩ (.int .i64 xc)).setCell ⟨w.heap.size + 1 + 1, 2, none⟩ (.string xf)).setCell ⟨w.heap.size + 1 + 1, 3, none⟩ (.slice xla xll xlc)).setCell ⟨w.heap.size + 1 + 1, 4, none⟩ (.int .i64 xn)).setCell ⟨w.heap.size + 1 + 1, 5, none⟩ (.int .i64 xt))) := hid (mod6 w2 (w.heap.size + 1 + 1) (.int .i64 xi) (.int .i64 xc) (.string xf) (.slice xla xll xlc) (.int .i64 xn) (.int .i64 xt))
    clear c0 c1 c2 c3 c4 c5 f0 f1 f2 f3 f4 f5
    generalize ((((((w2.setCell ⟨w.heap.size + 1 + 1, 0, none⟩ (.int .i64 xi)).setCell ⟨w.heap.size + 1 + 1, 1, none⟩ (.int .i64 xc)).setCell ⟨w.heap.size + 1 + 1, 2, none⟩ (.string xf)).setCell ⟨w.heap.size + 1 + 1, 3, none⟩ (.slice xla xll xlc)).setCell ⟨w.heap.size + 1 + 1, 4, none⟩ (.int .i64 xn)).setCell ⟨w.heap.size + 1 + 1, 5, none⟩ (.int .i64 xt)) = Z at *
    obtain ⟨g0, g1, g2, g3, g4, g5⟩ := row6 hz6
    refine bodyPost_ret (v := .tuple #[.agg #[.int .i64 xi, .int .i64 xc, .string xf, .slice xla xll xlc, .int .i64 xn, .int .i64 xt], .bool true]) (by simp [results, Try.results25, go_sem, g0, g1, g2, g3, g4, g5]) rfl ⟨rfl, (HM.out.trans HM2.out).then HMz.out (fun i hi h => by omega)⟩

theorem row9 {V : World} {b : Nat} {T : TypeId} {u0 u1 u2 u3 u4 u5 u6 u7 u8 : Value} (h : V.heap[b]? = some (.cells #[u0, u1, u2, u3, u4, u5, u6, u7, u8] T (0, 0))) :
    V.cell? ⟨b, 0, none⟩ = some u0 ∧ V.cell? ⟨b, 1, none⟩ = some u1 ∧ V.cell? ⟨b, 2, none⟩ = some u2 ∧ V.cell? ⟨b, 3, none⟩ = some u3 ∧ V.cell? ⟨b, 4, none⟩ = some u4 ∧ V.cell? ⟨b, 5, none⟩ = some u5 ∧ V.cell? ⟨b, 6, none⟩ = some u6 ∧ V.cell? ⟨b, 7, none⟩ = some u7 ∧ V.cell? ⟨b, 8, none⟩ = some u8 :=
  ⟨row_at h rfl, row_at h rfl, row_at h rfl, row_at h rfl, row_at h rfl, row_at h rfl, row_at h rfl, row_at h rfl, row_at h rfl⟩
theorem row3 {V : World} {b : Nat} {T : TypeId} {u0 u1 u2 : Value} (h : V.heap[b]? = some (.cells #[u0, u1, u2] T (0, 0))) :
    V.cell? ⟨b, 0, none⟩ = some u0 ∧ V.cell? ⟨b, 1, none⟩ = some u1 ∧ V.cell? ⟨b, 2, none⟩ = some u2 :=
  ⟨row_at h rfl, row_at h rfl, row_at h rfl⟩

set_option maxRecDepth 100000 in
set_option maxHeartbeats 4000000 in
theorem holdC_any {w : World} {b : Nat} {oa : Option Addr} {os : List Od} (oc : Nat) (x : Hl) (hb : w.heap[b]? = some (.cells #[v0, v1, v2, v3, v4, v5, v6, v7, v8, .slice oa os.length oc, v10, v11, v12, v13, v14] 35 (0, 0))) (ho : Lies w 6 Od.cs oa os) (hn : os.length ≤ 140737488351232) :
    Calls Try.prog 24 #[.agg #[.int .i64 x.o, .int .i64 x.c, .int .i64 x.a], .pointer (some ⟨b, 0, none⟩)] w fun e w' => e = .returned (.bool (!(holdP (os.map Od.pl) x))) ∧ Mod (fun _ => False) w w' := by
  have hma : Mod (fun _ => False) w (w.alloc (.cells #[.int .i64 x.o, .int .i64 x.c, .int .i64 x.a] 55)) := (Mod.refl _ _).alloc _
  have hcb : (w.alloc (.cells #[.int .i64 x.o, .int .i64 x.c, .int .i64 x.a] 55)).heap[w.heap.size]? = some (.cells #[.int .i64 x.o, .int .i64 x.c, .int .i64 x.a] 55 (0, 0)) := heap_alloc_new _ _
  have HM := hid hma
  have HC := hid hcb
  have hb2 := (hma.block _ (lt_of_heap hb) (fun h => h)).trans hb
  obtain ⟨b0, b1, b2, b3, b4, b5, b6, b7, b8, b9, b10, b11, b12, b13, b14⟩ := row15 hb2
  have HK := hid (fun id => order_any (v0 := v0) (v1 := v1) (v2 := v2) (v3 := v3) (v4 := v4) (v5 := v5) (v6 := v6) (v7 := v7) (v8 := v8) (v10 := v10) (v11 := v11) (v12 := v12) (v13 := v13) (v14 := v14) oc id (ho.ext hma) hn)
  clear hma hcb hb hb2 ho
  obtain ⟨a0, a1, a2⟩ := row3 HC.out
  have HKx := hid (HK.out x.o)
  clear HK
  cases hf : os.find? (fun o => o.i == x.o) with
  | none =>
    have HV : Hid ((!(holdP (os.map Od.pl) x)) = true) := hid (by unfold holdP; rw [find_map]; show (!(match Option.map Od.pl (os.find? (fun o => o.i == x.o)) with | none => false | some o => decide (o.c = x.c) && decide (wrap64 (o.n + o.t) = x.a))) = true; rw [hf]; rfl)
    have HO : Hid (ordV os x.o = .tuple #[.agg #[.int .i64 0, .int .i64 0, .string ⟨#[]⟩, .slice none 0 0, .int .i64 0, .int .i64 0], .bool false]) := hid (by unfold ordV; rw [hf])
    rw [HV.out]
    rw [HO.out] at HKx
    clear hf
    obtain ⟨xo, xc, xa⟩ := x
    simp only at *
    go_enter Try.func24, Try.ntmps24
    go_wp2_with (first | (go_at_call 25; refine HKx.out.mono ?_; rintro e w2 ⟨rfl, hm2⟩; have HM2 := hid hm2; have hma3 : Mod (fun _ => False) w2 (w2.alloc (.cells #[.int .i64 0, .int .i64 0, .string ⟨#[]⟩, .slice none 0 0, .int .i64 0, .int .i64 0] 74)) := (Mod.refl _ _).alloc _; have HM3 := hid hma3; have HL := hid ((hma3.block _ (Nat.lt_of_lt_of_le (lt_of_heap HC.out) hm2.size) (fun h => h)).trans ((hm2.block _ (lt_of_heap HC.out) (fun h => h)).trans HC.out)); clear b0 b1 b2 b3 b4 b5 b6 b7 b8 b9 b10 b11 b12 b13 b14 a0 a1 a2; obtain ⟨a0, a1, a2⟩ := row3 HL.out; have hcz : (w2.alloc (.cells #[.int .i64 0, .int .i64 0, .string ⟨#[]⟩, .slice none 0 0, .int .i64 0, .int .i64 0] 74)).heap[w2.heap.size]? = some (.cells #[.int .i64 0, .int .i64 0, .string ⟨#[]⟩, .slice none 0 0, .int .i64 0, .int .i64 0] 74 (0, 0)) := heap_alloc_new _ _; obtain ⟨z0, z1, z2, z3, z4, z5⟩ := row6 hcz; clear hm2 hma3 hcz))
    go_ret
    exact ⟨rfl, HM.out.trans (HM2.out.trans HM3.out)⟩
  | some o =>
    have HV : Hid ((!(holdP (os.map Od.pl) x)) = !(decide (o.c = x.c) && decide (wrap64 (o.n + o.t) = x.a))) := hid (by unfold holdP; rw [find_map]; show (!(match Option.map Od.pl (os.find? (fun o => o.i == x.o)) with | none => false | some o => decide (o.c = x.c) && decide (wrap64 (o.n + o.t) = x.a))) = _; rw [hf]; rfl)
    have HO : Hid (ordV os x.o = .tuple #[.agg #[.int .i64 o.i, .int .i64 o.c, .string o.f, .slice o.la o.ll o.lc, .int .i64 o.n, .int .i64 o.t], .bool true]) := hid (by unfold ordV; rw [hf])
    rw [HV.out]
    rw [HO.out] at HKx
    clear hf
    obtain ⟨xo, xc, xa⟩ := x
    obtain ⟨oi, oc', of, ola, oll, olc, on, ot⟩ := o
    simp only at *
    by_cases h1 : oc' = xc
    · have e1 : (oc' == xc) = true := by simpa using h1
      have e2 : (oc' != xc) = false := by simpa using h1
      have HW : Hid ((!(decide (oc' = xc) && decide (wrap64 (on + ot) = xa))) = (wrap64 (on + ot) != xa)) := hid (by rw [decide_eq_true h1]; by_cases h : wrap64 (on + ot) = xa <;> simp [h])
      rw [HW.out]
      clear h1
      go_enter Try.func24, Try.ntmps24
      go_wp2_with (first | (go_at_call 25; refine HKx.out.mono ?_; rintro e w2 ⟨rfl, hm2⟩; have HM2 := hid hm2; have hma3 : Mod (fun _ => False) w2 (w2.alloc (.cells #[.int .i64 oi, .int .i64 oc', .string of, .slice ola oll olc, .int .i64 on, .int .i64 ot] 74)) := (Mod.refl _ _).alloc _; have HM3 := hid hma3; have HL := hid ((hma3.block _ (Nat.lt_of_lt_of_le (lt_of_heap HC.out) hm2.size) (fun h => h)).trans ((hm2.block _ (lt_of_heap HC.out) (fun h => h)).trans HC.out)); clear b0 b1 b2 b3 b4 b5 b6 b7 b8 b9 b10 b11 b12 b13 b14 a0 a1 a2; obtain ⟨a0, a1, a2⟩ := row3 HL.out; have hcz : (w2.alloc (.cells #[.int .i64 oi, .int .i64 oc', .string of, .slice ola oll olc, .int .i64 on, .int .i64 ot] 74)).heap[w2.heap.size]? = some (.cells #[.int .i64 oi, .int .i64 oc', .string of, .slice ola oll olc, .int .i64 on, .int .i64 ot] 74 (0, 0)) := heap_alloc_new _ _; obtain ⟨z0, z1, z2, z3, z4, z5⟩ := row6 hcz; clear hm2 hma3 hcz))
      go_ret
      exact ⟨rfl, HM.out.trans (HM2.out.trans HM3.out)⟩
    · have e1 : (oc' == xc) = false := by simpa using h1
      have e2 : (oc' != xc) = true := by simpa using h1
      have HW : Hid ((!(decide (oc' = xc) && decide (wrap64 (on + ot) = xa))) = true) := hid (by rw [decide_eq_false h1]; rfl)
      rw [HW.out]
      clear h1
      go_enter Try.func24, Try.ntmps24
      go_wp2_with (first | (go_at_call 25; refine HKx.out.mono ?_; rintro e w2 ⟨rfl, hm2⟩; have HM2 := hid hm2; have hma3 : Mod (fun _ => False) w2 (w2.alloc (.cells #[.int .i64 oi, .int .i64 oc', .string of, .slice ola oll olc, .int .i64 on, .int .i64 ot] 74)) := (Mod.refl _ _).alloc _; have HM3 := hid hma3; have HL := hid ((hma3.block _ (Nat.lt_of_lt_of_le (lt_of_heap HC.out) hm2.size) (fun h => h)).trans ((hm2.block _ (lt_of_heap HC.out) (fun h => h)).trans HC.out)); clear b0 b1 b2 b3 b4 b5 b6 b7 b8 b9 b10 b11 b12 b13 b14 a0 a1 a2; obtain ⟨a0, a1, a2⟩ := row3 HL.out; have hcz : (w2.alloc (.cells #[.int .i64 oi, .int .i64 oc', .string of, .slice ola oll olc, .int .i64 on, .int .i64 ot] 74)).heap[w2.heap.size]? = some (.cells #[.int .i64 oi, .int .i64 oc', .string of, .slice ola oll olc, .int .i64 on, .int .i64 ot] 74 (0, 0)) := heap_alloc_new _ _; obtain ⟨z0, z1, z2, z3, z4, z5⟩ := row6 hcz; clear hm2 hma3 hcz))
      go_ret
      exact ⟨rfl, HM.out.trans (HM2.out.trans HM3.out)⟩

set_option maxRecDepth 100000 in
set_option maxHeartbeats 8000000 in
theorem accC_any {w : World} {b : Nat} {oa : Option Addr} {os : List Od} (oc : Nat) (x : Ac) (hb : w.heap[b]? = some (.cells #[v0, v1, v2, v3, v4, v5, v6, v7, v8, .slice oa os.length oc, v10, v11, v12, v13, v14] 35 (0, 0))) (ho : Lies w 6 Od.cs oa os) (hn : os.length ≤ 140737488351232) :
    Calls Try.prog 27 #[.agg #[.int .i64 x.o, .int .i64 x.c, .int .i64 x.s, .int .i64 x.l, .int .i64 x.n, .int .i64 x.t, .int .i64 x.p, .int .i64 x.w, .int .i64 x.d], .pointer (some ⟨b, 0, none⟩)] w fun e w' => e = .returned (.bool (!(accP (os.map Od.pl) x.pl))) ∧ Mod (fun _ => False) w w' := by
  have hma : Mod (fun _ => False) w (w.alloc (.cells #[.int .i64 x.o, .int .i64 x.c, .int .i64 x.s, .int .i64 x.l, .int .i64 x.n, .int .i64 x.t, .int .i64 x.p, .int .i64 x.w, .int .i64 x.d] 70)) := (Mod.refl _ _).alloc _
  have hcb : (w.alloc (.cells #[.int .i64 x.o, .int .i64 x.c, .int .i64 x.s, .int .i64 x.l, .int .i64 x.n, .int .i64 x.t, .int .i64 x.p, .int .i64 x.w, .int .i64 x.d] 70)).heap[w.heap.size]? = some (.cells #[.int .i64 x.o, .int .i64 x.c, .int .i64 x.s, .int .i64 x.l, .int .i64 x.n, .int .i64 x.t, .int .i64 x.p, .int .i64 x.w, .int .i64 x.d] 70 (0, 0)) := heap_alloc_new _ _
  have HM := hid hma
  have HC := hid hcb
  have hb2 := (hma.block _ (lt_of_heap hb) (fun h => h)).trans hb
  obtain ⟨b0, b1, b2, b3, b4, b5, b6, b7, b8, b9, b10, b11, b12, b13, b14⟩ := row15 hb2
  have HKx := hid (order_any (v0 := v0) (v1 := v1) (v2 := v2) (v3 := v3) (v4 := v4) (v5 := v5) (v6 := v6) (v7 := v7) (v8 := v8) (v10 := v10) (v11 := v11) (v12 := v12) (v13 := v13) (v14 := v14) oc x.o (ho.ext hma) hn)
  have HA : Hid (accP (os.map Od.pl) x.pl = if x.s = 1 ∨ x.s = 2 then (match Option.map Od.pl (os.find? (fun o => o.i == x.o)) with | none => false | some o => decide (o.c = x.c) && (decide (o.n = x.n) && decide (o.t = x.t))) else true) := hid (by unfold accP; rw [find_map]; rfl)
  clear hma hcb hb hb2 ho
  obtain ⟨a0, a1, a2, a3, a4, a5, a6, a7, a8⟩ := row9 HC.out
  rw [HA.out]
  clear HA
  cases hf : os.find? (fun o => o.i == x.o) with
  | none =>
    have HO : Hid (ordV os x.o = .tuple #[.agg #[.int .i64 0, .int .i64 0, .string ⟨#[]⟩, .slice none 0 0, .int .i64 0, .int .i64 0], .bool false]) := hid (by unfold ordV; rw [hf])
    rw [HO.out] at HKx
    clear hf
    obtain ⟨xo, xc, xs, xl, xn, xt, xp, xw, xd⟩ := x
    simp only [Option.map] at *
    by_cases s1 : xs = 1
    · subst s1
      rw [if_pos (Or.inl rfl)]
      go_enter Try.func27, Try.ntmps27
      go_wp2_with (first | (go_at_call 25; refine HKx.out.mono ?_; rintro e w2 ⟨rfl, hm2⟩; have HM2 := hid hm2; have hma3 : Mod (fun _ => False) w2 (w2.alloc (.cells #[.int .i64 0, .int .i64 0, .string ⟨#[]⟩, .slice none 0 0, .int .i64 0, .int .i64 0] 74)) := (Mod.refl _ _).alloc _; have HM3 := hid hma3; have HL := hid ((hma3.block _ (Nat.lt_of_lt_of_le (lt_of_heap HC.out) hm2.size) (fun h => h)).trans ((hm2.block _ (lt_of_heap HC.out) (fun h => h)).trans HC.out)); clear b0 b1 b2 b3 b4 b5 b6 b7 b8 b9 b10 b11 b12 b13 b14 a0 a1 a2 a3 a4 a5 a6 a7 a8; obtain ⟨a0, a1, a2, a3, a4, a5, a6, a7, a8⟩ := row9 HL.out; have hcz : (w2.alloc (.cells #[.int .i64 0, .int .i64 0, .string ⟨#[]⟩, .slice none 0 0, .int .i64 0, .int .i64 0] 74)).heap[w2.heap.size]? = some (.cells #[.int .i64 0, .int .i64 0, .string ⟨#[]⟩, .slice none 0 0, .int .i64 0, .int .i64 0] 74 (0, 0)) := heap_alloc_new _ _; obtain ⟨z0, z1, z2, z3, z4, z5⟩ := row6 hcz; clear hm2 hma3 hcz))
      go_ret
      exact ⟨rfl, HM.out.trans (HM2.out.trans HM3.out)⟩
    · by_cases s2 : xs = 2
      · subst s2
        rw [if_pos (Or.inr rfl)]
        clear s1
        go_enter Try.func27, Try.ntmps27
        go_wp2_with (first | (go_at_call 25; refine HKx.out.mono ?_; rintro e w2 ⟨rfl, hm2⟩; have HM2 := hid hm2; have hma3 : Mod (fun _ => False) w2 (w2.alloc (.cells #[.int .i64 0, .int .i64 0, .string ⟨#[]⟩, .slice none 0 0, .int .i64 0, .int .i64 0] 74)) := (Mod.refl _ _).alloc _; have HM3 := hid hma3; have HL := hid ((hma3.block _ (Nat.lt_of_lt_of_le (lt_of_heap HC.out) hm2.size) (fun h => h)).trans ((hm2.block _ (lt_of_heap HC.out) (fun h => h)).trans HC.out)); clear b0 b1 b2 b3 b4 b5 b6 b7 b8 b9 b10 b11 b12 b13 b14 a0 a1 a2 a3 a4 a5 a6 a7 a8; obtain ⟨a0, a1, a2, a3, a4, a5, a6, a7, a8⟩ := row9 HL.out; have hcz : (w2.alloc (.cells #[.int .i64 0, .int .i64 0, .string ⟨#[]⟩, .slice none 0 0, .int .i64 0, .int .i64 0] 74)).heap[w2.heap.size]? = some (.cells #[.int .i64 0, .int .i64 0, .string ⟨#[]⟩, .slice none 0 0, .int .i64 0, .int .i64 0] 74 (0, 0)) := heap_alloc_new _ _; obtain ⟨z0, z1, z2, z3, z4, z5⟩ := row6 hcz; clear hm2 hma3 hcz))
        go_ret
        exact ⟨rfl, HM.out.trans (HM2.out.trans HM3.out)⟩
      · have y1 : (xs == 1) = false := by simpa using s1
        have y2 : (xs == 2) = false := by simpa using s2
        rw [if_neg (fun h => h.elim s1 s2)]
        clear s1 s2
        go_enter Try.func27, Try.ntmps27
        go_wp2_with (first | (go_at_call 25; refine HKx.out.mono ?_; rintro e w2 ⟨rfl, hm2⟩; have HM2 := hid hm2; have hma3 : Mod (fun _ => False) w2 (w2.alloc (.cells #[.int .i64 0, .int .i64 0, .string ⟨#[]⟩, .slice none 0 0, .int .i64 0, .int .i64 0] 74)) := (Mod.refl _ _).alloc _; have HM3 := hid hma3; have HL := hid ((hma3.block _ (Nat.lt_of_lt_of_le (lt_of_heap HC.out) hm2.size) (fun h => h)).trans ((hm2.block _ (lt_of_heap HC.out) (fun h => h)).trans HC.out)); clear b0 b1 b2 b3 b4 b5 b6 b7 b8 b9 b10 b11 b12 b13 b14 a0 a1 a2 a3 a4 a5 a6 a7 a8; obtain ⟨a0, a1, a2, a3, a4, a5, a6, a7, a8⟩ := row9 HL.out; have hcz : (w2.alloc (.cells #[.int .i64 0, .int .i64 0, .string ⟨#[]⟩, .slice none 0 0, .int .i64 0, .int .i64 0] 74)).heap[w2.heap.size]? = some (.cells #[.int .i64 0, .int .i64 0, .string ⟨#[]⟩, .slice none 0 0, .int .i64 0, .int .i64 0] 74 (0, 0)) := heap_alloc_new _ _; obtain ⟨z0, z1, z2, z3, z4, z5⟩ := row6 hcz; clear hm2 hma3 hcz))
        go_ret
        exact ⟨rfl, HM.out.trans (HM2.out.trans HM3.out)⟩
  | some o =>
    have HO : Hid (ordV os x.o = .tuple #[.agg #[.int .i64 o.i, .int .i64 o.c, .string o.f, .slice o.la o.ll o.lc, .int .i64 o.n, .int .i64 o.t], .bool true]) := hid (by unfold ordV; rw [hf])
    rw [HO.out] at HKx
    clear hf
    obtain ⟨xo, xc, xs, xl, xn, xt, xp, xw, xd⟩ := x
    obtain ⟨oi, oc', of, ola, oll, olc, on, ot⟩ := o
    simp only [Option.map, Od.pl] at *
    by_cases s1 : xs = 1
    · subst s1
      rw [if_pos (Or.inl rfl)]
      by_cases h1 : oc' = xc
      · have e1 : (oc' == xc) = true := by simpa using h1
        have e2 : (oc' != xc) = false := by simpa using h1
        by_cases h2 : on = xn
        · have e3 : (on == xn) = true := by simpa using h2
          have e4 : (on != xn) = false := by simpa using h2
          have HW : Hid ((!(decide (oc' = xc) && (decide (on = xn) && decide (ot = xt)))) = (ot != xt)) := hid (by rw [decide_eq_true h1, decide_eq_true h2]; by_cases h : ot = xt <;> simp [h])
          rw [HW.out]
          clear h1 h2
          go_enter Try.func27, Try.ntmps27
          go_wp2_with (first | (go_at_call 25; refine HKx.out.mono ?_; rintro e w2 ⟨rfl, hm2⟩; have HM2 := hid hm2; have hma3 : Mod (fun _ => False) w2 (w2.alloc (.cells #[.int .i64 oi, .int .i64 oc', .string of, .slice ola oll olc, .int .i64 on, .int .i64 ot] 74)) := (Mod.refl _ _).alloc _; have HM3 := hid hma3; have HL := hid ((hma3.block _ (Nat.lt_of_lt_of_le (lt_of_heap HC.out) hm2.size) (fun h => h)).trans ((hm2.block _ (lt_of_heap HC.out) (fun h => h)).trans HC.out)); clear b0 b1 b2 b3 b4 b5 b6 b7 b8 b9 b10 b11 b12 b13 b14 a0 a1 a2 a3 a4 a5 a6 a7 a8; obtain ⟨a0, a1, a2, a3, a4, a5, a6, a7, a8⟩ := row9 HL.out; have hcz : (w2.alloc (.cells #[.int .i64 oi, .int .i64 oc', .string of, .slice ola oll olc, .int .i64 on, .int .i64 ot] 74)).heap[w2.heap.size]? = some (.cells #[.int .i64 oi, .int .i64 oc', .string of, .slice ola oll olc, .int .i64 on, .int .i64 ot] 74 (0, 0)) := heap_alloc_new _ _; obtain ⟨z0, z1, z2, z3, z4, z5⟩ := row6 hcz; clear hm2 hma3 hcz))
          go_ret
          exact ⟨rfl, HM.out.trans (HM2.out.trans HM3.out)⟩
        · have e3 : (on == xn) = false := by simpa using h2
          have e4 : (on != xn) = true := by simpa using h2
          have HW : Hid ((!(decide (oc' = xc) && (decide (on = xn) && decide (ot = xt)))) = true) := hid (by rw [decide_eq_true h1, decide_eq_false h2]; rfl)
          rw [HW.out]
          clear h1 h2
          go_enter Try.func27, Try.ntmps27
          go_wp2_with (first | (go_at_call 25; refine HKx.out.mono ?_; rintro e w2 ⟨rfl, hm2⟩; have HM2 := hid hm2; have hma3 : Mod (fun _ => False) w2 (w2.alloc (.cells #[.int .i64 oi, .int .i64 oc', .string of, .slice ola oll olc, .int .i64 on, .int .i64 ot] 74)) := (Mod.refl _ _).alloc _; have HM3 := hid hma3; have HL := hid ((hma3.block _ (Nat.lt_of_lt_of_le (lt_of_heap HC.out) hm2.size) (fun h => h)).trans ((hm2.block _ (lt_of_heap HC.out) (fun h => h)).trans HC.out)); clear b0 b1 b2 b3 b4 b5 b6 b7 b8 b9 b10 b11 b12 b13 b14 a0 a1 a2 a3 a4 a5 a6 a7 a8; obtain ⟨a0, a1, a2, a3, a4, a5, a6, a7, a8⟩ := row9 HL.out; have hcz : (w2.alloc (.cells #[.int .i64 oi, .int .i64 oc', .string of, .slice ola oll olc, .int .i64 on, .int .i64 ot] 74)).heap[w2.heap.size]? = some (.cells #[.int .i64 oi, .int .i64 oc', .string of, .slice ola oll olc, .int .i64 on, .int .i64 ot] 74 (0, 0)) := heap_alloc_new _ _; obtain ⟨z0, z1, z2, z3, z4, z5⟩ := row6 hcz; clear hm2 hma3 hcz))
          go_ret
          exact ⟨rfl, HM.out.trans (HM2.out.trans HM3.out)⟩
      · have e1 : (oc' == xc) = false := by simpa using h1
        have e2 : (oc' != xc) = true := by simpa using h1
        have HW : Hid ((!(decide (oc' = xc) && (decide (on = xn) && decide (ot = xt)))) = true) := hid (by rw [decide_eq_false h1]; rfl)
        rw [HW.out]
        clear h1
        go_enter Try.func27, Try.ntmps27
        go_wp2_with (first | (go_at_call 25; refine HKx.out.mono ?_; rintro e w2 ⟨rfl, hm2⟩; have HM2 := hid hm2; have hma3 : Mod (fun _ => False) w2 (w2.alloc (.cells #[.int .i64 oi, .int .i64 oc', .string of, .slice ola oll olc, .int .i64 on, .int .i64 ot] 74)) := (Mod.refl _ _).alloc _; have HM3 := hid hma3; have HL := hid ((hma3.block _ (Nat.lt_of_lt_of_le (lt_of_heap HC.out) hm2.size) (fun h => h)).trans ((hm2.block _ (lt_of_heap HC.out) (fun h => h)).trans HC.out)); clear b0 b1 b2 b3 b4 b5 b6 b7 b8 b9 b10 b11 b12 b13 b14 a0 a1 a2 a3 a4 a5 a6 a7 a8; obtain ⟨a0, a1, a2, a3, a4, a5, a6, a7, a8⟩ := row9 HL.out; have hcz : (w2.alloc (.cells #[.int .i64 oi, .int .i64 oc', .string of, .slice ola oll olc, .int .i64 on, .int .i64 ot] 74)).heap[w2.heap.size]? = some (.cells #[.int .i64 oi, .int .i64 oc', .string of, .slice ola oll olc, .int .i64 on, .int .i64 ot] 74 (0, 0)) := heap_alloc_new _ _; obtain ⟨z0, z1, z2, z3, z4, z5⟩ := row6 hcz; clear hm2 hma3 hcz))
        go_ret
        exact ⟨rfl, HM.out.trans (HM2.out.trans HM3.out)⟩
    · by_cases s2 : xs = 2
      · subst s2
        rw [if_pos (Or.inr rfl)]
        clear s1
        by_cases h1 : oc' = xc
        · have e1 : (oc' == xc) = true := by simpa using h1
          have e2 : (oc' != xc) = false := by simpa using h1
          by_cases h2 : on = xn
          · have e3 : (on == xn) = true := by simpa using h2
            have e4 : (on != xn) = false := by simpa using h2
            have HW : Hid ((!(decide (oc' = xc) && (decide (on = xn) && decide (ot = xt)))) = (ot != xt)) := hid (by rw [decide_eq_true h1, decide_eq_true h2]; by_cases h : ot = xt <;> simp [h])
            rw [HW.out]
            clear h1 h2
            go_enter Try.func27, Try.ntmps27
            go_wp2_with (first | (go_at_call 25; refine HKx.out.mono ?_; rintro e w2 ⟨rfl, hm2⟩; have HM2 := hid hm2; have hma3 : Mod (fun _ => False) w2 (w2.alloc (.cells #[.int .i64 oi, .int .i64 oc', .string of, .slice ola oll olc, .int .i64 on, .int .i64 ot] 74)) := (Mod.refl _ _).alloc _; have HM3 := hid hma3; have HL := hid ((hma3.block _ (Nat.lt_of_lt_of_le (lt_of_heap HC.out) hm2.size) (fun h => h)).trans ((hm2.block _ (lt_of_heap HC.out) (fun h => h)).trans HC.out)); clear b0 b1 b2 b3 b4 b5 b6 b7 b8 b9 b10 b11 b12 b13 b14 a0 a1 a2 a3 a4 a5 a6 a7 a8; obtain ⟨a0, a1, a2, a3, a4, a5, a6, a7, a8⟩ := row9 HL.out; have hcz : (w2.alloc (.cells #[.int .i64 oi, .int .i64 oc', .string of, .slice ola oll olc, .int .i64 on, .int .i64 ot] 74)).heap[w2.heap.size]? = some (.cells #[.int .i64 oi, .int .i64 oc', .string of, .slice ola oll olc, .int .i64 on, .int .i64 ot] 74 (0, 0)) := heap_alloc_new _ _; obtain ⟨z0, z1, z2, z3, z4, z5⟩ := row6 hcz; clear hm2 hma3 hcz))
            go_ret
            exact ⟨rfl, HM.out.trans (HM2.out.trans HM3.out)⟩
          · have e3 : (on == xn) = false := by simpa using h2
            have e4 : (on != xn) = true := by simpa using h2
            have HW : Hid ((!(decide (oc' = xc) && (decide (on = xn) && decide (ot = xt)))) = true) := hid (by rw [decide_eq_true h1, decide_eq_false h2]; rfl)
            rw [HW.out]
            clear h1 h2
            go_enter Try.func27, Try.ntmps27
            go_wp2_with (first | (go_at_call 25; refine HKx.out.mono ?_; rintro e w2 ⟨rfl, hm2⟩; have HM2 := hid hm2; have hma3 : Mod (fun _ => False) w2 (w2.alloc (.cells #[.int .i64 oi, .int .i64 oc', .string of, .slice ola oll olc, .int .i64 on, .int .i64 ot] 74)) := (Mod.refl _ _).alloc _; have HM3 := hid hma3; have HL := hid ((hma3.block _ (Nat.lt_of_lt_of_le (lt_of_heap HC.out) hm2.size) (fun h => h)).trans ((hm2.block _ (lt_of_heap HC.out) (fun h => h)).trans HC.out)); clear b0 b1 b2 b3 b4 b5 b6 b7 b8 b9 b10 b11 b12 b13 b14 a0 a1 a2 a3 a4 a5 a6 a7 a8; obtain ⟨a0, a1, a2, a3, a4, a5, a6, a7, a8⟩ := row9 HL.out; have hcz : (w2.alloc (.cells #[.int .i64 oi, .int .i64 oc', .string of, .slice ola oll olc, .int .i64 on, .int .i64 ot] 74)).heap[w2.heap.size]? = some (.cells #[.int .i64 oi, .int .i64 oc', .string of, .slice ola oll olc, .int .i64 on, .int .i64 ot] 74 (0, 0)) := heap_alloc_new _ _; obtain ⟨z0, z1, z2, z3, z4, z5⟩ := row6 hcz; clear hm2 hma3 hcz))
            go_ret
            exact ⟨rfl, HM.out.trans (HM2.out.trans HM3.out)⟩
        · have e1 : (oc' == xc) = false := by simpa using h1
          have e2 : (oc' != xc) = true := by simpa using h1
          have HW : Hid ((!(decide (oc' = xc) && (decide (on = xn) && decide (ot = xt)))) = true) := hid (by rw [decide_eq_false h1]; rfl)
          rw [HW.out]
          clear h1
          go_enter Try.func27, Try.ntmps27
          go_wp2_with (first | (go_at_call 25; refine HKx.out.mono ?_; rintro e w2 ⟨rfl, hm2⟩; have HM2 := hid hm2; have hma3 : Mod (fun _ => False) w2 (w2.alloc (.cells #[.int .i64 oi, .int .i64 oc', .string of, .slice ola oll olc, .int .i64 on, .int .i64 ot] 74)) := (Mod.refl _ _).alloc _; have HM3 := hid hma3; have HL := hid ((hma3.block _ (Nat.lt_of_lt_of_le (lt_of_heap HC.out) hm2.size) (fun h => h)).trans ((hm2.block _ (lt_of_heap HC.out) (fun h => h)).trans HC.out)); clear b0 b1 b2 b3 b4 b5 b6 b7 b8 b9 b10 b11 b12 b13 b14 a0 a1 a2 a3 a4 a5 a6 a7 a8; obtain ⟨a0, a1, a2, a3, a4, a5, a6, a7, a8⟩ := row9 HL.out; have hcz : (w2.alloc (.cells #[.int .i64 oi, .int .i64 oc', .string of, .slice ola oll olc, .int .i64 on, .int .i64 ot] 74)).heap[w2.heap.size]? = some (.cells #[.int .i64 oi, .int .i64 oc', .string of, .slice ola oll olc, .int .i64 on, .int .i64 ot] 74 (0, 0)) := heap_alloc_new _ _; obtain ⟨z0, z1, z2, z3, z4, z5⟩ := row6 hcz; clear hm2 hma3 hcz))
          go_ret
          exact ⟨rfl, HM.out.trans (HM2.out.trans HM3.out)⟩
      · have y1 : (xs == 1) = false := by simpa using s1
        have y2 : (xs == 2) = false := by simpa using s2
        rw [if_neg (fun h => h.elim s1 s2)]
        clear s1 s2
        go_enter Try.func27, Try.ntmps27
        go_wp2_with (first | (go_at_call 25; refine HKx.out.mono ?_; rintro e w2 ⟨rfl, hm2⟩; have HM2 := hid hm2; have hma3 : Mod (fun _ => False) w2 (w2.alloc (.cells #[.int .i64 oi, .int .i64 oc', .string of, .slice ola oll olc, .int .i64 on, .int .i64 ot] 74)) := (Mod.refl _ _).alloc _; have HM3 := hid hma3; have HL := hid ((hma3.block _ (Nat.lt_of_lt_of_le (lt_of_heap HC.out) hm2.size) (fun h => h)).trans ((hm2.block _ (lt_of_heap HC.out) (fun h => h)).trans HC.out)); clear b0 b1 b2 b3 b4 b5 b6 b7 b8 b9 b10 b11 b12 b13 b14 a0 a1 a2 a3 a4 a5 a6 a7 a8; obtain ⟨a0, a1, a2, a3, a4, a5, a6, a7, a8⟩ := row9 HL.out; have hcz : (w2.alloc (.cells #[.int .i64 oi, .int .i64 oc', .string of, .slice ola oll olc, .int .i64 on, .int .i64 ot] 74)).heap[w2.heap.size]? = some (.cells #[.int .i64 oi, .int .i64 oc', .string of, .slice ola oll olc, .int .i64 on, .int .i64 ot] 74 (0, 0)) := heap_alloc_new _ _; obtain ⟨z0, z1, z2, z3, z4, z5⟩ := row6 hcz; clear hm2 hma3 hcz))
        go_ret
        exact ⟨rfl, HM.out.trans (HM2.out.trans HM3.out)⟩

set_option maxRecDepth 100000 in
theorem holds_any {w : World} {ha oa : Option Addr} {hs : List Hl} {os : List Od} (hc oc : Nat) (hl : Lies w 3 Hl.cs ha hs) (hln : hs.length ≤ 140737488351232) (ho : Lies w 6 Od.cs oa os) (hn : os.length ≤ 140737488351232) :
    Calls Try.prog 13 #[.agg #[v0, v1, v2, .slice ha hs.length hc, v4, v5, v6, v7, v8, .slice oa os.length oc, v10, v11, v12, v13, v14]] w fun e w' => e = .returned (.bool (hs.all (holdP (os.map Od.pl)))) ∧ Mod (fun _ => False) w w' := by
  have hma : Mod (fun _ => False) w (w.alloc (.cells #[v0, v1, v2, .slice ha hs.length hc, v4, v5, v6, v7, v8, .slice oa os.length oc, v10, v11, v12, v13, v14] 35)) := (Mod.refl _ _).alloc _
  have hcb : (w.alloc (.cells #[v0, v1, v2, .slice ha hs.length hc, v4, v5, v6, v7, v8, .slice oa os.length oc, v10, v11, v12, v13, v14] 35)).heap[w.heap.size]? = some (.cells #[v0, v1, v2, .slice ha hs.length hc, v4, v5, v6, v7, v8, .slice oa os.length oc, v10, v11, v12, v13, v14] 35 (0, 0)) := heap_alloc_new _ _
  have HM := hid hma
  have bj := row_at (j := 3) (v := .slice ha hs.length hc) hcb rfl
  have HK := hid (conHeld hc w.heap.size (fun x => !(holdP (os.map Od.pl) x)) (hl.ext hma) hln (fun w1 x hm1 _ => holdC_any oc x ((hm1.block _ (lt_of_heap hcb) (fun h => h)).trans hcb) ((ho.ext hma).ext hm1) hn))
  have HV := hid (all_not (holdP (os.map Od.pl)) hs)
  clear hma hcb hl ho
  go_enter Try.func13, Try.ntmps13
  go_wp2_with (first | (go_at_call 23; refine HK.out.mono ?_; rintro e w2 ⟨rfl, hm2⟩; have HM2 := hid hm2; clear hm2 bj))
  rw [HV.out]
  go_ret
  exact ⟨rfl, HM.out.trans HM2.out⟩

set_option maxRecDepth 100000 in
theorem accounts_any {w : World} {aa oa : Option Addr} {acs : List Ac} {os : List Od} (ac oc : Nat) (hl : Lies w 9 Ac.cs aa acs) (hln : acs.length ≤ 140737488351232) (ho : Lies w 6 Od.cs oa os) (hn : os.length ≤ 140737488351232) :
    Calls Try.prog 14 #[.agg #[v0, v1, v2, v3, v4, v5, .slice aa acs.length ac, v7, v8, .slice oa os.length oc, v10, v11, v12, v13, v14]] w fun e w' => e = .returned (.bool ((acs.map Ac.pl).all (accP (os.map Od.pl)))) ∧ Mod (fun _ => False) w w' := by
  have hma : Mod (fun _ => False) w (w.alloc (.cells #[v0, v1, v2, v3, v4, v5, .slice aa acs.length ac, v7, v8, .slice oa os.length oc, v10, v11, v12, v13, v14] 35)) := (Mod.refl _ _).alloc _
  have hcb : (w.alloc (.cells #[v0, v1, v2, v3, v4, v5, .slice aa acs.length ac, v7, v8, .slice oa os.length oc, v10, v11, v12, v13, v14] 35)).heap[w.heap.size]? = some (.cells #[v0, v1, v2, v3, v4, v5, .slice aa acs.length ac, v7, v8, .slice oa os.length oc, v10, v11, v12, v13, v14] 35 (0, 0)) := heap_alloc_new _ _
  have HM := hid hma
  have bj := row_at (j := 6) (v := .slice aa acs.length ac) hcb rfl
  have HK := hid (conAccount ac w.heap.size (fun x : Ac => !(accP (os.map Od.pl) x.pl)) (hl.ext hma) hln (fun w1 x hm1 _ => accC_any oc x ((hm1.block _ (lt_of_heap hcb) (fun h => h)).trans hcb) ((ho.ext hma).ext hm1) hn))
  have HV := hid ((all_not (fun x : Ac => accP (os.map Od.pl) x.pl) acs).trans (List.all_map (f := Ac.pl) (p := accP (os.map Od.pl)) (l := acs)).symm)
  clear hma hcb hl ho
  go_enter Try.func14, Try.ntmps14
  go_wp2_with (first | (go_at_call 26; refine HK.out.mono ?_; rintro e w2 ⟨rfl, hm2⟩; have HM2 := hid hm2; clear hm2 bj))
  rw [HV.out]
  go_ret
  exact ⟨rfl, HM.out.trans HM2.out⟩

end Go.Proofs.Ytigoikepcbbhjaa
