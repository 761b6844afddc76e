/- merged: RwA -/
import Derived.Test.YtkinkgbmlhiakaaGreatDoorNd14
import Derived.Deep.DeepCutAuto
import Derived.Deep.RegionHeld3
namespace Go.Proofs.YtkinkgbmlhiakaaGreatDoor
section
open Go Go.RowKit
def qDc : Option PX -> Value
 | some p => .tuple #[.agg #[.string (ba p.k), .string (ba p.v)], .agg #[.string (ba p.x), .string ⟨#[]⟩], .bool true]
 | none => .tuple #[.agg #[.string ⟨#[]⟩, .string ⟨#[]⟩], .agg #[.string ⟨#[]⟩, .string ⟨#[]⟩], .bool false]
structure Two (h : Nat) (V : World) (pk pv xk : ByteArray) : Prop where
 p : V.heap[h + 1]? = some (.cells #[.string pk, .string pv] 41 (0, 0))
 x : V.heap[h + 1 + 1]? = some (.cells #[.string xk, .string ⟨#[]⟩] 41 (0, 0))
theorem Two.ext {h : Nat} {V V' : World} {pk pv xk : ByteArray} (t : Two h V pk pv xk) (hm : Mod (fun _ => False) V V') : Two h V' pk pv xk :=
 ⟨(hm.block _ (lth t.p) (fun h => h)).trans t.p, (hm.block _ (lth t.x) (fun h => h)).trans t.x⟩
theorem Two.cells {h : Nat} {V : World} {pk pv xk : ByteArray} (t : Two h V pk pv xk) : V.cell? ⟨h + 1, 0, none⟩ = some (.string pk) /\ V.cell? ⟨h + 1, 1, none⟩ = some (.string pv) /\ V.cell? ⟨h + 1 + 1, 0, none⟩ = some (.string xk) /\ V.cell? ⟨h + 1 + 1, 1, none⟩ = some (.string ⟨#[]⟩) :=
 ⟨by rw [cell_of_row _ _ _ _ _ _ t.p]; rfl, by rw [cell_of_row _ _ _ _ _ _ t.p]; rfl, by rw [cell_of_row _ _ _ _ _ _ t.x]; rfl, by rw [cell_of_row _ _ _ _ _ _ t.x]; rfl⟩
theorem Two.froz {h : Nat} {V : World} {pk pv xk : ByteArray} (t : Two h V pk pv xk) (o : Nat) : V.frozen? ⟨h + 1, o, none⟩ = false /\ V.frozen? ⟨h + 1 + 1, o, none⟩ = false :=
 ⟨frozen_of_row _ _ o _ _ t.p, frozen_of_row _ _ o _ _ t.x⟩
theorem set2 {V : World} {b : Nat} {v0 v1 : Value} {T : TypeId} (h : V.heap[b]? = some (.cells #[v0, v1] T (0, 0))) (u : Value) : (V.setCell ⟨b, 0, none⟩ u).heap[b]? = some (.cells #[u, v1] T (0, 0)) /\ (V.setCell ⟨b, 1, none⟩ u).heap[b]? = some (.cells #[v0, u] T (0, 0)) :=
 ⟨heap_setCell_same V b 0 _ T u h, heap_setCell_same V b 1 _ T u h⟩
theorem qDf {V : World} {b c : Nat} {o : Nat} {x : Obj} (h : V.heap[b]? = some x) (hne : b ≠ c) (u : Value) : (V.setCell ⟨c, o, none⟩ u).heap[b]? = some x := by
 rw [Below.heap_setCell _ _ _ _ hne]; exact h
theorem Two.put {h : Nat} {V : World} {pk pv xk : ByteArray} (t : Two h V pk pv xk) (a b c : ByteArray) : Two h (((((V.setCell ⟨h + 1, 0, none⟩ (.string a)).setCell ⟨h + 1, 1, none⟩ (.string b)).setCell ⟨h + 1 + 1, 0, none⟩ (.string c)).setCell ⟨h + 1 + 1, 1, none⟩ (.string ⟨#[]⟩)).drew) a b c :=
 ⟨qDf (qDf (set2 (set2 t.p (.string a)).1 (.string b)).2 (by omega) _) (by omega) _,
  (set2 (set2 (qDf (qDf t.x (by omega) _) (by omega) _) (.string c)).1 (.string ⟨#[]⟩)).2⟩
theorem qDs {w V : World} (hm : Mod (fun _ => False) w V) (a b c : Value) (d : Value) : Mod (fun _ => False) w (((((V.setCell ⟨w.heap.size + 1, 0, none⟩ a).setCell ⟨w.heap.size + 1, 1, none⟩ b).setCell ⟨w.heap.size + 1 + 1, 0, none⟩ c).setCell ⟨w.heap.size + 1 + 1, 1, none⟩ d).drew) :=
 ((((hm.setCell (fun h => by simp only at h; omega) _).setCell (fun h => by simp only at h; omega) _).setCell (fun h => by simp only at h; omega) _).setCell (fun h => by simp only at h; omega) _).drew
theorem Two.key {h : Nat} {V : World} {pk pv xk : ByteArray} (t : Two h V pk pv xk) (a : ByteArray) : Two h (V.setCell ⟨h + 1, 0, none⟩ (.string a)) a pv xk := ⟨(set2 t.p _).1, qDf t.x (by omega) _⟩
theorem Two.val {h : Nat} {V : World} {pk pv xk : ByteArray} (t : Two h V pk pv xk) (a : ByteArray) : Two h (V.setCell ⟨h + 1, 1, none⟩ (.string a)) pk a xk := ⟨(set2 t.p _).2, qDf t.x (by omega) _⟩
theorem Two.idx {h : Nat} {V : World} {pk pv xk : ByteArray} (t : Two h V pk pv xk) (a : ByteArray) : Two h (V.setCell ⟨h + 1 + 1, 0, none⟩ (.string a)) pk pv a := ⟨qDf t.p (by omega) _, (set2 t.x _).1⟩
theorem jMd (w : World) (A B C : Obj) : (((w.alloc A).alloc B).alloc C).heap[w.heap.size]? = some A /\ (((w.alloc A).alloc B).alloc C).heap[w.heap.size + 1]? = some B /\ (((w.alloc A).alloc B).alloc C).heap[w.heap.size + 1 + 1]? = some C := by
 have h1 : (w.alloc A).heap.size = w.heap.size + 1 := by simp
 have h2 : ((w.alloc A).alloc B).heap.size = w.heap.size + 2 := by simp
 refine ⟨?_, ?_, ?_⟩
 ·rw [Below.heap_alloc _ _ _ (by omega), Below.heap_alloc _ _ _ (by omega)]
  exact heap_alloc_new _ _
 ·rw [Below.heap_alloc _ _ _ (by omega), <- h1]
  exact heap_alloc_new _ _
 ·rw [<- h2]; exact heap_alloc_new _ _
theorem row4 {V : World} {b : Nat} {v0 v1 v2 v3 : Value} {T : TypeId} (h : V.heap[b]? = some (.cells #[v0, v1, v2, v3] T (0, 0))) : V.cell? ⟨b, 0, none⟩ = some v0 /\ V.cell? ⟨b, 1, none⟩ = some v1 /\ V.cell? ⟨b, 2, none⟩ = some v2 /\ V.cell? ⟨b, 3, none⟩ = some v3 :=
 ⟨by rw [cell_of_row _ _ _ _ _ _ h]; rfl, by rw [cell_of_row _ _ _ _ _ _ h]; rfl, by rw [cell_of_row _ _ _ _ _ _ h]; rfl, by rw [cell_of_row _ _ _ _ _ _ h]; rfl⟩
theorem qKn {k : Int} {v : Vl} (hv : v.Ok) : (qDn k v).length <= 140737488351242 := by
 have hs := hv.s; have hl : v.s.data.toList.length = v.s.size := by rw [Array.length_toList]; rfl
 have h8 : (ordL v.n).length = 8 := qDz 8 _; unfold qDn qRw; split
 ·omega
 ·rw [List.length_append, List.length_singleton]; omega
structure jMg (w wr : World) (bx : Obj) (name : Int) (cols : List Int) (r : List Vl) (K k : Nat) : Prop where
 box : wr.heap[w.heap.size]? = some bx
 two : Two w.heap.size wr (ba (qGe name cols (K : Int) r)) (ba (valL cols r K k)) ⟨#[]⟩
 mod : Mod (fun _ => False) w wr
 typ : ∀ (j : Nat) c v, j < k -> cols[j]? = some c -> r[j]? = some v -> qDe c v = true
set_option maxRecDepth 100000
set_option maxHeartbeats 8000000 in
theorem qHj {w : World} {ca ra : Option Addr} {cols : List Int} {r : List Vl} (name keys idx : Int) (cc rc : Nat) (hl : Lies w 1 oneI ca cols) (hr : Lies w 2 Vl.cs ra r) (hn : cols.length <= 140737488351232) (hrn : r.length <= 140737488351232) (hv : ∀ v ∈ r, v.Ok) (hsz : ∀ k, (qEb cols r k).length <= 1152921504606846976) (hsv : ∀ j k, (valL cols r j k).length <= 1152921504606846976) :
  Calls Tryz.prog 31 #[.agg #[.int .u8 name, .slice ca cols.length cc, .int .i64 keys, .int .i64 idx], .slice ra r.length rc] w fun e w' => e = .returned (qDc (qBt name cols keys idx r)) /\ Mod (fun _ => False) w w' := by
 have hma : Mod (fun _ => False) w (((w.alloc (.cells #[.int .u8 name, .slice ca cols.length cc, .int .i64 keys, .int .i64 idx] 24)).alloc (.cells #[.string ⟨#[]⟩, .string ⟨#[]⟩] 41)).alloc (.cells #[.string ⟨#[]⟩, .string ⟨#[]⟩] 41)) := (((Mod.refl _ _).alloc _).alloc _).alloc _
 obtain ⟨a1, a2, a3⟩ := jMd w (.cells #[.int .u8 name, .slice ca cols.length cc, .int .i64 keys, .int .i64 idx] 24) (.cells #[.string ⟨#[]⟩, .string ⟨#[]⟩] 41) (.cells #[.string ⟨#[]⟩, .string ⟨#[]⟩] 41); have HM := hid hma; have HB := hid a1; have HT : Hid (Two w.heap.size _ _ _ _) := hid ⟨a2, a3⟩; have HL := hid hl; have HR := hid hr; have HV := hid hv; have HS := hid hsz; have HSv := hid hsv; have HF := hid (fun (v : World) (hm : Mod (fun _ => False) w v) => qLq name keys idx cc (hl.ext hm) hn)
 have HBx : Hid (∀ v, Mod (fun k => w.heap.size < k) (((w.alloc (.cells #[.int .u8 name, .slice ca cols.length cc, .int .i64 keys, .int .i64 idx] 24)).alloc (.cells #[.string ⟨#[]⟩, .string ⟨#[]⟩] 41)).alloc (.cells #[.string ⟨#[]⟩, .string ⟨#[]⟩] 41)) v -> v.cell? ⟨w.heap.size, 0, none⟩ = some (.int .u8 name) /\ v.cell? ⟨w.heap.size, 1, none⟩ = some (.slice ca cols.length cc) /\ v.cell? ⟨w.heap.size, 2, none⟩ = some (.int .i64 keys) /\ v.cell? ⟨w.heap.size, 3, none⟩ = some (.int .i64 idx)) := hid (fun v hm => row4 ((hm.block _ (lth HB.out) (by omega)).trans HB.out))
 clear a1 a2 a3 hl hr hv hsz hsv hma; cases hfit : qJj name cols keys idx with
 | false =>
  have HN : Hid (qBt name cols keys idx r = none) := hid (qEe (fun g => by rw [g.fit] at hfit; cases hfit))
  have HFc := hid (HF.out _ HM.out); rw [hfit] at HFc; obtain ⟨b0, b1, b2, b3⟩ := HBx.out _ (Mod.refl _ _); clear hfit; go_enter Tryz.func31, Tryz.ntmps31
  go_upto_region 2 with (go_at_call 37; refine HFc.out.mono ?_; rintro e w1 ⟨rfl, hm⟩)
  have HT1 := hid (HT.out.ext hm); have HM1 := hid (HM.out.trans hm); clear hm b0 b1 b2 b3; obtain ⟨c0, c1, c2, c3⟩ := HT1.out.cells; obtain ⟨f0, f2⟩ := HT1.out.froz 0; obtain ⟨f1, f3⟩ := HT1.out.froz 1; go_region
  have HT9 := hid (HT1.out.put ⟨#[]⟩ ⟨#[]⟩ ⟨#[]⟩); have HM9 := hid (qDs HM1.out (.string ⟨#[]⟩) (.string ⟨#[]⟩) (.string ⟨#[]⟩) (.string ⟨#[]⟩)); clear c0 c1 c2 c3 f0 f1 f2 f3; generalize (((((w1.setCell ⟨w.heap.size + 1, 0, none⟩ (.string ⟨#[]⟩)).setCell ⟨w.heap.size + 1, 1, none⟩ (.string ⟨#[]⟩)).setCell ⟨w.heap.size + 1 + 1, 0, none⟩ (.string ⟨#[]⟩)).setCell ⟨w.heap.size + 1 + 1, 1, none⟩ (.string ⟨#[]⟩)).drew) = V9 at *; obtain ⟨c0, c1, c2, c3⟩ := HT9.out.cells; go_wp2_with fail
  rw [HN.out]; exact bodyPost_ret (v := qDc (none)) (by simp [qDc, results, Tryz.results31, go_sem, c0, c1, c2, c3]) rfl ⟨rfl, HM9.out⟩
 | true =>
  obtain ⟨i1, n1, n2, i2, i3, i4, i5⟩ := qJl hfit; obtain ⟨K, rfl⟩ : ∃ K : Nat, keys = (K : Int) := ⟨keys.toNat, by omega⟩
  have HKd := hid i1; have HFit := hid hfit; have HFc := hid (HF.out _ HM.out); rw [hfit] at HFc; obtain ⟨b0, b1, b2, b3⟩ := HBx.out _ (Mod.refl _ _); clear hfit i1; by_cases hlen : r.length = cols.length
  case neg =>
   have HN : Hid (qBt name cols (K : Int) idx r = none) := hid (qEe (fun g => hlen g.len))
   have e1 : ((r.length : Int) != (cols.length : Int)) = true := by rw [bne_iff_ne]; omega
   have e2 : decide (r.length = cols.length) = false := by rw [decide_eq_false_iff_not]; exact hlen
   clear hlen; go_enter Tryz.func31, Tryz.ntmps31
   go_upto_region 2 with (go_at_call 37; refine HFc.out.mono ?_; rintro e w1 ⟨rfl, hm⟩; have HM0 := hid hm; obtain ⟨b0, b1, b2, b3⟩ := HBx.out _ (hm.mono (fun _ _ h => h.elim)))
   have HT1 := hid (HT.out.ext HM0.out); have HM1 := hid (HM.out.trans HM0.out); clear hm b0 b1 b2 b3; obtain ⟨c0, c1, c2, c3⟩ := HT1.out.cells; obtain ⟨f0, f2⟩ := HT1.out.froz 0; obtain ⟨f1, f3⟩ := HT1.out.froz 1; go_region
   have HT9 := hid (HT1.out.put ⟨#[]⟩ ⟨#[]⟩ ⟨#[]⟩); have HM9 := hid (qDs HM1.out (.string ⟨#[]⟩) (.string ⟨#[]⟩) (.string ⟨#[]⟩) (.string ⟨#[]⟩)); clear c0 c1 c2 c3 f0 f1 f2 f3; generalize (((((w1.setCell ⟨w.heap.size + 1, 0, none⟩ (.string ⟨#[]⟩)).setCell ⟨w.heap.size + 1, 1, none⟩ (.string ⟨#[]⟩)).setCell ⟨w.heap.size + 1 + 1, 0, none⟩ (.string ⟨#[]⟩)).setCell ⟨w.heap.size + 1 + 1, 1, none⟩ (.string ⟨#[]⟩)).drew) = V9 at *; obtain ⟨c0, c1, c2, c3⟩ := HT9.out.cells; go_wp2_with fail
   rw [HN.out]; exact bodyPost_ret (v := qDc (none)) (by simp [qDc, results, Tryz.results31, go_sem, c0, c1, c2, c3]) rfl ⟨rfl, HM9.out⟩
  case pos =>
   have HLen := hid hlen; have e1 : ((r.length : Int) != (cols.length : Int)) = false := by rw [bne_eq_false_iff_eq]; omega
   have e2 : decide (r.length = cols.length) = true := by rw [decide_eq_true_iff]; exact hlen
   have HK := hid (fun (v : World) (hm : Mod (fun _ => False) w v) => jGk (w := v) name idx K cc rc (HL.out.ext hm) (HR.out.ext hm) hlen (by omega) hn HV.out (fun k => by have := HS.out k; omega))
   clear hlen; go_enter Tryz.func31, Tryz.ntmps31
   go_upto_region 3 with (go_at_call 37; refine HFc.out.mono ?_; rintro e w1 ⟨rfl, hm⟩; have HM0 := hid hm; clear b0 b1 b2 b3; obtain ⟨b0, b1, b2, b3⟩ := HBx.out _ (hm.mono (fun _ _ h => h.elim)); have HKw := hid (HK.out _ (HM.out.trans hm)); clear hm)
   have HM1 := hid (HM.out.trans HM0.out); have HT1 := hid (HT.out.ext HM0.out); by_cases hfk : FitK cols r K
   case neg =>
    have HN : Hid (qBt name cols (K : Int) idx r = none) := hid (qEe (fun g => hfk (fun j c v hj hc hv => by
     rw [qKp (g.typed j c v hc hv)]; exact g.bare j v (.inl (by omega)) hv)))
    go_upto_region 5 with (go_at_call 60; refine HKw.out.mono ?_; rintro e w2 ⟨hc, hm2⟩; obtain ⟨_, rfl⟩ := hc.resolve_left (fun h => hfk h.1); have HM2a := hid hm2; clear hc hm2)
    have HM2 := hid (HM1.out.trans HM2a.out); have HT2 := hid (HT1.out.ext HM2a.out); clear b0 b1 b2 b3; obtain ⟨c0, c1, c2, c3⟩ := HT2.out.cells; obtain ⟨f0, f2⟩ := HT2.out.froz 0; obtain ⟨f1, f3⟩ := HT2.out.froz 1; go_region
    have HT9 := hid (HT2.out.put ⟨#[]⟩ ⟨#[]⟩ ⟨#[]⟩); have HM9 := hid (qDs HM2.out (.string ⟨#[]⟩) (.string ⟨#[]⟩) (.string ⟨#[]⟩) (.string ⟨#[]⟩)); clear c0 c1 c2 c3 f0 f1 f2 f3; generalize (((((w2.setCell ⟨w.heap.size + 1, 0, none⟩ (.string ⟨#[]⟩)).setCell ⟨w.heap.size + 1, 1, none⟩ (.string ⟨#[]⟩)).setCell ⟨w.heap.size + 1 + 1, 0, none⟩ (.string ⟨#[]⟩)).setCell ⟨w.heap.size + 1 + 1, 1, none⟩ (.string ⟨#[]⟩)).drew) = V9 at *; obtain ⟨c0, c1, c2, c3⟩ := HT9.out.cells; go_wp2_with fail
    rw [HN.out]; exact bodyPost_ret (v := qDc (none)) (by simp [qDc, results, Tryz.results31, go_sem, c0, c1, c2, c3]) rfl ⟨rfl, HM9.out⟩
   case pos =>
    have HFk := hid hfk; go_upto_region 6 with (go_at_call 60; refine HKw.out.mono ?_; rintro e w2 ⟨hc, hm2⟩; obtain ⟨_, rfl⟩ := hc.resolve_right (fun h => h.1 hfk); have HM2a := hid hm2; clear hc hm2)
    have HM2 := hid (HM1.out.trans HM2a.out); have HT2 := hid (HT1.out.ext HM2a.out); clear b0 b1 b2 b3; obtain ⟨b0, b1, b2, b3⟩ := HBx.out _ ((HM0.out.trans HM2a.out).mono (fun _ _ h => h.elim))
    obtain ⟨c0, c1, c2, c3⟩ := HT2.out.cells; obtain ⟨f0, f2⟩ := HT2.out.froz 0; obtain ⟨f1, f3⟩ := HT2.out.froz 1; have hcv : (convert 128 9 (.slice (some ⟨w2.heap.size, 0, none⟩) 2 2)).run Tryz.prog (w2.alloc (.cells #[.int .u8 name, .int .u8 0] 5)) = .ok (.string (ba (qAe name.toNat 0))) (w2.alloc (.cells #[.int .u8 name, .int .u8 0] 5)) :=
     run_convert_bytes_back (P := Tryz.prog) _ 128 9 5 ⟨w2.heap.size, 0, none⟩ 2 (qAe name.toNat 0) Tryz.underlying128 Tryz.underlying5 Tryz.underlying9 (fun j hj => by
      rw [Addr.add_lit, cell_of_row _ _ _ _ _ _ (heap_alloc_new _ _)]; have : j = 0 \/ j = 1 := by simp [qAe] at hj; omega
      rcases this with rfl | rfl
      ·simp [qAe]; omega
      ·simp [qAe])
    have s0 : (ba (qAe name.toNat 0)).size = 2 := by rw [qAf]; rfl
    have s1 : (ba (qEb cols r K)).size <= 1152921504606846976 := by rw [qAf]; exact HS.out K
    have HPk : Hid (ba (qAe name.toNat 0) ++ ba (qEb cols r K) = ba (qGe name cols K r)) := hid (by unfold qGe; rw [Int.toNat_natCast, qBf])
    have HMa := hid (HM2.out.alloc (.cells #[.int .u8 name, .int .u8 0] 5)); have HTa := hid (HT2.out.ext ((Mod.refl (fun _ => False) _).alloc (.cells #[.int .u8 name, .int .u8 0] 5)))
    obtain ⟨g0, g1, g2, g3⟩ := HTa.out.cells; obtain ⟨h0, h2⟩ := HTa.out.froz 0; go_upto_region 7 with fail
    rw [HPk.out]; have HTb := hid (HTa.out.key (ba (qGe name cols K r))); have HMb := hid (HMa.out.setCell (p := ⟨w.heap.size + 1, 0, none⟩) (fun h => by simp only at h; omega) (.string (ba (qGe name cols K r))))
    have HBb : Hid (((w2.alloc (.cells #[.int .u8 name, .int .u8 0] 5)).setCell ⟨w.heap.size + 1, 0, none⟩ (.string (ba (qGe name cols (K : Int) r)))).heap[w.heap.size]? = some (.cells #[.int .u8 name, .slice ca cols.length cc, .int .i64 (K : Int), .int .i64 idx] 24 (0, 0))) := hid (qDf ((((HM0.out.trans HM2a.out).alloc _).block _ (lth HB.out) (fun h => h)).trans HB.out) (by omega) _)
    have HStart : Hid (jMg w ((w2.alloc (.cells #[.int .u8 name, .int .u8 0] 5)).setCell ⟨w.heap.size + 1, 0, none⟩ (.string (ba (qGe name cols (K : Int) r)))) (.cells #[.int .u8 name, .slice ca cols.length cc, .int .i64 (K : Int), .int .i64 idx] 24 (0, 0)) name cols r K 0) := hid ⟨HBb.out, by rw [qIr cols r (Nat.zero_le K)]; exact HTb.out, HMb.out, fun j c v h => by omega⟩
    clear b0 b1 b2 b3 c0 c1 c2 c3 f0 f1 f2 f3 g0 g1 g2 g3 h0 h2 hcv s0 s1 e1 e2; generalize (w2.alloc (.cells #[.int .u8 name, .int .u8 0] 5)).setCell ⟨w.heap.size + 1, 0, none⟩ (.string (ba (qGe name cols (K : Int) r))) = W3 at *; obtain ⟨b0, b1, b2, b3⟩ := row4 HBb.out; go_wp2_with fail
    clear b0 b1 b2 b3; go_loopw [46] (fun c wr => ∃ k : Nat, k <= cols.length /\ c = .int .i64 (k : Int) /\ jMg w wr (.cells #[.int .u8 name, .slice ca cols.length cc, .int .i64 (K : Int), .int .i64 idx] 24 (0, 0)) name cols r K k) (fun c _ => cols.length - (intOf c).toNat)
    case atStart => exact ⟨0, Nat.zero_le _, rfl, HStart.out⟩
    case round =>
     obtain ⟨k, hk, rfl, hpl⟩ := hrel; have HP := hid hpl; clear hpl; obtain ⟨b0, b1, b2, b3⟩ := row4 HP.out.box; by_cases hlt : k < cols.length
     case neg =>
      have hke : k = cols.length := by omega
      subst hke; have HTy := hid (fun (j : Nat) c v (h1 : cols[j]? = some c) (h2 : r[j]? = some v) => HP.out.typ j c v (List.getElem?_eq_some_iff.1 h1).1 h1 h2)
      have HBare := hid (fun (j : Nat) v (hj : j < K) (h2 : r[j]? = some v) => (by
       obtain ⟨c, hc⟩ : ∃ c, cols[j]? = some c := ⟨_, List.getElem?_eq_getElem (by have := (List.getElem?_eq_some_iff.1 h2).1; rw [HLen.out] at this; exact this)⟩
       rw [<- qKp (HTy.out j c v hc h2)]; exact HFk.out j c v hj hc h2 : qDp v.s = true))
      have HPT := hid HP.out.two; have HPM := hid HP.out.mod; have HPB := hid HP.out.box; by_cases hix : 0 <= idx
      case neg =>
       have di : decide (0 <= idx) = false := by rw [decide_eq_false_iff_not]; exact hix
       have HG : Hid (Good name cols (K : Int) idx r) := hid ⟨HFit.out, HLen.out, HTy.out, fun j v hj h2 => HBare.out j v (by omega) h2⟩
       have HX : Hid (pxL name cols (K : Int) idx r = []) := hid (by unfold pxL; rw [if_neg hix])
       obtain ⟨x0, x1, x2, x3⟩ := row4 HPB.out; go_upto_region 23 with fail
       obtain ⟨Lx, hLx⟩ : ∃ L : List UInt8, L = [] := ⟨_, rfl⟩; have HPT2 : Hid (Two w.heap.size wr (ba (qGe name cols (K : Int) r)) (ba (valL cols r K cols.length)) (ba Lx)) := by rw [hLx]; exact HPT
       clear b0 b1 b2 b3 x0 x1 x2 x3; have HPX : Hid (pxOf name cols (K : Int) idx r = ⟨qGe name cols (K : Int) r, valL cols r K cols.length, Lx⟩) := hid (by unfold pxOf qXx; rw [HX.out, Int.toNat_natCast, hLx])
       have HPn := hid (fun h => (qNy h : qBt name cols (K : Int) idx r = none))
       have HPs := hid (fun h => qHk HG.out h)
       rw [HPX.out] at HPn HPs; generalize hLk : qGe name cols (K : Int) r = Lk at *; generalize hLv : valL cols r K cols.length = Lv at *; clear hLk hLv hLx HX; by_cases z1 : 48 < Lk.length
       case pos =>
        have u1 : (ba Lk).size = Lk.length := qAf _; have t1 : decide (48 < Lk.length) = true := by rw [decide_eq_true_iff]; exact z1
        have HN := hid (HPn.out (by unfold qFj; simp only; omega))
        clear HPn HPs; obtain ⟨c0, c1, c2, c3⟩ := HPT2.out.cells; obtain ⟨f0, f2⟩ := HPT2.out.froz 0; obtain ⟨f1, f3⟩ := HPT2.out.froz 1; go_wp2_with fail
        have HT9 : Hid (Two w.heap.size ((((wr.setCell ⟨w.heap.size + 1, 0, none⟩ (.string ⟨#[]⟩)).setCell ⟨w.heap.size + 1, 1, none⟩ (.string ⟨#[]⟩)).setCell ⟨w.heap.size + 1 + 1, 0, none⟩ (.string ⟨#[]⟩)).setCell ⟨w.heap.size + 1 + 1, 1, none⟩ (.string ⟨#[]⟩)) _ _ _) := hid ⟨(HPT2.out.put ⟨#[]⟩ ⟨#[]⟩ ⟨#[]⟩).p, (HPT2.out.put ⟨#[]⟩ ⟨#[]⟩ ⟨#[]⟩).x⟩
        have HM9 : Hid (Mod (fun _ => False) w ((((wr.setCell ⟨w.heap.size + 1, 0, none⟩ (.string ⟨#[]⟩)).setCell ⟨w.heap.size + 1, 1, none⟩ (.string ⟨#[]⟩)).setCell ⟨w.heap.size + 1 + 1, 0, none⟩ (.string ⟨#[]⟩)).setCell ⟨w.heap.size + 1 + 1, 1, none⟩ (.string ⟨#[]⟩))) := hid (by have hm := qDs HPM.out (.string ⟨#[]⟩) (.string ⟨#[]⟩) (.string ⟨#[]⟩) (.string ⟨#[]⟩); exact ⟨hm.os, hm.tape, hm.output, hm.size, hm.block⟩)
        clear c0 c1 c2 c3 f0 f1 f2 f3; generalize ((((wr.setCell ⟨w.heap.size + 1, 0, none⟩ (.string ⟨#[]⟩)).setCell ⟨w.heap.size + 1, 1, none⟩ (.string ⟨#[]⟩)).setCell ⟨w.heap.size + 1 + 1, 0, none⟩ (.string ⟨#[]⟩)).setCell ⟨w.heap.size + 1 + 1, 1, none⟩ (.string ⟨#[]⟩)) = V9 at *; obtain ⟨c0, c1, c2, c3⟩ := HT9.out.cells; rw [HN.out]; exact bodyPost_ret (v := qDc none) (by simp [qDc, results, Tryz.results31, go_sem, c0, c1, c2, c3]) rfl ⟨rfl, HM9.out⟩
       case neg =>
        have u1 : (ba Lk).size = Lk.length := qAf _; have t1 : decide (48 < Lk.length) = false := by rw [decide_eq_false_iff_not]; exact z1
        by_cases z2 : 48 < Lx.length
        case pos =>
         have u2 : (ba Lx).size = Lx.length := qAf _; have t2 : decide (48 < Lx.length) = true := by rw [decide_eq_true_iff]; exact z2
         have HN := hid (HPn.out (by unfold qFj; simp only; omega))
         clear HPn HPs; obtain ⟨c0, c1, c2, c3⟩ := HPT2.out.cells; obtain ⟨f0, f2⟩ := HPT2.out.froz 0; obtain ⟨f1, f3⟩ := HPT2.out.froz 1; go_wp2_with fail
         have HT9 : Hid (Two w.heap.size ((((wr.setCell ⟨w.heap.size + 1, 0, none⟩ (.string ⟨#[]⟩)).setCell ⟨w.heap.size + 1, 1, none⟩ (.string ⟨#[]⟩)).setCell ⟨w.heap.size + 1 + 1, 0, none⟩ (.string ⟨#[]⟩)).setCell ⟨w.heap.size + 1 + 1, 1, none⟩ (.string ⟨#[]⟩)) _ _ _) := hid ⟨(HPT2.out.put ⟨#[]⟩ ⟨#[]⟩ ⟨#[]⟩).p, (HPT2.out.put ⟨#[]⟩ ⟨#[]⟩ ⟨#[]⟩).x⟩
         have HM9 : Hid (Mod (fun _ => False) w ((((wr.setCell ⟨w.heap.size + 1, 0, none⟩ (.string ⟨#[]⟩)).setCell ⟨w.heap.size + 1, 1, none⟩ (.string ⟨#[]⟩)).setCell ⟨w.heap.size + 1 + 1, 0, none⟩ (.string ⟨#[]⟩)).setCell ⟨w.heap.size + 1 + 1, 1, none⟩ (.string ⟨#[]⟩))) := hid (by have hm := qDs HPM.out (.string ⟨#[]⟩) (.string ⟨#[]⟩) (.string ⟨#[]⟩) (.string ⟨#[]⟩); exact ⟨hm.os, hm.tape, hm.output, hm.size, hm.block⟩)
         clear c0 c1 c2 c3 f0 f1 f2 f3; generalize ((((wr.setCell ⟨w.heap.size + 1, 0, none⟩ (.string ⟨#[]⟩)).setCell ⟨w.heap.size + 1, 1, none⟩ (.string ⟨#[]⟩)).setCell ⟨w.heap.size + 1 + 1, 0, none⟩ (.string ⟨#[]⟩)).setCell ⟨w.heap.size + 1 + 1, 1, none⟩ (.string ⟨#[]⟩)) = V9 at *; obtain ⟨c0, c1, c2, c3⟩ := HT9.out.cells; rw [HN.out]; exact bodyPost_ret (v := qDc none) (by simp [qDc, results, Tryz.results31, go_sem, c0, c1, c2, c3]) rfl ⟨rfl, HM9.out⟩
        case neg =>
         have u2 : (ba Lx).size = Lx.length := qAf _; have t2 : decide (48 < Lx.length) = false := by rw [decide_eq_false_iff_not]; exact z2
         by_cases z3 : 200 < Lv.length
         case pos =>
          have u3 : (ba Lv).size = Lv.length := qAf _; have t3 : decide (200 < Lv.length) = true := by rw [decide_eq_true_iff]; exact z3
          have HN := hid (HPn.out (by unfold qFj; simp only; omega))
          clear HPn HPs; obtain ⟨c0, c1, c2, c3⟩ := HPT2.out.cells; obtain ⟨f0, f2⟩ := HPT2.out.froz 0; obtain ⟨f1, f3⟩ := HPT2.out.froz 1; go_wp2_with fail
          have HT9 : Hid (Two w.heap.size ((((wr.setCell ⟨w.heap.size + 1, 0, none⟩ (.string ⟨#[]⟩)).setCell ⟨w.heap.size + 1, 1, none⟩ (.string ⟨#[]⟩)).setCell ⟨w.heap.size + 1 + 1, 0, none⟩ (.string ⟨#[]⟩)).setCell ⟨w.heap.size + 1 + 1, 1, none⟩ (.string ⟨#[]⟩)) _ _ _) := hid ⟨(HPT2.out.put ⟨#[]⟩ ⟨#[]⟩ ⟨#[]⟩).p, (HPT2.out.put ⟨#[]⟩ ⟨#[]⟩ ⟨#[]⟩).x⟩
          have HM9 : Hid (Mod (fun _ => False) w ((((wr.setCell ⟨w.heap.size + 1, 0, none⟩ (.string ⟨#[]⟩)).setCell ⟨w.heap.size + 1, 1, none⟩ (.string ⟨#[]⟩)).setCell ⟨w.heap.size + 1 + 1, 0, none⟩ (.string ⟨#[]⟩)).setCell ⟨w.heap.size + 1 + 1, 1, none⟩ (.string ⟨#[]⟩))) := hid (by have hm := qDs HPM.out (.string ⟨#[]⟩) (.string ⟨#[]⟩) (.string ⟨#[]⟩) (.string ⟨#[]⟩); exact ⟨hm.os, hm.tape, hm.output, hm.size, hm.block⟩)
          clear c0 c1 c2 c3 f0 f1 f2 f3; generalize ((((wr.setCell ⟨w.heap.size + 1, 0, none⟩ (.string ⟨#[]⟩)).setCell ⟨w.heap.size + 1, 1, none⟩ (.string ⟨#[]⟩)).setCell ⟨w.heap.size + 1 + 1, 0, none⟩ (.string ⟨#[]⟩)).setCell ⟨w.heap.size + 1 + 1, 1, none⟩ (.string ⟨#[]⟩)) = V9 at *; obtain ⟨c0, c1, c2, c3⟩ := HT9.out.cells; rw [HN.out]; exact bodyPost_ret (v := qDc none) (by simp [qDc, results, Tryz.results31, go_sem, c0, c1, c2, c3]) rfl ⟨rfl, HM9.out⟩
         case neg =>
          have u3 : (ba Lv).size = Lv.length := qAf _; have t3 : decide (200 < Lv.length) = false := by rw [decide_eq_false_iff_not]; exact z3
          have HN := hid (HPs.out (by unfold qFj; simp only; omega))
          clear HPn HPs; obtain ⟨c0, c1, c2, c3⟩ := HPT2.out.cells; go_upto_region 25 with fail
          clear c0 c1 c2 c3; obtain ⟨c0, c1, c2, c3⟩ := HPT2.out.cells; obtain ⟨f0, f2⟩ := HPT2.out.froz 0; obtain ⟨f1, f3⟩ := HPT2.out.froz 1; go_region
          have HT9 := hid (HPT2.out.put (ba Lk) (ba Lv) (ba Lx)); have HM9 := hid (qDs HPM.out (.string (ba Lk)) (.string (ba Lv)) (.string (ba Lx)) (.string ⟨#[]⟩)); clear c0 c1 c2 c3 f0 f1 f2 f3; generalize (((((wr.setCell ⟨w.heap.size + 1, 0, none⟩ (.string (ba Lk))).setCell ⟨w.heap.size + 1, 1, none⟩ (.string (ba Lv))).setCell ⟨w.heap.size + 1 + 1, 0, none⟩ (.string (ba Lx))).setCell ⟨w.heap.size + 1 + 1, 1, none⟩ (.string ⟨#[]⟩)).drew) = V9 at *; obtain ⟨c0, c1, c2, c3⟩ := HT9.out.cells; go_wp2_with fail
          rw [HN.out]; exact bodyPost_ret (v := qDc (some ⟨Lk, Lv, Lx⟩)) (by simp [qDc, results, Tryz.results31, go_sem, c0, c1, c2, c3]) rfl ⟨rfl, HM9.out⟩
      case pos =>
       obtain ⟨I, rfl⟩ : ∃ I : Nat, idx = (I : Int) := ⟨idx.toNat, by omega⟩
       have di : decide ((0 : Int) <= (I : Int)) = true := by rw [decide_eq_true_iff]; exact hix
       obtain ⟨c, hc⟩ : ∃ c, cols[I]? = some c := ⟨_, List.getElem?_eq_getElem (by omega)⟩
       obtain ⟨v, hvv⟩ : ∃ v, r[I]? = some v := ⟨_, List.getElem?_eq_getElem (by rw [HLen.out]; omega)⟩
       have hkr : I < r.length := by rw [HLen.out]; omega
       have hic : I < cols.length := by omega
       have HVo := hid (HV.out v (List.mem_of_getElem? hvv)); have hlc := HL.out.ext HP.out.mod; have hrc := HR.out.ext HP.out.mod; obtain ⟨g, off, rfl⟩ := hlc.some (by omega)
       obtain ⟨g2, off2, rfl⟩ := hrc.some (by omega)
       have q0 := hlc.cell oneI_len hc (j := 0) rfl; have p0 := hrc.cell qEl hvv (j := 0) rfl; have p1 := hrc.cell qEl hvv (j := 1) rfl; rw [Nat.add_zero, Nat.mul_one] at q0; rw [Nat.add_zero] at p0; have HI : Hid (idxL cols r (I : Int) = qDn c v) := hid (by
        unfold idxL; rw [Int.toNat_natCast, List.getD_eq_getElem?_getD, List.getD_eq_getElem?_getD, hc, hvv]; rfl)
       have HFt := hid (qKp (HTy.out I c v hc hvv)); have HVI := hid hvv; have x0 := fun x : Ext wr => x.cell b0
       have x1 := fun x : Ext wr => x.cell b1
       have x3 := fun x : Ext wr => x.cell b3
       have y0 := fun x : Ext wr => x.cell q0
       have y1 := fun x : Ext wr => x.cell p0
       have y2 := fun x : Ext wr => x.cell p1
       have HFm := hid (fun x : Ext wr => qQa c v x.val HVo.out)
       obtain ⟨n, t⟩ := v; simp only at y1 y2 HFm; clear hlc hrc hc hvv q0 p0 p1; go_upto_region 19 with fail
       clear b0 b1 b2 b3; cases hft : qMn c ⟨n, t⟩ with
       | false =>
        have HN : Hid (qBt name cols (K : Int) (I : Int) r = none) := hid (qEe (fun gd => by
         have := gd.bare I ⟨n, t⟩ (.inr rfl) HVI.out; rw [<- HFt.out, hft] at this; cases this))
        rw [hft] at HFm; refine qAm (by kernel_rfl) (by kernel_rfl) ?_
        repeat (go_big_quiet_step ((go_at_call 39; exact qBe (HFm.out _))))
        refine wpQuiet_nil ?_; rintro _ ⟨x, rfl⟩; have HTx := hid (HPT.out.ext x.mod); have HMx := hid (HPM.out.trans x.mod); clear x0 x1 x3 y0 y1 y2; go_upto_region 21 with fail
        obtain ⟨c0, c1, c2, c3⟩ := HTx.out.cells; obtain ⟨f0, f2⟩ := HTx.out.froz 0; obtain ⟨f1, f3⟩ := HTx.out.froz 1; go_region
        have HT9 := hid (HTx.out.put ⟨#[]⟩ ⟨#[]⟩ ⟨#[]⟩); have HM9 := hid (qDs HMx.out (.string ⟨#[]⟩) (.string ⟨#[]⟩) (.string ⟨#[]⟩) (.string ⟨#[]⟩)); clear c0 c1 c2 c3 f0 f1 f2 f3; generalize (((((x.val.setCell ⟨w.heap.size + 1, 0, none⟩ (.string ⟨#[]⟩)).setCell ⟨w.heap.size + 1, 1, none⟩ (.string ⟨#[]⟩)).setCell ⟨w.heap.size + 1 + 1, 0, none⟩ (.string ⟨#[]⟩)).setCell ⟨w.heap.size + 1 + 1, 1, none⟩ (.string ⟨#[]⟩)).drew) = V9 at *; obtain ⟨c0, c1, c2, c3⟩ := HT9.out.cells; go_wp2_with fail
        rw [HN.out]; exact bodyPost_ret (v := qDc (none)) (by simp [qDc, results, Tryz.results31, go_sem, c0, c1, c2, c3]) rfl ⟨rfl, HM9.out⟩
       | true =>
        have HG : Hid (Good name cols (K : Int) (I : Int) r) := hid ⟨HFit.out, HLen.out, HTy.out, fun j v hj h2 => by
         by_cases hjI : j = I
         ·subst hjI; rw [HVI.out] at h2; cases h2
          rw [<- HFt.out]; exact hft
         ·exact HBare.out j v (by omega) h2⟩
        have HX : Hid (pxL name cols (K : Int) (I : Int) r = qAe name.toNat 1 ++ qDn c ⟨n, t⟩ ++ qEb cols r K) := hid (by unfold pxL; rw [if_pos hix, HI.out, Int.toNat_natCast])
        rw [hft] at HFm; refine qAm (by kernel_rfl) (by kernel_rfl) ?_
        repeat (go_big_quiet_step ((go_at_call 39; exact qBe (HFm.out _))))
        refine wpQuiet_nil ?_; rintro _ ⟨x, rfl⟩; have HTx := hid (HPT.out.ext x.mod); have HMx := hid (HPM.out.trans x.mod); have b0 := x0 x; clear x0 x1 x3 y0 y1 y2; generalize x.val = X at *; have hcv : (convert 128 9 (.slice (some ⟨X.heap.size, 0, none⟩) 2 2)).run Tryz.prog (X.alloc (.cells #[.int .u8 name, .int .u8 1] 5)) = .ok (.string (ba (qAe name.toNat 1))) (X.alloc (.cells #[.int .u8 name, .int .u8 1] 5)) :=
         run_convert_bytes_back (P := Tryz.prog) _ 128 9 5 ⟨X.heap.size, 0, none⟩ 2 (qAe name.toNat 1) Tryz.underlying128 Tryz.underlying5 Tryz.underlying9 (fun j hj => by
          rw [Addr.add_lit, cell_of_row _ _ _ _ _ _ (heap_alloc_new _ _)]; have : j = 0 \/ j = 1 := by simp [qAe] at hj; omega
          rcases this with rfl | rfl
          ·simp [qAe]; omega
          ·simp [qAe])
        have s0 : (ba (qAe name.toNat 1)).size = 2 := by rw [qAf]; rfl
        have s1 : (ba (qEb cols r K)).size <= 1152921504606846976 := by rw [qAf]; exact HS.out K
        have s2 : (ba (qDn c ⟨n, t⟩)).size <= 1152921504606846976 := by rw [qAf]; have := qKn (k := c) HVo.out; omega
        have s3 : (ba (qAe name.toNat 1) ++ ba (qDn c ⟨n, t⟩)).size <= 1152921504606846980 := by rw [qBf, qAf, List.length_append]; have := qKn (k := c) HVo.out; have : (qAe name.toNat 1).length = 2 := rfl; omega
        obtain ⟨Lx, hLx⟩ : ∃ L : List UInt8, L = qAe name.toNat 1 ++ qDn c ⟨n, t⟩ ++ qEb cols r K := ⟨_, rfl⟩; have HPx : Hid (ba (qAe name.toNat 1) ++ ba (qDn c ⟨n, t⟩) ++ ba (qEb cols r K) = ba Lx) := hid (by rw [hLx, qBf, qBf])
        have HMa := hid (HMx.out.alloc (.cells #[.int .u8 name, .int .u8 1] 5)); have HTa := hid (HTx.out.ext ((Mod.refl (fun _ => False) _).alloc (.cells #[.int .u8 name, .int .u8 1] 5)))
        obtain ⟨g0, g1, g2', g3⟩ := HTa.out.cells; obtain ⟨h0, h2⟩ := HTa.out.froz 0; go_upto_region 23 with fail
        rw [HPx.out]; have HPT2 := hid (HTa.out.idx (ba Lx)); have HPM2 := hid (HMa.out.setCell (p := ⟨w.heap.size + 1 + 1, 0, none⟩) (fun h => by simp only at h; omega) (.string (ba Lx)))
        clear g0 g1 g2' g3 h0 h2 hcv s0 s1 s2 s3 b0; generalize (X.alloc (.cells #[.int .u8 name, .int .u8 1] 5)).setCell ⟨w.heap.size + 1 + 1, 0, none⟩ (.string (ba Lx)) = W9 at *; have HPX : Hid (pxOf name cols (K : Int) (I : Int) r = ⟨qGe name cols (K : Int) r, valL cols r K cols.length, Lx⟩) := hid (by unfold pxOf qXx; rw [HX.out, Int.toNat_natCast, hLx])
        have HPn := hid (fun h => (qNy h : qBt name cols (K : Int) (I : Int) r = none))
        have HPs := hid (fun h => qHk HG.out h)
        rw [HPX.out] at HPn HPs; generalize hLk : qGe name cols (K : Int) r = Lk at *; generalize hLv : valL cols r K cols.length = Lv at *; clear hLk hLv hLx HX; by_cases z1 : 48 < Lk.length
        case pos =>
         have u1 : (ba Lk).size = Lk.length := qAf _; have t1 : decide (48 < Lk.length) = true := by rw [decide_eq_true_iff]; exact z1
         have HN := hid (HPn.out (by unfold qFj; simp only; omega))
         clear HPn HPs; obtain ⟨c0, c1, c2, c3⟩ := HPT2.out.cells; obtain ⟨f0, f2⟩ := HPT2.out.froz 0; obtain ⟨f1, f3⟩ := HPT2.out.froz 1; go_wp2_with fail
         have HT9 : Hid (Two w.heap.size ((((W9.setCell ⟨w.heap.size + 1, 0, none⟩ (.string ⟨#[]⟩)).setCell ⟨w.heap.size + 1, 1, none⟩ (.string ⟨#[]⟩)).setCell ⟨w.heap.size + 1 + 1, 0, none⟩ (.string ⟨#[]⟩)).setCell ⟨w.heap.size + 1 + 1, 1, none⟩ (.string ⟨#[]⟩)) _ _ _) := hid ⟨(HPT2.out.put ⟨#[]⟩ ⟨#[]⟩ ⟨#[]⟩).p, (HPT2.out.put ⟨#[]⟩ ⟨#[]⟩ ⟨#[]⟩).x⟩
         have HM9 : Hid (Mod (fun _ => False) w ((((W9.setCell ⟨w.heap.size + 1, 0, none⟩ (.string ⟨#[]⟩)).setCell ⟨w.heap.size + 1, 1, none⟩ (.string ⟨#[]⟩)).setCell ⟨w.heap.size + 1 + 1, 0, none⟩ (.string ⟨#[]⟩)).setCell ⟨w.heap.size + 1 + 1, 1, none⟩ (.string ⟨#[]⟩))) := hid (by have hm := qDs HPM2.out (.string ⟨#[]⟩) (.string ⟨#[]⟩) (.string ⟨#[]⟩) (.string ⟨#[]⟩); exact ⟨hm.os, hm.tape, hm.output, hm.size, hm.block⟩)
         clear c0 c1 c2 c3 f0 f1 f2 f3; generalize ((((W9.setCell ⟨w.heap.size + 1, 0, none⟩ (.string ⟨#[]⟩)).setCell ⟨w.heap.size + 1, 1, none⟩ (.string ⟨#[]⟩)).setCell ⟨w.heap.size + 1 + 1, 0, none⟩ (.string ⟨#[]⟩)).setCell ⟨w.heap.size + 1 + 1, 1, none⟩ (.string ⟨#[]⟩)) = V9 at *; obtain ⟨c0, c1, c2, c3⟩ := HT9.out.cells; rw [HN.out]; exact bodyPost_ret (v := qDc none) (by simp [qDc, results, Tryz.results31, go_sem, c0, c1, c2, c3]) rfl ⟨rfl, HM9.out⟩
        case neg =>
         have u1 : (ba Lk).size = Lk.length := qAf _; have t1 : decide (48 < Lk.length) = false := by rw [decide_eq_false_iff_not]; exact z1
         by_cases z2 : 48 < Lx.length
         case pos =>
          have u2 : (ba Lx).size = Lx.length := qAf _; have t2 : decide (48 < Lx.length) = true := by rw [decide_eq_true_iff]; exact z2
          have HN := hid (HPn.out (by unfold qFj; simp only; omega))
          clear HPn HPs; obtain ⟨c0, c1, c2, c3⟩ := HPT2.out.cells; obtain ⟨f0, f2⟩ := HPT2.out.froz 0; obtain ⟨f1, f3⟩ := HPT2.out.froz 1; go_wp2_with fail
          have HT9 : Hid (Two w.heap.size ((((W9.setCell ⟨w.heap.size + 1, 0, none⟩ (.string ⟨#[]⟩)).setCell ⟨w.heap.size + 1, 1, none⟩ (.string ⟨#[]⟩)).setCell ⟨w.heap.size + 1 + 1, 0, none⟩ (.string ⟨#[]⟩)).setCell ⟨w.heap.size + 1 + 1, 1, none⟩ (.string ⟨#[]⟩)) _ _ _) := hid ⟨(HPT2.out.put ⟨#[]⟩ ⟨#[]⟩ ⟨#[]⟩).p, (HPT2.out.put ⟨#[]⟩ ⟨#[]⟩ ⟨#[]⟩).x⟩
          have HM9 : Hid (Mod (fun _ => False) w ((((W9.setCell ⟨w.heap.size + 1, 0, none⟩ (.string ⟨#[]⟩)).setCell ⟨w.heap.size + 1, 1, none⟩ (.string ⟨#[]⟩)).setCell ⟨w.heap.size + 1 + 1, 0, none⟩ (.string ⟨#[]⟩)).setCell ⟨w.heap.size + 1 + 1, 1, none⟩ (.string ⟨#[]⟩))) := hid (by have hm := qDs HPM2.out (.string ⟨#[]⟩) (.string ⟨#[]⟩) (.string ⟨#[]⟩) (.string ⟨#[]⟩); exact ⟨hm.os, hm.tape, hm.output, hm.size, hm.block⟩)
          clear c0 c1 c2 c3 f0 f1 f2 f3; generalize ((((W9.setCell ⟨w.heap.size + 1, 0, none⟩ (.string ⟨#[]⟩)).setCell ⟨w.heap.size + 1, 1, none⟩ (.string ⟨#[]⟩)).setCell ⟨w.heap.size + 1 + 1, 0, none⟩ (.string ⟨#[]⟩)).setCell ⟨w.heap.size + 1 + 1, 1, none⟩ (.string ⟨#[]⟩)) = V9 at *; obtain ⟨c0, c1, c2, c3⟩ := HT9.out.cells; rw [HN.out]; exact bodyPost_ret (v := qDc none) (by simp [qDc, results, Tryz.results31, go_sem, c0, c1, c2, c3]) rfl ⟨rfl, HM9.out⟩
         case neg =>
          have u2 : (ba Lx).size = Lx.length := qAf _; have t2 : decide (48 < Lx.length) = false := by rw [decide_eq_false_iff_not]; exact z2
          by_cases z3 : 200 < Lv.length
          case pos =>
           have u3 : (ba Lv).size = Lv.length := qAf _; have t3 : decide (200 < Lv.length) = true := by rw [decide_eq_true_iff]; exact z3
           have HN := hid (HPn.out (by unfold qFj; simp only; omega))
           clear HPn HPs; obtain ⟨c0, c1, c2, c3⟩ := HPT2.out.cells; obtain ⟨f0, f2⟩ := HPT2.out.froz 0; obtain ⟨f1, f3⟩ := HPT2.out.froz 1; go_wp2_with fail
           have HT9 : Hid (Two w.heap.size ((((W9.setCell ⟨w.heap.size + 1, 0, none⟩ (.string ⟨#[]⟩)).setCell ⟨w.heap.size + 1, 1, none⟩ (.string ⟨#[]⟩)).setCell ⟨w.heap.size + 1 + 1, 0, none⟩ (.string ⟨#[]⟩)).setCell ⟨w.heap.size + 1 + 1, 1, none⟩ (.string ⟨#[]⟩)) _ _ _) := hid ⟨(HPT2.out.put ⟨#[]⟩ ⟨#[]⟩ ⟨#[]⟩).p, (HPT2.out.put ⟨#[]⟩ ⟨#[]⟩ ⟨#[]⟩).x⟩
           have HM9 : Hid (Mod (fun _ => False) w ((((W9.setCell ⟨w.heap.size + 1, 0, none⟩ (.string ⟨#[]⟩)).setCell ⟨w.heap.size + 1, 1, none⟩ (.string ⟨#[]⟩)).setCell ⟨w.heap.size + 1 + 1, 0, none⟩ (.string ⟨#[]⟩)).setCell ⟨w.heap.size + 1 + 1, 1, none⟩ (.string ⟨#[]⟩))) := hid (by have hm := qDs HPM2.out (.string ⟨#[]⟩) (.string ⟨#[]⟩) (.string ⟨#[]⟩) (.string ⟨#[]⟩); exact ⟨hm.os, hm.tape, hm.output, hm.size, hm.block⟩)
           clear c0 c1 c2 c3 f0 f1 f2 f3; generalize ((((W9.setCell ⟨w.heap.size + 1, 0, none⟩ (.string ⟨#[]⟩)).setCell ⟨w.heap.size + 1, 1, none⟩ (.string ⟨#[]⟩)).setCell ⟨w.heap.size + 1 + 1, 0, none⟩ (.string ⟨#[]⟩)).setCell ⟨w.heap.size + 1 + 1, 1, none⟩ (.string ⟨#[]⟩)) = V9 at *; obtain ⟨c0, c1, c2, c3⟩ := HT9.out.cells; rw [HN.out]; exact bodyPost_ret (v := qDc none) (by simp [qDc, results, Tryz.results31, go_sem, c0, c1, c2, c3]) rfl ⟨rfl, HM9.out⟩
          case neg =>
           have u3 : (ba Lv).size = Lv.length := qAf _; have t3 : decide (200 < Lv.length) = false := by rw [decide_eq_false_iff_not]; exact z3
           have HN := hid (HPs.out (by unfold qFj; simp only; omega))
           clear HPn HPs; obtain ⟨c0, c1, c2, c3⟩ := HPT2.out.cells; go_upto_region 25 with fail
           clear c0 c1 c2 c3; obtain ⟨c0, c1, c2, c3⟩ := HPT2.out.cells; obtain ⟨f0, f2⟩ := HPT2.out.froz 0; obtain ⟨f1, f3⟩ := HPT2.out.froz 1; go_region
           have HT9 := hid (HPT2.out.put (ba Lk) (ba Lv) (ba Lx)); have HM9 := hid (qDs HPM2.out (.string (ba Lk)) (.string (ba Lv)) (.string (ba Lx)) (.string ⟨#[]⟩)); clear c0 c1 c2 c3 f0 f1 f2 f3; generalize (((((W9.setCell ⟨w.heap.size + 1, 0, none⟩ (.string (ba Lk))).setCell ⟨w.heap.size + 1, 1, none⟩ (.string (ba Lv))).setCell ⟨w.heap.size + 1 + 1, 0, none⟩ (.string (ba Lx))).setCell ⟨w.heap.size + 1 + 1, 1, none⟩ (.string ⟨#[]⟩)).drew) = V9 at *; obtain ⟨c0, c1, c2, c3⟩ := HT9.out.cells; go_wp2_with fail
           rw [HN.out]; exact bodyPost_ret (v := qDc (some ⟨Lk, Lv, Lx⟩)) (by simp [qDc, results, Tryz.results31, go_sem, c0, c1, c2, c3]) rfl ⟨rfl, HM9.out⟩
     case pos =>
      obtain ⟨c, hc⟩ : ∃ c, cols[k]? = some c := ⟨_, List.getElem?_eq_getElem hlt⟩; obtain ⟨v, hvv⟩ : ∃ v, r[k]? = some v := ⟨_, List.getElem?_eq_getElem (by rw [HLen.out]; exact hlt)⟩
      obtain ⟨n, t⟩ := v; have hkr : k < r.length := by rw [HLen.out]; exact hlt
      have hlc := HL.out.ext HP.out.mod; have hrc := HR.out.ext HP.out.mod; have HVo := hid (HV.out ⟨n, t⟩ (List.mem_of_getElem? hvv)); have HKc := hid (HKd.out c (List.mem_of_getElem? hc)); obtain ⟨g, off, rfl⟩ := hlc.some (by omega)
      obtain ⟨g2, off2, rfl⟩ := hrc.some (by omega)
      have q0 := hlc.cell oneI_len hc (j := 0) rfl; have p0 := hrc.cell qEl hvv (j := 0) rfl; have p1 := hrc.cell qEl hvv (j := 1) rfl; rw [Nat.add_zero, Nat.mul_one] at q0; rw [Nat.add_zero] at p0; have HSu := hid (fun h : K <= k => qZn h hc hvv)
      have HVl := hid (HSv.out K (k + 1)); have HVk := hid (HSv.out K k); have hVA : Mod (fun _ => False) wr (wr.alloc (.cells #[.int .i64 n, .string t] 46)) := (Mod.refl _ _).alloc _
      have HVA := hid hVA; have HVb : Hid ((wr.alloc (.cells #[.int .i64 n, .string t] 46)).heap[wr.heap.size]? = some (.cells #[.int .i64 n, .string t] 46 (0, 0))) := hid (heap_alloc_new _ _); have HPT := hid (HP.out.two.ext hVA); have HPM := hid (HP.out.mod.trans hVA); have HPB := hid ((hVA.block _ (lth HP.out.box) (fun h => h)).trans HP.out.box)
      have v0 : (wr.alloc (.cells #[.int .i64 n, .string t] 46)).cell? ⟨wr.heap.size, 0, none⟩ = some (.int .i64 n) := by rw [cell_of_row _ _ _ _ _ _ HVb.out]; rfl
      have v1 : (wr.alloc (.cells #[.int .i64 n, .string t] 46)).cell? ⟨wr.heap.size, 1, none⟩ = some (.string t) := by rw [cell_of_row _ _ _ _ _ _ HVb.out]; rfl
      have HTyp := hid (fun (ht : qDe c ⟨n, t⟩ = true) => (fun (j : Nat) c' v' (hj : j < k + 1) (h1 : cols[j]? = some c') (h2 : r[j]? = some v') => by
       by_cases hjk : j = k
       ·subst hjk; rw [hc] at h1; rw [hvv] at h2; cases h1
        cases h2
        exact ht
       ·exact HP.out.typ j c' v' (by omega) h1 h2 : ∀ (j : Nat) c' v', j < k + 1 -> cols[j]? = some c' -> r[j]? = some v' -> qDe c' v' = true))
      have HBad := hid (fun (ht : qDe c ⟨n, t⟩ = false) => (qEe (fun g => by have := g.typed k c ⟨n, t⟩ hc hvv; rw [ht] at this; cases this) : qBt name cols (K : Int) idx r = none))
      clear hVA hc hvv; rcases HKc.out with rfl | rfl
      ·
       cases hs : t.toList.isEmpty with
       | false =>
        have HN := hid (HBad.out (by unfold qDe; rw [if_pos rfl]; exact hs))
        go_upto_region 13 with fail
        clear b0 b1 b2 b3 q0 p0 p1 v0 v1; generalize wr.alloc (.cells #[.int .i64 n, .string t] 46) = VA at *; obtain ⟨c0, c1, c2, c3⟩ := HPT.out.cells; obtain ⟨f0, f2⟩ := HPT.out.froz 0; obtain ⟨f1, f3⟩ := HPT.out.froz 1; go_region
        have HT9 := hid (HPT.out.put ⟨#[]⟩ ⟨#[]⟩ ⟨#[]⟩); have HM9 := hid (qDs HPM.out (.string ⟨#[]⟩) (.string ⟨#[]⟩) (.string ⟨#[]⟩) (.string ⟨#[]⟩)); clear c0 c1 c2 c3 f0 f1 f2 f3; generalize (((((VA.setCell ⟨w.heap.size + 1, 0, none⟩ (.string ⟨#[]⟩)).setCell ⟨w.heap.size + 1, 1, none⟩ (.string ⟨#[]⟩)).setCell ⟨w.heap.size + 1 + 1, 0, none⟩ (.string ⟨#[]⟩)).setCell ⟨w.heap.size + 1 + 1, 1, none⟩ (.string ⟨#[]⟩)).drew) = V9 at *; obtain ⟨c0, c1, c2, c3⟩ := HT9.out.cells; go_wp2_with fail
        rw [HN.out]; exact bodyPost_ret (v := qDc (none)) (by simp [qDc, results, Tryz.results31, go_sem, c0, c1, c2, c3]) rfl ⟨rfl, HM9.out⟩
       | true =>
        have HTy := hid (HTyp.out (by unfold qDe; rw [if_pos rfl]; exact hs))
        by_cases hkK : k < K
        case pos =>
         have HVs : Hid (valL cols r K (k + 1) = valL cols r K k) := hid (by rw [qIr cols r (show k + 1 <= K by omega), qIr cols r (show k <= K by omega)])
         obtain ⟨x0, x1, x2, x3⟩ := row4 HPB.out; go_wp2_with fail
         go_roundw
         case rel => exact ⟨k + 1, by omega, by go_num, ⟨HPB.out, by rw [HVs.out]; exact HPT.out, HPM.out, HTy.out⟩⟩
         case measure => simp [intOf]; omega
        case neg =>
         obtain ⟨x0, x1, x2, x3⟩ := row4 HPB.out; have HPk : Hid (qKf 0 ⟨n, t⟩ = intL n) := hid rfl; have HSs := hid (HSu.out (by omega))
         rw [HPk.out] at HSs; have s0 : (ba (valL cols r K k)).size <= 1152921504606846976 := by rw [qAf]; exact HVk.out
         have s1 : (ba (intL n)).size <= 1152921504606846976 := by
          have := HVl.out; rw [HSs.out, List.length_append] at this; rw [qAf]; omega
         have HBa : Hid (ba (valL cols r K k) ++ ba (intL n) = ba (valL cols r K (k + 1))) := hid (by rw [HSs.out, qBf])
         have HI := hid (fun W : World => jJp n W HVo.out.n0 HVo.out.n1)
         go_upto_region 16 with fail
         clear b0 b1 b2 b3 q0 p0 p1 v0 v1 x0 x1 x2 x3; generalize wr.alloc (.cells #[.int .i64 n, .string t] 46) = VA at *; have HUp : Hid (∀ W, Mod (fun _ => False) VA.drew W -> W.cell? ⟨w.heap.size + 1, 1, none⟩ = some (.string (ba (valL cols r K k))) /\ W.cell? ⟨wr.heap.size, 0, none⟩ = some (.int .i64 n) /\ W.frozen? ⟨w.heap.size + 1, 1, none⟩ = false) := hid (fun W hW => by
          have hW2 : Mod (fun _ => False) VA W := ⟨hW.os, hW.tape, hW.output, hW.size, hW.block⟩
          have tt := HPT.out.ext hW2; refine ⟨tt.cells.2.1, ?_, (tt.froz 1).1⟩; rw [cell_of_row _ _ _ _ _ _ ((hW2.block _ (lth HVb.out) (fun h => h)).trans HVb.out)]; rfl)
         obtain ⟨z0, z1, z2⟩ := HUp.out VA.drew (Mod.refl _ _); go_region_with ((go_at_call 61; (with_reducible refine (HI.out _).mono ?_); rintro e w5 ⟨rfl, hm5⟩; obtain ⟨y0, y1, y2⟩ := HUp.out w5 hm5; have HM5 := hid hm5; clear hm5))
         all_goals
          clear z0 z1 z2 y0 y1 y2 s0 s1; rw [HBa.out]; have HM6 : Hid (Mod (fun _ => False) VA w5) := hid ⟨HM5.out.os, HM5.out.tape, HM5.out.output, HM5.out.size, HM5.out.block⟩
          have HT6 := hid ((HPT.out.ext HM6.out).val (ba (valL cols r K (k + 1)))); have HMo6 := hid ((HPM.out.trans HM6.out).setCell (p := ⟨w.heap.size + 1, 1, none⟩) (fun h => by simp only at h; omega) (.string (ba (valL cols r K (k + 1)))))
          have HB6 := hid (qDf (c := w.heap.size + 1) (o := 1) ((HM6.out.block _ (lth HPB.out) (fun h => h)).trans HPB.out) (by omega) (.string (ba (valL cols r K (k + 1)))))
          go_wp2_with fail
          go_roundw
          case rel => exact ⟨k + 1, by omega, by go_num, ⟨HB6.out, HT6.out, HMo6.out, HTy.out⟩⟩
          case measure => simp [intOf]; omega
      ·
       by_cases hz : n = 0
       case neg =>
        have HN := hid (HBad.out (by unfold qDe; rw [if_neg (by decide)]; rw [beq_eq_false_iff_ne]; exact hz))
        have ez : (n != 0) = true := by rw [bne_iff_ne]; exact hz
        go_upto_region 13 with fail
        clear b0 b1 b2 b3 q0 p0 p1 v0 v1; generalize wr.alloc (.cells #[.int .i64 n, .string t] 46) = VA at *; obtain ⟨c0, c1, c2, c3⟩ := HPT.out.cells; obtain ⟨f0, f2⟩ := HPT.out.froz 0; obtain ⟨f1, f3⟩ := HPT.out.froz 1; go_region
        have HT9 := hid (HPT.out.put ⟨#[]⟩ ⟨#[]⟩ ⟨#[]⟩); have HM9 := hid (qDs HPM.out (.string ⟨#[]⟩) (.string ⟨#[]⟩) (.string ⟨#[]⟩) (.string ⟨#[]⟩)); clear c0 c1 c2 c3 f0 f1 f2 f3; generalize (((((VA.setCell ⟨w.heap.size + 1, 0, none⟩ (.string ⟨#[]⟩)).setCell ⟨w.heap.size + 1, 1, none⟩ (.string ⟨#[]⟩)).setCell ⟨w.heap.size + 1 + 1, 0, none⟩ (.string ⟨#[]⟩)).setCell ⟨w.heap.size + 1 + 1, 1, none⟩ (.string ⟨#[]⟩)).drew) = V9 at *; obtain ⟨c0, c1, c2, c3⟩ := HT9.out.cells; go_wp2_with fail
        rw [HN.out]; exact bodyPost_ret (v := qDc (none)) (by simp [qDc, results, Tryz.results31, go_sem, c0, c1, c2, c3]) rfl ⟨rfl, HM9.out⟩
       case pos =>
        subst hz; have HTy := hid (HTyp.out (by unfold qDe; rw [if_neg (by decide)]; rw [beq_iff_eq]))
        by_cases hkK : k < K
        case pos =>
         have HVs : Hid (valL cols r K (k + 1) = valL cols r K k) := hid (by rw [qIr cols r (show k + 1 <= K by omega), qIr cols r (show k <= K by omega)])
         obtain ⟨x0, x1, x2, x3⟩ := row4 HPB.out; go_wp2_with fail
         go_roundw
         case rel => exact ⟨k + 1, by omega, by go_num, ⟨HPB.out, by rw [HVs.out]; exact HPT.out, HPM.out, HTy.out⟩⟩
         case measure => simp [intOf]; omega
        case neg =>
         obtain ⟨x0, x1, x2, x3⟩ := row4 HPB.out; have HPk : Hid (qKf 1 ⟨0, t⟩ = qCq t) := hid rfl; have HSs := hid (HSu.out (by omega))
         rw [HPk.out] at HSs; have s0 : (ba (valL cols r K k)).size <= 1152921504606846976 := by rw [qAf]; exact HVk.out
         have s1 : (ba (qCq t)).size <= 1152921504606846976 := by
          have := HVl.out; rw [HSs.out, List.length_append] at this; rw [qAf]; omega
         have HBa : Hid (ba (valL cols r K k) ++ ba (qCq t) = ba (valL cols r K (k + 1))) := hid (by rw [HSs.out, qBf])
         have HI := hid (fun W : World => qOx t W HVo.out.s)
         go_upto_region 11 with fail
         clear b0 b1 b2 b3 q0 p0 p1 v0 v1 x0 x1 x2 x3; generalize wr.alloc (.cells #[.int .i64 0, .string t] 46) = VA at *; have HUp : Hid (∀ W, Mod (fun _ => False) VA.drew W -> W.cell? ⟨w.heap.size + 1, 1, none⟩ = some (.string (ba (valL cols r K k))) /\ W.cell? ⟨wr.heap.size, 1, none⟩ = some (.string t) /\ W.frozen? ⟨w.heap.size + 1, 1, none⟩ = false) := hid (fun W hW => by
          have hW2 : Mod (fun _ => False) VA W := ⟨hW.os, hW.tape, hW.output, hW.size, hW.block⟩
          have tt := HPT.out.ext hW2; refine ⟨tt.cells.2.1, ?_, (tt.froz 1).1⟩; rw [cell_of_row _ _ _ _ _ _ ((hW2.block _ (lth HVb.out) (fun h => h)).trans HVb.out)]; rfl)
         obtain ⟨z0, z1, z2⟩ := HUp.out VA.drew (Mod.refl _ _); go_region_with ((go_at_call 62; (with_reducible refine (HI.out _).mono ?_); rintro e w5 ⟨rfl, hm5⟩; obtain ⟨y0, y1, y2⟩ := HUp.out w5 hm5; have HM5 := hid hm5; clear hm5))
         all_goals
          clear z0 z1 z2 y0 y1 y2 s0 s1; rw [HBa.out]; have HM6 : Hid (Mod (fun _ => False) VA w5) := hid ⟨HM5.out.os, HM5.out.tape, HM5.out.output, HM5.out.size, HM5.out.block⟩
          have HT6 := hid ((HPT.out.ext HM6.out).val (ba (valL cols r K (k + 1)))); have HMo6 := hid ((HPM.out.trans HM6.out).setCell (p := ⟨w.heap.size + 1, 1, none⟩) (fun h => by simp only at h; omega) (.string (ba (valL cols r K (k + 1)))))
          have HB6 := hid (qDf (c := w.heap.size + 1) (o := 1) ((HM6.out.block _ (lth HPB.out) (fun h => h)).trans HPB.out) (by omega) (.string (ba (valL cols r K (k + 1)))))
          go_wp2_with fail
          go_roundw
          case rel => exact ⟨k + 1, by omega, by go_num, ⟨HB6.out, HT6.out, HMo6.out, HTy.out⟩⟩
          case measure => simp [intOf]; omega
end
end Go.Proofs.YtkinkgbmlhiakaaGreatDoor
