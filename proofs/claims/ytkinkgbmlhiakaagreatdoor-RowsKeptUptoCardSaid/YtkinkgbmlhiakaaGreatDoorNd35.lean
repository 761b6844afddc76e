/- merged: RoFe RoKp RwW -/
import Derived.Test.YtkinkgbmlhiakaaGreatDoorNd34
import Derived.Test.YtkinkgbmlhiakaaGreatDoorNd33
namespace Go.Proofs.YtkinkgbmlhiakaaGreatDoor
section
open Go Go.RowKit
def jKw (w : World) (l : List KV) (name : Int) (cols : List Int) (keys idx : Int) (head : List UInt8) (G : List KV) (e : Ending) (w' : World) : Prop :=
 Mod (fun _ => False) w w' /\ ((∃ xs la cap, xs.length = G.length /\ (∀ (i : Nat) (p : KV) (x : RwV), G[i]? = some p -> xs[i]? = some x -> FOk l name cols keys idx head p x.vs) /\ e = .returned (.tuple #[.slice la xs.length cap, .int .i64 0]) /\ qOs w' la xs) ∨
  ((∃ p ∈ G, ∀ r, ¬ FOk l name cols keys idx head p r) /\ e = .returned (.tuple #[.slice none 0 0, .int .i64 60])))
def lkv (l : List KV) (k : ByteArray) : ByteArray := match l.find? (fun p => decide (p.1 = k)) with
 | some p => p.2
 | none => ⟨#[]⟩
theorem qTl (l : List KV) (k : ByteArray) : ((k, lkv l k) ∈ l /\ qNj l k = .tuple #[.string (lkv l k), .bool true]) \/ ((∀ v, (k, v) ∉ l) /\ qNj l k = .tuple #[.string (lkv l k), .bool false]) := by
 unfold lkv qNj; cases h : l.find? (fun p => decide (p.1 = k)) with
 | some p =>
  refine .inl ⟨?_, rfl⟩; have h1 := List.mem_of_find?_eq_some h; have h2 := List.find?_some h; simp only [decide_eq_true_eq] at h2; rw [<- h2]; exact h1
 | none =>
  refine .inr ⟨fun v hv => ?_, rfl⟩
  have := List.find?_eq_none.1 h _ hv; simp at this
def jCx (l : List KV) (name : Int) (head : List UInt8) (G : List KV) : List KV := G.map fun p => (qCs name head p, lkv l (qCs name head p))
theorem qVj {head : List UInt8} {p : KV} (h : preB (ba head) p = true) : head.length <= p.1.size /\ (p.1.extract head.length p.1.size).data.toList = p.1.data.toList.drop head.length := by
 unfold preB at h; rw [List.isPrefixOf_iff_prefix, qBk] at h; have h1 := h.length_le; have e : p.1.data.toList.length = p.1.size := rfl; refine ⟨by omega, ?_⟩
 rw [ByteArray.data_extract, Array.toList_extract, List.extract_eq_take_drop, List.take_of_length_le]; rw [List.length_drop]; omega
theorem jCf {name : Int} {head : List UInt8} {p : KV} (h : preB (ba head) p = true) : ba (qAe name.toNat 0) ++ p.1.extract head.length p.1.size = qCs name head p := by
 unfold qCs; rw [<- (qVj h).2, <- qBf]; congr 1
theorem jBc {name : Int} {cols : List Int} {keys idx : Int} {r : List Vl} {q : PX} (h : qBt name cols keys idx r = some q) : qDc (qBt name cols keys idx r) = .tuple #[.agg #[.string (ba q.k), .string (ba q.v)], .agg #[.string (ba q.x), .string ⟨#[]⟩], .bool true] := by rw [h]; rfl
set_option maxRecDepth 100000
set_option maxHeartbeats 4000000 in
theorem jHl {w : World} {B : TB} {T : TM} {D : Dsk} {k : Nat} {l : List KV} {N : Nat} (h : Here w B T D k l N) {ca : Option Addr} {cols : List Int} {name keys : Int} {I : Nat} {cc : Nat} {c : Int} {v : Vl} (hv : v.Ok) (hl : Lies w 1 oneI ca cols) (hn : cols.length <= 4194304) (hf : qJj name cols keys (I : Int) = true) (hc : cols[I]? = some c) (hfv : qMn c v = true) {head : List UInt8} (hhead : qAe name.toNat 1 ++ qDn c v = head) {G : List KV} (hG : l.filter (preB (ba head)) = G) :
  Calls Tryz.prog 15 #[.pointer (some ⟨B.tb, 0, none⟩), .agg #[.int .u8 name, .slice ca cols.length cc, .int .i64 keys, .int .i64 (I : Int)], .agg #[.int .i64 v.n, .string v.s]] w (jKw w l name cols keys (I : Int) head G) := by
 obtain ⟨i0, hi0, hz0, hz1, hz2⟩ := info_parts jCc; obtain ⟨hma, ha, hb⟩ := box2 w (.cells #[.int .u8 name, .slice ca cols.length cc, .int .i64 keys, .int .i64 (I : Int)] 24 (0, 0)) (.cells #[.int .i64 v.n, .string v.s] 46 (0, 0)); obtain ⟨_, n1, n2, k1, k2, _, _⟩ := qJl hf; have HM := hid hma; have HL := hid (hl.ext hma); have HH := hid (h.ext hma); have HFt := hid (qLq name keys (I : Int) cc HL.out (by omega))
 rw [hf] at HFt; have HRow := hid (fun (V : World) (hm : Mod (fun _ => False) ((w.alloc (.cells #[.int .u8 name, .slice ca cols.length cc, .int .i64 keys, .int .i64 (I : Int)] 24 (0, 0))).alloc (.cells #[.int .i64 v.n, .string v.s] 46 (0, 0))) V) => row4 ((hm.block _ (lth ha) (fun h => h)).trans ha))
 have HVl := hid (fun (V : World) (hm : Mod (fun _ => False) ((w.alloc (.cells #[.int .u8 name, .slice ca cols.length cc, .int .i64 keys, .int .i64 (I : Int)] 24 (0, 0))).alloc (.cells #[.int .i64 v.n, .string v.s] 46 (0, 0))) V) => row2 ((hm.block _ (lth hb) (fun h => h)).trans hb))
 obtain ⟨b0, b1, b2, b3⟩ := row4 ha; have hic : I < cols.length := (List.getElem?_eq_some_iff.1 hc).1; have di : decide ((I : Int) < 0) = false := by rw [decide_eq_false_iff_not]; omega
 have HC := hid hc; have HFm := hid (fun V : World => qQa c v V hv)
 rw [hfv] at HFm; have hfl : (qDn c v).length <= 140737488351242 := qKn (k := c) hv; have HOkL := hid (fun p hp => h.std.ti.1.ok p hp)
 have HAsc := hid h.std.ti.1.asc; have hll := h.len.1; have hcl : 1 <= cols.length := by omega
 clear hma ha hb hl hc hfv h hf; go_enter Tryz.func15, Tryz.ntmps15
 go_upto_region 1 with fail
 generalize (w.alloc (.cells #[.int .u8 name, .slice ca cols.length cc, .int .i64 keys, .int .i64 (I : Int)] 24 (0, 0))).alloc (.cells #[.int .i64 v.n, .string v.s] 46 (0, 0)) = C at *; go_upto_region 3 with (go_at_call 37; refine HFt.out.mono ?_; rintro e w1 ⟨rfl, hm⟩; have HMc := hid hm; clear b0 b1 b2 b3; obtain ⟨b0, b1, b2, b3⟩ := HRow.out w1 hm; clear hm)
 obtain ⟨d0, d1, _, _⟩ := HVl.out w1 HMc.out; have hlc := HL.out.ext HMc.out; obtain ⟨g, off, rfl⟩ := hlc.some (by omega)
 have q0 := hlc.cell oneI_len HC.out (j := 0) rfl; rw [Nat.add_zero, Nat.mul_one] at q0; have x1 := fun x : Ext w1 => x.cell b1
 have x3 := fun x : Ext w1 => x.cell b3
 have y0 := fun x : Ext w1 => x.cell q0
 have y1 := fun x : Ext w1 => x.cell d0
 have y2 := fun x : Ext w1 => x.cell d1
 clear b0 b1 b2 b3 d0 d1 q0 hlc; refine qAm (by kernel_rfl) (by kernel_rfl) ?_
 repeat (go_big_quiet_step ((go_at_call 39; exact qBe (HFm.out _))))
 refine wpQuiet_nil ?_; rintro _ ⟨x, rfl⟩; have HMx := hid (HMc.out.trans x.mod); clear x1 x3 y0 y1 y2; generalize x.val = X at *; obtain ⟨b0, b1, b2, b3⟩ := HRow.out X HMx.out; have hcv : (convert 128 9 (.slice (some ⟨X.heap.size, 0, none⟩) 2 2)).run Tryz.prog (X.alloc (.cells #[.int .u8 name, .int .u8 1] 5)) = .ok (.string (ba (qAe name.toNat 1))) (X.alloc (.cells #[.int .u8 name, .int .u8 1] 5)) :=
  run_convert_bytes_back (P := Tryz.prog) _ 128 9 5 ⟨X.heap.size, 0, none⟩ 2 (qAe name.toNat 1) Tryz.underlying128 Tryz.underlying5 Tryz.underlying9 (fun j hj => by
   rw [Addr.add_lit, cell_of_row _ _ _ _ _ _ (heap_alloc_new _ _)]; have : j = 0 \/ j = 1 := by simp [qAe] at hj; omega
   rcases this with rfl | rfl
   ·simp [qAe]; omega
   ·simp [qAe])
 have HHd : Hid (ba (qAe name.toNat 1) ++ ba (qDn c v) = ba head) := hid (by rw [<- hhead, qBf])
 have s0 : (ba (qAe name.toNat 1)).size = 2 := by rw [qAf]; rfl
 have s1 : (ba (qDn c v)).size <= 1152921504606846976 := by rw [qAf]; omega
 have hhl : head.length <= 140737488351244 := by rw [<- hhead, List.length_append]; have : (qAe name.toNat 1).length = 2 := rfl; omega
 clear hhead; go_upto_region 8 with fail
 rw [HHd.out]; have HMy := hid (HMx.out.alloc (.cells #[.int .u8 name, .int .u8 1] 5)); clear hcv s0 s1 b0 b1 b2 b3; generalize X.alloc (.cells #[.int .u8 name, .int .u8 1] 5) = Y at *; have HBg := hid (qOq (HH.out.ext HMy.out) (ba head)); rw [hG] at HBg; have HPre := hid (fun p (hp : p ∈ G) => (by rw [<- hG] at hp; exact (List.mem_filter.1 hp).2 : preB (ba head) p = true))
 have HIn := hid (fun p (hp : p ∈ G) => (by rw [<- hG] at hp; exact (List.mem_filter.1 hp).1 : p ∈ l))
 have hgl := List.length_filter_le (preB (ba head)) l; rw [hG] at hgl; clear hG; go_upto_region 9 with (go_at_call 38; refine HBg.out.mono ?_; rintro e w2 ⟨la, lc, rfl, hl2, hm2⟩; have HL2 := hid hl2; have HM2 := hid (HMy.out.trans hm2); clear hl2 hm2)
 clear HBg HMy HMx; have HT2 := hid (HH.out.ext HM2.out); have HRow2 := hid (fun (V : World) (hm : Mod (fun _ => False) w2 V) => HRow.out V (HM2.out.trans hm))
 have HL3 := hid (HL.out.ext HM2.out); have HI := hid hi0; have HI0 := hid hz0; have HI1 := hid hz1; have HI2 := hid hz2; have hbs : (ba head).size = head.length := qAf _; have HBs := hid hbs; clear HRow HVl HL HFt HFm hi0 hz0 hz1 hz2 hbs; go_loopw [11, 53] (fun so si wr => ∃ (i : Nat) (oa : Option Addr) (oc : Nat) (xs : List RwV), i <= G.length /\ so = .slice oa i oc /\ si = .int .i64 (i : Int) /\ jEd w2 wr name cols keys (I : Int) (jCx l name head G) i oa oc xs /\ ∀ (j : Nat) (p : KV) (x : RwV), G[j]? = some p -> xs[j]? = some x -> FOk l name cols keys (I : Int) head p x.vs) (fun _ si _ => G.length - (intOf si).toNat)
 case atStart => exact ⟨0, none, 0, [], Nat.zero_le _, rfl, rfl, ⟨Own.nil _ _ _, (fun b hb => (qAj b hb).elim), Mod.refl _ _, rfl, (fun j p x _ hx => by simp at hx), (fun x hx => by cases hx), (fun x hx => by cases hx), (fun x hx => by cases hx), fun x hx => by cases hx⟩, fun j p x _ hx => by simp at hx⟩
 case round =>
  obtain ⟨i, oa, oc, xs, hil, rfl, rfl, hrel, hfo⟩ := hrel; have HRel := hid hrel; have HFo := hid hfo; clear hrel hfo; by_cases hlt : i < G.length
  ·have d0 : decide ((i : Int) < (G.length : Int)) = true := by simp; omega
   have d1 : decide (i < G.length) = true := by simpa using hlt
   have hdi : ¬ G.length <= i := by omega
   obtain ⟨⟨pk, pv⟩, hx⟩ : ∃ p, G[i]? = some p := ⟨_, List.getElem?_eq_getElem hlt⟩; have HX := hid hx; have hpm := List.mem_of_getElem? hx; have hpl := qVj (HPre.out _ hpm); have hke := jCf (name := name) (HPre.out _ hpm); simp only at hpl hke; have HKe := hid hke; have hlw := HL2.out.ext HRel.out.mod; obtain ⟨g2, off2, rfl⟩ := hlw.some (by omega)
   have q0 := hlw.cell qIf hx (j := 0) rfl; have q1 := hlw.cell qIf hx (j := 1) rfl; simp only [Nat.add_zero] at q0; have hmz : Mod (fun _ => False) wr (wr.alloc (.cells #[.string pk, .string pv] 41)) := (Mod.refl _ _).alloc _
   have HMz := hid hmz; have HMw := hid (HRel.out.mod.trans hmz); have hbz : (wr.alloc (.cells #[.string pk, .string pv] 41)).heap[wr.heap.size]? = some (.cells #[.string pk, .string pv] 41 (0, 0)) := heap_alloc_new _ _; have HBz := hid hbz; clear hx hlw hmz hbz hke; go_upto_region 11 with fail
   generalize wr.alloc (.cells #[.string pk, .string pv] 41) = Z at *; obtain ⟨b0, b1, b2, b3⟩ := HRow2.out Z HMw.out; have z0 : Z.cell? ⟨wr.heap.size, 0, none⟩ = some (.string pk) := by rw [cell_of_row _ _ _ _ _ _ HBz.out]; rfl
   clear q0 q1; have hcv : (convert 128 9 (.slice (some ⟨Z.heap.size, 0, none⟩) 2 2)).run Tryz.prog (Z.alloc (.cells #[.int .u8 name, .int .u8 0] 5)).drew = .ok (.string (ba (qAe name.toNat 0))) (Z.alloc (.cells #[.int .u8 name, .int .u8 0] 5)).drew :=
    run_convert_bytes_back (P := Tryz.prog) _ 128 9 5 ⟨Z.heap.size, 0, none⟩ 2 (qAe name.toNat 0) Tryz.underlying128 Tryz.underlying5 Tryz.underlying9 (fun j hj => by
     show (Z.alloc (.cells #[.int .u8 name, .int .u8 0] 5)).cell? _ = _; rw [Addr.add_lit, cell_of_row _ _ _ _ _ _ (heap_alloc_new _ _)]; have : j = 0 \/ j = 1 := by simp [qAe] at hj; omega
     rcases this with rfl | rfl
     ·simp [qAe]; omega
     ·simp [qAe])
   have hps : pk.size <= 48 := (HOkL.out _ (HIn.out _ hpm)).1.2; have hsl : ∀ v : World, (Instr.slice 9 (.string pk) (some (.int .i64 ((ba head).size : Int))) none none).run Tryz.prog v = .ok (.string (pk.extract head.length pk.size)) v := fun v => by
    have := run_slice_string_l (P := Tryz.prog) v 9 pk Tryz.underlying9 .i64 ((ba head).size : Int) (by omega) (by rw [HBs.out]; omega)
    rw [HBs.out, Int.toNat_natCast] at this; rw [HBs.out]; exact this
   have s0 : (ba (qAe name.toNat 0)).size = 2 := by rw [qAf]; rfl
   have s1 : (pk.extract head.length pk.size).size <= 48 := by rw [ByteArray.size_extract]; omega
   go_upto_region 11 with fail
   have z1 : (Z.alloc (.cells #[.int .u8 name, .int .u8 0] 5)).drew.cell? ⟨wr.heap.size, 0, none⟩ = some (.string pk) := (⟨_, ((Mod.refl (fun _ => False) Z).alloc _).drew⟩ : Ext Z).cell z0
   go_region
   rw [HKe.out]; have HMd : Hid (Mod (fun _ => False) w2 (Z.alloc (.cells #[.int .u8 name, .int .u8 0] 5)).drew) := hid (HMw.out.trans (((Mod.refl _ Z).alloc _).drew))
   have HMdr := hid (HMz.out.trans (((Mod.refl _ Z).alloc (.cells #[.int .u8 name, .int .u8 0] 5)).drew)); have HBd := hid (((((Mod.refl (fun _ => False) Z).alloc (.cells #[.int .u8 name, .int .u8 0] 5)).drew).block _ (lth HBz.out) (fun h => h)).trans HBz.out)
   clear hcv hsl s0 s1 z0 z1 b0 b1 b2 b3; generalize (Z.alloc (.cells #[.int .u8 name, .int .u8 0] 5)).drew = Y1 at *; have HKm : Hid (∀ v, (qCs name head (pk, pv), v) ∈ l -> v = lkv l (qCs name head (pk, pv))) := hid (fun v hv => by
    have h1 := qSy HAsc.out hv; rcases qTl l (qCs name head (pk, pv)) with ⟨_, h2⟩ | ⟨h2, _⟩
    ·rw [h1] at h2
     simpa using h2
    ·exact absurd hv (h2 v))
   have HGt := hid (jGy (HT2.out.ext HMd.out) (qCs name head (pk, pv))); have HWay := hid (qTl l (qCs name head (pk, pv))); have HPp : Hid ((jCx l name head G)[i]? = some (qCs name head (pk, pv), lkv l (qCs name head (pk, pv)))) := hid (by unfold jCx; rw [List.getElem?_map, HX.out]; rfl)
   have HFk : Hid (∀ r, FOk l name cols keys (I : Int) head (pk, pv) r ↔ ((qCs name head (pk, pv), lkv l (qCs name head (pk, pv))) ∈ l /\ qEr name cols keys (I : Int) (qCs name head (pk, pv)) (lkv l (qCs name head (pk, pv))) r /\ pv = ⟨#[]⟩ /\ ∃ q, qBt name cols keys (I : Int) r = some q /\ ba q.x = pk)) := hid (fun r =>
    ⟨fun ⟨v, h1, h2, h3⟩ => by
     have e := HKm.out v h1; rw [<- e]; exact ⟨h1, h2, h3⟩, fun ⟨h1, h2, h3⟩ => ⟨_, h1, h2, h3⟩⟩)
   have HLk : Hid ((lkv l (qCs name head (pk, pv))).size <= 4194304) := hid (by
    rcases qTl l (qCs name head (pk, pv)) with ⟨h1, _⟩ | ⟨_, _⟩
    ·have := (HOkL.out _ h1).2; simp only at this; omega
    ·unfold lkv; cases h : l.find? (fun p => decide (p.1 = qCs name head (pk, pv))) with
     | some p =>
      have := (HOkL.out _ (List.mem_of_find?_eq_some h)).2; simp only; omega
     | none => exact Nat.zero_le _)
   have HKs : Hid ((qCs name head (pk, pv)).size <= 4194304) := hid (by
    unfold qCs; rw [qAf, List.length_append, List.length_drop]; have e1 : (qAe name.toNat 0).length = 2 := rfl; have e2 : pk.data.toList.length = pk.size := rfl; simp only; omega)
   clear HKm HKe; generalize qCs name head (pk, pv) = K at *; generalize lkv l K = val at *; rcases HWay.out with ⟨hin, hget⟩ | ⟨hout, hget⟩
   ·rw [hget] at HGt; have HIn2 := hid hin; clear hin hget HWay; go_upto_region 15 with (go_at_call 20; refine HGt.out.mono ?_; rintro e w3 ⟨rfl, hm3⟩; have HM3 := hid (HMd.out.trans hm3); have HM3r := hid (HMdr.out.trans hm3); have HB3 := hid ((hm3.block _ (lth HBd.out) (fun h => h)).trans HBd.out); clear hm3)
    have HD := hid (qKt (w := w3) name keys (I : Int) cc K val (HL3.out.ext HM3.out) hn HKs.out HLk.out); obtain ⟨b0, b1, b2, b3⟩ := HRow2.out w3 HM3.out; clear HGt; go_upto_if 84 with (go_at_call 30; refine HD.out.mono ?_; intro e w4 h4; obtain ⟨ra, n, rc, E, rfl, hm4, hE⟩ := h4.norm; have HMv := hid hm4; have HM4 := hid (HM3.out.trans hm4); have HB4 := hid ((hm4.block _ (lth HB3.out) (fun h => h)).trans HB3.out); have HE := hid hE; clear h4 hm4 hE)
    clear b0 b1 b2 b3 HD; rcases HE.out with ⟨rfl, r, rfl, e1, e2, e3, e4, e5⟩ | ⟨rfl, hno⟩
    ·obtain ⟨q, hq, hqk, hqv⟩ := e1.2; obtain ⟨z1, z2⟩ := qGb (cols := cols) (r := r) (by omega) (fun v hv => (e3 v hv).1) (fun v hv => (e3 v hv).2)
     have HPr := hid (qHj (w := w4) name keys (I : Int) cc rc (HL3.out.ext HM4.out) e4 (by omega) (by omega) (fun v hv => (e3 v hv).1) z1 z2)
     rw [jBc hq] at HPr; have HE1 := hid e1; have HE2 := hid e2; have HE3 := hid e3; have HE4 := hid e4; have HE5 := hid e5; have HQ := hid hq; clear e1 e2 e3 e4 e5 HE z1 z2 hq hqk hqv; obtain ⟨b0, b1, b2, b3⟩ := HRow2.out w4 HM4.out; go_upto_region 19 with (go_at_call 31; refine HPr.out.mono ?_; rintro e w5 ⟨rfl, hm5⟩; have HMp := hid hm5; have HM5 := hid (HM4.out.trans hm5); have HB5 := hid ((hm5.block _ (lth HB4.out) (fun h => h)).trans HB4.out); clear hm5)
     clear b0 b1 b2 b3 HPr; have hnew := box2 w5 (.cells #[.string (ba q.k), .string (ba q.v)] 41 (0, 0)) (.cells #[.string (ba q.x), .string ⟨#[]⟩] 41 (0, 0)); have HM6 := hid (HM5.out.trans hnew.1); have HM6r := hid ((HMp.out.trans hnew.1)); obtain ⟨f0, f1, _, _⟩ := row2 hnew.2.2; obtain ⟨p0, p1, _, _⟩ := row2 ((hnew.1.block _ (lth HB5.out) (fun h => h)).trans HB5.out)
     clear hnew; generalize (w5.alloc (.cells #[.string (ba q.k), .string (ba q.v)] 41 (0, 0))).alloc (.cells #[.string (ba q.x), .string ⟨#[]⟩] 41 (0, 0)) = V6 at *; have HNo : Hid ((ba q.x).toList ≠ pk.toList \/ pv.toList ≠ [] -> ∀ r, ¬ FOk l name cols keys (I : Int) head (pk, pv) r) := hid (fun hne r' h => by
      obtain ⟨_, h2, h3, q', hq', e⟩ := (HFk.out r').1 h; have e1 := qQg HE1.out h2; subst e1; rw [HQ.out] at hq'; cases hq'
      rcases hne with hne | hne
      ·exact hne (by rw [e])
      ·exact hne (by rw [h3, ByteArray.toList_eq]))
     by_cases e1 : (ba q.x).toList = pk.toList
     case neg =>
      have HN := hid (HNo.out (.inl e1)); go_wp2_with fail
      go_ret2; exact ⟨HM.out.trans (HM2.out.trans HM6.out), .inr ⟨⟨(pk, pv), List.mem_of_getElem? HX.out, HN.out⟩, rfl⟩⟩
     case pos =>
      by_cases e2 : pv.toList = []
      case neg =>
       have HN := hid (HNo.out (.inr e2)); go_wp2_with fail
       go_ret2; exact ⟨HM.out.trans (HM2.out.trans HM6.out), .inr ⟨⟨(pk, pv), List.mem_of_getElem? HX.out, HN.out⟩, rfl⟩⟩
      case pos =>
       have HFr : Hid (FOk l name cols keys (I : Int) head (pk, pv) r) := hid ((HFk.out r).2 ⟨HIn2.out, HE1.out, qLm (by rw [e2, ByteArray.toList_eq]), q, HQ.out, qLm e1⟩)
       have HSr : Hid (Src (V6.alloc (.cells #[.slice ra r.length rc] 26)) 1 (some ⟨V6.heap.size, 0, none⟩) 1 [.slice ra r.length rc]) := hid (qAw (heap_alloc_new _ _) rfl); have hm9 : Mod (fun _ => False) V6 (V6.alloc (.cells #[.slice ra r.length rc] 26)) := (Mod.refl _ _).alloc _
       have HM9 := hid (HMv.out.trans (HM6r.out.trans hm9)); have HOb := hid (HRel.out.own.mod (HM3r.out.trans HM9.out) (fun _ _ e => e))
       have HR9 := hid (HE4.out.ext (HM6r.out.trans hm9)); clear hm9; go_wp2_with (at_builtin; refine qAd rfl (.tmp 96) (.tmp 98) 51 rfl 26 i0 _ 1 24 Tryz.underlying51 HI.out HI0.out HI1.out HI2.out rfl oa i oc _ rfl HOb.out (some ⟨V6.heap.size, 0, none⟩) 1 1 _ rfl HSr.out (by intro u hu; simp at hu; subst hu; rfl) (by unfold maxLen; omega) (by omega) ?_; intro oa' oc' w9 hown5 hm5 hb5 hn5 hr5; have Hown5 := hid hown5; have Hm5 := hid hm5; have Hb5 := hid hb5; clear hown5 hm5 hb5 hn5 hr5)
       have HN := hid (HRel.out.next HPp.out HE1.out HE2.out hcl HE3.out HM3r.out HR9.out HE5.out HM9.out Hown5.out Hm5.out Hb5.out); go_roundw
       case rel =>
        refine ⟨i + 1, oa', oc', _, by omega, rfl, by go_num, HN.out, fun j p' x' hp' hx' => ?_⟩
        rw [List.getElem?_append] at hx'; split at hx'
        ·exact HFo.out j p' x' hp' hx'
        ·rename_i hj
         have hlen := HRel.out.len; have hj2 : j = i := by
          have := (List.getElem?_eq_some_iff.1 hx').1; simp at this
          omega
         subst hj2; rw [HX.out] at hp'; cases hp'
         rw [hlen, Nat.sub_self] at hx'; cases hx'
         exact HFr.out
       case measure => simp [intOf]; omega
    ·have HNo := hid hno; clear hno HE; go_wp2_with fail
     go_ret2; refine ⟨HM.out.trans (HM2.out.trans HM4.out), .inr ⟨⟨(pk, pv), List.mem_of_getElem? HX.out, fun r h => HNo.out r ((HFk.out r).1 h).2.1⟩, rfl⟩⟩
   ·rw [hget] at HGt; have HOut := hid hout; clear hout hget HWay; go_wp2_with (go_at_call 20; refine HGt.out.mono ?_; rintro e w3 ⟨rfl, hm3⟩; have HM3 := hid (HMd.out.trans hm3); clear hm3)
    go_ret2; exact ⟨HM.out.trans (HM2.out.trans HM3.out), .inr ⟨⟨(pk, pv), List.mem_of_getElem? HX.out, fun r h => HOut.out _ ((HFk.out r).1 h).1⟩, rfl⟩⟩
  ·have hie : i = G.length := by omega
   have d0 : decide ((i : Int) < (G.length : Int)) = false := by simp; omega
   have d1 : decide (i < G.length) = false := by simpa using hlt
   clear hlt; go_wp2_with fail
   go_ret2; refine ⟨HM.out.trans (HM2.out.trans HRel.out.mod), .inl ⟨xs, oa, oc, by rw [HRel.out.len, hie], HFo.out, by rw [HRel.out.len]; rfl, ?_⟩⟩
   have ho := HRel.out.own; rw [<- HRel.out.len] at ho; exact ⟨ho.lies, HRel.out.rows, HRel.out.ok⟩
end
section
open Go Go.RowKit
abbrev kobj (s : Nat) : Obj := .cells #[.int .u8 107, .slice (some ⟨s, 0, none⟩) 3 3, .int .i64 1, .int .i64 1] 24 (0, 0)
def qIg : List Int := [1, 0, 1]
structure KpOk (W : World) (B : TB) (s mb : Nat) : Prop where
 room : B.room = 500
 new : ∀ i, TS B i -> s + 1 < i
 lt : ∀ i, TS B i -> i < mb
 ws : W.heap.size <= s
 sm : s + 1 < mb
structure qJy (W wr : World) (B : TB) (s mb i : Nat) (T : TM) (D : Dsk) (k : Nat) (L : List KV) (N : Nat) (M : List SV) (ls : List (ByteArray × Value)) : Prop where
 here : Here wr B T D k L N
 kept : qSm L M
 met : MetM ls M
 map : qAv Value.string wr mb ls
 tab : wr.heap[s + 1]? = some (kobj s)
 la : Lies wr 1 oneI (some ⟨s, 0, none⟩) qIg
 kk : k <= 1002 * i
 ll : L.length <= 3 * i
 dd : D.secs.length = 1500
 mod : Mod (fun b => W.heap.size <= b) W wr
theorem qJy.ext {W wr w' : World} {B : TB} {s mb i : Nat} {T : TM} {D : Dsk} {k : Nat} {L : List KV} {N : Nat} {M : List SV} {ls : List (ByteArray × Value)} (h : qJy W wr B s mb i T D k L N M ls) (hm : Mod (fun _ => False) wr w') : qJy W w' B s mb i T D k L N M ls :=
 ⟨h.here.ext hm, h.kept, h.met, h.map.mod hm (fun e => e), (hm.block _ (lth h.tab) (fun e => e)).trans h.tab, h.la.ext hm, h.kk, h.ll, h.dd, h.mod.trans (hm.mono (fun _ _ e => e.elim))⟩
theorem qJy.more {W wr : World} {B : TB} {s mb i : Nat} {T : TM} {D : Dsk} {k : Nat} {L : List KV} {N : Nat} {M : List SV} {ls : List (ByteArray × Value)} (h : qJy W wr B s mb i T D k L N M ls) : qJy W wr B s mb (i + 1) T D k L N M ls :=
 ⟨h.here, h.kept, h.met, h.map, h.tab, h.la, by have := h.kk; omega, by have := h.ll; omega, h.dd, h.mod⟩
theorem qJy.step {W wr w1 w2 : World} {B : TB} {s mb i : Nat} {T T' : TM} {D D' : Dsk} {k : Nat} {L L' : List KV} {N N' : Nat} {M M' : List SV} {ls ls' : List (ByteArray × Value)} (h : qJy W wr B s mb i T D k L N M ls) (ok : KpOk W B s mb) (hm1 : Mod (TS B) wr w1)
  (hh : Here w1 B T' D' (k + 1002) L' N') (hd : D'.secs.length = D.secs.length) (hm2 : Mod (fun b => b = mb) w1 w2) (hmap : qAv Value.string w2 mb ls') (hmet : MetM ls' M') (hk : qSm L' M') (hl : L'.length <= L.length + 3) : qJy W w2 B s mb (i + 1) T' D' (k + 1002) L' N' M' ls' := by
 have hs := ok.sm; have hw := ok.ws; have hkk := h.kk; have hll := h.ll; have t1 : w1.heap[s + 1]? = some (kobj s) := (hm1.block _ (lth h.tab) (fun e => by have := ok.new _ e; omega)).trans h.tab
 have l1 : Lies w1 1 oneI (some ⟨s, 0, none⟩) qIg := h.la.mod hm1 (fun _ b hb e => by have := ok.new _ e; rw [qAc] at hb; omega)
 refine ⟨hh.aside (h.map.mod hm1 (fun e => by have := ok.lt _ e; omega)) hm2 (fun e => by have := ok.lt _ e; omega), hk, hmet, hmap, (hm2.block _ (lth t1) (by omega)).trans t1, l1.mod hm2 (fun _ b hb e => by rw [qAc] at hb; omega), by omega, by omega, hd.trans h.dd, ?_⟩
 exact (h.mod.trans (hm1.mono (fun b _ e => by have := ok.new _ e; omega))).trans (hm2.mono (fun b _ e => by omega))
def KAll (w : World) (M : List SV) (e : Ending) (w' : World) : Prop := Mod (fun _ => False) w w' /\ ∃ (xs : List RwV) (la : Option Addr) (cap : Nat), e = .returned (.tuple #[.slice la xs.length cap, .int .i64 0]) /\ qOs w' la xs /\ xs.length = M.length /\ ∀ (i : Nat) (m : SV) (x : RwV), M[i]? = some m -> xs[i]? = some x -> x.vs = rowS m
theorem k_all {W wr : World} {B : TB} {s mb i : Nat} {T : TM} {D : Dsk} {k : Nat} {L : List KV} {N : Nat} {M : List SV} {ls : List (ByteArray × Value)} (h : qJy W wr B s mb i T D k L N M ls) (hi : i <= 60) :
  Calls Tryz.prog 14 #[.pointer (some ⟨B.tb, 0, none⟩), .agg #[.int .u8 107, .slice (some ⟨s, 0, none⟩) 3 3, .int .i64 1, .int .i64 1]] wr (KAll wr M) := by
 have hg := qVz h.kept; have hfl := List.length_filter_le (preB (ba (qAe 107 0))) L; have hll := h.ll; refine (jHw (cc := 3) (name := 107) (keys := 1) (idx := 1) (L := L.filter (preB (ba (qAe 107 0)))) _ h.la (by show 3 <= _; omega) qPs (by omega) (fun p hp => ?_) (fun V hm => qOq (h.here.ext hm) _)).mono fun e w' ha => ?_
 ·have := h.here.std.ti.1.ok p (List.mem_filter.1 hp).1; have a1 := this.1.2; have a2 := this.2; omega
 ·rw [hg] at ha; obtain ⟨hm, ⟨xs, la, cap, ⟨h2, h3⟩, h4, h5⟩ | ⟨⟨p, hp, hno⟩, _⟩⟩ := ha
  ·rw [List.length_map] at h2; refine ⟨hm, xs, la, cap, h4, h5, h2, fun j m x hj hx => ?_⟩
   have hp : (M.map fun m => (kS m.1, vS m))[j]? = some (kS m.1, vS m) := by rw [List.getElem?_map, hj]; rfl
   exact qQg (qPt (h.kept.ok m (List.mem_of_getElem? hj))) (h3 j _ x hp hx).1
  ·exfalso
   obtain ⟨m, hmm, rfl⟩ := List.mem_map.1 hp; exact hno _ (qPt (h.kept.ok m hmm))
theorem jGn {L : List KV} {M : List SV} (h : qSm L M) {m : SV} (hm : m ∈ M) : FOk L 107 qIg 1 ((1 : Nat) : Int) (qAe 107 1 ++ ordL m.2) (xS m, ⟨#[]⟩) (rowS m) := by
 have hk : qCs 107 (qAe 107 1 ++ ordL m.2) (xS m, ⟨#[]⟩) = kS m.1 := jHk m; refine ⟨vS m, ?_, ?_, rfl, ?_⟩
 ·rw [hk]; exact (h.mem _).2 ⟨m, hm, .inl rfl⟩
 ·rw [hk]; exact qPt (h.ok m hm)
 ·obtain ⟨p, hp, e, _, _⟩ := qHh (qGn (h.ok m hm)); injection e with _ _ e3
  exact ⟨p, hp, e3.symm⟩
theorem jLt {W wr : World} {B : TB} {s mb i : Nat} {T : TM} {D : Dsk} {k : Nat} {L : List KV} {N : Nat} {M : List SV} {ls : List (ByteArray × Value)} (h : qJy W wr B s mb i T D k L N M ls) {v : Int} (v0 : -9223372036854775808 <= v) (v1 : v <= 9223372036854775807) :
  Calls Tryz.prog 15 #[.pointer (some ⟨B.tb, 0, none⟩), .agg #[.int .u8 107, .slice (some ⟨s, 0, none⟩) 3 3, .int .i64 1, .int .i64 1], .agg #[.int .i64 v, .string ⟨#[]⟩]] wr (KAll wr (M.filter (fun m => decide (m.2 = v)))) := by
 have hf : qDn 0 ⟨v, ⟨#[]⟩⟩ = ordL v := rfl; refine (jHl (cols := qIg) (I := 1) (c := 0) (v := ⟨v, ⟨#[]⟩⟩) (name := 107) (keys := 1) (cc := 3) h.here ⟨v0, v1, qGz⟩ h.la (by show 3 <= _; omega) qPs rfl (by unfold qMn; rw [if_pos rfl, ByteArray.toList_eq]; rfl) (head := qAe 107 1 ++ ordL v) rfl (jBw h.kept v0 v1)).mono fun e w' ha => ?_
 have hfo : ∀ m ∈ M.filter (fun m => decide (m.2 = v)), FOk L 107 qIg 1 ((1 : Nat) : Int) (qAe 107 1 ++ ordL v) (xS m, ⟨#[]⟩) (rowS m) := fun m hm => by
  obtain ⟨h1, h2⟩ := List.mem_filter.1 hm; have e : m.2 = v := by simpa using h2
  have := jGn h.kept h1; rw [e] at this; exact this
 obtain ⟨hm, ⟨xs, la, cap, h1, h2, h3, h4⟩ | ⟨⟨p, hp, hno⟩, _⟩⟩ := ha
 ·rw [List.length_map] at h1; refine ⟨hm, xs, la, cap, h3, h4, h1, fun j m x hj hx => ?_⟩
  have hp : ((M.filter fun m => decide (m.2 = v)).map fun m => (xS m, (⟨#[]⟩ : ByteArray)))[j]? = some (xS m, ⟨#[]⟩) := by rw [List.getElem?_map, hj]; rfl
  exact jJy h.here.std.ti.1.asc (hfo m (List.mem_of_getElem? hj)) (h2 j _ x hp hx)
 ·exfalso
  obtain ⟨m, hmm, rfl⟩ := List.mem_map.1 hp; exact hno _ (hfo m hmm)
end
section
open Go Go.RowKit
set_option maxRecDepth 100000
set_option maxHeartbeats 2000000 in
theorem jAm {w : World} {a b : Option Addr} {r : List Vl} (c1 c2 : Nat) (h1 : Lies w 2 Vl.cs a r) (h2 : Lies w 2 Vl.cs b r) (hn : r.length <= 140737488351232) :
  Calls Tryz.prog 22 #[.slice a r.length c1, .slice b r.length c2] w fun e w' => e = .returned (.bool true) /\ Mod (fun _ => False) w w' := by
 have H1 := hid h1; have H2 := hid h2; clear h1 h2; go_enter Tryz.func22, Tryz.ntmps22
 go_wp2_with fail
 go_loopw [13] (fun sc wr => ∃ k : Nat, k <= r.length /\ sc = .int .i64 (k : Int) /\ Mod (fun _ => False) w wr) (fun sc _ => r.length - (intOf sc).toNat)
 case atStart => exact ⟨0, Nat.zero_le _, rfl, Mod.refl _ _⟩
 case round =>
  obtain ⟨k, hk, rfl, hm⟩ := hrel; have HM := hid hm; by_cases hlt : k < r.length
  case neg =>
   have hke : k = r.length := by omega
   subst hke; go_wp2_with fail
   go_ret; exact ⟨rfl, HM.out⟩
  case pos =>
   obtain ⟨v, hv⟩ : ∃ v, r[k]? = some v := ⟨_, List.getElem?_eq_getElem hlt⟩; have hq := H1.out.ext hm; have hp := H2.out.ext hm; obtain ⟨g, off, rfl⟩ := hq.some (by omega)
   obtain ⟨g2, off2, rfl⟩ := hp.some (by omega)
   have q0 := fun x : Ext wr => x.cell (hq.cell qEl hv (j := 0) rfl)
   have q1 := fun x : Ext wr => x.cell (hq.cell qEl hv (j := 1) rfl)
   have p0 := fun x : Ext wr => x.cell (hp.cell qEl hv (j := 0) rfl)
   have p1 := fun x : Ext wr => x.cell (hp.cell qEl hv (j := 1) rfl)
   obtain ⟨n, t⟩ := v; simp only [Nat.add_zero] at q0 p0; simp only at q1 p1; clear hq hp hv hm; go_upto_region 6 with fail
   refine qAm (by kernel_rfl) (by kernel_rfl) ?_
   repeat (go_big_quiet_step ((fail)))
   refine wpQuiet_nil ?_; rintro _ ⟨x, rfl⟩; clear q0 q1 p0 p1; go_wp2_with fail
   go_roundw
   case rel => exact ⟨k + 1, by omega, by go_num, HM.out.trans x.mod⟩
   case measure => simp [intOf]; omega
def qDt : List Int := [0, 1]
def qDh : List Vl := [⟨5, ⟨#[]⟩⟩, ⟨0, ⟨#[120]⟩⟩]
def qFp : List UInt8 := [97, 0, 128, 0, 0, 0, 0, 0, 0, 5]
def qVl : List UInt8 := [97, 1, 120, 0, 128, 0, 0, 0, 0, 0, 0, 5]
theorem jBb (w : World) : Calls Tryz.prog 29 #[] w fun e w' => Mod (fun _ => False) w w' /\ ∃ ca, e = .returned (.agg #[.int .u8 97, .slice ca qDt.length 2, .int .i64 1, .int .i64 1]) /\ Lies w' 1 oneI ca qDt := by
 have hs : (w.alloc (.cells #[.int .u8 97, .slice (some ⟨w.heap.size + 1, 0, none⟩) 2 2, .int .i64 1, .int .i64 1] 24)).heap.size = w.heap.size + 1 := by simp
 have h1 : ((w.alloc (.cells #[.int .u8 97, .slice (some ⟨w.heap.size + 1, 0, none⟩) 2 2, .int .i64 1, .int .i64 1] 24)).alloc (.cells #[.int .i64 0, .int .i64 1] 44)).heap[w.heap.size]? = some (.cells #[.int .u8 97, .slice (some ⟨w.heap.size + 1, 0, none⟩) 2 2, .int .i64 1, .int .i64 1] 24 (0, 0)) := by
  rw [Below.heap_alloc _ _ _ (by omega)]
  exact heap_alloc_new _ _
 have h2 : ((w.alloc (.cells #[.int .u8 97, .slice (some ⟨w.heap.size + 1, 0, none⟩) 2 2, .int .i64 1, .int .i64 1] 24)).alloc (.cells #[.int .i64 0, .int .i64 1] 44)).heap[w.heap.size + 1]? = some (.cells (qDt.flatMap oneI).toArray 44 (0, 0)) := by
  have h := heap_alloc_new (w.alloc (.cells #[.int .u8 97, .slice (some ⟨w.heap.size + 1, 0, none⟩) 2 2, .int .i64 1, .int .i64 1] 24)) (.cells #[.int .i64 0, .int .i64 1] 44); rw [hs] at h; exact h
 have HM : Hid (Mod (fun _ => False) w ((w.alloc (.cells #[.int .u8 97, .slice (some ⟨w.heap.size + 1, 0, none⟩) 2 2, .int .i64 1, .int .i64 1] 24)).alloc (.cells #[.int .i64 0, .int .i64 1] 44))) := hid (((Mod.refl _ _).alloc _).alloc _)
 have H1 := hid h1; have H2 := hid h2; clear hs h1 h2; go_enter Tryz.func29, Tryz.ntmps29
 go_wp2_with fail
 generalize (w.alloc (.cells #[.int .u8 97, .slice (some ⟨w.heap.size + 1, 0, none⟩) 2 2, .int .i64 1, .int .i64 1] 24)).alloc (.cells #[.int .i64 0, .int .i64 1] 44) = Z at *; obtain ⟨g0, g1, g2, g3⟩ := row4 H1.out; exact bodyPost_ret (v := .agg #[.int .u8 97, .slice (some ⟨w.heap.size + 1, 0, none⟩) 2 2, .int .i64 1, .int .i64 1]) (by simp [results, Tryz.results29, go_sem, g0, g1, g2, g3]) rfl ⟨HM.out, _, rfl, qEg oneI_len H2.out⟩
theorem jEi : uvar 1 = [1] := by rw [qCn (by decide)]; rfl
theorem qXz : Good 97 qDt 1 1 qDh := by
 refine ⟨?_, rfl, fun j c v hc hv => ?_, fun j v _ hv => ?_⟩
 ·unfold qJj; rw [if_pos (fun k hk => by simp [qDt] at hk; rcases hk with rfl | rfl; exact .inl rfl; exact .inr rfl)]
  rfl
 ·have hj := (List.getElem?_eq_some_iff.1 hv).1; have h2 : j = 0 \/ j = 1 := by simp [qDh] at hj; omega
  rcases h2 with rfl | rfl
  ·cases hc; cases hv; unfold qDe; rw [if_pos rfl, ByteArray.toList_eq]; rfl
  ·cases hc; cases hv; rfl
 ·have hj := (List.getElem?_eq_some_iff.1 hv).1; have h2 : j = 0 \/ j = 1 := by simp [qDh] at hj; omega
  rcases h2 with rfl | rfl <;> cases hv <;> rfl
theorem qVk : pxOf 97 qDt 1 1 qDh = ⟨qFp, [1, 120], qVl⟩ := by
 have ho : ordL 5 = [128, 0, 0, 0, 0, 0, 0, 5] := by decide +kernel
 have h1 : qEb qDt qDh 1 = [128, 0, 0, 0, 0, 0, 0, 5] := by
  unfold qEb qDt qDh; simp [qDn, qRw, ho]
 have h2 : valL qDt qDh 1 2 = [1, 120] := by
  have ht : qCq ⟨#[120]⟩ = [1, 120] := by
   unfold qCq; rw [show (⟨#[120]⟩ : ByteArray).size = 1 from rfl, jEi]; rfl
  unfold valL qDt qDh; simp [qKf, ht]
 have h3 : idxL qDt qDh 1 = [120, 0] := by
  unfold idxL qDt qDh; simp [qDn, qRw]
 unfold pxOf qGe qXx pxL; rw [show (1 : Int).toNat = 1 from rfl, show (97 : Int).toNat = 97 from rfl, h1, show qDt.length = 2 from rfl, h2, h3, if_pos (by decide)]
 simp [qAe, qFp, qVl]
theorem qNw : qBt 97 qDt 1 1 qDh = some ⟨qFp, [1, 120], qVl⟩ := by
 rw [qHk qXz (by rw [qVk]; decide), qVk]
theorem qPf : ∀ v ∈ qDh, v.Ok := by
 intro v hv; simp [qDh] at hv
 rcases hv with rfl | rfl
 ·exact ⟨by decide, by decide, by decide⟩
 ·exact ⟨by decide, by decide, by decide⟩
theorem qMb : (∀ k, (qEb qDt qDh k).length <= 1152921504606846976) /\ ∀ j k, (valL qDt qDh j k).length <= 1152921504606846976 :=
 qGb (by decide) qPf (fun v hv => by simp [qDh] at hv; rcases hv with rfl | rfl <;> decide)
set_option maxHeartbeats 4000000 in
theorem qXg (w : World) : Calls Tryz.prog 9 #[] w fun e w' => e = .returned (.bool true) /\ Mod (fun _ => False) w w' := by
 have HP := hid (fun W : World => jBb W)
 have HE := hid (fun (W : World) (ca ra : Option Addr) (hl : Lies W 1 oneI ca qDt) (hr : Lies W 2 Vl.cs ra qDh) => qWi (w := W) 97 1 1 2 2 hl hr (by decide) (by decide) qPf qMb.1 qMb.2)
 rw [qNw] at HE; have he : qSa (some ⟨qFp, [1, 120], qVl⟩) = .tuple #[.agg #[.string (ba qFp), .string (ba [1, 120])], .int .i64 0] := rfl; rw [he] at HE; clear he; go_enter Tryz.func9, Tryz.ntmps9
 go_upto_region 2 with (first
  | (go_at_call 29; refine (HP.out _).mono ?_; rintro e w1 ⟨hm1, ca, rfl, hl1⟩; have HM1 := hid hm1; have HL1 := hid hl1; have HR1 : Hid (Lies (w1.alloc (.cells #[.int .i64 5, .string ⟨#[]⟩, .int .i64 0, .string ⟨#[120]⟩] 46)) 2 Vl.cs (some ⟨w1.heap.size, 0, none⟩) qDh) := hid (qEg qEl (heap_alloc_new _ _)); have HL2 := hid (hl1.ext ((Mod.refl (fun _ => False) _).alloc (.cells #[.int .i64 5, .string ⟨#[]⟩, .int .i64 0, .string ⟨#[120]⟩] 46))); clear hm1 hl1)
  | (go_at_call 19; refine (HE.out _ _ _ HL2.out HR1.out).mono ?_; rintro e w2 ⟨rfl, hm2⟩; have HM2 := hid hm2; clear hm2))
 have HMU := hid (((HM1.out.alloc (.cells #[.int .i64 5, .string ⟨#[]⟩, .int .i64 0, .string ⟨#[120]⟩] 46)).trans HM2.out).alloc (.cells #[.string (ba qFp), .string (ba [1, 120])] 41)); have HX : Hid (∀ W, Mod (fun _ => False) (w2.alloc (.cells #[.string (ba qFp), .string (ba [1, 120])] 41)) W -> W.cell? ⟨w2.heap.size, 0, none⟩ = some (.string (ba qFp)) /\ W.cell? ⟨w2.heap.size, 1, none⟩ = some (.string (ba [1, 120]))) := hid (fun W hm => by
  have h := row2 ((hm.block _ (lth (heap_alloc_new _ _)) (fun h => h)).trans (heap_alloc_new _ _))
  exact ⟨h.1, h.2.1⟩)
 clear HE; generalize w2.alloc (.cells #[.string (ba qFp), .string (ba [1, 120])] 41) = U at *; have HD := hid (fun (W : World) (ca : Option Addr) (hl : Lies W 1 oneI ca qDt) => ((qKt (w := W) 97 1 1 2 (ba qFp) (ba [1, 120]) hl (by decide) (by decide) (by decide)).mono (fun e w' h => by
  refine ⟨h.1, ?_⟩; have hy := qWm qPf qNw; rcases h.2 with ⟨r, la, cap, h1, h2, h3, h4, h5, h6⟩ | ⟨h1, h2⟩
  ·have hr := qQg hy h1; subst hr; exact ⟨la, cap, h4, h5⟩
  ·exact absurd hy (h1 _) : ∀ e w', qNd W 97 qDt 1 1 (ba qFp) (ba [1, 120]) e w' -> Mod (fun _ => False) W w' /\ ∃ la cap, e = .returned (.tuple #[.slice la qDh.length cap, .int .i64 0]) /\ Lies w' 2 Vl.cs la qDh)))
 have hU0 : Mod (fun _ => False) U U.drew := (Mod.refl _ _).drew
 obtain ⟨y0, y1⟩ := HX.out _ hU0; go_region_held3 (fun W' => W'.cell? ⟨w2.heap.size, 0, none⟩ = some (.string (ba qFp)) /\ W'.cell? ⟨w2.heap.size, 1, none⟩ = some (.string (ba [1, 120])))
  (first | exact ⟨u0, u1⟩ | exact ⟨z0, z1⟩ | exact ⟨y0, y1⟩ | go_keep)
  (first
   | (go_at_call 29; refine (HP.out _).mono ?_; rintro e w3 ⟨hm3, ca3, rfl, hl3⟩; have HM3 := hid (hU0.trans hm3); have HL3 := hid hl3; obtain ⟨z0, z1⟩ := HX.out _ HM3.out; clear hm3 hl3)
   | (go_at_call 30; refine (HD.out _ _ HL3.out).mono ?_; rintro e w4 ⟨hm4, la4, cap4, rfl, hl4⟩; have HM4 := hid (HM3.out.trans hm4); have HL4 := hid hl4; obtain ⟨u0, u1⟩ := HX.out _ HM4.out; clear hm4 hl4))
 all_goals
  rw [show ba qFp = (⟨#[97, 0, 128, 0, 0, 0, 0, 0, 0, 5]⟩ : ByteArray) from rfl] at u0
  rw [show ba [1, 120] = (⟨#[1, 120]⟩ : ByteArray) from rfl] at u1
  have h2 : qDh.length = 2 := rfl; obtain ⟨g, off, rfl⟩ := HL4.out.some (by decide)
  have q0 := HL4.out.cell qEl (i := 0) (x := ⟨5, ⟨#[]⟩⟩) rfl (j := 0) rfl; simp only [Nat.zero_mul, Nat.add_zero] at q0; go_wp2_with fail
  go_ret; exact ⟨rfl, HMU.out.trans HM4.out⟩
end
end Go.Proofs.YtkinkgbmlhiakaaGreatDoor
