/- merged: RoFq RoFd RoFe RoFn RoFt RoH -/
import Derived.Test.YtkinkgbmlhiakaaGreatDoorNc19
import Derived.Test.YtkinkgbmlhiakaaGreatDoorNc32
import Derived.Test.YtkinkgbmlhiakaaGreatDoorNc17
import Derived.Test.YtkinkgbmlhiakaaGreatDoorNc31
import Derived.Test.YtkinkgbmlhiakaaGreatDoorNc13
import Derived.Test.YtkinkgbmlhiakaaGreatDoorNc15
import Derived.Test.YtkinkgbmlhiakaaGreatDoorNc29
namespace Go.Proofs.YtkinkgbmlhiakaaGreatDoor
section
open Go Go.RowKit
theorem qYg {l : List KV} (ha : Asc l) {k v : ByteArray} (h : (k, v) ∈ l) : qMj l k = .tuple #[.string v, .bool true] := by
 obtain ⟨a, b, rfl⟩ := List.append_of_mem h; refine qPr (x := (k, v)) (k := a.length) (by simp) rfl (fun p hp e => ?_)
 rw [List.take_left' rfl] at hp; have h3 : kl p.1 k = true := (qBw.1 ha).2.2 p hp (k, v) List.mem_cons_self; rw [e, qDp] at h3; cases h3
def qCs (name : Int) (head : List UInt8) (p : KV) : ByteArray := ba (qAj name.toNat 0 ++ p.1.data.toList.drop head.length)
def FOk (l : List KV) (name : Int) (cols : List Int) (keys idx : Int) (head : List UInt8) (p : KV) (r : List Vl) : Prop :=
 ∃ v, (qCs name head p, v) ∈ l /\ qEs name cols keys idx (qCs name head p) v r /\ p.2 = ⟨#[]⟩ /\ ∃ q, qDn name cols keys idx r = some q /\ ba q.x = p.1
theorem jHr {l : List KV} {name : Int} {cols : List Int} {keys idx k : Int} {v : Vl} {p : KV} {r : List Vl} (h : FOk l name cols keys idx (qAj name.toNat 1 ++ qCe k v) p r) (hr : ∀ u ∈ r, u.Ok) (ov : v.Ok) (hi : 0 <= idx) (hk : cols[idx.toNat]? = some k) (hv : qEd k v = true)
  (hp : preB (ba (qAj name.toNat 1 ++ qCe k v)) p = true) : r[idx.toNat]? = some v := by
 obtain ⟨_, _, _, _, q, hq, e⟩ := h; refine jFe hr ov hq hi hk hv ?_; unfold preB at hp; rw [List.isPrefixOf_iff_prefix, qDs, <- e, qDs] at hp; exact hp
end
section
open Go Go.RowKit
set_option maxRecDepth 100000
set_option maxHeartbeats 2000000 in
theorem qSl (w : World) (s : ByteArray) : Calls Tryz.prog 38 #[.pointer none, .string s] w (jBw w []) := by
 have hma : Mod (fun _ => False) w (w.alloc (.cells #[.string s] 9)) := (Mod.refl _ _).alloc _
 have hbx : (w.alloc (.cells #[.string s] 9)).heap[w.heap.size]? = some (.cells #[.string s] 9 (0, 0)) := heap_alloc_new _ _; have HM := hid hma; have b0 : (w.alloc (.cells #[.string s] 9)).cell? ⟨w.heap.size, 0, none⟩ = some (.string s) := by rw [cell_of_row _ _ _ _ _ _ hbx]; rfl
 clear hma hbx; go_enter Tryz.func38, Tryz.ntmps38
 go_upto_region 1 with fail
 generalize w.alloc (.cells #[.string s] 9) = C at *; go_region_held3 (fun w' => w'.cell? ⟨w.heap.size, 0, none⟩ = some (.string s))
  (first | exact b0 | exact c0 | go_keep)
  (first
   | (go_at_call 77; (with_reducible refine (qXs _).mono ?_); rintro e w1 ⟨rfl, rfl⟩)
   | (go_at_call 12; (with_reducible refine (qYc _ _ _).mono ?_); rintro e w2 ⟨rfl, hm2⟩; have HM2 : Hid (Mod (fun _ => False) C w2) := hid ((Mod.refl _ C).drew.trans hm2); have c0 : w2.cell? ⟨w.heap.size, 0, none⟩ = some (.string s) := (⟨_, HM2.out⟩ : Ext C).cell b0; clear hm2))
 all_goals
  have HI := hid (qZx (a := none) (l := []) (cap := 0) (b := w.heap.size) (p := fun x => !preB s x) (qOf _ _ _ _ : Lies w2 2 kcs none []) (by simp) (fun w1 x hm _ => jBd ((⟨_, hm⟩ : Ext _).cell c0) x))
  have dl : decide ((-1 : Int) < 0) = true := rfl; go_upto_region 3 with (go_at_call 78; refine HI.out.mono ?_; rintro e w3 ⟨rfl, hm3⟩; have HM3 := hid (HM.out.trans (HM2.out.trans hm3)); clear hm3)
  go_wp2_with fail
  go_ret; exact ⟨none, 0, rfl, qOf _ _ _ _, HM3.out⟩
theorem box2 (w : World) (A B : Obj) : Mod (fun _ => False) w ((w.alloc A).alloc B) /\ ((w.alloc A).alloc B).heap[w.heap.size]? = some A /\ ((w.alloc A).alloc B).heap[w.heap.size + 1]? = some B := by
 have h1 : Mod (fun _ => False) w (w.alloc A) := (Mod.refl _ _).alloc _
 have h2 : Mod (fun _ => False) (w.alloc A) ((w.alloc A).alloc B) := (Mod.refl _ _).alloc _
 have hs : (w.alloc A).heap.size = w.heap.size + 1 := World.size_alloc _ _; exact ⟨h1.trans h2, (h2.block _ (by omega) (fun h => h)).trans (heap_alloc_new _ _), by rw [<- hs]; exact heap_alloc_new _ _⟩
set_option maxHeartbeats 2000000 in
theorem qSd {w : World} {ca : Option Addr} {cols : List Int} {name keys idx : Int} {cc : Nat} (x : Value) {v : Vl} (hv : v.Ok) (hl : Lies w 1 oneI ca cols) (hn : cols.length <= 4194304)
  (hbad : qDw name cols keys idx = false \/ (qDw name cols keys idx = true /\ (idx < 0 \/ ∃ c, 0 <= idx /\ cols[idx.toNat]? = some c /\ qEd c v = false))) :
  Calls Tryz.prog 15 #[x, .agg #[.int .u8 name, .slice ca cols.length cc, .int .i64 keys, .int .i64 idx], .agg #[.int .i64 v.n, .string v.s]] w fun e w' => e = .returned (.tuple #[.slice none 0 0, .int .i64 60]) /\ Mod (fun _ => False) w w' := by
 obtain ⟨hma, ha, hb⟩ := box2 w (.cells #[.int .u8 name, .slice ca cols.length cc, .int .i64 keys, .int .i64 idx] 24 (0, 0)) (.cells #[.int .i64 v.n, .string v.s] 46 (0, 0)); have HM := hid hma; have HL := hid (hl.ext hma); have HFt := hid (qGv name keys idx cc HL.out (by omega))
 have HRow := hid (fun (V : World) (hm : Mod (fun _ => False) ((w.alloc (.cells #[.int .u8 name, .slice ca cols.length cc, .int .i64 keys, .int .i64 idx] 24 (0, 0))).alloc (.cells #[.int .i64 v.n, .string v.s] 46 (0, 0))) V) => row4 ((hm.block _ (lth ha) (fun h => h)).trans ha))
 have HVl := hid (fun (V : World) (hm : Mod (fun _ => False) ((w.alloc (.cells #[.int .u8 name, .slice ca cols.length cc, .int .i64 keys, .int .i64 idx] 24 (0, 0))).alloc (.cells #[.int .i64 v.n, .string v.s] 46 (0, 0))) V) => row2 ((hm.block _ (lth hb) (fun h => h)).trans hb))
 obtain ⟨b0, b1, b2, b3⟩ := row4 ha; clear hma ha hb hl; rcases hbad with hf | ⟨hf, hi | ⟨c, hi, hc, hfv⟩⟩
 ·rw [hf] at HFt; clear hf; go_enter Tryz.func15, Tryz.ntmps15
  go_upto_region 1 with fail
  generalize (w.alloc (.cells #[.int .u8 name, .slice ca cols.length cc, .int .i64 keys, .int .i64 idx] 24 (0, 0))).alloc (.cells #[.int .i64 v.n, .string v.s] 46 (0, 0)) = C at *; go_wp2_with (go_at_call 37; refine HFt.out.mono ?_; rintro e w1 ⟨rfl, hm⟩; have HM1 := hid (HM.out.trans hm); clear hm)
  go_ret2; exact ⟨rfl, HM1.out⟩
 ·rw [hf] at HFt; clear hf; have di : decide (idx < 0) = true := by rw [decide_eq_true_iff]; exact hi
  clear hi; go_enter Tryz.func15, Tryz.ntmps15
  go_upto_region 1 with fail
  generalize (w.alloc (.cells #[.int .u8 name, .slice ca cols.length cc, .int .i64 keys, .int .i64 idx] 24 (0, 0))).alloc (.cells #[.int .i64 v.n, .string v.s] 46 (0, 0)) = C at *; go_wp2_with (go_at_call 37; refine HFt.out.mono ?_; rintro e w1 ⟨rfl, hm⟩; have HM1 := hid (HM.out.trans hm); clear b0 b1 b2 b3; obtain ⟨b0, b1, b2, b3⟩ := HRow.out w1 hm; clear hm)
  go_ret2; exact ⟨rfl, HM1.out⟩
 ·rw [hf] at HFt; clear hf; obtain ⟨I, rfl⟩ : ∃ I : Nat, idx = (I : Int) := ⟨idx.toNat, by omega⟩
  rw [Int.toNat_natCast] at hc; have hic : I < cols.length := (List.getElem?_eq_some_iff.1 hc).1; have di : decide ((I : Int) < 0) = false := by rw [decide_eq_false_iff_not]; omega
  have HC := hid hc; have HFm := hid (fun V : World => qKq c v V hv)
  rw [hfv] at HFm; clear hc hfv hi; go_enter Tryz.func15, Tryz.ntmps15
  go_upto_region 1 with fail
  generalize (w.alloc (.cells #[.int .u8 name, .slice ca cols.length cc, .int .i64 keys, .int .i64 (I : Int)] 24 (0, 0))).alloc (.cells #[.int .i64 v.n, .string v.s] 46 (0, 0)) = C at *; go_upto_region 3 with (go_at_call 37; refine HFt.out.mono ?_; rintro e w1 ⟨rfl, hm⟩; have HMc := hid hm; have HM1 := hid (HM.out.trans hm); clear b0 b1 b2 b3; obtain ⟨b0, b1, b2, b3⟩ := HRow.out w1 hm; clear hm)
  obtain ⟨d0, d1, _, _⟩ := HVl.out w1 HMc.out; have hlc := HL.out.ext HMc.out; obtain ⟨g, off, rfl⟩ := hlc.some (by omega)
  have q0 := hlc.cell qDb HC.out (j := 0) rfl; rw [Nat.add_zero, Nat.mul_one] at q0; have x1 := fun x : Ext w1 => x.cell b1
  have x3 := fun x : Ext w1 => x.cell b3
  have y0 := fun x : Ext w1 => x.cell q0
  have y1 := fun x : Ext w1 => x.cell d0
  have y2 := fun x : Ext w1 => x.cell d1
  clear b0 b1 b2 b3 d0 d1 q0 hlc; refine qAc (by kernel_rfl) (by kernel_rfl) ?_
  repeat (go_big_quiet_step ((go_at_call 39; exact qAt (HFm.out _))))
  refine wpQuiet_nil ?_; rintro _ ⟨x, rfl⟩; have HMx := hid (HM1.out.trans x.mod); clear x1 x3 y0 y1 y2; go_wp2_with fail
  go_ret2; exact ⟨rfl, HMx.out⟩
end
section
open Go Go.RowKit
def jIq (w : World) (l : List KV) (name : Int) (cols : List Int) (keys idx : Int) (head : List UInt8) (G : List KV) (e : Ending) (w' : World) : Prop :=
 Mod (fun _ => False) w w' /\ ((∃ xs la cap, xs.length = G.length /\ (∀ (i : Nat) (p : KV) (x : RwV), G[i]? = some p -> xs[i]? = some x -> FOk l name cols keys idx head p x.vs) /\ e = .returned (.tuple #[.slice la xs.length cap, .int .i64 0]) /\ qKe w' la xs) ∨
  ((∃ p ∈ G, ∀ r, ¬ FOk l name cols keys idx head p r) /\ e = .returned (.tuple #[.slice none 0 0, .int .i64 60])))
def lkv (l : List KV) (k : ByteArray) : ByteArray := match l.find? (fun p => decide (p.1 = k)) with
 | some p => p.2
 | none => ⟨#[]⟩
theorem qRt (l : List KV) (k : ByteArray) : ((k, lkv l k) ∈ l /\ qMj l k = .tuple #[.string (lkv l k), .bool true]) \/ ((∀ v, (k, v) ∉ l) /\ qMj l k = .tuple #[.string (lkv l k), .bool false]) := by
 unfold lkv qMj; cases h : l.find? (fun p => decide (p.1 = k)) with
 | some p =>
  refine .inl ⟨?_, rfl⟩; have h1 := List.mem_of_find?_eq_some h; have h2 := List.find?_some h; simp only [decide_eq_true_eq] at h2; rw [<- h2]; exact h1
 | none =>
  refine .inr ⟨fun v hv => ?_, rfl⟩
  have := List.find?_eq_none.1 h _ hv; simp at this
def jAr (l : List KV) (name : Int) (head : List UInt8) (G : List KV) : List KV := G.map fun p => (qCs name head p, lkv l (qCs name head p))
theorem qTm {head : List UInt8} {p : KV} (h : preB (ba head) p = true) : head.length <= p.1.size /\ (p.1.extract head.length p.1.size).data.toList = p.1.data.toList.drop head.length := by
 unfold preB at h; rw [List.isPrefixOf_iff_prefix, qDs] at h; have h1 := h.length_le; have e : p.1.data.toList.length = p.1.size := rfl; refine ⟨by omega, ?_⟩
 rw [ByteArray.data_extract, Array.toList_extract, List.extract_eq_take_drop, List.take_of_length_le]; rw [List.length_drop]; omega
theorem qZy {name : Int} {head : List UInt8} {p : KV} (h : preB (ba head) p = true) : ba (qAj name.toNat 0) ++ p.1.extract head.length p.1.size = qCs name head p := by
 unfold qCs; rw [<- (qTm h).2, <- qBc]; congr 1
theorem qYv {name : Int} {cols : List Int} {keys idx : Int} {r : List Vl} {q : PX} (h : qDn name cols keys idx r = some q) : qCz (qDn name cols keys idx r) = .tuple #[.agg #[.string (ba q.k), .string (ba q.v)], .agg #[.string (ba q.x), .string ⟨#[]⟩], .bool true] := by rw [h]; rfl
set_option maxRecDepth 100000
set_option maxHeartbeats 4000000 in
theorem jFf {w : World} {B : TB} {T : TM} {D : Dsk} {k : Nat} {l : List KV} {N : Nat} (h : Here w B T D k l N) {ca : Option Addr} {cols : List Int} {name keys : Int} {I : Nat} {cc : Nat} {c : Int} {v : Vl} (hv : v.Ok) (hl : Lies w 1 oneI ca cols) (hn : cols.length <= 4194304) (hf : qDw name cols keys (I : Int) = true) (hc : cols[I]? = some c) (hfv : qEd c v = true) {head : List UInt8} (hhead : qAj name.toNat 1 ++ qCe c v = head) {G : List KV} (hG : l.filter (preB (ba head)) = G) :
  Calls Tryz.prog 15 #[.pointer (some ⟨B.tb, 0, none⟩), .agg #[.int .u8 name, .slice ca cols.length cc, .int .i64 keys, .int .i64 (I : Int)], .agg #[.int .i64 v.n, .string v.s]] w (jIq w l name cols keys (I : Int) head G) := by
 obtain ⟨i0, hi0, hz0, hz1, hz2⟩ := info_parts qZu; obtain ⟨hma, ha, hb⟩ := box2 w (.cells #[.int .u8 name, .slice ca cols.length cc, .int .i64 keys, .int .i64 (I : Int)] 24 (0, 0)) (.cells #[.int .i64 v.n, .string v.s] 46 (0, 0)); obtain ⟨_, n1, n2, k1, k2, _, _⟩ := qGw hf; have HM := hid hma; have HL := hid (hl.ext hma); have HH := hid (h.ext hma); have HFt := hid (qGv name keys (I : Int) cc HL.out (by omega))
 rw [hf] at HFt; have HRow := hid (fun (V : World) (hm : Mod (fun _ => False) ((w.alloc (.cells #[.int .u8 name, .slice ca cols.length cc, .int .i64 keys, .int .i64 (I : Int)] 24 (0, 0))).alloc (.cells #[.int .i64 v.n, .string v.s] 46 (0, 0))) V) => row4 ((hm.block _ (lth ha) (fun h => h)).trans ha))
 have HVl := hid (fun (V : World) (hm : Mod (fun _ => False) ((w.alloc (.cells #[.int .u8 name, .slice ca cols.length cc, .int .i64 keys, .int .i64 (I : Int)] 24 (0, 0))).alloc (.cells #[.int .i64 v.n, .string v.s] 46 (0, 0))) V) => row2 ((hm.block _ (lth hb) (fun h => h)).trans hb))
 obtain ⟨b0, b1, b2, b3⟩ := row4 ha; have hic : I < cols.length := (List.getElem?_eq_some_iff.1 hc).1; have di : decide ((I : Int) < 0) = false := by rw [decide_eq_false_iff_not]; omega
 have HC := hid hc; have HFm := hid (fun V : World => qKq c v V hv)
 rw [hfv] at HFm; have hfl : (qCe c v).length <= 140737488351242 := qJl (k := c) hv; have HOkL := hid (fun p hp => h.std.ti.1.ok p hp)
 have HAsc := hid h.std.ti.1.asc; have hll := h.len.1; have hcl : 1 <= cols.length := by omega
 clear hma ha hb hl hc hfv h hf; go_enter Tryz.func15, Tryz.ntmps15
 go_upto_region 1 with fail
 generalize (w.alloc (.cells #[.int .u8 name, .slice ca cols.length cc, .int .i64 keys, .int .i64 (I : Int)] 24 (0, 0))).alloc (.cells #[.int .i64 v.n, .string v.s] 46 (0, 0)) = C at *; go_upto_region 3 with (go_at_call 37; refine HFt.out.mono ?_; rintro e w1 ⟨rfl, hm⟩; have HMc := hid hm; clear b0 b1 b2 b3; obtain ⟨b0, b1, b2, b3⟩ := HRow.out w1 hm; clear hm)
 obtain ⟨d0, d1, _, _⟩ := HVl.out w1 HMc.out; have hlc := HL.out.ext HMc.out; obtain ⟨g, off, rfl⟩ := hlc.some (by omega)
 have q0 := hlc.cell qDb HC.out (j := 0) rfl; rw [Nat.add_zero, Nat.mul_one] at q0; have x1 := fun x : Ext w1 => x.cell b1
 have x3 := fun x : Ext w1 => x.cell b3
 have y0 := fun x : Ext w1 => x.cell q0
 have y1 := fun x : Ext w1 => x.cell d0
 have y2 := fun x : Ext w1 => x.cell d1
 clear b0 b1 b2 b3 d0 d1 q0 hlc; refine qAc (by kernel_rfl) (by kernel_rfl) ?_
 repeat (go_big_quiet_step ((go_at_call 39; exact qAt (HFm.out _))))
 refine wpQuiet_nil ?_; rintro _ ⟨x, rfl⟩; have HMx := hid (HMc.out.trans x.mod); clear x1 x3 y0 y1 y2; generalize x.val = X at *; obtain ⟨b0, b1, b2, b3⟩ := HRow.out X HMx.out; have hcv : (convert 128 9 (.slice (some ⟨X.heap.size, 0, none⟩) 2 2)).run Tryz.prog (X.alloc (.cells #[.int .u8 name, .int .u8 1] 5)) = .ok (.string (ba (qAj name.toNat 1))) (X.alloc (.cells #[.int .u8 name, .int .u8 1] 5)) :=
  run_convert_bytes_back (P := Tryz.prog) _ 128 9 5 ⟨X.heap.size, 0, none⟩ 2 (qAj name.toNat 1) Tryz.underlying128 Tryz.underlying5 Tryz.underlying9 (fun j hj => by
   rw [Addr.add_lit, cell_of_row _ _ _ _ _ _ (heap_alloc_new _ _)]; have : j = 0 \/ j = 1 := by simp [qAj] at hj; omega
   rcases this with rfl | rfl
   ·simp [qAj]; omega
   ·simp [qAj])
 have HHd : Hid (ba (qAj name.toNat 1) ++ ba (qCe c v) = ba head) := hid (by rw [<- hhead, qBc])
 have s0 : (ba (qAj name.toNat 1)).size = 2 := by rw [qAd]; rfl
 have s1 : (ba (qCe c v)).size <= 1152921504606846976 := by rw [qAd]; omega
 have hhl : head.length <= 140737488351244 := by rw [<- hhead, List.length_append]; have : (qAj name.toNat 1).length = 2 := rfl; omega
 clear hhead; go_upto_region 8 with fail
 rw [HHd.out]; have HMy := hid (HMx.out.alloc (.cells #[.int .u8 name, .int .u8 1] 5)); clear hcv s0 s1 b0 b1 b2 b3; generalize X.alloc (.cells #[.int .u8 name, .int .u8 1] 5) = Y at *; have HBg := hid (qNm (HH.out.ext HMy.out) (ba head)); rw [hG] at HBg; have HPre := hid (fun p (hp : p ∈ G) => (by rw [<- hG] at hp; exact (List.mem_filter.1 hp).2 : preB (ba head) p = true))
 have HIn := hid (fun p (hp : p ∈ G) => (by rw [<- hG] at hp; exact (List.mem_filter.1 hp).1 : p ∈ l))
 have hgl := List.length_filter_le (preB (ba head)) l; rw [hG] at hgl; clear hG; go_upto_region 9 with (go_at_call 38; refine HBg.out.mono ?_; rintro e w2 ⟨la, lc, rfl, hl2, hm2⟩; have HL2 := hid hl2; have HM2 := hid (HMy.out.trans hm2); clear hl2 hm2)
 clear HBg HMy HMx; have HT2 := hid (HH.out.ext HM2.out); have HRow2 := hid (fun (V : World) (hm : Mod (fun _ => False) w2 V) => HRow.out V (HM2.out.trans hm))
 have HL3 := hid (HL.out.ext HM2.out); have HI := hid hi0; have HI0 := hid hz0; have HI1 := hid hz1; have HI2 := hid hz2; have hbs : (ba head).size = head.length := qAd _; have HBs := hid hbs; clear HRow HVl HL HFt HFm hi0 hz0 hz1 hz2 hbs; go_loopw [11, 53] (fun so si wr => ∃ (i : Nat) (oa : Option Addr) (oc : Nat) (xs : List RwV), i <= G.length /\ so = .slice oa i oc /\ si = .int .i64 (i : Int) /\ jBx w2 wr name cols keys (I : Int) (jAr l name head G) i oa oc xs /\ ∀ (j : Nat) (p : KV) (x : RwV), G[j]? = some p -> xs[j]? = some x -> FOk l name cols keys (I : Int) head p x.vs) (fun _ si _ => G.length - (intOf si).toNat)
 case atStart => exact ⟨0, none, 0, [], Nat.zero_le _, rfl, rfl, ⟨Own.nil _ _ _, (fun b hb => (qAm b hb).elim), Mod.refl _ _, rfl, (fun j p x _ hx => by simp at hx), (fun x hx => by cases hx), (fun x hx => by cases hx), (fun x hx => by cases hx), fun x hx => by cases hx⟩, fun j p x _ hx => by simp at hx⟩
 case round =>
  obtain ⟨i, oa, oc, xs, hil, rfl, rfl, hrel, hfo⟩ := hrel; have HRel := hid hrel; have HFo := hid hfo; clear hrel hfo; by_cases hlt : i < G.length
  ·have d0 : decide ((i : Int) < (G.length : Int)) = true := by simp; omega
   have d1 : decide (i < G.length) = true := by simpa using hlt
   have hdi : ¬ G.length <= i := by omega
   obtain ⟨⟨pk, pv⟩, hx⟩ : ∃ p, G[i]? = some p := ⟨_, List.getElem?_eq_getElem hlt⟩; have HX := hid hx; have hpm := List.mem_of_getElem? hx; have hpl := qTm (HPre.out _ hpm); have hke := qZy (name := name) (HPre.out _ hpm); simp only at hpl hke; have HKe := hid hke; have hlw := HL2.out.ext HRel.out.mod; obtain ⟨g2, off2, rfl⟩ := hlw.some (by omega)
   have q0 := hlw.cell qHn hx (j := 0) rfl; have q1 := hlw.cell qHn hx (j := 1) rfl; simp only [Nat.add_zero] at q0; have hmz : Mod (fun _ => False) wr (wr.alloc (.cells #[.string pk, .string pv] 41)) := (Mod.refl _ _).alloc _
   have HMz := hid hmz; have HMw := hid (HRel.out.mod.trans hmz); have hbz : (wr.alloc (.cells #[.string pk, .string pv] 41)).heap[wr.heap.size]? = some (.cells #[.string pk, .string pv] 41 (0, 0)) := heap_alloc_new _ _; have HBz := hid hbz; clear hx hlw hmz hbz hke; go_upto_region 11 with fail
   generalize wr.alloc (.cells #[.string pk, .string pv] 41) = Z at *; obtain ⟨b0, b1, b2, b3⟩ := HRow2.out Z HMw.out; have z0 : Z.cell? ⟨wr.heap.size, 0, none⟩ = some (.string pk) := by rw [cell_of_row _ _ _ _ _ _ HBz.out]; rfl
   clear q0 q1; have hcv : (convert 128 9 (.slice (some ⟨Z.heap.size, 0, none⟩) 2 2)).run Tryz.prog (Z.alloc (.cells #[.int .u8 name, .int .u8 0] 5)).drew = .ok (.string (ba (qAj name.toNat 0))) (Z.alloc (.cells #[.int .u8 name, .int .u8 0] 5)).drew :=
    run_convert_bytes_back (P := Tryz.prog) _ 128 9 5 ⟨Z.heap.size, 0, none⟩ 2 (qAj name.toNat 0) Tryz.underlying128 Tryz.underlying5 Tryz.underlying9 (fun j hj => by
     show (Z.alloc (.cells #[.int .u8 name, .int .u8 0] 5)).cell? _ = _; rw [Addr.add_lit, cell_of_row _ _ _ _ _ _ (heap_alloc_new _ _)]; have : j = 0 \/ j = 1 := by simp [qAj] at hj; omega
     rcases this with rfl | rfl
     ·simp [qAj]; omega
     ·simp [qAj])
   have hps : pk.size <= 48 := (HOkL.out _ (HIn.out _ hpm)).1.2; have hsl : ∀ v : World, (Instr.slice 9 (.string pk) (some (.int .i64 ((ba head).size : Int))) none none).run Tryz.prog v = .ok (.string (pk.extract head.length pk.size)) v := fun v => by
    have := run_slice_string_l (P := Tryz.prog) v 9 pk Tryz.underlying9 .i64 ((ba head).size : Int) (by omega) (by rw [HBs.out]; omega)
    rw [HBs.out, Int.toNat_natCast] at this; rw [HBs.out]; exact this
   have s0 : (ba (qAj name.toNat 0)).size = 2 := by rw [qAd]; rfl
   have s1 : (pk.extract head.length pk.size).size <= 48 := by rw [ByteArray.size_extract]; omega
   go_upto_region 11 with fail
   have z1 : (Z.alloc (.cells #[.int .u8 name, .int .u8 0] 5)).drew.cell? ⟨wr.heap.size, 0, none⟩ = some (.string pk) := (⟨_, ((Mod.refl (fun _ => False) Z).alloc _).drew⟩ : Ext Z).cell z0
   go_region
   rw [HKe.out]; have HMd : Hid (Mod (fun _ => False) w2 (Z.alloc (.cells #[.int .u8 name, .int .u8 0] 5)).drew) := hid (HMw.out.trans (((Mod.refl _ Z).alloc _).drew))
   have HMdr := hid (HMz.out.trans (((Mod.refl _ Z).alloc (.cells #[.int .u8 name, .int .u8 0] 5)).drew)); have HBd := hid (((((Mod.refl (fun _ => False) Z).alloc (.cells #[.int .u8 name, .int .u8 0] 5)).drew).block _ (lth HBz.out) (fun h => h)).trans HBz.out)
   clear hcv hsl s0 s1 z0 z1 b0 b1 b2 b3; generalize (Z.alloc (.cells #[.int .u8 name, .int .u8 0] 5)).drew = Y1 at *; have HKm : Hid (∀ v, (qCs name head (pk, pv), v) ∈ l -> v = lkv l (qCs name head (pk, pv))) := hid (fun v hv => by
    have h1 := qYg HAsc.out hv; rcases qRt l (qCs name head (pk, pv)) with ⟨_, h2⟩ | ⟨h2, _⟩
    ·rw [h1] at h2
     simpa using h2
    ·exact absurd hv (h2 v))
   have HGt := hid (qUc (HT2.out.ext HMd.out) (qCs name head (pk, pv))); have HWay := hid (qRt l (qCs name head (pk, pv))); have HPp : Hid ((jAr l name head G)[i]? = some (qCs name head (pk, pv), lkv l (qCs name head (pk, pv)))) := hid (by unfold jAr; rw [List.getElem?_map, HX.out]; rfl)
   have HFk : Hid (∀ r, FOk l name cols keys (I : Int) head (pk, pv) r ↔ ((qCs name head (pk, pv), lkv l (qCs name head (pk, pv))) ∈ l /\ qEs name cols keys (I : Int) (qCs name head (pk, pv)) (lkv l (qCs name head (pk, pv))) r /\ pv = ⟨#[]⟩ /\ ∃ q, qDn name cols keys (I : Int) r = some q /\ ba q.x = pk)) := hid (fun r =>
    ⟨fun ⟨v, h1, h2, h3⟩ => by
     have e := HKm.out v h1; rw [<- e]; exact ⟨h1, h2, h3⟩, fun ⟨h1, h2, h3⟩ => ⟨_, h1, h2, h3⟩⟩)
   have HLk : Hid ((lkv l (qCs name head (pk, pv))).size <= 4194304) := hid (by
    rcases qRt l (qCs name head (pk, pv)) with ⟨h1, _⟩ | ⟨_, _⟩
    ·have := (HOkL.out _ h1).2; simp only at this; omega
    ·unfold lkv; cases h : l.find? (fun p => decide (p.1 = qCs name head (pk, pv))) with
     | some p =>
      have := (HOkL.out _ (List.mem_of_find?_eq_some h)).2; simp only; omega
     | none => exact Nat.zero_le _)
   have HKs : Hid ((qCs name head (pk, pv)).size <= 4194304) := hid (by
    unfold qCs; rw [qAd, List.length_append, List.length_drop]; have e1 : (qAj name.toNat 0).length = 2 := rfl; have e2 : pk.data.toList.length = pk.size := rfl; simp only; omega)
   clear HKm HKe; generalize qCs name head (pk, pv) = K at *; generalize lkv l K = val at *; rcases HWay.out with ⟨hin, hget⟩ | ⟨hout, hget⟩
   ·rw [hget] at HGt; have HIn2 := hid hin; clear hin hget HWay; go_upto_region 15 with (go_at_call 20; refine HGt.out.mono ?_; rintro e w3 ⟨rfl, hm3⟩; have HM3 := hid (HMd.out.trans hm3); have HM3r := hid (HMdr.out.trans hm3); have HB3 := hid ((hm3.block _ (lth HBd.out) (fun h => h)).trans HBd.out); clear hm3)
    have HD := hid (qJq (w := w3) name keys (I : Int) cc K val (HL3.out.ext HM3.out) hn HKs.out HLk.out); obtain ⟨b0, b1, b2, b3⟩ := HRow2.out w3 HM3.out; clear HGt; go_upto_if 84 with (go_at_call 30; refine HD.out.mono ?_; intro e w4 h4; obtain ⟨ra, n, rc, E, rfl, hm4, hE⟩ := h4.norm; have HMv := hid hm4; have HM4 := hid (HM3.out.trans hm4); have HB4 := hid ((hm4.block _ (lth HB3.out) (fun h => h)).trans HB3.out); have HE := hid hE; clear h4 hm4 hE)
    clear b0 b1 b2 b3 HD; rcases HE.out with ⟨rfl, r, rfl, e1, e2, e3, e4, e5⟩ | ⟨rfl, hno⟩
    ·obtain ⟨q, hq, hqk, hqv⟩ := e1.2; obtain ⟨z1, z2⟩ := qFu (cols := cols) (r := r) (by omega) (fun v hv => (e3 v hv).1) (fun v hv => (e3 v hv).2)
     have HPr := hid (qMv (w := w4) name keys (I : Int) cc rc (HL3.out.ext HM4.out) e4 (by omega) (by omega) (fun v hv => (e3 v hv).1) z1 z2)
     rw [qYv hq] at HPr; have HE1 := hid e1; have HE2 := hid e2; have HE3 := hid e3; have HE4 := hid e4; have HE5 := hid e5; have HQ := hid hq; clear e1 e2 e3 e4 e5 HE z1 z2 hq hqk hqv; obtain ⟨b0, b1, b2, b3⟩ := HRow2.out w4 HM4.out; go_upto_region 19 with (go_at_call 31; refine HPr.out.mono ?_; rintro e w5 ⟨rfl, hm5⟩; have HMp := hid hm5; have HM5 := hid (HM4.out.trans hm5); have HB5 := hid ((hm5.block _ (lth HB4.out) (fun h => h)).trans HB4.out); clear hm5)
     clear b0 b1 b2 b3 HPr; have hnew := box2 w5 (.cells #[.string (ba q.k), .string (ba q.v)] 41 (0, 0)) (.cells #[.string (ba q.x), .string ⟨#[]⟩] 41 (0, 0)); have HM6 := hid (HM5.out.trans hnew.1); have HM6r := hid ((HMp.out.trans hnew.1)); obtain ⟨f0, f1, _, _⟩ := row2 hnew.2.2; obtain ⟨p0, p1, _, _⟩ := row2 ((hnew.1.block _ (lth HB5.out) (fun h => h)).trans HB5.out)
     clear hnew; generalize (w5.alloc (.cells #[.string (ba q.k), .string (ba q.v)] 41 (0, 0))).alloc (.cells #[.string (ba q.x), .string ⟨#[]⟩] 41 (0, 0)) = V6 at *; have HNo : Hid ((ba q.x).toList ≠ pk.toList \/ pv.toList ≠ [] -> ∀ r, ¬ FOk l name cols keys (I : Int) head (pk, pv) r) := hid (fun hne r' h => by
      obtain ⟨_, h2, h3, q', hq', e⟩ := (HFk.out r').1 h; have e1 := jAx HE1.out h2; subst e1; rw [HQ.out] at hq'; cases hq'
      rcases hne with hne | hne
      ·exact hne (by rw [e])
      ·exact hne (by rw [h3, ByteArray.toList_eq]))
     by_cases e1 : (ba q.x).toList = pk.toList
     case neg =>
      have HN := hid (HNo.out (.inl e1)); go_wp2_with fail
      go_ret2; exact ⟨HM.out.trans (HM2.out.trans HM6.out), .inr ⟨⟨(pk, pv), List.mem_of_getElem? HX.out, HN.out⟩, rfl⟩⟩
     case pos =>
      by_cases e2 : pv.toList = []
      case neg =>
       have HN := hid (HNo.out (.inr e2)); go_wp2_with fail
       go_ret2; exact ⟨HM.out.trans (HM2.out.trans HM6.out), .inr ⟨⟨(pk, pv), List.mem_of_getElem? HX.out, HN.out⟩, rfl⟩⟩
      case pos =>
       have HFr : Hid (FOk l name cols keys (I : Int) head (pk, pv) r) := hid ((HFk.out r).2 ⟨HIn2.out, HE1.out, qKl (by rw [e2, ByteArray.toList_eq]), q, HQ.out, qKl e1⟩)
       have HSr : Hid (Src (V6.alloc (.cells #[.slice ra r.length rc] 26)) 1 (some ⟨V6.heap.size, 0, none⟩) 1 [.slice ra r.length rc]) := hid (qBp (heap_alloc_new _ _) rfl); have hm9 : Mod (fun _ => False) V6 (V6.alloc (.cells #[.slice ra r.length rc] 26)) := (Mod.refl _ _).alloc _
       have HM9 := hid (HMv.out.trans (HM6r.out.trans hm9)); have HOb := hid (HRel.out.own.mod (HM3r.out.trans HM9.out) (fun _ _ e => e))
       have HR9 := hid (HE4.out.ext (HM6r.out.trans hm9)); clear hm9; go_wp2_with (at_builtin; refine qAe rfl (.tmp 96) (.tmp 98) 51 rfl 26 i0 _ 1 24 Tryz.underlying51 HI.out HI0.out HI1.out HI2.out rfl oa i oc _ rfl HOb.out (some ⟨V6.heap.size, 0, none⟩) 1 1 _ rfl HSr.out (by intro u hu; simp at hu; subst hu; rfl) (by unfold maxLen; omega) (by omega) ?_; intro oa' oc' w9 hown5 hm5 hb5 hn5 hr5; have Hown5 := hid hown5; have Hm5 := hid hm5; have Hb5 := hid hb5; clear hown5 hm5 hb5 hn5 hr5)
       have HN := hid (HRel.out.next HPp.out HE1.out HE2.out hcl HE3.out HM3r.out HR9.out HE5.out HM9.out Hown5.out Hm5.out Hb5.out); go_roundw
       case rel =>
        refine ⟨i + 1, oa', oc', _, by omega, rfl, by go_num, HN.out, fun j p' x' hp' hx' => ?_⟩
        rw [List.getElem?_append] at hx'; split at hx'
        ·exact HFo.out j p' x' hp' hx'
        ·rename_i hj
         have hlen := HRel.out.len; have hj2 : j = i := by
          have := (List.getElem?_eq_some_iff.1 hx').1; simp at this
          omega
         subst hj2; rw [HX.out] at hp'; cases hp'
         rw [hlen, Nat.sub_self] at hx'; cases hx'
         exact HFr.out
       case measure => simp [intOf]; omega
    ·have HNo := hid hno; clear hno HE; go_wp2_with fail
     go_ret2; refine ⟨HM.out.trans (HM2.out.trans HM4.out), .inr ⟨⟨(pk, pv), List.mem_of_getElem? HX.out, fun r h => HNo.out r ((HFk.out r).1 h).2.1⟩, rfl⟩⟩
   ·rw [hget] at HGt; have HOut := hid hout; clear hout hget HWay; go_wp2_with (go_at_call 20; refine HGt.out.mono ?_; rintro e w3 ⟨rfl, hm3⟩; have HM3 := hid (HMd.out.trans hm3); clear hm3)
    go_ret2; exact ⟨HM.out.trans (HM2.out.trans HM3.out), .inr ⟨⟨(pk, pv), List.mem_of_getElem? HX.out, fun r h => HOut.out _ ((HFk.out r).1 h).1⟩, rfl⟩⟩
  ·have hie : i = G.length := by omega
   have d0 : decide ((i : Int) < (G.length : Int)) = false := by simp; omega
   have d1 : decide (i < G.length) = false := by simpa using hlt
   clear hlt; go_wp2_with fail
   go_ret2; refine ⟨HM.out.trans (HM2.out.trans HRel.out.mod), .inl ⟨xs, oa, oc, by rw [HRel.out.len, hie], HFo.out, by rw [HRel.out.len]; rfl, ?_⟩⟩
   have ho := HRel.out.own; rw [<- HRel.out.len] at ho; exact ⟨ho.lies, HRel.out.rows, HRel.out.ok⟩
end
section
open Go Go.RowKit
theorem qKy (w : World) : qKe w none [] := ⟨qOf _ _ _ _, (fun x hx => by cases hx), fun x hx => by cases hx⟩
def AllN (w : World) (l : List KV) (name : Int) (cols : List Int) (keys idx : Int) (e : Ending) (w' : World) : Prop :=
 Mod (fun _ => False) w w' /\ ∃ (xs : List RwV) (la : Option Addr) (cap : Nat) (E : Int), e = .returned (.tuple #[.slice la xs.length cap, .int .i64 E]) /\ qKe w' la xs /\ (qDw name cols keys idx = false -> E = 60) /\ (E = 0 \/ (E = 60 /\ xs = [])) /\ xs.length <= 8388608 ∧
  ∀ x ∈ xs, x.vs.length = cols.length /\ ∃ q, qDn name cols keys idx x.vs = some q /\ (ba q.k, ba q.v) ∈ l
theorem jFv {w : World} {B : TB} {T : TM} {D : Dsk} {k : Nat} {l : List KV} {N : Nat} (h : Here w B T D k l N) {ca : Option Addr} {cols : List Int} (name keys idx : Int) (cc : Nat) (hl : Lies w 1 oneI ca cols) (hn : cols.length <= 4194304) :
  Calls Tryz.prog 14 #[.pointer (some ⟨B.tb, 0, none⟩), .agg #[.int .u8 name, .slice ca cols.length cc, .int .i64 keys, .int .i64 idx]] w (AllN w l name cols keys idx) := by
 cases hf : qDw name cols keys idx with
 | false => exact (qQu _ hl hn hf).mono fun e w' ⟨he, hm⟩ => ⟨hm, [], none, 0, 60, he, qKy _, fun _ => rfl, .inr ⟨rfl, rfl⟩, Nat.zero_le _, fun x hx => by cases hx⟩
 | true =>
  have hfl := List.length_filter_le (preB (ba (qAj name.toNat 0))) l; have hll := h.len.1; refine (qUs (cc := cc) (L := l.filter (preB (ba (qAj name.toNat 0)))) _ hl hn hf (by omega) (fun p hp => ?_) (fun V hm => qNm (h.ext hm) _)).mono fun e w' ha => ?_
  ·have := h.std.ti.1.ok p (List.mem_filter.1 hp).1; have a1 := this.1.2; have a2 := this.2; omega
  ·obtain ⟨hm, ⟨xs, la, cap, ⟨h1, h2⟩, h3, h4⟩ | ⟨_, h3⟩⟩ := ha
   ·refine ⟨hm, xs, la, cap, 0, h3, h4, (fun e => by simp [hf] at e), .inl rfl, by omega, fun x hx => ?_⟩
    obtain ⟨i, hi⟩ := List.getElem?_of_mem hx; have hlt : i < xs.length := (List.getElem?_eq_some_iff.1 hi).1; obtain ⟨p, hp⟩ : ∃ p, (l.filter (preB (ba (qAj name.toNat 0))))[i]? = some p := ⟨_, List.getElem?_eq_getElem (by omega)⟩
    obtain ⟨⟨_, q, hq, e1, e2⟩, h6⟩ := h2 i p x hp hi; refine ⟨h6, q, hq, ?_⟩; rw [e1, e2]; exact (List.mem_filter.1 (List.mem_of_getElem? hp)).1
   ·exact ⟨hm, [], none, 0, 60, h3, qKy _, (fun e => by simp [hf] at e), .inr ⟨rfl, rfl⟩, Nat.zero_le _, fun x hx => by cases hx⟩
def jKc (w : World) (name : Int) (cols : List Int) (keys idx : Int) (v : Vl) (e : Ending) (w' : World) : Prop :=
 Mod (fun _ => False) w w' /\ ∃ (xs : List RwV) (la : Option Addr) (cap : Nat) (E : Int), e = .returned (.tuple #[.slice la xs.length cap, .int .i64 E]) /\ qKe w' la xs /\ (qDw name cols keys idx = false -> E = 60) /\ (idx < 0 -> E = 60) /\ (∀ c, cols[idx.toNat]? = some c -> qEd c v = false -> E = 60) /\ (E = 0 \/ (E = 60 /\ xs = [])) /\ xs.length <= 8388608 ∧
  ∀ x ∈ xs, 0 <= idx /\ x.vs[idx.toNat]? = some v
theorem jAo {w : World} {B : TB} {T : TM} {D : Dsk} {k : Nat} {l : List KV} {N : Nat} (h : Here w B T D k l N) {ca : Option Addr} {cols : List Int} (name keys idx : Int) (cc : Nat) {v : Vl} (hv : v.Ok) (hl : Lies w 1 oneI ca cols) (hn : cols.length <= 4194304) :
  Calls Tryz.prog 15 #[.pointer (some ⟨B.tb, 0, none⟩), .agg #[.int .u8 name, .slice ca cols.length cc, .int .i64 keys, .int .i64 idx], .agg #[.int .i64 v.n, .string v.s]] w (jKc w name cols keys idx v) := by
 have hno : ∀ e w', (e = .returned (.tuple #[.slice none 0 0, .int .i64 60]) /\ Mod (fun _ => False) w w') -> jKc w name cols keys idx v e w' := fun e w' ⟨he, hm⟩ =>
  ⟨hm, [], none, 0, 60, he, qKy _, fun _ => rfl, fun _ => rfl, fun _ _ _ => rfl, .inr ⟨rfl, rfl⟩, Nat.zero_le _, fun x hx => by cases hx⟩
 cases hf : qDw name cols keys idx with
 | false => exact (qSd _ hv hl hn (.inl hf)).mono hno
 | true =>
  obtain ⟨_, _, _, _, _, _, hi2⟩ := qGw hf; by_cases hi : idx < 0
  ·exact (qSd _ hv hl hn (.inr ⟨hf, .inl hi⟩)).mono hno
  ·obtain ⟨I, rfl⟩ : ∃ I : Nat, idx = (I : Int) := ⟨idx.toNat, by omega⟩
   obtain ⟨c, hc⟩ : ∃ c, cols[I]? = some c := ⟨_, List.getElem?_eq_getElem (by omega)⟩
   cases hfv : qEd c v with
   | false => exact (qSd _ hv hl hn (.inr ⟨hf, .inr ⟨c, by omega, by rw [Int.toNat_natCast]; exact hc, hfv⟩⟩)).mono hno
   | true =>
    refine (jFf h hv hl hn hf hc hfv rfl rfl).mono fun e w' ha => ?_
    have hbad : ∀ E : Int, ∀ c', cols[((I : Nat) : Int).toNat]? = some c' -> qEd c' v = false -> E = 60 := fun E c' h1 h2 => by
     rw [Int.toNat_natCast, hc] at h1; cases h1
     rw [hfv] at h2; cases h2
    obtain ⟨hm, ⟨xs, la, cap, h1, h2, h3, h4⟩ | ⟨_, h3⟩⟩ := ha
    ·refine ⟨hm, xs, la, cap, 0, h3, h4, (fun e => by simp [hf] at e), (fun e => by omega), hbad 0, .inl rfl, by have := List.length_filter_le (preB (ba (qAj name.toNat 1 ++ qCe c v))) l; have := h.len.1; omega, fun x hx => ⟨by omega, ?_⟩⟩
     obtain ⟨i, hi⟩ := List.getElem?_of_mem hx; have hlt : i < xs.length := (List.getElem?_eq_some_iff.1 hi).1; obtain ⟨p, hp⟩ : ∃ p, (l.filter (preB (ba (qAj name.toNat 1 ++ qCe c v))))[i]? = some p := ⟨_, List.getElem?_eq_getElem (by omega)⟩
     exact jHr (h2 i p x hp hi) (fun u hu => (h4.ok x hx u hu).1) hv (by omega) (by rw [Int.toNat_natCast]; exact hc) hfv (List.mem_filter.1 (List.mem_of_getElem? hp)).2
    ·exact hno _ _ ⟨h3, hm⟩
theorem jIk {w : World} {ca : Option Addr} {cols : List Int} (name keys idx : Int) (cc : Nat) (hl : Lies w 1 oneI ca cols) (hn : cols.length <= 4194304) :
  Calls Tryz.prog 14 #[.pointer none, .agg #[.int .u8 name, .slice ca cols.length cc, .int .i64 keys, .int .i64 idx]] w fun e w' => (∃ (la : Option Addr) (cap : Nat), e = .returned (.tuple #[.slice la 0 cap, .int .i64 (if qDw name cols keys idx then 0 else 60)])) /\ Mod (fun _ => False) w w' := by
 cases hf : qDw name cols keys idx with
 | false => exact (qQu _ hl hn hf).mono fun e w' ⟨he, hm⟩ => ⟨⟨none, 0, he⟩, hm⟩
 | true =>
  refine (qUs (cc := cc) (L := []) _ hl hn hf (by simp) (fun p hp => by cases hp) (fun V _ => qSl V _)).mono fun e w' ha => ?_
  obtain ⟨hm, ⟨xs, la, cap, ⟨h1, _⟩, h3, _⟩ | ⟨⟨p, hp, _⟩, _⟩⟩ := ha
  ·rw [h1] at h3; exact ⟨⟨la, cap, h3⟩, hm⟩
  ·cases hp
end
section
open Go Go.RowKit
set_option maxRecDepth 100000
theorem qYh (c : Int) (v : Vl) (w : World) (hv : v.Ok) : Calls Tryz.prog 18 #[.int .i64 c, .agg #[.int .i64 v.n, .string v.s]] w fun e w' => e = .returned (.bool (qEd c v)) /\ Mod (fun _ => False) w w' := by
 obtain ⟨n, s⟩ := v; have hma : Mod (fun _ => False) w (w.alloc (.cells #[.int .i64 n, .string s] 62)) := (Mod.refl _ _).alloc _
 have hb : (w.alloc (.cells #[.int .i64 n, .string s] 62)).heap[w.heap.size]? = some (.cells #[.int .i64 n, .string s] 62 (0, 0)) := heap_alloc_new _ _; have HM := hid hma; obtain ⟨b0, b1, _, _⟩ := row2 hb; have HBr := hid (fun V => qYr s V hv.s)
 have HE : Hid (s.toList.isEmpty = (s.toList == ([] : List UInt8))) := hid (by cases s.toList <;> rfl)
 clear hma hb; by_cases hk : c = 0
 ·have e0 : (c == 0) = true := by simpa using hk
  have HF : Hid (qEd c ⟨n, s⟩ = s.toList.isEmpty) := hid (by unfold qEd; rw [if_pos hk])
  clear hk; by_cases hs : s.toList = []
  ·have HS : Hid (s.toList.isEmpty = true) := hid (by rw [hs]; rfl)
   have hs2 : s.toList = (⟨#[]⟩ : ByteArray).toList := by rw [hs, ByteArray.toList_eq]
   go_enter Tryz.func18, Tryz.ntmps18
   go_wp2_with fail
   go_ret; rw [HF.out, HS.out]; exact ⟨rfl, HM.out⟩
  ·have HS : Hid (s.toList.isEmpty = false) := hid (by cases h : s.toList with | nil => exact absurd h hs | cons a b => rfl)
   have hs2 : ¬ s.toList = (⟨#[]⟩ : ByteArray).toList := by rw [show (⟨#[]⟩ : ByteArray).toList = [] by rw [ByteArray.toList_eq]]; exact hs
   go_enter Tryz.func18, Tryz.ntmps18
   go_wp2_with fail
   go_ret; rw [HF.out, HS.out]; exact ⟨rfl, HM.out⟩
 ·have e0 : (c == 0) = false := by simpa using hk
  have HF : Hid (qEd c ⟨n, s⟩ = (n == 0 && qEr s)) := hid (by unfold qEd; rw [if_neg hk])
  clear hk; cases hb : qEr s with
  | false =>
   rw [hb] at HBr HF; rw [Bool.and_false] at HF; clear hb; go_enter Tryz.func18, Tryz.ntmps18
   go_wp2_with (go_at_call 40; refine (HBr.out _).mono ?_; rintro e w1 ⟨rfl, rfl⟩)
   go_ret; rw [HF.out]; exact ⟨rfl, HM.out⟩
  | true =>
   rw [hb] at HBr HF; rw [Bool.and_true] at HF; clear hb; go_enter Tryz.func18, Tryz.ntmps18
   go_wp2_with (go_at_call 40; refine (HBr.out _).mono ?_; rintro e w1 ⟨rfl, rfl⟩)
   go_ret; rw [HF.out]; exact ⟨rfl, HM.out⟩
end
section
open Go Go.RowKit
theorem qTe {w w' : World} (h : Mod (fun b => w.heap.size <= b) w w') : Mod (fun _ => False) w w' := h.mono (fun k hk e => by omega)
theorem qWo {w w1 : World} {d : Nat} {sa : Option Addr} {B : TB} (h1 : B.d = d) (h2 : B.sa = sa) (hd : w.heap.size <= d) (hs : ∀ k, blk sa k -> w.heap.size <= k) (hw : w.heap.size <= w1.heap.size) (h3 : w1.heap.size <= B.tb /\ w1.heap.size <= B.nb /\ w1.heap.size <= B.ab /\ w1.heap.size <= B.j) : ∀ i, TS B i -> w.heap.size <= i := fun i e => by
 rcases e with e | e | e | e | e
 ·omega
 ·omega
 ·omega
 ·omega
 ·rw [h1, h2] at e; rcases e with e | e
  ·omega
  ·exact hs i e
theorem HApp.brief {w w' : World} {B : TB} {T : TM} {D : Dsk} {k : Nat} {l : List KV} {N : Nat} {cs : List Cg} {e : Ending} (h : HApp w B T D k l N cs e w') :
  ∃ E : Int, e = .returned (.int .i64 E) /\ Mod (TS B) w w' /\ ((E = 0 /\ ∃ (T' : TM) (D' : Dsk) (N' : Nat), Here w' B T' D' (k + 1002) (chgs cs l) N' /\ D'.secs.length = D.secs.length) \/ (E ≠ 0 /\ Here w' B T D k l N)) := by
 rcases h with ⟨h1, rfl, h2, h3⟩ | ⟨_, ⟨rfl, _, h2, h3⟩ | ⟨rfl, _, h2, h3⟩ | ⟨rfl, T', D', N', h2, hn, h3⟩⟩
 ·exact ⟨_, rfl, h3.mono (fun _ _ e => e.elim), .inr ⟨h1, h2⟩⟩
 ·exact ⟨52, rfl, h3.mono (fun _ _ e => e.elim), .inr ⟨by decide, h2⟩⟩
 ·exact ⟨31, rfl, h3.mono (fun _ _ e => e.elim), .inr ⟨by decide, h2⟩⟩
 ·exact ⟨0, rfl, h3, .inl ⟨rfl, T', D', N', h2, hn⟩⟩
theorem jEr {w : World} {d room : Nat} {sa : Option Addr} {n : Int} (hD : qAo w d sa (newD n)) (h1 : 1 <= room) (h2 : room <= 500) (hn : 1 <= jlen room (newD n)) (hl : (newD n).secs.length <= 16384) :
  Calls Tryz.prog 7 #[.pointer (some ⟨d, 0, none⟩), .int .i64 (room : Int)] w fun e w' => ∃ B : TB, e = .returned (.tuple #[.pointer (some ⟨B.tb, 0, none⟩), .int .i64 0]) /\ Here w' B newT (newD n) 0 [] 0 /\ B.d = d /\ B.sa = sa /\ B.room = room /\ (w.heap.size <= B.tb /\ w.heap.size <= B.nb /\ w.heap.size <= B.ab /\ w.heap.size <= B.j) /\ Mod (qBg d sa) w w' := by
 have hL := qZi n; have hs : Std room (newD n) newT [] 0 := jGq h1 h2 hn; have ho : qJf room (newD n) = (0, newD n) := jDp hL (by unfold jlen at hn; omega) hs.clear
 have hr1 : (qEl room (newD n) 0).1 = qCh := by
  have := qIa (room := room) hL.off 0; rw [if_pos (by omega), qRf] at this
  exact this
 have hr2 : (qEl room (newD n) 0).2 = 0 := jDa hL.off (by omega) (by omega)
 have hz : (qEl room (newD n) 0).1.size <= 1024 := qMt hL.b _; refine (qXp hD hL.b (by omega) h1 h2 (by rw [ho]; exact hl) (by rw [ho]) (by rw [ho]; exact hr2) (by rw [ho]; unfold maxLen; simp only; omega) (by rw [ho]; simp only; rw [hr1, qHa]; exact qIy _)).mono fun e w' ⟨N, j, he, ht, hN, hj, hm⟩ => ?_
 rw [ho] at ht; refine ⟨newB N j d sa room, he, ⟨ht, hL, hs, ?_⟩, rfl, rfl, rfl, ⟨?_, hN, ?_, hj⟩, hm⟩
 ·show N ≠ N + 1; omega
 ·show w.heap.size <= N + 1 + 1; omega
 ·show w.heap.size <= N + 1; omega
end
end Go.Proofs.YtkinkgbmlhiakaaGreatDoor
