/- merged: RoAll RoTbS RwW -/
import Derived.Test.YtkinkgbmlhiakaaGreatDoorNb33
import Derived.Test.YtkinkgbmlhiakaaGreatDoorNb32
namespace Go.Proofs.YtkinkgbmlhiakaaGreatDoor
section
open Go Go.RowKit
structure RwV where
 a : Option Addr
 cap : Nat
 vs : List Vl
abbrev RwV.c (x : RwV) : List Value := [.slice x.a x.vs.length x.cap]
theorem qZg (x : RwV) : x.c.length = 1 := rfl
theorem jIc : (Tryz.prog.info? 26).map (fun i => (i.zero, i.size, i.bytes)) = some (some (.slice none 0 0), 1, 24) := by kernel_rfl
structure qRn (w : World) (la : Option Addr) (xs : List RwV) : Prop where
 lies : Lies w 1 RwV.c la xs
 rows : ∀ x ∈ xs, Lies w 2 Vl.cs x.a x.vs
 ok : ∀ x ∈ xs, ∀ v ∈ x.vs, v.Ok /\ v.s.size <= 4194304
theorem qRn.ext {w w' : World} {la : Option Addr} {xs : List RwV} (h : qRn w la xs) (hm : Mod (fun _ => False) w w') : qRn w' la xs := ⟨h.lies.ext hm, fun x hx => (h.rows x hx).ext hm, h.ok⟩
def jKv (name : Int) (cols : List Int) (keys idx : Int) (L : List KV) (xs : List RwV) : Prop := xs.length = L.length /\ ∀ (i : Nat) (p : KV) (x : RwV), L[i]? = some p -> xs[i]? = some x -> qEs name cols keys idx p.1 p.2 x.vs /\ x.vs.length = cols.length
def jGu (w : World) (name : Int) (cols : List Int) (keys idx : Int) (L : List KV) (e : Ending) (w' : World) : Prop :=
 Mod (fun _ => False) w w' /\ ((∃ xs la cap, jKv name cols keys idx L xs /\ e = .returned (.tuple #[.slice la xs.length cap, .int .i64 0]) /\ qRn w' la xs) ∨
  ((∃ p ∈ L, ∀ r, ¬ qEs name cols keys idx p.1 p.2 r) /\ e = .returned (.tuple #[.slice none 0 0, .int .i64 60])))
structure jGi (v wr : World) (name : Int) (cols : List Int) (keys idx : Int) (L : List KV) (i : Nat) (oa : Option Addr) (oc : Nat) (xs : List RwV) : Prop where
 own : Own wr 26 1 oa i oc (xs.flatMap RwV.c)
 new : ∀ b, blk oa b -> v.heap.size <= b
 mod : Mod (fun _ => False) v wr
 len : xs.length = i
 dec : ∀ (j : Nat) (p : KV) (x : RwV), L[j]? = some p -> xs[j]? = some x -> qEs name cols keys idx p.1 p.2 x.vs /\ x.vs.length = cols.length
 rows : ∀ x ∈ xs, Lies wr 2 Vl.cs x.a x.vs
 apart : ∀ x ∈ xs, ∀ b, blk x.a b -> ¬ blk oa b
 ok : ∀ x ∈ xs, ∀ v ∈ x.vs, v.Ok /\ v.s.size <= 4194304
 ne : ∀ x ∈ xs, 0 < x.vs.length
theorem jGi.next {v wr z w4 w5 : World} {name : Int} {cols : List Int} {keys idx : Int} {L : List KV} {i : Nat} {oa oa' : Option Addr} {oc oc' : Nat} {xs : List RwV} (h : jGi v wr name cols keys idx L i oa oc xs) {p : KV} (hp : L[i]? = some p) {r : List Vl} {ra : Option Addr} {rc : Nat}
  (hd : qEs name cols keys idx p.1 p.2 r) (hl : r.length = cols.length) (hc : 1 <= cols.length) (hok : ∀ v ∈ r, v.Ok /\ v.s.size <= 4194304) (hm1 : Mod (fun _ => False) wr z) (hr : Lies w4 2 Vl.cs ra r) (hrn : ∀ b, blk ra b -> z.heap.size <= b) (hm2 : Mod (fun _ => False) z w4)
  (ho : Own w5 26 1 oa' (i + 1) oc' (xs.flatMap RwV.c ++ [.slice ra r.length rc])) (hm3 : Mod (blk oa) w4 w5) (hb : ∀ b, blk oa' b -> blk oa b \/ w4.heap.size <= b) : jGi v w5 name cols keys idx L (i + 1) oa' oc' (xs ++ [⟨ra, rc, r⟩]) := by
 have hlt : ∀ b, blk oa b -> b < wr.heap.size := h.own.lt; have hs1 := hm1.size; have hs2 := hm2.size; have hs0 := h.mod.size; have hrlt : ∀ b, blk ra b -> b < w4.heap.size := fun b hb => hr.lt b (by omega) hb
 have hxlt : ∀ x ∈ xs, ∀ b, blk x.a b -> b < wr.heap.size := fun x hx b hb => (h.rows x hx).lt b (h.ne x hx) hb
 refine ⟨by rw [List.flatMap_append]; exact ho, fun b hb' => ?_, ((h.mod.trans hm1).trans hm2).then hm3 (fun b hb' e => by have := h.new b e; omega), by rw [List.length_append, h.len]; rfl, fun j q x hq hx => ?_, fun x hx => ?_, fun x hx b hb' e => ?_, fun x hx => ?_, fun x hx => ?_⟩
 ·rcases hb b hb' with e | e
  ·exact h.new b e
  ·omega
 ·rw [List.getElem?_append] at hx; split at hx
  ·exact h.dec j q x hq hx
  ·rename_i hj
   have hlen := h.len; have hj2 : j = i := by
    have := (List.getElem?_eq_some_iff.1 hx).1; simp at this
    omega
   subst hj2; rw [hp] at hq; cases hq
   rw [hlen, Nat.sub_self] at hx; cases hx
   exact ⟨hd, hl⟩
 ·rcases List.mem_append.1 hx with hx | hx
  ·exact (((h.rows x hx).ext hm1).ext hm2).mod hm3 (fun _ b hb => h.apart x hx b hb)
  ·rw [List.mem_singleton] at hx; subst hx; exact hr.mod hm3 (fun _ b hb e => by have := hrn b hb; have := hlt b e; omega)
 ·rcases List.mem_append.1 hx with hx | hx
  ·rcases hb b e with e | e
   ·exact h.apart x hx b hb' e
   ·have := hxlt x hx b hb'; omega
  ·rw [List.mem_singleton] at hx; subst hx; have h1 := hrn b hb'; have h2 := hrlt b hb'; rcases hb b e with e | e
   ·have := hlt b e; omega
   ·omega
 ·rcases List.mem_append.1 hx with hx | hx
  ·exact h.ok x hx
  ·rw [List.mem_singleton] at hx; subst hx; exact hok
 ·rcases List.mem_append.1 hx with hx | hx
  ·exact h.ne x hx
  ·rw [List.mem_singleton] at hx; subst hx; show 0 < r.length; omega
theorem qMk.norm {w w' : World} {name : Int} {cols : List Int} {keys idx : Int} {ks vs : ByteArray} {e : Ending} (h : qMk w name cols keys idx ks vs e w') :
  ∃ (la : Option Addr) (n cap : Nat) (E : Int), e = .returned (.tuple #[.slice la n cap, .int .i64 E]) /\ Mod (fun _ => False) w w' ∧
   ((E = 0 /\ ∃ r : List Vl, r.length = n /\ qEs name cols keys idx ks vs r /\ r.length = cols.length /\ (∀ v ∈ r, v.Ok /\ v.s.size <= 4194304) /\ Lies w' 2 Vl.cs la r /\ ∀ b, blk la b -> w.heap.size <= b) \/ (E = 60 /\ ∀ r, ¬ qEs name cols keys idx ks vs r)) := by
 obtain ⟨hm, ⟨r, la, cap, h1, h2, h3, rfl, h4, h5⟩ | ⟨h1, rfl⟩⟩ := h
 ·exact ⟨la, r.length, cap, 0, rfl, hm, .inl ⟨rfl, r, rfl, h1, h2, h3, h4, h5⟩⟩
 ·exact ⟨none, 0, 0, 60, rfl, hm, .inr ⟨rfl, h1⟩⟩
set_option maxRecDepth 100000
set_option maxHeartbeats 4000000 in
theorem qVo {w : World} {ca : Option Addr} {cols : List Int} {name keys idx : Int} {cc : Nat} (x : Value) {L : List KV} (hl : Lies w 1 oneI ca cols) (hn : cols.length <= 4194304) (hf : qJt name cols keys idx = true) (hL : L.length <= 8388608) (hsz : ∀ p ∈ L, p.1.size <= 4194304 /\ p.2.size <= 4194304)
  (hb : ∀ V : World, Mod (fun _ => False) w V -> Calls Tryz.prog 38 #[x, .string (ba (qAg name.toNat 0))] V (jGt V L)) :
  Calls Tryz.prog 14 #[x, .agg #[.int .u8 name, .slice ca cols.length cc, .int .i64 keys, .int .i64 idx]] w (jGu w name cols keys idx L) := by
 obtain ⟨i0, hi0, hz0, hz1, hz2⟩ := info_parts jIc; have hma : Mod (fun _ => False) w (w.alloc (.cells #[.int .u8 name, .slice ca cols.length cc, .int .i64 keys, .int .i64 idx] 24)) := (Mod.refl _ _).alloc _
 have ha : (w.alloc (.cells #[.int .u8 name, .slice ca cols.length cc, .int .i64 keys, .int .i64 idx] 24)).heap[w.heap.size]? = some (.cells #[.int .u8 name, .slice ca cols.length cc, .int .i64 keys, .int .i64 idx] 24 (0, 0)) := heap_alloc_new _ _; obtain ⟨_, n1, n2, k1, k2, _, _⟩ := qKv hf; have HM := hid hma; have HF := hid (qPh name keys idx cc (hl.ext hma) (by omega))
 rw [hf] at HF; have HL := hid (hl.ext hma); have HSz := hid hsz; have HBg := hid (fun (V : World) (hm : Mod (fun _ => False) (w.alloc (.cells #[.int .u8 name, .slice ca cols.length cc, .int .i64 keys, .int .i64 idx] 24)) V) => hb V (hma.trans hm))
 have HRow := hid (fun (V : World) (hm : Mod (fun _ => False) (w.alloc (.cells #[.int .u8 name, .slice ca cols.length cc, .int .i64 keys, .int .i64 idx] 24)) V) => row4 ((hm.block _ (lth ha) (fun h => h)).trans ha))
 have HCv : Hid (∀ W : World, (convert 128 9 (.slice (some ⟨W.heap.size, 0, none⟩) 2 2)).run Tryz.prog (W.alloc (.cells #[.int .u8 name, .int .u8 0] 5)) = .ok (.string (ba (qAg name.toNat 0))) (W.alloc (.cells #[.int .u8 name, .int .u8 0] 5))) := hid (fun W =>
  run_convert_bytes_back (P := Tryz.prog) _ 128 9 5 ⟨W.heap.size, 0, none⟩ 2 (qAg name.toNat 0) Tryz.underlying128 Tryz.underlying5 Tryz.underlying9 (fun j hj => by
   rw [Addr.add_lit, cell_of_row _ _ _ _ _ _ (heap_alloc_new _ _)]; have : j = 0 \/ j = 1 := by simp [qAg] at hj; omega
   rcases this with rfl | rfl
   ·simp [qAg]; omega
   ·simp [qAg]))
 obtain ⟨b0, b1, b2, b3⟩ := row4 ha; have hcl : 1 <= cols.length := by omega
 clear hma ha hl hf hb hsz; go_enter Tryz.func14, Tryz.ntmps14
 go_upto_region 1 with fail
 generalize w.alloc (.cells #[.int .u8 name, .slice ca cols.length cc, .int .i64 keys, .int .i64 idx] 24) = C at *; go_upto_region 5 with (first
  | (go_at_call 37; refine HF.out.mono ?_; rintro e w1 ⟨rfl, hm⟩; have HM1 := hid hm; clear b0 b1 b2 b3; obtain ⟨b0, b1, b2, b3⟩ := HRow.out w1 hm; have hcv := HCv.out w1; clear hm)
  | (go_at_call 38; refine (HBg.out _ (HM1.out.alloc _)).mono ?_; rintro e w2 ⟨la, lc, rfl, hl2, hm2⟩; have HL2 := hid hl2; have HM2 := hid ((HM1.out.alloc _).trans hm2); clear hl2 hm2))
 clear b0 b1 b2 b3 HF HBg HCv hcv; have HDec := hid (fun (V : World) (hm : Mod (fun _ => False) w2 V) (p : KV) (hp : p ∈ L) => qNt (w := V) name keys idx cc p.1 p.2 (HL.out.ext (HM2.out.trans hm)) hn (HSz.out p hp).1 (HSz.out p hp).2)
 have HRow2 := hid (fun (V : World) (hm : Mod (fun _ => False) w2 V) => HRow.out V (HM2.out.trans hm))
 have HI := hid hi0; have HI0 := hid hz0; have HI1 := hid hz1; have HI2 := hid hz2; clear HRow hi0 hz0 hz1 hz2; go_loopw [6, 21] (fun so si wr => ∃ (i : Nat) (oa : Option Addr) (oc : Nat) (xs : List RwV), i <= L.length /\ so = .slice oa i oc /\ si = .int .i64 (i : Int) /\ jGi w2 wr name cols keys idx L i oa oc xs) (fun _ si _ => L.length - (intOf si).toNat)
 case atStart => exact ⟨0, none, 0, [], Nat.zero_le _, rfl, rfl, ⟨Own.nil _ _ _, (fun b hb => (qAk b hb).elim), Mod.refl _ _, rfl, (fun j p x _ hx => by simp at hx), (fun x hx => by cases hx), (fun x hx => by cases hx), (fun x hx => by cases hx), fun x hx => by cases hx⟩⟩
 case round =>
  obtain ⟨i, oa, oc, xs, hil, rfl, rfl, hrel⟩ := hrel; have HRel := hid hrel; clear hrel; by_cases hlt : i < L.length
  ·have d0 : decide ((i : Int) < (L.length : Int)) = true := by simp; omega
   have d1 : decide (i < L.length) = true := by simpa using hlt
   have hdi : ¬ L.length <= i := by omega
   obtain ⟨⟨pk, pv⟩, hx⟩ : ∃ p, L[i]? = some p := ⟨_, List.getElem?_eq_getElem hlt⟩; have HX := hid hx; have hlw := HL2.out.ext HRel.out.mod; obtain ⟨g, off, rfl⟩ := hlw.some (by omega)
   have q0 := hlw.cell qLr hx (j := 0) rfl; have q1 := hlw.cell qLr hx (j := 1) rfl; simp only [Nat.add_zero] at q0; have hmz : Mod (fun _ => False) wr (wr.alloc (.cells #[.string pk, .string pv] 41)) := (Mod.refl _ _).alloc _
   have HMz := hid hmz; have HMw := hid (HRel.out.mod.trans hmz); have hbz : (wr.alloc (.cells #[.string pk, .string pv] 41)).heap[wr.heap.size]? = some (.cells #[.string pk, .string pv] 41 (0, 0)) := heap_alloc_new _ _; have HBz := hid hbz; have HD := hid (HDec.out _ (HRel.out.mod.trans hmz) (pk, pv) (List.mem_of_getElem? hx)); clear hx hlw hmz hbz; go_upto_region 7 with fail
   generalize wr.alloc (.cells #[.string pk, .string pv] 41) = Z at *; obtain ⟨b0, b1, b2, b3⟩ := HRow2.out Z HMw.out; have z0 : Z.cell? ⟨wr.heap.size, 0, none⟩ = some (.string pk) := by rw [cell_of_row _ _ _ _ _ _ HBz.out]; rfl
   have z1 : Z.cell? ⟨wr.heap.size, 1, none⟩ = some (.string pv) := by rw [cell_of_row _ _ _ _ _ _ HBz.out]; rfl
   clear q0 q1; go_upto_if 32 with (go_at_call 30; refine HD.out.mono ?_; intro e w3 h3; obtain ⟨ra, n, rc, E, rfl, hm3, hE⟩ := h3.norm; have HM3 := hid hm3; have HE := hid hE; clear h3 hm3 hE)
   clear b0 b1 b2 b3 z0 z1; rcases HE.out with ⟨rfl, r, rfl, e1, e2, e3, e4, e5⟩ | ⟨rfl, hno⟩
   ·have HSr : Hid (Src (w3.alloc (.cells #[.slice ra r.length rc] 26)) 1 (some ⟨w3.heap.size, 0, none⟩) 1 [.slice ra r.length rc]) := hid (qAy (heap_alloc_new _ _) rfl); have hm4 : Mod (fun _ => False) w3 (w3.alloc (.cells #[.slice ra r.length rc] 26)) := (Mod.refl _ _).alloc _
    have HOb := hid (((HRel.out.own.mod HMz.out (fun _ _ e => e)).mod HM3.out (fun _ _ e => e)).mod hm4 (fun _ _ e => e))
    have HM4 := hid (HM3.out.trans hm4); have HR4 := hid (e4.ext hm4); have HE1 := hid e1; have HE3 := hid e3; have HE5 := hid e5; have HE2 := hid e2; clear e1 e2 e3 e4 e5 hm4 HE; go_wp2_with (at_builtin; refine qAc rfl (.tmp 34) (.tmp 36) 51 rfl 26 i0 _ 1 24 Tryz.underlying51 HI.out HI0.out HI1.out HI2.out rfl oa i oc _ rfl HOb.out (some ⟨w3.heap.size, 0, none⟩) 1 1 _ rfl HSr.out (by intro u hu; simp at hu; subst hu; rfl) (by unfold maxLen; omega) (by omega) ?_; intro oa' oc' w5 hown5 hm5 hb5 hn5 hr5; have Hown5 := hid hown5; have Hm5 := hid hm5; have Hb5 := hid hb5; clear hown5 hm5 hb5 hn5 hr5)
    have HN := hid (HRel.out.next HX.out HE1.out HE2.out hcl HE3.out HMz.out HR4.out HE5.out HM4.out Hown5.out Hm5.out Hb5.out); go_roundw
    case rel => exact ⟨i + 1, oa', oc', _, by omega, rfl, by go_num, HN.out⟩
    case measure => simp [intOf]; omega
   ·have HNo := hid hno; clear hno HE; go_wp2_with fail
    go_ret2; exact ⟨HM.out.trans (HM2.out.trans (HMw.out.trans HM3.out)), .inr ⟨⟨(pk, pv), List.mem_of_getElem? HX.out, HNo.out⟩, rfl⟩⟩
  ·have hie : i = L.length := by omega
   have d0 : decide ((i : Int) < (L.length : Int)) = false := by simp; omega
   have d1 : decide (i < L.length) = false := by simpa using hlt
   clear hlt; go_wp2_with fail
   go_ret2; refine ⟨HM.out.trans (HM2.out.trans HRel.out.mod), .inl ⟨xs, oa, oc, ⟨by rw [HRel.out.len, hie], HRel.out.dec⟩, by rw [HRel.out.len]; rfl, ?_⟩⟩
   have ho := HRel.out.own; rw [<- HRel.out.len] at ho; exact ⟨ho.lies, HRel.out.rows, HRel.out.ok⟩
end
section
open Go Go.RowKit
def qTj (w : World) (A : List Int) (m : Nat) (e : Ending) (w' : World) : Prop := Mod (fun _ => False) w w' /\ m <= 1000 /\ ∃ (xs : List RwV) (la : Option Addr) (cap : Nat), e = .returned (.tuple #[.slice la xs.length cap, .int .i64 0]) /\ qRn w' la xs /\ xs.length = m /\ ∀ x ∈ xs, ∃ n ∈ A, x.vs = rowT n
theorem qZc {w w' : World} {c : Int} {A ns : List Int} {m : Nat} {e : Ending} (hc : AB c) (hA : ∀ n ∈ A, I64 n) (hm : ∀ n, n ∈ ns ↔ n ∈ A) (hl : m = ns.length) (hb : m <= 1000) (h : jGu w c [0, 0] 1 1 (ns.map (fun n => (kT c n, vT n))) e w') : qTj w A m e w' := by
 obtain ⟨h1, ⟨xs, la, cap, ⟨h2, h3⟩, h4, h5⟩ | ⟨⟨p, hp, hno⟩, _⟩⟩ := h
 ·refine ⟨h1, hb, xs, la, cap, h4, h5, by rw [h2, hl, List.length_map], fun x hx => ?_⟩
  obtain ⟨i, hi⟩ := List.getElem?_of_mem hx; have hlt : i < xs.length := (List.getElem?_eq_some_iff.1 hi).1; rw [h2, List.length_map] at hlt; obtain ⟨n, hn⟩ : ∃ n, ns[i]? = some n := ⟨_, List.getElem?_eq_getElem hlt⟩; have hp : (ns.map (fun n => (kT c n, vT n)))[i]? = some (kT c n, vT n) := by rw [List.getElem?_map, hn]; rfl
  have hnA := (hm n).1 (List.mem_of_getElem? hn); exact ⟨n, hnA, jBs (qYu hc (hA n hnA)) (h3 i _ x hp hi).1⟩
 ·exfalso
  obtain ⟨n, hn, rfl⟩ := List.mem_map.1 hp; exact hno _ (qYu hc (hA n ((hm n).1 hn)))
theorem jJq {W wr : World} {B : TB} {bx s j : Nat} {T : TM} {D : Dsk} {k : Nat} {L : List KV} {N : Nat} {A C : List Int} {ls ms : List (Int × Value)} (h : qJc W wr B bx s j T D k L N A C ls ms) (hj : j <= 120) :
  Calls Tryz.prog 14 #[.pointer (some ⟨B.tb, 0, none⟩), .agg #[.int .u8 97, .slice (some ⟨s, 0, none⟩) 2 2, .int .i64 1, .int .i64 1]] wr (qTj wr A ls.length) := by
 obtain ⟨ns, h1, h2, h3⟩ := h.tab.seeA; have hll := h.ll; have hfl := List.length_filter_le (preB (ba (qAg 97 0))) L; refine (qVo (cc := 2) (name := 97) (keys := 1) (idx := 1) (L := L.filter (preB (ba (qAg 97 0)))) _ h.at'.la (by show 2 <= _; omega) (qRv (.inl rfl)) (by omega) (fun p hp => ?_) (fun V hm => qNz (h.here.ext hm) _)).mono fun e w' ha => ?_
 ·have := h.here.std.ti.1.ok p (List.mem_filter.1 hp).1; have a1 := this.1.2; have a2 := this.2; omega
 ·rw [h1] at ha; exact qZc (.inl rfl) h.tab.ka h3 (h.m1.len h2 h3) (by have := h.m1.len h2 h3; have e := congrArg List.length h1; rw [List.length_map] at e; omega) ha
theorem jJp {W wr : World} {B : TB} {bx s j : Nat} {T : TM} {D : Dsk} {k : Nat} {L : List KV} {N : Nat} {A C : List Int} {ls ms : List (Int × Value)} (h : qJc W wr B bx s j T D k L N A C ls ms) (hj : j <= 120) :
  Calls Tryz.prog 14 #[.pointer (some ⟨B.tb, 0, none⟩), .agg #[.int .u8 98, .slice (some ⟨s + 1 + 1, 0, none⟩) 2 2, .int .i64 1, .int .i64 1]] wr (qTj wr C ms.length) := by
 obtain ⟨ns, h1, h2, h3⟩ := h.tab.seeB; have hll := h.ll; have hfl := List.length_filter_le (preB (ba (qAg 98 0))) L; refine (qVo (cc := 2) (name := 98) (keys := 1) (idx := 1) (L := L.filter (preB (ba (qAg 98 0)))) _ h.at'.lb (by show 2 <= _; omega) (qRv (.inr rfl)) (by omega) (fun p hp => ?_) (fun V hm => qNz (h.here.ext hm) _)).mono fun e w' ha => ?_
 ·have := h.here.std.ti.1.ok p (List.mem_filter.1 hp).1; have a1 := this.1.2; have a2 := this.2; omega
 ·rw [h1] at ha; exact qZc (.inr rfl) h.tab.kb h3 (h.m2.len h2 h3) (by have := h.m2.len h2 h3; have e := congrArg List.length h1; rw [List.length_map] at e; omega) ha
end
section
open Go Go.RowKit
def qDm : List Int := [0, 1]
def qDb : List Vl := [⟨5, ⟨#[]⟩⟩, ⟨0, ⟨#[120]⟩⟩]
def qFi : List UInt8 := [97, 0, 128, 0, 0, 0, 0, 0, 0, 5]
def qUh : List UInt8 := [97, 1, 120, 0, 128, 0, 0, 0, 0, 0, 0, 5]
set_option maxRecDepth 100000
theorem qZu (w : World) : Calls Tryz.prog 29 #[] w fun e w' => Mod (fun _ => False) w w' /\ ∃ ca, e = .returned (.agg #[.int .u8 97, .slice ca qDm.length 2, .int .i64 1, .int .i64 1]) /\ Lies w' 1 oneI ca qDm := by
 have hs : (w.alloc (.cells #[.int .u8 97, .slice (some ⟨w.heap.size + 1, 0, none⟩) 2 2, .int .i64 1, .int .i64 1] 24)).heap.size = w.heap.size + 1 := by simp
 have h1 : ((w.alloc (.cells #[.int .u8 97, .slice (some ⟨w.heap.size + 1, 0, none⟩) 2 2, .int .i64 1, .int .i64 1] 24)).alloc (.cells #[.int .i64 0, .int .i64 1] 44)).heap[w.heap.size]? = some (.cells #[.int .u8 97, .slice (some ⟨w.heap.size + 1, 0, none⟩) 2 2, .int .i64 1, .int .i64 1] 24 (0, 0)) := by
  rw [Below.heap_alloc _ _ _ (by omega)]
  exact heap_alloc_new _ _
 have h2 : ((w.alloc (.cells #[.int .u8 97, .slice (some ⟨w.heap.size + 1, 0, none⟩) 2 2, .int .i64 1, .int .i64 1] 24)).alloc (.cells #[.int .i64 0, .int .i64 1] 44)).heap[w.heap.size + 1]? = some (.cells (qDm.flatMap oneI).toArray 44 (0, 0)) := by
  have h := heap_alloc_new (w.alloc (.cells #[.int .u8 97, .slice (some ⟨w.heap.size + 1, 0, none⟩) 2 2, .int .i64 1, .int .i64 1] 24)) (.cells #[.int .i64 0, .int .i64 1] 44); rw [hs] at h; exact h
 have HM : Hid (Mod (fun _ => False) w ((w.alloc (.cells #[.int .u8 97, .slice (some ⟨w.heap.size + 1, 0, none⟩) 2 2, .int .i64 1, .int .i64 1] 24)).alloc (.cells #[.int .i64 0, .int .i64 1] 44))) := hid (((Mod.refl _ _).alloc _).alloc _)
 have H1 := hid h1; have H2 := hid h2; clear hs h1 h2; go_enter Tryz.func29, Tryz.ntmps29
 go_wp2_with fail
 generalize (w.alloc (.cells #[.int .u8 97, .slice (some ⟨w.heap.size + 1, 0, none⟩) 2 2, .int .i64 1, .int .i64 1] 24)).alloc (.cells #[.int .i64 0, .int .i64 1] 44) = Z at *; obtain ⟨g0, g1, g2, g3⟩ := row4 H1.out; exact bodyPost_ret (v := .agg #[.int .u8 97, .slice (some ⟨w.heap.size + 1, 0, none⟩) 2 2, .int .i64 1, .int .i64 1]) (by simp [results, Tryz.results29, go_sem, g0, g1, g2, g3]) rfl ⟨HM.out, _, rfl, qDn oneI_len H2.out⟩
theorem jCz : uvar 1 = [1] := by rw [qCk (by decide)]; rfl
theorem qWp : Good 97 qDm 1 1 qDb := by
 refine ⟨?_, rfl, fun j c v hc hv => ?_, fun j v _ hv => ?_⟩
 ·unfold qJt; rw [if_pos (fun k hk => by simp [qDm] at hk; rcases hk with rfl | rfl; exact .inl rfl; exact .inr rfl)]
  rfl
 ·have hj := (List.getElem?_eq_some_iff.1 hv).1; have h2 : j = 0 \/ j = 1 := by simp [qDb] at hj; omega
  rcases h2 with rfl | rfl
  ·cases hc; cases hv; unfold qCu; rw [if_pos rfl, ByteArray.toList_eq]; rfl
  ·cases hc; cases hv; rfl
 ·have hj := (List.getElem?_eq_some_iff.1 hv).1; have h2 : j = 0 \/ j = 1 := by simp [qDb] at hj; omega
  rcases h2 with rfl | rfl <;> cases hv <;> rfl
theorem qUg : pxOf 97 qDm 1 1 qDb = ⟨qFi, [1, 120], qUh⟩ := by
 have ho : ordL 5 = [128, 0, 0, 0, 0, 0, 0, 5] := by decide +kernel
 have h1 : qDs qDm qDb 1 = [128, 0, 0, 0, 0, 0, 0, 5] := by
  unfold qDs qDm qDb; simp [qEc, qQz, ho]
 have h2 : valL qDm qDb 1 2 = [1, 120] := by
  have ht : qCy ⟨#[120]⟩ = [1, 120] := by
   unfold qCy; rw [show (⟨#[120]⟩ : ByteArray).size = 1 from rfl, jCz]; rfl
  unfold valL qDm qDb; simp [qJi, ht]
 have h3 : idxL qDm qDb 1 = [120, 0] := by
  unfold idxL qDm qDb; simp [qEc, qQz]
 unfold pxOf qFu qWn pxL; rw [show (1 : Int).toNat = 1 from rfl, show (97 : Int).toNat = 97 from rfl, h1, show qDm.length = 2 from rfl, h2, h3, if_pos (by decide)]
 simp [qAg, qFi, qUh]
theorem qNd : qBx 97 qDm 1 1 qDb = some ⟨qFi, [1, 120], qUh⟩ := by
 rw [qGt qWp (by rw [qUg]; decide), qUg]
theorem qOn : ∀ v ∈ qDb, v.Ok := by
 intro v hv; simp [qDb] at hv
 rcases hv with rfl | rfl
 ·exact ⟨by decide, by decide, by decide⟩
 ·exact ⟨by decide, by decide, by decide⟩
theorem qLh : (∀ k, (qDs qDm qDb k).length <= 1152921504606846976) /\ ∀ j k, (valL qDm qDb j k).length <= 1152921504606846976 :=
 qHk (by decide) qOn (fun v hv => by simp [qDb] at hv; rcases hv with rfl | rfl <;> decide)
set_option maxHeartbeats 4000000 in
theorem qVy (w : World) : Calls Tryz.prog 9 #[] w fun e w' => e = .returned (.bool true) /\ Mod (fun _ => False) w w' := by
 have HP := hid (fun W : World => qZu W)
 have HE := hid (fun (W : World) (ca ra : Option Addr) (hl : Lies W 1 oneI ca qDm) (hr : Lies W 2 Vl.cs ra qDb) => qVb (w := W) 97 1 1 2 2 hl hr (by decide) (by decide) qOn qLh.1 qLh.2)
 rw [qNd] at HE; have he : qRc (some ⟨qFi, [1, 120], qUh⟩) = .tuple #[.agg #[.string (ba qFi), .string (ba [1, 120])], .int .i64 0] := rfl; rw [he] at HE; clear he; go_enter Tryz.func9, Tryz.ntmps9
 go_upto_region 2 with (first
  | (go_at_call 29; refine (HP.out _).mono ?_; rintro e w1 ⟨hm1, ca, rfl, hl1⟩; have HM1 := hid hm1; have HL1 := hid hl1; have HR1 : Hid (Lies (w1.alloc (.cells #[.int .i64 5, .string ⟨#[]⟩, .int .i64 0, .string ⟨#[120]⟩] 46)) 2 Vl.cs (some ⟨w1.heap.size, 0, none⟩) qDb) := hid (qDn qFe (heap_alloc_new _ _)); have HL2 := hid (hl1.ext ((Mod.refl (fun _ => False) _).alloc (.cells #[.int .i64 5, .string ⟨#[]⟩, .int .i64 0, .string ⟨#[120]⟩] 46))); clear hm1 hl1)
  | (go_at_call 19; refine (HE.out _ _ _ HL2.out HR1.out).mono ?_; rintro e w2 ⟨rfl, hm2⟩; have HM2 := hid hm2; clear hm2))
 have HMU := hid (((HM1.out.alloc (.cells #[.int .i64 5, .string ⟨#[]⟩, .int .i64 0, .string ⟨#[120]⟩] 46)).trans HM2.out).alloc (.cells #[.string (ba qFi), .string (ba [1, 120])] 41)); have HX : Hid (∀ W, Mod (fun _ => False) (w2.alloc (.cells #[.string (ba qFi), .string (ba [1, 120])] 41)) W -> W.cell? ⟨w2.heap.size, 0, none⟩ = some (.string (ba qFi)) /\ W.cell? ⟨w2.heap.size, 1, none⟩ = some (.string (ba [1, 120]))) := hid (fun W hm => by
  have h := row2 ((hm.block _ (lth (heap_alloc_new _ _)) (fun h => h)).trans (heap_alloc_new _ _))
  exact ⟨h.1, h.2.1⟩)
 clear HE; generalize w2.alloc (.cells #[.string (ba qFi), .string (ba [1, 120])] 41) = U at *; have HD := hid (fun (W : World) (ca : Option Addr) (hl : Lies W 1 oneI ca qDm) => ((qNt (w := W) 97 1 1 2 (ba qFi) (ba [1, 120]) hl (by decide) (by decide) (by decide)).mono (fun e w' h => by
  refine ⟨h.1, ?_⟩; have hy := qVf qOn qNd; rcases h.2 with ⟨r, la, cap, h1, h2, h3, h4, h5, h6⟩ | ⟨h1, h2⟩
  ·have hr := jBs hy h1; subst hr; exact ⟨la, cap, h4, h5⟩
  ·exact absurd hy (h1 _) : ∀ e w', qMk W 97 qDm 1 1 (ba qFi) (ba [1, 120]) e w' -> Mod (fun _ => False) W w' /\ ∃ la cap, e = .returned (.tuple #[.slice la qDb.length cap, .int .i64 0]) /\ Lies w' 2 Vl.cs la qDb)))
 have hU0 : Mod (fun _ => False) U U.drew := (Mod.refl _ _).drew
 obtain ⟨y0, y1⟩ := HX.out _ hU0; go_region_held3 (fun W' => W'.cell? ⟨w2.heap.size, 0, none⟩ = some (.string (ba qFi)) /\ W'.cell? ⟨w2.heap.size, 1, none⟩ = some (.string (ba [1, 120])))
  (first | exact ⟨u0, u1⟩ | exact ⟨z0, z1⟩ | exact ⟨y0, y1⟩ | go_keep)
  (first
   | (go_at_call 29; refine (HP.out _).mono ?_; rintro e w3 ⟨hm3, ca3, rfl, hl3⟩; have HM3 := hid (hU0.trans hm3); have HL3 := hid hl3; obtain ⟨z0, z1⟩ := HX.out _ HM3.out; clear hm3 hl3)
   | (go_at_call 30; refine (HD.out _ _ HL3.out).mono ?_; rintro e w4 ⟨hm4, la4, cap4, rfl, hl4⟩; have HM4 := hid (HM3.out.trans hm4); have HL4 := hid hl4; obtain ⟨u0, u1⟩ := HX.out _ HM4.out; clear hm4 hl4))
 all_goals
  rw [show ba qFi = (⟨#[97, 0, 128, 0, 0, 0, 0, 0, 0, 5]⟩ : ByteArray) from rfl] at u0
  rw [show ba [1, 120] = (⟨#[1, 120]⟩ : ByteArray) from rfl] at u1
  have h2 : qDb.length = 2 := rfl; obtain ⟨g, off, rfl⟩ := HL4.out.some (by decide)
  have q0 := HL4.out.cell qFe (i := 0) (x := ⟨5, ⟨#[]⟩⟩) rfl (j := 0) rfl; simp only [Nat.zero_mul, Nat.add_zero] at q0; go_wp2_with fail
  go_ret; exact ⟨rfl, HMU.out.trans HM4.out⟩
end
end Go.Proofs.YtkinkgbmlhiakaaGreatDoor
