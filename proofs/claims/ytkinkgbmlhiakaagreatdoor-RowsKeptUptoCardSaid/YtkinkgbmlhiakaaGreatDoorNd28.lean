/- merged: TwS TrN -/
import Derived.Test.YtkinkgbmlhiakaaGreatDoorNd21
import Derived.Test.YtkinkgbmlhiakaaGreatDoorNd27
import Derived.Test.YtkinkgbmlhiakaaGreatDoorNd05
import Derived.Deep.LoopGhost
namespace Go.Proofs.YtkinkgbmlhiakaaGreatDoor
section
open Go Go.RowKit
theorem jJs : (Tryz.prog.info? 167).map (fun i => (i.zero, i.size, i.bytes)) = some (some (.agg #[.int .i64 0, .string ⟨#[]⟩]), 2, 24) := by kernel_rfl
noncomputable def chN (p : Int × NP) : Chg := ⟨p.1, ndB p.2⟩
def chA (p : Int × Int) : Chg := ⟨p.1, frB p.2⟩
theorem qQi {w : World} (x : Int) (y : ByteArray) (t : TypeId) : Src (w.alloc (.cells #[.int .i64 x, .string y] t)) 2 (some ⟨w.heap.size, 0, none⟩) 1 [.int .i64 x, .string y] := qAw (heap_alloc_new w _) rfl
theorem qQj {x : Int} {y : ByteArray} : ∀ u ∈ ([.int .i64 x, .string y] : List Value), u.oneCell' = true := by
 intro u hu; simp at hu; rcases hu with rfl | rfl <;> rfl
theorem qPj {w : World} {t : TypeId} {size n cap : Nat} {la : Option Addr} {xs : List Value} (h : Own w t size la n cap xs) (o : Obj) : Own (w.alloc o) t size la n cap xs := h.mod (S := fun _ => False) ((Mod.refl _ w).alloc o) (fun _ _ e => e)
structure SRel {α : Type} (f : Int × α -> Chg) (F : Int -> Option α) (w wr : World) (mb r : Nat) (l : List (Int × Value)) (pre : List Chg) (g : Nat) (out : Value) (ln : List (Int × α)) (la : Option Addr) (cap : Nat) (left : Int -> Prop) : Prop where
 out : out = .slice la (pre.length + ln.length) cap
 own : Own wr 167 2 la (pre.length + ln.length) cap ((pre ++ ln.map f).flatMap Chg.cs)
 rng : qCf KI.kv wr mb r l left g
 nd : (ln.map (·.1)).Nodup
 mem : ∀ x y, (x, y) ∈ ln -> F x = some y
 lft : ∀ k, left k ↔ k ∈ l.map (·.1) /\ k ∉ ln.map (·.1)
 bs : ∀ b, blk la b -> w.heap.size <= b /\ b ≠ r
 mod : Mod (fun _ => False) w wr
theorem SRel.done {α : Type} {f : Int × α -> Chg} {F : Int -> Option α} {w wr : World} {mb r : Nat} {l : List (Int × Value)} {pre : List Chg} {g : Nat} {out : Value} {ln : List (Int × α)} {la : Option Addr} {cap : Nat} {left : Int -> Prop} (h : SRel f F w wr mb r l pre g out ln la cap left) (hn : ∀ k, ¬ left k)
  (_hl : ∀ x, F x = none -> aget l x = none) (hs : ∀ x y, F x = some y -> (aget l x).isSome = true) : ∀ x y, (x, y) ∈ ln ↔ F x = some y := fun x y => by
 refine ⟨h.mem x y, fun hy => ?_⟩
 have h1 : x ∈ l.map (·.1) := (qAx l x).1 (hs x y hy); have h2 : x ∈ ln.map (·.1) := by
  by_cases h2 : x ∈ ln.map (·.1)
  ·exact h2
  ·exact absurd ((h.lft x).2 ⟨h1, h2⟩) (hn x)
 obtain ⟨p, hp, hpx⟩ := List.mem_map.1 h2; have h3 := h.mem p.1 p.2 hp; rw [hpx, hy] at h3; cases h3
 rw [<- hpx]; exact hp
theorem SRel.snoc {α : Type} {f : Int × α -> Chg} {F : Int -> Option α} {w wr w2 : World} {mb r : Nat} {l : List (Int × Value)} {pre : List Chg} {g g' : Nat} {out : Value} {ln : List (Int × α)} {la la' : Option Addr} {cap cap' : Nat} {left : Int -> Prop} (h : SRel f F w wr mb r l pre g out ln la cap left) {k : Int} {y : α} (hk : left k) (hy : F k = some y)
  (ho : Own w2 167 2 la' (pre.length + ln.length + 1) cap' ((pre ++ ln.map f).flatMap Chg.cs ++ [.int .i64 (f (k, y)).pos, .string (f (k, y)).data])) (hr : qCf KI.kv w2 mb r l (fun x => left x /\ x ≠ k) g') (hb : ∀ b, blk la' b -> w.heap.size <= b /\ b ≠ r) (hm : Mod (fun _ => False) w w2) :
  SRel f F w w2 mb r l pre g' (.slice la' (pre.length + ln.length + 1) cap') (ln ++ [(k, y)]) la' cap' (fun x => left x /\ x ≠ k) := by
 have hlen : pre.length + (ln ++ [(k, y)]).length = pre.length + ln.length + 1 := by simp; omega
 refine ⟨by rw [hlen], ?_, hr, ?_, fun a b hab => ?_, fun x => ?_, hb, hm⟩
 ·rw [hlen, List.map_append, <- List.append_assoc, List.flatMap_append]; exact ho
 ·rw [List.map_append]; refine List.nodup_append.2 ⟨h.nd, by simp, fun a ha b hb e => ?_⟩
  simp at hb
  subst e; rw [hb] at ha; exact ((h.lft k).1 hk).2 ha
 ·rcases List.mem_append.1 hab with hab | hab
  ·exact h.mem a b hab
  ·rw [List.mem_singleton] at hab; cases hab
   exact hy
 ·rw [List.map_append, List.mem_append, h.lft x]; simp only [List.map_cons, List.map_nil, List.mem_singleton]; exact ⟨fun ⟨⟨h1, h2⟩, h3⟩ => ⟨h1, fun h4 => h4.elim h2 h3⟩, fun ⟨h1, h2⟩ => ⟨⟨h1, fun h3 => h2 (.inl h3)⟩, fun h3 => h2 (.inr h3)⟩⟩
theorem qJd {l : List (Int × Value)} (hn : (l.map (·.1)).Nodup) {k : Int} {v : Value} (h : (k, v) ∈ l) : aget l k = some v := by
 have h1 : (aget l k).isSome = true := (qAx l k).2 (List.mem_map.2 ⟨_, h, rfl⟩); obtain ⟨u, hu⟩ := Option.isSome_iff_exists.1 h1; have h2 := qQn hu; obtain ⟨i, hi, hie⟩ := List.getElem_of_mem h; obtain ⟨j, hj, hje⟩ := List.getElem_of_mem h2; have : (l.map (·.1))[i]? = (l.map (·.1))[j]? := by rw [List.getElem?_map, List.getElem?_map, List.getElem?_eq_getElem hi, List.getElem?_eq_getElem hj, hie, hje]; rfl
 have hij := (List.getElem?_inj (by simpa using hi) hn).1 this
 subst hij; rw [hie] at hje; cases hje
 exact hu
theorem qAv.nodup {w : World} {b : Nat} {l : List (Int × Value)} (h : qAv KI.kv w b l) : (l.map (·.1)).Nodup := by
 obtain ⟨es, clock, _, _, h3, _⟩ := h; exact h3
set_option maxRecDepth 100000
set_option maxHeartbeats 4000000 in
theorem qSt {S : Nat -> Prop} {w : World} {B : TB} {C : WB} {T : TM} {D : Dsk} {W : WM} (h : Ws S w B C T D W) (hq : (0 <= W.root /\ W.root <= 1152921504606846976) /\ (0 <= W.next /\ W.next <= 1152921504606846976) /\ (0 <= W.free /\ W.free <= 1152921504606846976) /\ (0 <= W.count /\ W.count <= 1152921504606846976))
  (ht : ∀ x, qNo W x -> 0 <= x /\ x <= 1152921504606846976) (ha : ∀ x y, W.after x = some y -> 0 <= y /\ y <= 1152921504606846976) (hl : ∀ l : List Int, l.Nodup -> (∀ x ∈ l, qNo W x) -> l.length <= 2199023255552) :
  Calls Tryz.prog 34 #[.pointer (some ⟨C.wb, 0, none⟩)] w fun e w' => ∃ (cs : List Chg) (ln : List (Int × NP)) (la : List (Int × Int)) (a : Option Addr) (cap : Nat), e = .returned (.slice a cs.length cap) /\ Laid W cs ln la /\ Lies w' 2 Chg.cs a cs /\ (∀ b, blk a b -> w.heap.size <= b) /\ Mod (fun _ => False) w w' := by
 obtain ⟨i0, hi, hz0, hz1, hz2⟩ := info_parts jJs; obtain ⟨_, _, _, _, _, c5, c6, _, _⟩ := h.cells; obtain ⟨l1, m1, e1, e2⟩ := id h.work.nodes; obtain ⟨l2, m2, e3⟩ := id h.work.after; have HW := hid h; have HM1 := hid m1; have HM2 := hid m2; have HE1 := hid e1; have HE2 := hid e2; have HE3 := hid e3; have HQ := hid hq; have HT := hid ht; have HA := hid ha; have HL := hid hl; clear h m1 m2 e1 e2 e3 hq ht ha hl; go_enter Tryz.func34, Tryz.ntmps34
 go_upto_region 3 with (at_range; refine qCt rfl _ 81 rfl KI Tryz.underlying81 C.nb l1 rfl HM1.out ?_; intro w1 hrg hm; have HRg := hid hrg; have HMo := hid hm; clear hrg hm)
 go_frame
 go_loopg [3] l1.length (fun g out wr => ∃ (ln : List (Int × NP)) (la : Option Addr) (cap : Nat) (left : Int -> Prop), SRel chN W.nodes w wr C.nb w.heap.size l1 [] g out ln la cap left)
 case atStart => exact ⟨[], none, 0, fun k => k ∈ l1.map (·.1), ⟨rfl, Own.nil _ _ _, HRg.out, List.nodup_nil, (fun _ _ h => by cases h), fun k => ⟨fun h => ⟨h, fun h2 => by cases h2⟩, fun h => h.1⟩, fun b hb => (qAj b hb).elim, HMo.out⟩⟩
 case round =>
  obtain ⟨ln, la, cap, left, hS1⟩ := hrel; have HR := hid hS1; obtain ⟨N, hN⟩ : ∃ N, ([] : List Chg).length + ln.length = N := ⟨_, rfl⟩; have hout := hS1.out; rw [hN] at hout; have HOw : Hid (Own wr 167 2 la N cap (([] ++ ln.map chN).flatMap Chg.cs)) := hid (by rw [<- hN]; exact hS1.own)
  have hNb : N <= 2199023255552 := by
   have := HL.out (ln.map (·.1)) hS1.nd (fun x hx => by obtain ⟨p, hp, rfl⟩ := List.mem_map.1 hx; exact .inl (by rw [hS1.mem p.1 p.2 hp]; exact fun e => by cases e))
   rw [List.length_map] at this; simp at hN
   omega
  have HN := hid hN; subst hout; clear hS1 hN; go_wp2_with (at_next; refine qDd rfl _ rfl KI C.nb w.heap.size l1 left _ rfl HR.out.rng ?_ ?_)
  ·intro hnone; have HNo := hid hnone; clear hnone; have d6 := (HR.out.mod.cell (World.block_lt_of_cell? _ _ c6) (fun e => e)).trans c6
   have HDn := hid (HR.out.done HNo.out HE1.out (fun x y hy => by obtain ⟨_, m, hm, _⟩ := HE2.out x y hy; rw [hm]; rfl))
   have hd0 := (HR.out.mod.block C.wb (lth HW.out.work.box) (fun e => e)).trans HW.out.work.box
   have HD0 := hid hd0; obtain ⟨wo, rfl⟩ : ∃ wo : World, wo = wr := ⟨_, rfl⟩; clear c5 c6 hd0; go_upto_region 8 with (at_range; refine qCt rfl _ 82 rfl KI Tryz.underlying82 C.ab l2 rfl (HM2.out.mod HR.out.mod (fun e => e)) ?_; intro w2 hrg2 hm2; have HRg2 := hid hrg2; have HMo2 := hid hm2; clear hrg2 hm2)
   clear d6; go_frame
   go_loopg [3] l2.length (fun g out wr => ∃ (la2 : List (Int × Int)) (a2 : Option Addr) (cap2 : Nat) (left2 : Int -> Prop), SRel chA W.after w wr C.ab wo.heap.size l2 (ln.map chN) g out la2 a2 cap2 left2)
   case atStart =>
    have hN0 : (ln.map chN).length + ([] : List (Int × Int)).length = N := by rw [<- HN.out]; simp
    refine ⟨[], la, cap, fun k => k ∈ l2.map (·.1), ⟨by rw [hN0], ?_, HRg2.out, List.nodup_nil, (fun _ _ h => by cases h), fun k => ⟨fun h => ⟨h, fun h2 => by cases h2⟩, fun h => h.1⟩, fun b hb => ⟨(HR.out.bs b hb).1, fun e => by have := HOw.out.lt b hb; omega⟩, HR.out.mod.trans HMo2.out⟩⟩
    rw [hN0]; have := HOw.out.mod HMo2.out (fun _ _ e => e)
    simpa using this
   case round =>
    obtain ⟨la2, a2, cap2, left2, hS2⟩ := hrel; have HR2 := hid hS2; obtain ⟨N2, hN2⟩ : ∃ N2, (ln.map chN).length + la2.length = N2 := ⟨_, rfl⟩; have hout2 := hS2.out; rw [hN2] at hout2; have HOw2 : Hid (Own wr 167 2 a2 N2 cap2 ((ln.map chN ++ la2.map chA).flatMap Chg.cs)) := hid (by rw [<- hN2]; exact hS2.own)
    have hNb2 : N2 <= 4398046511104 := by
     have h1 := HL.out (la2.map (·.1)) hS2.nd (fun x hx => by obtain ⟨p, hp, rfl⟩ := List.mem_map.1 hx; exact .inr (by rw [hS2.mem p.1 p.2 hp]; exact fun e => by cases e))
     rw [List.length_map] at h1; rw [List.length_map] at hN2; have h2 := HN.out; simp at h2
     omega
    have HN2 := hid hN2; subst hout2; clear hS2 hN2; go_wp2_with (at_next; refine qDd rfl _ rfl KI C.ab wo.heap.size l2 left2 _ rfl HR2.out.rng ?_ ?_)
    ·intro hnone2; have HDn2 := hid (HR2.out.done hnone2 (fun x hx => by have h1 := HE3.out x; rw [hx] at h1; exact h1) (fun x y hy => by have h1 := HE3.out x; rw [hy] at h1; rw [h1]; rfl))
     clear hnone2; have hbx := (HR2.out.mod.block C.wb (lth HW.out.work.box) (fun e => e)).trans HW.out.work.box
     have q0 : wr.cell? ⟨C.wb, 0, none⟩ = some (.int .i64 W.root) := by rw [cell_of_row _ _ _ _ _ _ hbx]; rfl
     have q1 : wr.cell? ⟨C.wb, 1, none⟩ = some (.int .i64 W.next) := by rw [cell_of_row _ _ _ _ _ _ hbx]; rfl
     have q2 : wr.cell? ⟨C.wb, 2, none⟩ = some (.int .i64 W.free) := by rw [cell_of_row _ _ _ _ _ _ hbx]; rfl
     have q3 : wr.cell? ⟨C.wb, 3, none⟩ = some (.int .i64 W.count) := by rw [cell_of_row _ _ _ _ _ _ hbx]; rfl
     have HSb := hid (qXr wr HQ.out.1 HQ.out.2.1 HQ.out.2.2.1 HQ.out.2.2.2); obtain ⟨dst, hdst⟩ : ∃ d, ba (stL W.root W.next W.free W.count) = d := ⟨_, rfl⟩; rw [hdst] at HSb; have HDs : Hid (stB W = dst) := hid hdst; clear hbx hdst; go_upto_region 12 with (first
      | (go_at_call 68; refine HSb.out.mono ?_; rintro e w6 ⟨rfl, hm6⟩; have HM6 := hid hm6; have HOw6 := hid (HOw2.out.mod hm6 (fun _ _ e => e)); clear hm6)
      | (at_builtin; refine qAd rfl (.tmp 50) (.tmp 57) 119 rfl 167 i0 _ 2 24 Tryz.underlying119 hi hz0 hz1 hz2 rfl a2 N2 cap2 _ rfl (qPj HOw6.out _) (some ⟨w6.heap.size, 0, none⟩) 1 1 _ rfl (qQi _ _ _) qQj (by unfold maxLen; omega) (by omega) ?_; intro la7 cap7 w7 hown hmo hbo hn5 hr5; have HO7 := hid hown; have HMo7 := hid hmo; have HBo7 := hid hbo; clear hown hmo hbo hn5 hr5))
     clear q0 q1 q2 q3; have HOa : Hid (Own w7 167 2 la7 (N2 + 1) cap7 (((ln.map chN ++ la2.map chA) ++ [(⟨0, dst⟩ : Chg)]).flatMap Chg.cs)) := hid (by rw [List.flatMap_append]; exact HO7.out)
     obtain ⟨g7, o7, rfl⟩ : ∃ g o, la7 = some ⟨g, o, none⟩ := HOa.out.any.resolve_left (fun e => by have h2 : N2 + 1 <= cap7 := HOa.out.2.1; have h3 : cap7 = 0 := e.2; omega)
     have hlen : ((ln.map chN ++ la2.map chA) ++ [(⟨0, dst⟩ : Chg)]).length = N2 + 1 := by rw [List.length_append, List.length_append, List.length_map (f := chA), HN2.out]; rfl
     have hposs : ∀ c ∈ (ln.map chN ++ la2.map chA) ++ [(⟨0, dst⟩ : Chg)], -2305843009213693952 <= c.pos /\ c.pos <= 2305843009213693952 := fun c hc => by
      rcases List.mem_append.1 hc with hc | hc
      ·rcases List.mem_append.1 hc with hc | hc
       ·obtain ⟨p, hp, rfl⟩ := List.mem_map.1 hc; have h1 := HT.out p.1 (.inl (by rw [HR.out.mem p.1 p.2 hp]; exact fun e => by cases e))
        show -2305843009213693952 <= p.1 /\ p.1 <= 2305843009213693952; omega
       ·obtain ⟨p, hp, rfl⟩ := List.mem_map.1 hc; have h1 := HT.out p.1 (.inr (by rw [HR2.out.mem p.1 p.2 hp]; exact fun e => by cases e))
        show -2305843009213693952 <= p.1 /\ p.1 <= 2305843009213693952; omega
      ·rw [List.mem_singleton] at hc; subst hc; show (-2305843009213693952 : Int) <= 0 /\ (0 : Int) <= 2305843009213693952; decide
     have hown7 := HOa.out; rw [<- hlen] at hown7; have hsrt := jEz hown7 hposs (by rw [hlen]; omega)
     rw [hlen] at hsrt; have HSrt := hid hsrt; have HLen := hid hlen; have HM7 : Hid (Mod (fun _ => False) w w7) := hid (((HR2.out.mod.trans HM6.out).alloc _).then HMo7.out (fun i hi e => by have := (HR2.out.bs i e).1; omega))
     have HBl : Hid (w.heap.size <= g7) := hid (by
      rcases HBo7.out g7 (qAc.2 rfl) with h1 | h1
      ·exact (HR2.out.bs g7 h1).1
      ·rw [World.size_alloc] at h1; have := (HR2.out.mod.trans HM6.out).size; omega)
     clear hlen hposs hown7 hsrt; go_wp2_with (go_at_call 69; refine HSrt.out.mono ?_; rintro e w8 ⟨rfl, cs', hp8, hs8, hl8, hm8⟩; have HP8 := hid hp8; have HS8 := hid hs8; have HL8 := hid hl8; have HM8 := hid hm8; clear hp8 hs8 hl8 hm8)
     go_ret; have hl9 : cs'.length = N2 + 1 := by rw [HP8.out.length_eq, HLen.out]
     refine ⟨cs', ln, la2, some ⟨g7, o7, none⟩, cap7, by rw [hl9]; rfl, ⟨HR.out.nd, HDn.out, HR2.out.nd, HDn2.out, ?_, HS8.out⟩, HL8.out, fun b hb => by rw [qAc] at hb; rw [<- hb]; exact HBl.out, HM7.out.then HM8.out (fun i hi e => by have := HBl.out; omega)⟩
     rw [HDs.out, <- List.append_assoc]; exact HP8.out
    ·intro k v w5 cnt' hlm hmem hrg5 hlt5 hm5 hen; have hv := qJd HM2.out.nodup hmem; rw [HE3.out k] at hv; obtain ⟨y, hf, hvy⟩ := Option.map_eq_some_iff.1 hv; subst hvy; obtain ⟨yn, hyn⟩ : ∃ n : Nat, y = (n : Int) := ⟨y.toNat, by have := HA.out k y hf; omega⟩
     have hyb := HA.out k y hf; subst hyn; have HLm := hid hlm; have HF := hid hf; have HRg5 := hid hrg5; have HM5 : Hid (Mod (fun _ => False) w w5) := hid (HR2.out.mod.then hm5 (fun i hi e => by have := HR.out.mod.size; omega))
     have HOw5 := hid (HOw2.out.mod hm5 (fun b hb e => (HR2.out.bs b hb).2 e))
     replace hen : (Instr.entry (.pointer (some ⟨wo.heap.size, 0, none⟩))).run Tryz.prog w5 = .ok (.tuple #[.int .i64 k, .int .i64 (yn : Int)]) w5 := hen; have HU := hid (qEm yn w5 (by omega))
     have lu : (ba (uvar yn)).size <= 10 := by rw [qAf]; exact qAs (by omega)
     have su : IntKind.u64.wrap (yn : Int) = (yn : Int) := by simp [IntKind.wrap, IntKind.bits, IntKind.signed]; omega
     have HDt : Hid ((chA (k, (yn : Int))).pos = k /\ (chA (k, (yn : Int))).data = ⟨#[70]⟩ ++ ba (uvar yn)) := hid ⟨rfl, by
      show frB (yn : Int) = _; unfold frB; have e : (⟨#[70]⟩ : ByteArray) = ba [70] := rfl; rw [e, qBf, Int.toNat_natCast]; rfl⟩
     clear hlm hmem hf hrg5 hm5 hv hyb; have e5 : KI.kv k = Value.int .i64 k := rfl; rw [e5]; go_wp2_with (first
      | (go_at_call 67; refine HU.out.mono ?_; rintro e w6 ⟨rfl, hm6⟩; have HM6 := hid hm6; have HOw6 := hid (HOw5.out.mod hm6 (fun _ _ e => e)); have HRg6 := hid (HRg5.out.mod hm6 (fun e => e) (fun e => e)); clear hm6)
      | (at_builtin; refine qAd rfl (.tmp 41) (.tmp 48) 119 rfl 167 i0 _ 2 24 Tryz.underlying119 hi hz0 hz1 hz2 rfl a2 N2 cap2 _ rfl (qPj HOw6.out _) (some ⟨w6.heap.size, 0, none⟩) 1 1 _ rfl (qQi _ _ _) qQj (by unfold maxLen; omega) (by omega) ?_; intro la7 cap7 w7 hown hmo hbo hn5 hr5; have HO7 := hid hown; have HMo7 := hid hmo; have HBo7 := hid hbo; clear hown hmo hbo hn5 hr5))
     go_roundg cnt'
     case measure => omega
     case rel =>
      have hz1 : Mod (fun _ => False) w6 (w6.alloc (.cells #[.int .i64 k, .string (⟨#[70]⟩ ++ ba (uvar yn))] 167)) := (Mod.refl _ _).alloc _
      have hmw7 : Mod (fun _ => False) w w7 := ((HM5.out.trans HM6.out).trans hz1).then HMo7.out (fun i hi e => by have := (HR2.out.bs i e).1; omega)
      have hrs : wo.heap.size < w6.heap.size := HRg6.out.lt; refine ⟨la2 ++ [(k, (yn : Int))], la7, cap7, fun x => left2 x /\ x ≠ k, ?_⟩
      have := HR2.out.snoc (w2 := w7) (la' := la7) (cap' := cap7) (g' := cnt') HLm.out HF.out (by rw [HDt.out.1, HDt.out.2, HN2.out]; exact HO7.out) ((HRg6.out.mod hz1 (fun e => e) (fun e => e)).mod HMo7.out (fun e => by have := (HR2.out.bs _ e).1; have := HM2.out.lt; omega) (fun e => (HR2.out.bs _ e).2 rfl)) (fun b hb => by
       rcases HBo7.out b hb with h1 | h1
       ·exact HR2.out.bs b h1
       ·rw [World.size_alloc] at h1; have := HM5.out.size; have := HM6.out.size; omega) hmw7
      rw [HN2.out] at this; exact this
  ·intro k v w5 cnt' hlm hmem hrg5 hlt5 hm5 hen; have hv := qJd HM1.out.nodup hmem; cases hf : W.nodes k with
   | none => rw [HE1.out k hf] at hv; cases hv
   | some n =>
    obtain ⟨hgd, m, hget, hhas, hndc, hbs⟩ := HE2.out k n hf; rw [hget] at hv; have hv : m.val = v := Option.some.inj hv; subst hv; have HLm := hid hlm; have HF := hid hf; have HRg5 := hid hrg5; have HM5 : Hid (Mod (fun _ => False) w w5) := hid (HR.out.mod.then hm5 (fun i hi e => by omega))
    have HOw5 := hid (HOw.out.mod hm5 (fun b hb e => (HR.out.bs b hb).2 e))
    replace hen : (Instr.entry (.pointer (some ⟨w.heap.size, 0, none⟩))).run Tryz.prog w5 = .ok (.tuple #[.int .i64 k, .agg #[.bool m.leaf, .slice m.ka m.keys.length m.kc, .slice m.va m.values.length m.vc, .slice m.ia m.kids.length m.ic]]) w5 := hen; have hencv : encV (qJp m) (qAo m.leaf m.ents) = .tuple #[.string (ndB n), .int .i64 (if qJp m then 0 else 40)] := by
     unfold encV ndB; rw [hhas.cn_enc, hhas.ents hgd.clean, hhas.l]
    have HEn := hid (qYp (w := w5.alloc (.cells #[.bool m.leaf, .slice m.ka m.keys.length m.kc, .slice m.va m.values.length m.vc, .slice m.ia m.kids.length m.ic] 123)) ((hndc.nd.ext HM5.out).ext ((Mod.refl _ _).alloc _))); rw [hencv] at HEn; obtain ⟨ec, hec⟩ : ∃ z : Int, (if qJp m then (0 : Int) else 40) = z := ⟨_, rfl⟩
    rw [hec] at HEn; have HDt : Hid ((chN (k, n)).pos = k /\ (chN (k, n)).data = ndB n) := hid ⟨rfl, rfl⟩; obtain ⟨dn, hdn⟩ : ∃ d, ndB n = d := ⟨_, rfl⟩; rw [hdn] at HEn HDt; have HM5s := hid HM5.out.size; clear hlm hmem hf hrg5 hm5 hget hhas hndc hbs hgd hencv hec hdn; have e5 : KI.kv k = Value.int .i64 k := rfl; rw [e5]; simp only [Nd.val]; go_wp2_with (first
     | (go_at_call 66; refine HEn.out.mono ?_; rintro e w6 ⟨rfl, hm6⟩; have HM6 : Hid (Mod (fun _ => False) w5 w6) := hid (((Mod.refl _ _).alloc _).trans hm6); have HOw6 := hid (HOw5.out.mod HM6.out (fun _ _ e => e)); have HRg6 := hid (HRg5.out.mod HM6.out (fun e => e) (fun e => e)); clear hm6)
     | (at_builtin; refine qAd rfl (.tmp 25) (.tmp 29) 119 rfl 167 i0 _ 2 24 Tryz.underlying119 hi hz0 hz1 hz2 rfl la N cap _ rfl (qPj HOw6.out _) (some ⟨w6.heap.size, 0, none⟩) 1 1 _ rfl (qQi _ _ _) qQj (by unfold maxLen; omega) (by omega) ?_; intro la7 cap7 w7 hown hmo hbo hn5 hr5; have HO7 := hid hown; have HMo7 := hid hmo; have HBo7 := hid hbo; clear hown hmo hbo hn5 hr5))
    go_roundg cnt'
    case measure => omega
    case rel =>
     have hrw : w.heap.size < wr.heap.size := HR.out.rng.lt; have hz1 : Mod (fun _ => False) w6 (w6.alloc (.cells #[.int .i64 k, .string dn] 167)) := (Mod.refl _ _).alloc _
     have hmw7 : Mod (fun _ => False) w w7 := ((HM5.out.trans HM6.out).trans hz1).then HMo7.out (fun i hi e => by have := (HR.out.bs i e).1; omega)
     have hrs : w.heap.size < w6.heap.size := HRg6.out.lt; refine ⟨ln ++ [(k, n)], la7, cap7, fun x => left x /\ x ≠ k, ?_⟩
     have := HR.out.snoc (w2 := w7) (la' := la7) (cap' := cap7) (g' := cnt') HLm.out HF.out (by rw [HDt.out.1, HDt.out.2, HN.out]; exact HO7.out) ((HRg6.out.mod hz1 (fun e => e) (fun e => e)).mod HMo7.out (fun e => by have := (HR.out.bs _ e).1; have := HM1.out.lt; omega) (fun e => (HR.out.bs _ e).2 rfl)) (fun b hb => by
      rcases HBo7.out b hb with h1 | h1
      ·exact HR.out.bs b h1
      ·rw [World.size_alloc] at h1; omega) hmw7
     rw [HN.out] at this; exact this
end
section
open Go Go.RowKit
theorem qXp (W : WM) (T : TM) (L : Int) : (W.take T L).2.count = W.count := by
 unfold WM.take; split <;> rfl
theorem qRg : ∀ (ss : List Int) (W : WM), (ss.foldl WM.release W).count = W.count
 | [], _ => rfl
 | s :: ss, W => qRg ss (W.release s)
theorem qGv {T : TM} {L : Int} {leaf : Bool} : ∀ (xs : List (List Ent)) (ss : List Int) (W : WM) {W' : WM} {ps : qBo}, qBs T L leaf xs ss W = some (W', ps) -> W'.count = W.count
 | [], ss, W, W', ps, h => by
  unfold qBs at h; cases h
  exact qRg ss W
 | x :: xs, [], W, W', ps, h => by
  unfold qBs at h; by_cases hg : qBg leaf x /\ W.next <= 1152921504606846975
  ·rw [qCr hg] at h; obtain ⟨r, hr, he⟩ := Option.map_eq_some_iff.1 h; cases he
   have := qGv xs [] _ (W' := r.1) (ps := r.2) hr; rw [this]; exact qXp W T L
  ·rw [qDx hg] at h; cases h
 | x :: xs, s :: ss, W, W', ps, h => by
  unfold qBs at h; by_cases hg : qBg leaf x
  ·rw [qCr hg] at h; obtain ⟨r, hr, he⟩ := Option.map_eq_some_iff.1 h; cases he
   have h9 := qGv xs ss _ (W' := r.1) (ps := r.2) hr; exact h9
  ·rw [qDx hg] at h; cases h
theorem qCw {T : TM} {L : Int} {W : WM} {leaf : Bool} {es : List Ent} {ss : List Int} {W' : WM} {ps : qBo} (h : qCb T L W leaf es ss = some (W', ps)) : W'.count = W.count := by
 unfold qCb at h; exact qGv _ _ _ h
theorem qTq {T : TM} {L : Int} {W : WM} {s : Int} {es : List Ent} {i : Nat} {W' : WM} {ps : qBo} (hk : qMj T L W s es i = some (W', ps)) : W'.count = W.count := by
 unfold qMj at hk; cases h1 : es[i - 1]? with
 | none => simp only [h1] at hk; cases hk
 | some l =>
  cases h2 : es[i - 1 + 1]? with
  | none => simp only [h1, h2] at hk; cases hk
  | some r =>
   simp only [h1, h2] at hk; cases h3 : W.look T l.kid with
   | none => simp only [h3] at hk; cases hk
   | some x =>
    cases h4 : W.look T r.kid with
    | none => simp only [h3, h4] at hk; cases hk
    | some y =>
     simp only [h3, h4] at hk; by_cases hg : x.1 = y.1
     ·rw [qCr hg] at hk; obtain ⟨⟨W2, qs⟩, q1, q2⟩ := Option.bind_eq_some_iff.1 hk; exact (qCw q2).trans (qCw q1)
     ·rw [qDx hg] at hk; cases hk
theorem qUh {T : TM} {L : Int} {W : WM} {s : Int} {es : List Ent} {i : Nat} {qs : qBo} {W' : WM} {ps : qBo} (h : qKw T L W s es i qs = some (W', ps)) : W'.count = W.count := by
 unfold qKw at h; split at h
 ·split at h
  ·split at h
   ·cases h
   ·split at h
    ·exact qTq h
    ·exact qCw h
  ·exact qCw h
 ·exact qCw h
theorem jKo (c : Cg) (es : List Ent) : -1 <= chgN c es /\ chgN c es <= 1 := by
 unfold chgN; split
 ·split <;> omega
 ·omega
theorem qJt {T : TM} {L : Int} {c : Cg} : ∀ (f : Nat) {W : WM} {s : Int} {W' : WM} {ps : qBo}, qBr T L c f W s = some (W', ps) -> W.count - 1 <= W'.count /\ W'.count <= W.count + 1
 | 0, _, _, _, _, h => by unfold qBr at h; cases h
 | f + 1, W, s, W', ps, h => by
  unfold qBr at h; split at h
  ·cases h
  ·rename_i es _
   split at h
   ·cases h; omega
   ·have h1 := qCw h; have h2 := jKo c es; have h3 : (W.add (chgN c es)).count = W.count + chgN c es := rfl; omega
  ·split at h
   ·cases h
   ·obtain ⟨r, hr1, hr⟩ := Option.bind_eq_some_iff.1 h; by_cases hgd : ∀ p ∈ r.2, 1 <= p.2 /\ p.2 <= 1152921504606846976
    ·rw [qCr hgd] at hr; have h1 := qUh hr; have h2 := qJt f (W' := r.1) (ps := r.2) hr1; omega
    ·rw [qDx hgd] at hr; cases hr
theorem qIi {T : TM} : ∀ (f : Nat) {W W' : WM}, qFm T f W = some W' -> W'.count = W.count
 | 0, _, _, h => by unfold qFm at h; cases h
 | f + 1, W, W', h => by
  unfold qFm at h; split at h
  ·cases h
  ·have := qIi f h; exact this
  ·cases h; rfl
theorem qNr {T : TM} {L : Int} {f : Nat} {W W' : WM} {ps : qBo} (h : topM T L f W ps = some W') : W'.count = W.count := by
 unfold topM at h; split at h
 ·cases h; rfl
 ·have h9 := qIi f h; exact h9
 ·obtain ⟨q, hq1, hq⟩ := Option.bind_eq_some_iff.1 h; have h1 := qCw (W' := q.1) (ps := q.2) hq1; split at hq
  ·cases hq
  ·have h9 := qIi f hq; exact h9.trans h1
theorem qYb {T : TM} {L : Int} {f : Nat} {W W' : WM} {c : Cg} (h : oneM T L f W c = some W') : W.count - 1 <= W'.count /\ W'.count <= W.count + 1 := by
 unfold oneM at h; split at h
 ·obtain ⟨r, h1, h2⟩ := Option.bind_eq_some_iff.1 h; have h3 := qJt f (W' := r.1) (ps := r.2) h1; have h4 := qNr h2; omega
 ·split at h
  ·cases h; omega
  ·obtain ⟨r, h1, h2⟩ := Option.bind_eq_some_iff.1 h; have h3 := qCw (W' := r.1) (ps := r.2) h1; have h4 := qNr h2; have h5 : (W.add 1).count = W.count + 1 := rfl; omega
end
end Go.Proofs.YtkinkgbmlhiakaaGreatDoor
