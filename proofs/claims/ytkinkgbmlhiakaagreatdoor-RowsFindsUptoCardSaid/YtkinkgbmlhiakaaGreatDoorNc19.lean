/- merged: TwV RoK RoT RoF Push DecL TrR JrKp TrS -/
import Derived.Test.YtkinkgbmlhiakaaGreatDoorNc18
import Derived.Test.YtkinkgbmlhiakaaGreatDoorNc05
import Derived.Test.YtkinkgbmlhiakaaGreatDoorNc13
import Derived.Test.YtkinkgbmlhiakaaGreatDoorNc15
import Derived.Test.YtkinkgbmlhiakaaGreatDoorNc17
import Derived.Test.YtkinkgbmlhiakaaGreatDoorNc06
import Derived.Test.YtkinkgbmlhiakaaGreatDoorNc08
import Derived.Test.YtkinkgbmlhiakaaGreatDoorNc10
import Derived.Test.YtkinkgbmlhiakaaGreatDoorNc14
import Derived.Test.YtkinkgbmlhiakaaGreatDoorNc03
import Derived.Test.YtkinkgbmlhiakaaGreatDoorNc04
namespace Go.Proofs.YtkinkgbmlhiakaaGreatDoor
section
open Go Go.RowKit
noncomputable def KS : Keys Tryz.prog 9 ByteArray := jGp Tryz.underlying9
open Classical in
noncomputable def chkF : List ByteArray -> List Cg -> Int
 | _, [] => 0
 | met, c :: r => if c.key.toList = [] \/ 48 < c.key.size then 50 else if 200 < c.value.size then 51 else if c.key ∈ met then 30 else chkF (met ++ [c.key]) r
theorem qLr : ∀ {cs : List Cg} {met : List ByteArray}, chkF met cs = 0 -> ∀ c ∈ cs, CgOk c
 | [], _, _ => fun c hc => by cases hc
 | x :: r, met, h => fun c hc => by
  unfold chkF at h; by_cases h1 : x.key.toList = [] \/ 48 < x.key.size
  ·rw [if_pos h1] at h; cases h
  ·rw [if_neg h1] at h; by_cases h2 : 200 < x.value.size
   ·rw [if_pos h2] at h; cases h
   ·rw [if_neg h2] at h; by_cases h3 : x.key ∈ met
    ·rw [if_pos h3] at h; cases h
    ·rw [if_neg h3] at h; rcases List.mem_cons.1 hc with rfl | hc
     ·exact ⟨fun e => h1 (.inl e), by omega, by omega⟩
     ·exact qLr h c hc
def mapK (l : List ByteArray) : List (ByteArray × Value) := l.map fun k => (k, .int .i64 1)
theorem qZf (l : List ByteArray) (k : ByteArray) : mapK (l ++ [k]) = mapK l ++ [(k, .int .i64 1)] := by simp [mapK]
open Classical in
theorem qLy : ∀ (l : List ByteArray) (x : ByteArray), aget (mapK l) x = if x ∈ l then some (.int .i64 1) else none
 | [], x => by simp [mapK, aget]
 | n :: l, x => by
  have ih := qLy l x; unfold mapK aget at *; rw [List.map_cons]; by_cases h : n = x
  ·subst h; simp
  ·have h2 : ¬ x = n := fun e => h e.symm
   rw [List.find?_cons_of_neg (by simpa using h), ih]
   simp [h2]
theorem jEf (cs : List Cg) {k : Nat} {x : Cg} (hx : cs[k]? = some x) : (cs.take (k + 1)).map (·.key) = (cs.take k).map (·.key) ++ [x.key] := by
 rw [List.take_add_one, hx, List.map_append]; rfl
set_option maxRecDepth 100000
open Classical in
set_option maxHeartbeats 4000000 in
theorem qQr {w : World} {a : Option Addr} (cap : Nat) {cs : List Cg} (hc : Lies w 3 ccs a cs) (hb : cs.length <= 1099511627776000) (hs : ∀ c ∈ cs, c.key.size <= maxLen /\ c.value.size <= maxLen) :
  Calls Tryz.prog 32 #[.slice a cs.length cap] w fun e w' => e = .returned (.int .i64 (chkF [] cs)) /\ Mod (fun _ => False) w w' := by
 have HC := hid hc; have HSz := hid hs; have hmm := @run_makeMap Tryz.prog; obtain ⟨F, hF⟩ : ∃ z, chkF [] cs = z := ⟨_, rfl⟩; rw [hF]; have HF := hid hF; clear hc hs hF; go_enter Tryz.func32, Tryz.ntmps32
 go_wp2_with fail
 go_loopw [9] (fun sc wr => ∃ k : Nat, k <= cs.length /\ sc = .int .i64 (k : Int) /\ F = chkF ((cs.take k).map (·.key)) (cs.drop k) /\ qBh KS.kv wr w.heap.size (mapK ((cs.take k).map (·.key))) /\ Mod (fun _ => False) w wr) (fun sc _ => cs.length - (intOf sc).toNat)
 case atStart => exact ⟨0, Nat.zero_le _, rfl, HF.out.symm, qBh.made KS.kv w, (Mod.refl _ _).alloc _⟩
 case round =>
  obtain ⟨k, hk, rfl, r1, r2, r3⟩ := hrel; have HFk := hid r1; have HMap := hid r2; have HM := hid r3; clear r1 r2 r3; by_cases hlt : k < cs.length
  ·obtain ⟨x, hx⟩ : ∃ x, cs[k]? = some x := ⟨_, List.getElem?_eq_getElem hlt⟩; have hxe : cs[k] = x := by rw [List.getElem?_eq_getElem hlt] at hx; exact Option.some.inj hx
   obtain ⟨g, off, rfl⟩ := HC.out.some (by omega)
   have hcw := HC.out.ext HM.out; have hq0 := hcw.cell ccs_len hx (j := 0) rfl; have hq1 := hcw.cell ccs_len hx (j := 1) rfl; have hq2 := hcw.cell ccs_len hx (j := 2) rfl; simp only [Nat.add_zero] at hq0; have hxs := HSz.out x (List.mem_of_getElem? hx); have HSt : Hid (F = if x.key.toList = [] \/ 48 < x.key.size then 50 else if 200 < x.value.size then 51 else if x.key ∈ (cs.take k).map (·.key) then 30 else chkF ((cs.take k).map (·.key) ++ [x.key]) (cs.drop (k + 1))) := hid (by
    rw [HFk.out, List.drop_eq_getElem_cons hlt, hxe]; rfl)
   have HTk := hid (jEf cs hx); obtain ⟨xk, xv, xg⟩ := x; simp only at hq0 hq1 hq2 hxs HSt HTk; have hma : Mod (fun _ => False) wr (wr.alloc (.cells #[.string xk, .string xv, .bool xg] 113)) := (Mod.refl _ _).alloc _
   have hcb : (wr.alloc (.cells #[.string xk, .string xv, .bool xg] 113)).heap[wr.heap.size]? = some (.cells #[.string xk, .string xv, .bool xg] 113 (0, 0)) := heap_alloc_new _ _; have HMa := hid (HM.out.trans hma); have HMapa := hid (HMap.out.mod hma (fun h => h))
   obtain ⟨b0, b1, b2⟩ : (wr.alloc (.cells #[.string xk, .string xv, .bool xg] 113)).cell? ⟨wr.heap.size, 0, none⟩ = some (.string xk) /\ (wr.alloc (.cells #[.string xk, .string xv, .bool xg] 113)).cell? ⟨wr.heap.size, 1, none⟩ = some (.string xv) /\ (wr.alloc (.cells #[.string xk, .string xv, .bool xg] 113)).cell? ⟨wr.heap.size, 2, none⟩ = some (.bool xg) := by
    refine ⟨?_, ?_, ?_⟩ <;> (rw [cell_of_row _ _ _ _ _ _ hcb]; rfl)
   obtain ⟨hs1, hs2⟩ := hxs; unfold maxLen at hs1 hs2; clear hx hxe hma hcb hcw; by_cases h1 : xk.toList = []
   ·have e1 : xk.toList.isEmpty = true := by rw [h1]; rfl
    have HE : Hid (F = 50) := hid (by rw [HSt.out, if_pos (.inl h1)])
    clear h1; go_wp2_with fail
    go_ret; rw [HE.out]; exact ⟨rfl, HMa.out⟩
   ·have e1 : xk.toList.isEmpty = false := by cases hq : xk.toList with | nil => exact absurd hq h1 | cons b r => rfl
    by_cases h2 : 48 < xk.size
    ·have HE : Hid (F = 50) := hid (by rw [HSt.out, if_pos (.inr h2)])
     clear h1; go_wp2_with fail
     go_ret; rw [HE.out]; exact ⟨rfl, HMa.out⟩
    ·have hn12 : ¬ (xk.toList = [] \/ 48 < xk.size) := fun e => e.elim h1 h2
     by_cases h3 : 200 < xv.size
     ·have HE : Hid (F = 51) := hid (by rw [HSt.out, if_neg hn12, if_pos h3])
      clear h1 hn12; go_wp2_with fail
      go_ret; rw [HE.out]; exact ⟨rfl, HMa.out⟩
     ·by_cases h4 : xk ∈ (cs.take k).map (·.key)
      ·have HE : Hid (F = 30) := hid (by rw [HSt.out, if_neg hn12, if_neg h3, if_pos h4])
       have HAg : Hid (aget (mapK ((cs.take k).map (·.key))) xk = some (.int .i64 1)) := hid (by rw [qLy, if_pos h4])
       clear h1 hn12 h4; go_wp2_with (at_lookup; refine qGb rfl _ _ 160 false rfl KS Tryz.underlying160 (jBz _) w.heap.size _ xk rfl rfl HMapa.out ?_; rw [HAg.out]; simp only [Bool.false_eq_true, if_false])
       go_ret; rw [HE.out]; exact ⟨rfl, HMa.out⟩
      ·have HE : Hid (F = chkF ((cs.take k).map (·.key) ++ [xk]) (cs.drop (k + 1))) := hid (by rw [HSt.out, if_neg hn12, if_neg h3, if_neg h4])
       have HAg : Hid (aget (mapK ((cs.take k).map (·.key))) xk = none) := hid (by rw [qLy, if_neg h4])
       clear h1 hn12 h4; go_wp2_with (first
        | (at_lookup; refine qGb rfl _ _ 160 false rfl KS Tryz.underlying160 (jBz _) w.heap.size _ xk rfl rfl HMapa.out ?_; rw [HAg.out]; simp only [Bool.false_eq_true, if_false])
        | (at_mapUpdate; refine qJa rfl _ _ _ 160 rfl KS Tryz.underlying160 w.heap.size _ xk (.int .i64 1) rfl rfl rfl HMapa.out ?_; intro w6 hat6 hm6; have Hat6 := hid hat6; have Hm6 := hid hm6; clear hat6 hm6))
       go_roundw
       case rel =>
        refine ⟨k + 1, by omega, by go_num, by rw [HTk.out]; exact HE.out, ?_, HMa.out.then Hm6.out (fun i hi e => by omega)⟩
        rw [HTk.out, qZf]; have := Hat6.out; rw [qUq HAg.out] at this; exact this
       case measure => simp [intOf]; omega
  ·have HE : Hid (F = 0) := hid (by rw [HFk.out, List.drop_of_length_le (by omega)]; rfl)
   go_wp2_with fail
   go_ret; rw [HE.out]; exact ⟨rfl, HM.out⟩
end
section
open Go Go.RowKit
theorem qUp : ∀ {a b x y : List UInt8}, (0 : UInt8) ∉ a -> (0 : UInt8) ∉ b -> a ++ 0 :: x = b ++ 0 :: y -> a = b
 | [], [], _, _, _, _, _ => rfl
 | [], d :: b, _, _, _, hb, h => by
  rw [List.nil_append, List.cons_append] at h; cases h
  exact absurd List.mem_cons_self hb
 | c :: a, [], _, _, ha, _, h => by
  rw [List.nil_append, List.cons_append] at h; cases h
  exact absurd List.mem_cons_self ha
 | c :: a, d :: b, x, y, ha, hb, h => by
  rw [List.cons_append, List.cons_append] at h; injection h with h1 h2
  subst h1; rw [qUp (fun e => ha (List.mem_cons_of_mem _ e)) (fun e => hb (List.mem_cons_of_mem _ e)) h2]
theorem jFk {a b : ByteArray} (h : a.data.toList = b.data.toList) : a = b := toList_inj (by rw [ByteArray.toList_eq, ByteArray.toList_eq]; exact h)
theorem jDj {a b : Int} {x y : List UInt8} (a0 : -9223372036854775808 <= a) (a1 : a <= 9223372036854775807) (b0 : -9223372036854775808 <= b) (b1 : b <= 9223372036854775807) (h : ordL a ++ x = ordL b ++ y) : a = b /\ x = y := by
 have e1 : (ordL a).length = 8 := qDu 8 _; have e2 : (ordL b).length = 8 := qDu 8 _; obtain ⟨h1, h2⟩ := List.append_inj h (e1.trans e2.symm); have h3 := qYn (s := ba (ordL a)) (a := 0) (n := a) (r := []) (by rw [qDs, List.drop_zero, List.append_nil]) a0 a1
 have h4 := qYn (s := ba (ordL a)) (a := 0) (n := b) (r := []) (by rw [qDs, List.drop_zero, List.append_nil, h1]) b0 b1
 rw [h3] at h4; injection h4 with h5
 injection h5 with h6
 exact ⟨h6, h2⟩
end
section
open Go Go.RowKit
def hv (n : Int) : Int := n.tdiv 2
end
section
open Go Go.RowKit
theorem jEy {k : Int} {u v : Vl} {r : List UInt8} (ou : u.Ok) (ov : v.Ok) (hu : qEd k u = true) (hv : qEd k v = true) (h : qCe k v <+: qCe k u ++ r) : u = v := by
 obtain ⟨t, ht⟩ := h; obtain ⟨un, us⟩ := u; obtain ⟨vn, vs⟩ := v; unfold qEd at hu hv; unfold qCe qQh at ht; by_cases hk : k = 0
 ·rw [if_pos hk] at hu hv; rw [if_pos hk, if_pos hk] at ht; simp only at hu hv ht; obtain ⟨e1, _⟩ := jDj ov.n0 ov.n1 ou.n0 ou.n1 ht; have a1 : us = ⟨#[]⟩ := toList_inj (by rw [List.isEmpty_iff] at hu; rw [hu, ByteArray.toList_eq])
  have a2 : vs = ⟨#[]⟩ := toList_inj (by rw [List.isEmpty_iff] at hv; rw [hv, ByteArray.toList_eq])
  have e2 : vn = un := e1; rw [a1, a2, e2]
 ·rw [if_neg hk] at hu hv; rw [if_neg hk, if_neg hk] at ht; simp only [Bool.and_eq_true, beq_iff_eq] at hu hv ht; have e : vs.data.toList ++ 0 :: t = us.data.toList ++ 0 :: r := by simpa using ht
  have e1 := jFk (qUp (qOy hv.2) (qOy hu.2) e); rw [hu.1, hv.1, e1]
theorem jFe {name : Int} {cols : List Int} {keys idx : Int} {y : List Vl} {p : PX} {k : Int} {v : Vl} (hy : ∀ u ∈ y, u.Ok) (ov : v.Ok) (hp : qDn name cols keys idx y = some p) (hi : 0 <= idx) (hk : cols[idx.toNat]? = some k) (hv : qEd k v = true)
  (hpre : (qAj name.toNat 1 ++ qCe k v) <+: p.x) : y[idx.toNat]? = some v := by
 obtain ⟨hg, _, rfl⟩ := qIe hp; have hlt : idx.toNat < cols.length := (List.getElem?_eq_some_iff.1 hk).1; obtain ⟨u, hu⟩ : ∃ u, y[idx.toNat]? = some u := ⟨_, List.getElem?_eq_getElem (by rw [hg.len]; exact hlt)⟩
 have e : (pxOf name cols keys idx y).x = qAj name.toNat 1 ++ (qCe k u ++ qEf cols y keys.toNat) := by
  unfold pxOf pxL idxL; simp only; rw [if_pos hi, List.getD_eq_getElem?_getD, List.getD_eq_getElem?_getD, hk, hu, List.append_assoc]; rfl
 rw [e] at hpre; obtain ⟨t, ht⟩ := hpre; rw [List.append_assoc] at ht; have hfit : qEd k u = true := by
  rw [qGu (hg.typed _ _ _ hk hu)]; exact hg.bare _ _ (.inr (by omega)) hu
 rw [hu, jEy (hy u (List.mem_of_getElem? hu)) ov hfit hv ⟨t, List.append_cancel_left ht⟩]
end
section
open Go Go.RowKit
def Bx (w : World) (b : Nat) (m : Nd) : Prop := w.heap[b]? = some (.cells #[.bool m.leaf, .slice m.ka m.keys.length m.kc, .slice m.va m.values.length m.vc, .slice m.ia m.kids.length m.ic] 123 (0, 0))
theorem Bx.cells {w : World} {b : Nat} {m : Nd} (h : Bx w b m) : w.cell? ⟨b, 0, none⟩ = some (.bool m.leaf) /\ w.cell? ⟨b, 1, none⟩ = some (.slice m.ka m.keys.length m.kc) /\ w.cell? ⟨b, 2, none⟩ = some (.slice m.va m.values.length m.vc) /\ w.cell? ⟨b, 3, none⟩ = some (.slice m.ia m.kids.length m.ic) := cl4 h
theorem Bx.lt {w : World} {b : Nat} {m : Nd} (h : Bx w b m) : b < w.heap.size := lth h
theorem Bx.mod {w w' : World} {b : Nat} {m : Nd} {S : Nat -> Prop} (h : Bx w b m) (hm : Mod S w w') (hs : ¬ S b) : Bx w' b m := (hm.block b h.lt hs).trans h
structure Hold (w : World) (L B : Nat) (m : Nd) : Prop where
 box : Bx w B m
 gd : Gd w m
 bs : ∀ b, m.bs b -> L <= b /\ b ≠ B
 lb : L <= B
theorem Hold.ext {w w' : World} {L B : Nat} {m : Nd} (h : Hold w L B m) (hm : Mod (fun _ => False) w w') : Hold w' L B m :=
 ⟨h.box.mod hm (fun h => h), h.gd.ext hm (fun _ _ h => h), h.bs, h.lb⟩
end
section
open Go Go.RowKit
def pre (es : List Ent) (o : Option (List Ent × Nat)) : Option (List Ent × Nat) := o.map fun q => (es ++ q.1, q.2)
def cn (leaf : Bool) (es : List Ent) : Nd := ⟨leaf, es.map (·.key), if leaf then es.map (·.value) else [], if leaf then [] else es.map (·.kid), none, 0, none, 0, none, 0⟩
theorem Has.cn_ents {m : Nd} {leaf : Bool} {es : List Ent} (h : Has m leaf es) : m.ents = (cn leaf es).ents := by
 unfold Nd.ents; rw [h.k]; show (List.range (es.map (·.key)).length).map (qCf m) = (List.range (es.map (·.key)).length).map (qCf (cn leaf es)); apply List.map_congr_left; intro i _; unfold qCf qBl qEi; rw [h.k, h.v, h.i, h.l]; rfl
theorem Has.cn_enc {m : Nd} {leaf : Bool} {es : List Ent} (h : Has m leaf es) : qIs m = qIs (cn leaf es) := by
 have hf : fitB m = fitB (cn leaf es) := by
  have : FitP m ↔ FitP (cn leaf es) := by
   unfold FitP qRh; rw [h.k, h.v, h.i, h.l]; exact Iff.rfl
  cases hb : fitB (cn leaf es) with
  | true => exact qIn (this.2 (qUf.1 hb))
  | false => exact qJn (fun hp => by rw [qIn (this.1 hp)] at hb; cases hb)
 unfold qIs; rw [hf, h.cn_ents, h.l]; rfl
end
section
open Go Go.RowKit
def lk (es : List Ent) : ByteArray := match es.getLast? with | some x => x.key | none => emp
theorem jAf {leaf : Bool} {es : List Ent} (h : qBd leaf es) (hk : leaf = false -> ∀ x ∈ es, x.kid < 16384) : qIs (cn leaf es) = true := by
 have hh : Has (cn leaf es) leaf es := ⟨rfl, rfl, rfl, rfl⟩; unfold qIs; rw [Bool.and_eq_true, qUf, decide_eq_true_eq, hh.ents h.clean]; refine ⟨⟨h.keys, ?_⟩, h.bytes⟩; have hpos : 0 < es.length := List.length_pos_iff.2 h.ne; unfold qRh cn; cases leaf with
 | true =>
  simp only [if_true, List.length_map, List.length_nil, decide_true, Bool.true_and, Bool.not_eq_true']; rw [List.any_eq_false]; intro s hs; obtain ⟨x, hx, rfl⟩ := List.mem_map.1 hs; have := h.values x hx; unfold qLf; simp
  omega
 | false =>
  simp only [Bool.false_eq_true, if_false, List.length_map, List.length_nil, decide_true, Bool.true_and, Bool.not_eq_true', Bool.and_eq_true, decide_eq_true_eq]; refine ⟨hpos, ?_⟩; rw [List.any_eq_false]; intro s hs; obtain ⟨x, hx, rfl⟩ := List.mem_map.1 hs; have h1 := h.kids rfl x hx; have h2 := hk rfl x hx; unfold outB; simp
  omega
theorem qGn {link : Int -> Option Int} : ∀ {l : List Int} {s : Int}, qMe link s l -> (s = 0 /\ l = []) \/ (s ∈ l /\ s ≠ 0)
 | [], _, h => .inl ⟨h, rfl⟩
 | _ :: _, _, h => .inr ⟨by rw [h.1]; exact List.mem_cons_self, by rw [h.1]; exact h.2.1⟩
end
section
open Go Go.RowKit
theorem jGv {D : Dsk} (h : D.off = false) (i : Nat) (hi : i < D.secs.length) : qDe D (i : Int) = (sec D i, 0) := by
 have : qBb D i = 0 := by unfold qBb; rw [h]; simp; omega
 rw [qNw, if_neg (by simp [this])]
 rfl
def upc (c : Nat -> ByteArray) (cs : List Chg) (q : Nat) : ByteArray := match cs.find? (fun x => x.pos.toNat == q) with
 | some x => pad x.data
 | none => c q
theorem qSx {c : Nat -> ByteArray} {cs : List Chg} {q : Nat} (h : q ∉ places cs) : upc c cs q = c q := by
 unfold upc; rw [List.find?_eq_none.2 (fun x hx => by
  intro he; exact h (List.mem_map.2 ⟨x, hx, by simpa using he⟩))]
theorem qNq {c : Nat -> ByteArray} : ∀ {cs : List Chg} {m : Nat} {x : Chg}, (places cs).Nodup -> cs[m]? = some x -> upc c cs x.pos.toNat = pad x.data
 | [], m, x => fun _ h => by simp at h
 | y :: r, m, x => fun hd h => by
  have hd2 : (y.pos.toNat :: places r).Nodup := hd; cases m with
  | zero =>
   simp only [List.getElem?_cons_zero, Option.some.injEq] at h; subst h; unfold upc; rw [List.find?_cons]; simp
  | succ m =>
   simp only [List.getElem?_cons_succ] at h; have hne : y.pos.toNat ≠ x.pos.toNat := fun e => (List.nodup_cons.1 hd2).1 (by rw [e]; exact List.mem_map.2 ⟨x, List.mem_of_getElem? h, rfl⟩)
   have ih := qNq (c := c) (List.nodup_cons.1 hd2).2 h; unfold upc at *; rw [List.find?_cons]; have hb : (y.pos.toNat == x.pos.toNat) = false := by rw [beq_eq_false_iff_ne]; exact hne
   rw [hb]; exact ih
end
section
open Go Go.RowKit
def stL (root next free count : Int) : List UInt8 := 84 :: [root.toNat, next.toNat, free.toNat, count.toNat].flatMap uvar
def stB (W : WM) : ByteArray := ba (stL W.root W.next W.free W.count)
def frB (y : Int) : ByteArray := ba (70 :: uvar y.toNat)
noncomputable def ndB (n : NP) : ByteArray := if qIs (cn n.1 n.2) then ba (qAn n.1 n.2) else ⟨#[]⟩
noncomputable def qDr (W : WM) (x : Int) : Option ByteArray := if x = 0 then some (stB W) else match W.nodes x with | some n => some (ndB n) | none => (W.after x).map frB
structure Laid (W : WM) (cs : List Chg) (ln : List (Int × NP)) (la : List (Int × Int)) : Prop where
 n1 : (ln.map (·.1)).Nodup
 n2 : ∀ x n, (x, n) ∈ ln ↔ W.nodes x = some n
 a1 : (la.map (·.1)).Nodup
 a2 : ∀ x y, (x, y) ∈ la ↔ W.after x = some y
 perm : cs.Perm (ln.map (fun p => ⟨p.1, ndB p.2⟩) ++ (la.map (fun p => ⟨p.1, frB p.2⟩) ++ [⟨0, stB W⟩]))
 sort : cs.Pairwise (fun a b => a.pos <= b.pos)
structure qKf (W : WM) (cs : List Chg) : Prop where
 mem : ∀ c : Chg, c ∈ cs ↔ qDr W c.pos = some c.data
 nodup : (cs.map (·.pos)).Nodup
theorem qSa {α : Type} {l : List (Int × α)} {x : Int} (h : x ∈ l.map (·.1)) : ∃ y, (x, y) ∈ l := by
 obtain ⟨p, hp, rfl⟩ := List.mem_map.1 h; exact ⟨p.2, hp⟩
theorem qIj {T : TM} {W : WM} {U F : List Int} {cs : List Chg} {ln : List (Int × NP)} {la : List (Int × Int)} (hA : Acc T W U [] F) (h : Laid W cs ln la) : qKf W cs := by
 have h0 : W.nodes 0 = none /\ W.after 0 = none := by
  have := hA.out 0 (by omega)
  exact ⟨this.1, this.2.1⟩
 have hx : ∀ x n, W.nodes x = some n -> W.after x = none := fun x n hn => by
  by_cases hu : x ∈ U
  ·exact (hA.used x (.inl hu)).1
  ·by_cases hf : x ∈ F
   ·have := (hA.free x hf).1; rw [hn] at this; cases this
   ·have hc := hA.cnt x; rw [List.count_eq_zero.2 hu, List.count_eq_zero.2 hf] at hc; have hout : ¬ (1 <= x /\ x < W.next) := fun h => by rw [if_pos h] at hc; simp at hc
    exact (hA.out x hout).2.1
 constructor
 ·intro c; obtain ⟨x, d⟩ := c; rw [h.perm.mem_iff, List.mem_append, List.mem_append]; show _ ↔ qDr W x = some d; unfold qDr; constructor
  ·rintro (hm | hm | hm)
   ·obtain ⟨p, hp, he⟩ := List.mem_map.1 hm; cases he
    have hn := (h.n2 p.1 p.2).1 hp; have hz : p.1 ≠ 0 := fun e => by rw [e, h0.1] at hn; cases hn
    rw [if_neg hz, hn]
   ·obtain ⟨p, hp, he⟩ := List.mem_map.1 hm; cases he
    have ha := (h.a2 p.1 p.2).1 hp; have hz : p.1 ≠ 0 := fun e => by rw [e, h0.2] at ha; cases ha
    rw [if_neg hz]; cases hn : W.nodes p.1 with
    | some n => rw [hx _ _ hn] at ha; cases ha
    | none => simp only; rw [ha]; rfl
   ·rw [List.mem_singleton] at hm; cases hm
    rw [if_pos rfl]
  ·intro hd; by_cases hz : x = 0
   ·rw [if_pos hz] at hd; cases hd
    exact .inr (.inr (by rw [hz]; exact List.mem_singleton.2 rfl))
   ·rw [if_neg hz] at hd; cases hn : W.nodes x with
    | some n =>
     rw [hn] at hd; cases hd
     exact .inl (List.mem_map.2 ⟨(x, n), (h.n2 x n).2 hn, rfl⟩)
    | none =>
     rw [hn] at hd; obtain ⟨y, hy, rfl⟩ := Option.map_eq_some_iff.1 hd; exact .inr (.inl (List.mem_map.2 ⟨(x, y), (h.a2 x y).2 hy, rfl⟩))
 ·have hp := h.perm.map (·.pos); refine hp.nodup_iff.2 ?_; rw [List.map_append, List.map_append, List.map_map, List.map_map]; show ((ln.map (fun p : Int × NP => p.1)) ++ ((la.map (fun p : Int × Int => p.1)) ++ [0])).Nodup
  refine List.nodup_append.2 ⟨h.n1, List.nodup_append.2 ⟨h.a1, by simp, fun a ha b hb e => ?_⟩, fun a ha b hb e => ?_⟩
  ·rw [List.mem_singleton] at hb; obtain ⟨y, hy⟩ := qSa ha; have := (h.a2 _ _).1 hy; rw [e, hb, h0.2] at this; cases this
  ·subst e; obtain ⟨n, hn⟩ := qSa ha; have hn := (h.n2 _ _).1 hn; rcases List.mem_append.1 hb with hb | hb
   ·obtain ⟨y, hy⟩ := qSa hb; have := (h.a2 _ _).1 hy; rw [hx _ _ hn] at this; cases this
   ·rw [List.mem_singleton] at hb; rw [hb, h0.1] at hn; cases hn
theorem jEc {W : WM} {cs : List Chg} {ln : List (Int × NP)} {la : List (Int × Int)} (h : Laid W cs ln la) : cs.length = ln.length + la.length + 1 := by
 rw [h.perm.length_eq]; simp
 omega
theorem qLc : ∀ {l m : List Int}, l.Nodup -> (∀ x ∈ l, x ∈ m) -> l.length <= m.length
 | [], _, _, _ => Nat.zero_le _
 | a :: l, m, hn, hs => by
  obtain ⟨h1, h2⟩ := List.nodup_cons.1 hn; have ha := hs a List.mem_cons_self; have ih := qLc (m := m.erase a) h2 (fun x hx => (List.mem_erase_of_ne (fun e => h1 (by rw [<- e]; exact hx))).2 (hs x (List.mem_cons_of_mem _ hx)))
  have hp := List.length_pos_of_mem ha; rw [List.length_erase_of_mem ha] at ih; rw [List.length_cons]; omega
theorem qVv {W : WM} {cs : List Chg} {X : List Int} (h : qKf W cs) (hX : ∀ y, qMo W y -> y ∈ X) : cs.length <= X.length + 1 := by
 have h1 : (cs.map (·.pos)).length <= (0 :: X).length := by
  refine qLc h.nodup (fun x hx => ?_)
  obtain ⟨c, hc, rfl⟩ := List.mem_map.1 hx; have hd := (h.mem c).1 hc; unfold qDr at hd; by_cases hz : c.pos = 0
  ·rw [hz]; exact List.mem_cons_self
  ·rw [if_neg hz] at hd; refine List.mem_cons_of_mem _ (hX _ ?_); cases hn : W.nodes c.pos with
   | some n => exact .inl (by rw [hn]; exact fun e => by cases e)
   | none =>
    rw [hn] at hd; obtain ⟨y, hy, _⟩ := Option.map_eq_some_iff.1 hd; exact .inr (by rw [hy]; exact fun e => by cases e)
 rw [List.length_map, List.length_cons] at h1; exact h1
theorem qNi {len : Nat} : ∀ (cs : List Chg) (met : List Nat), (∀ c ∈ cs, 0 <= c.pos /\ c.pos < len /\ c.data.size <= 1024) -> (places cs).Nodup -> (∀ c ∈ cs, c.pos.toNat ∉ met) -> qCg len met cs = 0
 | [], _, _, _, _ => rfl
 | c :: r, met, h, hn, hm => by
  obtain ⟨h1, h2, h3⟩ := h c List.mem_cons_self; have hn : (c.pos.toNat :: places r).Nodup := hn; obtain ⟨n1, n2⟩ := List.nodup_cons.1 hn; rw [qCg, if_neg (by omega), if_neg (by omega), if_neg (hm c List.mem_cons_self)]
  refine qNi r _ (fun x hx => h x (List.mem_cons_of_mem _ hx)) n2 (fun x hx hh => ?_)
  rcases List.mem_append.1 hh with hh | hh
  ·exact hm x (List.mem_cons_of_mem _ hx) hh
  ·rw [List.mem_singleton] at hh; exact n1 (by rw [<- hh]; exact List.mem_map.2 ⟨x, hx, rfl⟩)
def rdOf (c : Nat -> ByteArray) (x : Int) : ByteArray := c x.toNat
structure DT (L : Nat) (c : Nat -> ByteArray) (T : TM) : Prop where
 size : ∀ q, q < L -> (c q).size <= 1024
 nodes : ∀ x n, T.nodes x = some n -> ∃ r, (rdOf c x).data.toList = qAn n.1 n.2 ++ r /\ AllZ r
 after : ∀ x y, T.after x = some y -> ∃ r, (rdOf c x).data.toList = 70 :: (uvar y.toNat ++ r) /\ AllZ r
 state : (T = newT /\ AllZ (c 0).data.toList) \/ ∃ r, (c 0).data.toList = stL T.root T.next T.free T.count ++ r /\ AllZ r
theorem qDz {n : Nat} (h : n <= 16777216) : (uvar n).length <= 4 := qHy 3 n (by omega)
theorem jGr {a b c d : Int} (ha : a <= 16777216) (hb : b <= 16777216) (hc : c <= 16777216) (hd : d <= 16777216) : (stL a b c d).length <= 17 := by
 have h1 := qDz (n := a.toNat) (by omega)
 have h2 := qDz (n := b.toNat) (by omega)
 have h3 := qDz (n := c.toNat) (by omega)
 have h4 := qDz (n := d.toNat) (by omega)
 unfold stL; simp
 omega
theorem qOm {look : Int -> Option NP} {m : Nat} : ∀ {h : Nat} {s : Int} {t : Tr h}, Sd look m h s t -> (flat h t).length <= 511 * (secs h s t).length
 | 0, s, l, k => by
  have h1 := k.2.len; have h2 : (eOf 0 l).length = List.length (α := KV) l := List.length_map ..; show List.length (α := KV) l <= 511 * 1; omega
 | h + 1, s, l, k => by
  have aux : ∀ r : List (TE (Tr h)), (∀ e ∈ r, Sd look m h e.spot e.sub) -> (qAg r).length <= 511 * (qAl r).length := by
   intro r; induction r with
   | nil => intro _; exact Nat.zero_le _
   | cons e r ih =>
    intro hr; have h1 := qOm (hr e List.mem_cons_self); have h2 := ih (fun x hx => hr x (List.mem_cons_of_mem _ hx))
    have h3 : qAg (e :: r) = flat h e.sub ++ qAg r := by unfold qAg; rw [List.flatMap_cons]
    rw [h3, qBv, List.length_append, List.length_append]; omega
  have h1 := aux l (fun e he => (k.2 e he).1)
  show (qAg l).length <= 511 * (s :: qAl l).length; rw [List.length_cons]; omega
theorem TI.nums {T : TM} {m : Nat} {l : List KV} {H N : Nat} (h : TI T m l H N) (hn : T.next <= 16384) : 0 <= T.root /\ T.root <= 16384 /\ 1 <= T.next /\ 0 <= T.free /\ T.free <= 16384 /\ 0 <= T.count /\ T.count <= 16777216 := by
 obtain ⟨h1, h2, h3⟩ := h; have h2 : T.count = l.length := h2; rcases h3 with ⟨h4, rfl, _, F, hA⟩ | ⟨ht, t, F, hR, hN⟩
 ·have h4 : T.root = 0 := h4; have hp : 1 <= T.next := hA.pos; have hF : T.free = 0 \/ (1 <= T.free /\ T.free < T.next) := by
   have hc : qMe _ T.free F := hA.chain; rcases qGn hc with ⟨h, _⟩ | ⟨h, _⟩
   ·exact .inl h
   ·exact .inr (hA.spot (.inr (.inl h)))
  have : ([] : List KV).length = 0 := rfl; rw [this] at h2; omega
 ·have hA := hR.acc; have hp : 1 <= T.next := hA.pos; have hr : 1 <= T.root /\ T.root < T.next := hA.spot (.inl (by rw [qDj]; exact List.mem_cons_self))
  have hF : T.free = 0 \/ (1 <= T.free /\ T.free < T.next) := by
   have hc : qMe _ T.free F := hA.chain; rcases qGn hc with ⟨h, _⟩ | ⟨h, _⟩
   ·exact .inl h
   ·exact .inr (hA.spot (.inr (.inl h)))
  have hl := hA.len; have hb : T.begin.next = T.next := rfl; rw [hb] at hl; have hf := qOm hR.sd; rw [hR.fl] at hf; simp only [List.length_nil] at hl; omega
theorem qNz {s : ByteArray} : ∃ r, (pad s).data.toList = s.data.toList ++ r /\ AllZ r := ⟨_, qOa s, qIy _⟩
structure qQw (W : WM) (L : Nat) : Prop where
 next : W.next <= (L : Int)
 le : L <= 16384
 nodes : ∀ x n, W.nodes x = some n -> qIs (cn n.1 n.2) = true /\ qEt n.1 n.2 /\ 1 <= x /\ x < W.next
 after : ∀ x y, W.after x = some y -> 1 <= x /\ x < W.next /\ 0 <= y /\ y <= 16384
 nums : 0 <= W.root /\ W.root <= 16384 /\ 1 <= W.next /\ 0 <= W.free /\ W.free <= 16384 /\ 0 <= W.count /\ W.count <= 16777216
theorem qQw.data {W : WM} {L : Nat} (h : qQw W L) {x : Int} {d : ByteArray} (hd : qDr W x = some d) : 0 <= x /\ x < L /\ d.size <= 1024 := by
 have hn := h.next; have hl := h.le; obtain ⟨n1, n2, n3, n4, n5, n6, n7⟩ := h.nums; unfold qDr at hd; by_cases hz : x = 0
 ·rw [if_pos hz] at hd; cases hd
  refine ⟨by omega, by omega, ?_⟩
  unfold stB; rw [qAd]; have := jGr (a := W.root) (b := W.next) (c := W.free) (d := W.count) (by omega) (by omega) (by omega) (by omega)
  omega
 ·rw [if_neg hz] at hd; cases hn : W.nodes x with
  | some n =>
   rw [hn] at hd; cases hd
   obtain ⟨h1, h2, h3, h4⟩ := h.nodes x n hn; refine ⟨by omega, by omega, ?_⟩
   unfold ndB; rw [if_pos h1, qAd]; have hh : Has (cn n.1 n.2) n.1 n.2 := ⟨rfl, rfl, rfl, rfl⟩; unfold qIs at h1; rw [Bool.and_eq_true, decide_eq_true_eq, hh.ents h2] at h1; exact h1.2
  | none =>
   rw [hn] at hd; obtain ⟨y, hy, rfl⟩ := Option.map_eq_some_iff.1 hd; obtain ⟨h1, h2, h3, h4⟩ := h.after x y hy; refine ⟨by omega, by omega, ?_⟩
   unfold frB; rw [qAd, List.length_cons]; have := qDz (n := y.toNat) (by omega)
   omega
theorem qGe {W : WM} {L : Nat} {cs : List Chg} (hf : qQw W L) (h : qKf W cs) : (places cs).Nodup := by
 have h1 : places cs = (cs.map (·.pos)).map Int.toNat := by unfold places; rw [List.map_map]; rfl
 rw [h1]; refine List.Pairwise.map _ (fun a b hab => hab) ?_
 refine (List.pairwise_iff_getElem.1 h.nodup |> fun hp => List.pairwise_iff_getElem.2 (fun i j hi hj hij he => ?_))
 have h2 := hp i j hi hj hij; rw [List.length_map] at hi hj; rw [List.getElem_map, List.getElem_map] at h2 he; have p1 := (hf.data ((h.mem cs[i]).1 (List.getElem_mem hi))).1; have p2 := (hf.data ((h.mem cs[j]).1 (List.getElem_mem hj))).1; omega
theorem qVw {W : WM} {L : Nat} {cs : List Chg} (hf : qQw W L) (h : qKf W cs) : qCg L [] cs = 0 :=
 qNi cs [] (fun c hc => hf.data ((h.mem c).1 hc)) (qGe hf h) (fun _ _ h => by cases h)
theorem qGq {W : WM} {L : Nat} {cs : List Chg} (hf : qQw W L) (h : qKf W cs) (c : Nat -> ByteArray) {x : Int} (hx : 0 <= x) : rdOf (upc c cs) x = match qDr W x with | some d => pad d | none => rdOf c x := by
 cases hd : qDr W x with
 | some d =>
  have hm := (h.mem ⟨x, d⟩).2 hd; obtain ⟨m, hm⟩ := List.mem_iff_getElem?.1 hm; exact qNq (qGe hf h) hm
 | none =>
  refine qSx (fun hh => ?_)
  obtain ⟨y, hy, he⟩ := List.mem_map.1 hh; have hy2 := (h.mem y).1 hy; have p1 := (hf.data hy2).1; have : y.pos = x := by omega
  rw [this, hd] at hy2; cases hy2
theorem jHv {T : TM} {W : WM} {L : Nat} {cs : List Chg} {c : Nat -> ByteArray} (hT : DT L c T) (hf : qQw W L) (h : qKf W cs) (ho : ∀ x, ¬ 1 <= x -> T.nodes x = none /\ T.after x = none) : DT L (upc c cs) (W.done T) := by
 refine ⟨fun q hq => ?_, fun x n hn => ?_, fun x y hy => ?_, .inr ?_⟩
 ·have := qGq hf h c (x := (q : Int)) (by omega)
  unfold rdOf at this; rw [Int.toNat_natCast] at this; rw [this]; cases hd : qDr W (q : Int) with
  | some d => exact Nat.le_of_eq (qKj (hf.data hd).2.2)
  | none => exact hT.size q hq
 ·
  unfold WM.done at hn; simp only at hn; cases hw : W.nodes x with
  | some n' =>
   rw [hw] at hn; cases hn
   obtain ⟨h1, h2, h3, h4⟩ := hf.nodes x n hw; have hd : qDr W x = some (ba (qAn n.1 n.2)) := by
    unfold qDr; rw [if_neg (by omega), hw]
    show some (ndB n) = _; unfold ndB; rw [if_pos h1]
   rw [qGq hf h c (by omega), hd]
   obtain ⟨r, k1, k2⟩ := qNz (s := ba (qAn n.1 n.2)); exact ⟨r, by rw [k1, qDs], k2⟩
  | none =>
   rw [hw] at hn; simp only at hn; cases ha : W.after x with
   | some y => rw [ha] at hn; simp at hn
   | none =>
    rw [ha] at hn; simp at hn
    have hx : 1 <= x := by
     by_cases hx : 1 <= x
     ·exact hx
     ·rw [(ho x hx).1] at hn; cases hn
    have hd : qDr W x = none := by unfold qDr; rw [if_neg (by omega), hw]; simp only; rw [ha]; rfl
    rw [qGq hf h c (by omega), hd]
    exact hT.nodes x n hn
 ·unfold WM.done at hy; simp only at hy; cases hw : W.nodes x with
  | some n' => rw [hw] at hy; simp at hy
  | none =>
   rw [hw] at hy; simp at hy
   cases ha : W.after x with
   | some z =>
    rw [ha] at hy; simp at hy
    subst hy; obtain ⟨h1, h2, h3, h4⟩ := hf.after x z ha; have hd : qDr W x = some (frB z) := by unfold qDr; rw [if_neg (by omega), hw]; simp only; rw [ha]; rfl
    rw [qGq hf h c (by omega), hd]
    obtain ⟨r, k1, k2⟩ := qNz (s := frB z); refine ⟨r, ?_, k2⟩; rw [k1]; unfold frB; rw [qDs]; rfl
   | none =>
    rw [ha] at hy; simp at hy
    have hx : 1 <= x := by
     by_cases hx : 1 <= x
     ·exact hx
     ·rw [(ho x hx).2] at hy; simp at hy
    have hd : qDr W x = none := by unfold qDr; rw [if_neg (by omega), hw]; simp only; rw [ha]; rfl
    rw [qGq hf h c (by omega), hd]
    exact hT.after x y hy.2
 ·have hd : qDr W 0 = some (stB W) := by unfold qDr; rw [if_pos rfl]
  have := qGq hf h c (x := 0) (by omega)
  rw [hd] at this; obtain ⟨r, k1, k2⟩ := qNz (s := stB W); refine ⟨r, ?_, k2⟩; have e : upc c cs 0 = pad (stB W) := this; rw [e, k1]; unfold stB; rw [qDs]; rfl
theorem WI.fits {T : TM} {W : WM} {m : Nat} {l : List KV} {H N L : Nat} (h : WI T m W l H N) (hn : W.next <= (L : Int)) (hL : L <= 16384) (hg : ∀ x n, W.nodes x = some n -> qBd n.1 n.2) : qQw W L := by
 have hT := (qUi h).nums (by show W.next <= _; omega)
 have aux : ∀ (U F : List Int), Acc T W U [] F -> (∀ x ∈ U, ∀ n, W.nodes x = some n -> n.1 = false -> ∀ e ∈ n.2, e.kid < 16384) -> qQw W L := fun U F hA hk => by
  have hin : ∀ x, (W.nodes x ≠ none \/ W.after x ≠ none) -> 1 <= x /\ x < W.next := fun x hx => by
   by_cases hc : 1 <= x /\ x < W.next
   ·exact hc
   ·have := hA.out x hc; exact hx.elim (fun h => absurd this.1 h) (fun h => absurd this.2.1 h)
  refine ⟨hn, hL, fun x n hx => ?_, fun x y hy => ?_, hT⟩
  ·have h1 := hin x (.inl (by rw [hx]; exact fun e => by cases e))
   have hgx := hg x n hx; refine ⟨jAf hgx (fun hl => ?_), hgx.clean, h1.1, h1.2⟩
   by_cases hu : x ∈ U
   ·exact hk x hu n hx hl
   ·exfalso
    by_cases hf : x ∈ F
    ·have := (hA.free x hf).1; rw [hx] at this; cases this
    ·have hc := hA.cnt x; rw [List.count_eq_zero.2 hu, List.count_eq_zero.2 hf, if_pos h1] at hc; simp at hc
  ·have h1 := hin x (.inr (by rw [hy]; exact fun e => by cases e))
   have hxf : x ∈ F := by
    by_cases hf : x ∈ F
    ·exact hf
    ·exfalso
     have hc := hA.cnt x; rw [List.count_eq_zero.2 hf, if_pos h1] at hc; have hu : x ∈ U := List.count_pos_iff.1 (by simp at hc; omega)
     have := (hA.used x (.inl hu)).1; rw [hy] at this; cases this
   have hlink : W.link T x = some y := by unfold WM.link; rw [hy]
   have haux : ∀ (G : List Int) (f : Int), qMe (W.link T) f G -> x ∈ G -> y = 0 \/ y ∈ G := by
    intro G; induction G with
    | nil => intro f _ hx; cases hx
    | cons z G ih =>
     intro f hc hx; obtain ⟨rfl, _, w, q1, q2⟩ := hc; rcases List.mem_cons.1 hx with rfl | hx
     ·rw [hlink] at q1; cases q1
      rcases qGn q2 with ⟨h, _⟩ | ⟨h, _⟩
      ·exact .inl h
      ·exact .inr (List.mem_cons_of_mem _ h)
     ·exact (ih w q2 hx).imp id (List.mem_cons_of_mem _)
   refine ⟨h1.1, h1.2, ?_⟩; rcases haux F W.free hA.chain hxf with h | h
   ·omega
   ·have := hA.spot (.inr (.inl h)); omega
 obtain ⟨_, _, h3⟩ := h; rcases h3 with ⟨_, _, _, F, hA⟩ | ⟨ht, t, F, hR, _⟩
 ·exact aux [] F hA (fun x hx => by cases hx)
 ·refine aux _ F hR.acc (fun x hx n hx2 hl => ?_)
  have hsp : ∀ x ∈ secs ht W.root t, x < 16384 := fun x hx => by have := hR.acc.spot (.inl hx); omega
  have haux : ∀ (g : Nat) (s : Int) (u : Tr g), Sd (W.look T) m g s u -> (∀ x ∈ secs g s u, x < 16384) -> ∀ x ∈ secs g s u, ∀ n, W.look T x = some n -> n.1 = false -> ∀ e ∈ n.2, e.kid < 16384 := by
   intro g; induction g with
   | zero =>
    intro s u hu _ x hx n hn hl; have hx : x ∈ [s] := hx; rw [List.mem_singleton] at hx; subst hx; rw [hu.1] at hn; cases hn
    cases hl
   | succ g ih =>
    intro s u hu hb x hx n hn hl; have hx : x ∈ s :: qAl u := hx; rcases List.mem_cons.1 hx with hx | hx
    ·subst hx; rw [hu.1.1] at hn; cases hn
     intro e he; have he : e ∈ List.map eE u := he; obtain ⟨y, hy, rfl⟩ := List.mem_map.1 he; exact hb y.spot (by
      show y.spot ∈ x :: qAl u; unfold qAl; exact List.mem_cons_of_mem _ (List.mem_flatMap.2 ⟨y, hy, by rw [qDj]; exact List.mem_cons_self⟩))
    ·unfold qAl at hx; obtain ⟨y, hy, hx⟩ := List.mem_flatMap.1 hx; refine ih y.spot y.sub (hu.2 y hy).1 (fun z hz => hb z ?_) x hx n hn hl
     show z ∈ s :: qAl u; unfold qAl; exact List.mem_cons_of_mem _ (List.mem_flatMap.2 ⟨y, hy, hz⟩)
  exact haux ht W.root t hR.sd hsp x hx n (by unfold WM.look; rw [hx2]) hl
end
end Go.Proofs.YtkinkgbmlhiakaaGreatDoor
