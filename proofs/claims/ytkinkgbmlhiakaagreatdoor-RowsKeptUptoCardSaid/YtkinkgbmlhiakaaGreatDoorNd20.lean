/- merged: TwV RoR RoK RoM Push DecL TrR JrKp -/
import Derived.Test.YtkinkgbmlhiakaaGreatDoorNd19
import Derived.Test.YtkinkgbmlhiakaaGreatDoorNd05
import Derived.Test.YtkinkgbmlhiakaaGreatDoorNd13
import Derived.Test.YtkinkgbmlhiakaaGreatDoorNd15
import Derived.Test.YtkinkgbmlhiakaaGreatDoorNd17
import Derived.Test.YtkinkgbmlhiakaaGreatDoorNd06
import Derived.Test.YtkinkgbmlhiakaaGreatDoorNd08
import Derived.Test.YtkinkgbmlhiakaaGreatDoorNd10
import Derived.Test.YtkinkgbmlhiakaaGreatDoorNd14
import Derived.Test.YtkinkgbmlhiakaaGreatDoorNd03
import Derived.Test.YtkinkgbmlhiakaaGreatDoorNd04
namespace Go.Proofs.YtkinkgbmlhiakaaGreatDoor
section
open Go Go.RowKit
noncomputable def KS : Keys Tryz.prog 9 ByteArray := jAa Tryz.underlying9
open Classical in
noncomputable def chkF : List ByteArray -> List Cg -> Int
 | _, [] => 0
 | met, c :: r => if c.key.toList = [] \/ 48 < c.key.size then 50 else if 200 < c.value.size then 51 else if c.key ∈ met then 30 else chkF (met ++ [c.key]) r
theorem qJr : ∀ {cs : List Cg} {met : List ByteArray}, chkF met cs = 0 -> ∀ c ∈ cs, CgOk c
 | [], _, _ => fun c hc => by cases hc
 | x :: r, met, h => fun c hc => by
  unfold chkF at h; by_cases h1 : x.key.toList = [] \/ 48 < x.key.size
  ·rw [if_pos h1] at h; cases h
  ·rw [if_neg h1] at h; by_cases h2 : 200 < x.value.size
   ·rw [if_pos h2] at h; cases h
   ·rw [if_neg h2] at h; by_cases h3 : x.key ∈ met
    ·rw [if_pos h3] at h; cases h
    ·rw [if_neg h3] at h; rcases List.mem_cons.1 hc with rfl | hc
     ·exact ⟨fun e => h1 (.inl e), by omega, by omega⟩
     ·exact qJr h c hc
def mapK (l : List ByteArray) : List (ByteArray × Value) := l.map fun k => (k, .int .i64 1)
theorem jBm (l : List ByteArray) (k : ByteArray) : mapK (l ++ [k]) = mapK l ++ [(k, .int .i64 1)] := by simp [mapK]
open Classical in
theorem qMy : ∀ (l : List ByteArray) (x : ByteArray), aget (mapK l) x = if x ∈ l then some (.int .i64 1) else none
 | [], x => by simp [mapK, aget]
 | n :: l, x => by
  have ih := qMy l x; unfold mapK aget at *; rw [List.map_cons]; by_cases h : n = x
  ·subst h; simp
  ·have h2 : ¬ x = n := fun e => h e.symm
   rw [List.find?_cons_of_neg (by simpa using h), ih]
   simp [h2]
theorem jGl (cs : List Cg) {k : Nat} {x : Cg} (hx : cs[k]? = some x) : (cs.take (k + 1)).map (·.key) = (cs.take k).map (·.key) ++ [x.key] := by
 rw [List.take_add_one, hx, List.map_append]; rfl
open Classical in
theorem jDj (met : List ByteArray) (c : Cg) (r : List Cg) : chkF met (c :: r) = if c.key.toList = [] \/ 48 < c.key.size then 50 else if 200 < c.value.size then 51 else if c.key ∈ met then 30 else chkF (met ++ [c.key]) r := rfl
set_option maxRecDepth 100000
open Classical in
set_option maxHeartbeats 4000000 in
theorem qSi {w : World} {a : Option Addr} (cap : Nat) {cs : List Cg} (hc : Lies w 3 ccs a cs) (hb : cs.length <= 1099511627776000) (hs : ∀ c ∈ cs, c.key.size <= maxLen /\ c.value.size <= maxLen) :
  Calls Tryz.prog 32 #[.slice a cs.length cap] w fun e w' => e = .returned (.int .i64 (chkF [] cs)) /\ Mod (fun _ => False) w w' := by
 have HC := hid hc; have HSz := hid hs; have hmm := @run_makeMap Tryz.prog; obtain ⟨F, hF⟩ : ∃ z, chkF [] cs = z := ⟨_, rfl⟩; rw [hF]; have HF := hid hF; clear hc hs hF; go_enter Tryz.func32, Tryz.ntmps32
 go_wp2_with fail
 go_loopw [9] (fun sc wr => ∃ k : Nat, k <= cs.length /\ sc = .int .i64 (k : Int) /\ F = chkF ((cs.take k).map (·.key)) (cs.drop k) /\ qAv KS.kv wr w.heap.size (mapK ((cs.take k).map (·.key))) /\ Mod (fun _ => False) w wr) (fun sc _ => cs.length - (intOf sc).toNat)
 case atStart => exact ⟨0, Nat.zero_le _, rfl, HF.out.symm, qAv.made KS.kv w, (Mod.refl _ _).alloc _⟩
 case round =>
  obtain ⟨k, hk, rfl, r1, r2, r3⟩ := hrel; have HFk := hid r1; have HMap := hid r2; have HM := hid r3; clear r1 r2 r3; by_cases hlt : k < cs.length
  ·obtain ⟨x, hx⟩ : ∃ x, cs[k]? = some x := ⟨_, List.getElem?_eq_getElem hlt⟩; have hxe : cs[k] = x := by rw [List.getElem?_eq_getElem hlt] at hx; exact Option.some.inj hx
   obtain ⟨g, off, rfl⟩ := HC.out.some (by omega)
   have hcw := HC.out.ext HM.out; have hq0 := hcw.cell qKu hx (j := 0) rfl; have hq1 := hcw.cell qKu hx (j := 1) rfl; have hq2 := hcw.cell qKu hx (j := 2) rfl; simp only [Nat.add_zero] at hq0; have hxs := HSz.out x (List.mem_of_getElem? hx); have HSt : Hid (F = if x.key.toList = [] \/ 48 < x.key.size then 50 else if 200 < x.value.size then 51 else if x.key ∈ (cs.take k).map (·.key) then 30 else chkF ((cs.take k).map (·.key) ++ [x.key]) (cs.drop (k + 1))) := hid (by
    rw [HFk.out, List.drop_eq_getElem_cons hlt, hxe]; rfl)
   have HTk := hid (jGl cs hx); obtain ⟨xk, xv, xg⟩ := x; simp only at hq0 hq1 hq2 hxs HSt HTk; have hma : Mod (fun _ => False) wr (wr.alloc (.cells #[.string xk, .string xv, .bool xg] 113)) := (Mod.refl _ _).alloc _
   have hcb : (wr.alloc (.cells #[.string xk, .string xv, .bool xg] 113)).heap[wr.heap.size]? = some (.cells #[.string xk, .string xv, .bool xg] 113 (0, 0)) := heap_alloc_new _ _; have HMa := hid (HM.out.trans hma); have HMapa := hid (HMap.out.mod hma (fun h => h))
   obtain ⟨b0, b1, b2⟩ : (wr.alloc (.cells #[.string xk, .string xv, .bool xg] 113)).cell? ⟨wr.heap.size, 0, none⟩ = some (.string xk) /\ (wr.alloc (.cells #[.string xk, .string xv, .bool xg] 113)).cell? ⟨wr.heap.size, 1, none⟩ = some (.string xv) /\ (wr.alloc (.cells #[.string xk, .string xv, .bool xg] 113)).cell? ⟨wr.heap.size, 2, none⟩ = some (.bool xg) := by
    refine ⟨?_, ?_, ?_⟩ <;> (rw [cell_of_row _ _ _ _ _ _ hcb]; rfl)
   obtain ⟨hs1, hs2⟩ := hxs; unfold maxLen at hs1 hs2; clear hx hxe hma hcb hcw; by_cases h1 : xk.toList = []
   ·have e1 : xk.toList.isEmpty = true := by rw [h1]; rfl
    have HE : Hid (F = 50) := hid (by rw [HSt.out, if_pos (.inl h1)])
    clear h1; go_wp2_with fail
    go_ret; rw [HE.out]; exact ⟨rfl, HMa.out⟩
   ·have e1 : xk.toList.isEmpty = false := by cases hq : xk.toList with | nil => exact absurd hq h1 | cons b r => rfl
    by_cases h2 : 48 < xk.size
    ·have HE : Hid (F = 50) := hid (by rw [HSt.out, if_pos (.inr h2)])
     clear h1; go_wp2_with fail
     go_ret; rw [HE.out]; exact ⟨rfl, HMa.out⟩
    ·have hn12 : ¬ (xk.toList = [] \/ 48 < xk.size) := fun e => e.elim h1 h2
     by_cases h3 : 200 < xv.size
     ·have HE : Hid (F = 51) := hid (by rw [HSt.out, if_neg hn12, if_pos h3])
      clear h1 hn12; go_wp2_with fail
      go_ret; rw [HE.out]; exact ⟨rfl, HMa.out⟩
     ·by_cases h4 : xk ∈ (cs.take k).map (·.key)
      ·have HE : Hid (F = 30) := hid (by rw [HSt.out, if_neg hn12, if_neg h3, if_pos h4])
       have HAg : Hid (aget (mapK ((cs.take k).map (·.key))) xk = some (.int .i64 1)) := hid (by rw [qMy, if_pos h4])
       clear h1 hn12 h4; go_wp2_with (at_lookup; refine qDj rfl _ _ 160 false rfl KS Tryz.underlying160 (qXb _) w.heap.size _ xk rfl rfl HMapa.out ?_; rw [HAg.out]; simp only [Bool.false_eq_true, if_false])
       go_ret; rw [HE.out]; exact ⟨rfl, HMa.out⟩
      ·have HE : Hid (F = chkF ((cs.take k).map (·.key) ++ [xk]) (cs.drop (k + 1))) := hid (by rw [HSt.out, if_neg hn12, if_neg h3, if_neg h4])
       have HAg : Hid (aget (mapK ((cs.take k).map (·.key))) xk = none) := hid (by rw [qMy, if_neg h4])
       clear h1 hn12 h4; go_wp2_with (first
        | (at_lookup; refine qDj rfl _ _ 160 false rfl KS Tryz.underlying160 (qXb _) w.heap.size _ xk rfl rfl HMapa.out ?_; rw [HAg.out]; simp only [Bool.false_eq_true, if_false])
        | (at_mapUpdate; refine qKb rfl _ _ _ 160 rfl KS Tryz.underlying160 w.heap.size _ xk (.int .i64 1) rfl rfl rfl HMapa.out ?_; intro w6 hat6 hm6; have Hat6 := hid hat6; have Hm6 := hid hm6; clear hat6 hm6))
       go_roundw
       case rel =>
        refine ⟨k + 1, by omega, by go_num, by rw [HTk.out]; exact HE.out, ?_, HMa.out.then Hm6.out (fun i hi e => by omega)⟩
        rw [HTk.out, jBm]; have := Hat6.out; rw [qWv HAg.out] at this; exact this
       case measure => simp [intOf]; omega
  ·have HE : Hid (F = 0) := hid (by rw [HFk.out, List.drop_of_length_le (by omega)]; rfl)
   go_wp2_with fail
   go_ret; rw [HE.out]; exact ⟨rfl, HM.out⟩
end
section
open Go Go.RowKit
def Rg.c (g : Rg) : Cg := ⟨g.k, g.v, g.g⟩
def PB.pk (b : PB) : PK := ⟨b.k, b.v, b.x⟩
theorem jJh {w : World} {a : Option Addr} {l : List Rg} (h : Lies w 3 Rg.cs a l) : Lies w 3 ccs a (l.map Rg.c) := by
 have e : (l.map Rg.c).flatMap ccs = l.flatMap Rg.cs := by rw [List.flatMap_map]; rfl
 obtain ⟨h1, h2, h3⟩ := h; refine ⟨by rw [List.length_map, e]; exact h1, fun hl x hx => h2 (by rwa [List.length_map] at hl) x hx, fun k hl hk => h3 k (by rwa [List.length_map] at hl) hk⟩
theorem jDm (P Q : Option PB) : (chgL P Q).map Rg.c = qGl (P.map PB.pk) (Q.map PB.pk) := by
 cases P with
 | none =>
  cases Q with
  | none => rfl
  | some q =>
   show List.map Rg.c (_ :: ite _ _ _) = _ :: ite _ _ _; rw [List.map_cons]; by_cases h : q.x.toList.isEmpty = true
   ·rw [if_pos h]; exact (congrArg (List.cons _) (if_pos h)).symm
   ·rw [if_neg h]; exact (congrArg (List.cons _) (if_neg h)).symm
 | some p =>
  cases Q with
  | none =>
   show List.map Rg.c (_ :: ite _ _ _) = _ :: ite _ _ _; rw [List.map_cons]; by_cases h : p.x.toList.isEmpty = true
   ·rw [if_pos h]; exact (congrArg (List.cons _) (if_pos h)).symm
   ·rw [if_neg h]; exact (congrArg (List.cons _) (if_neg h)).symm
  | some q =>
   show List.map Rg.c (_ :: ite _ _ _) = _ :: ite _ _ _; rw [List.map_cons]; by_cases h : q.x.toList.isEmpty = true \/ p.x.toList = q.x.toList
   ·rw [if_pos h]; exact (congrArg (List.cons _) (if_pos h)).symm
   ·rw [if_neg h]; exact (congrArg (List.cons _) (if_neg h)).symm
noncomputable def rowK (name : Int) (cols : List Int) (keys idx : Int) (r : List Vl) : Option PK := ((qBt name cols keys idx r).map PX.b).map PB.pk
theorem qHh {name : Int} {cols : List Int} {keys idx : Int} {r : List Vl} {q : PK} (h : rowK name cols keys idx r = some q) :
  ∃ p, qBt name cols keys idx r = some p /\ q = ⟨ba p.k, ba p.v, ba p.x⟩ /\ qFj p /\ p = pxOf name cols keys idx r := by
 unfold rowK at h; obtain ⟨b, hb, rfl⟩ := Option.map_eq_some_iff.1 h; obtain ⟨p, hp, rfl⟩ := Option.map_eq_some_iff.1 hb; obtain ⟨_, h2, h3⟩ := qGr hp; exact ⟨p, hp, rfl, h2, h3⟩
theorem jMc {a b : List UInt8} (h : a ≠ b) : ba a ≠ ba b := fun e => h (by rw [<- qBk a, <- qBk b, e])
theorem qLy {name : Int} {cols : List Int} {keys idx : Int} {r r' : List Vl} {q q' : PK} (h : rowK name cols keys idx r = some q) (h' : rowK name cols keys idx r' = some q') (hx : q'.x.toList.isEmpty = false) : q.k ≠ q'.x := by
 obtain ⟨p, _, rfl, _, rfl⟩ := qHh h; obtain ⟨p', _, rfl, _, rfl⟩ := qHh h'; refine jMc ?_; have hx' : (pxOf name cols keys idx r').x ≠ [] := fun e => by
  simp only at hx; rw [e, ByteArray.toList_eq, qBk] at hx; cases hx
 unfold pxOf qGe pxL qAe at *; simp only at *; split
 ·simp
 ·rename_i hn
  rw [if_neg hn] at hx'; exact absurd rfl hx'
theorem qSx {name : Int} {cols : List Int} {keys idx : Int} {r : List Vl} {q : PK} (h : rowK name cols keys idx r = some q) : PKok q (decide (0 <= idx)) := by
 refine ⟨fun hx => qLy h h hx, ?_⟩
 obtain ⟨p, _, rfl, _, rfl⟩ := qHh h; unfold pxOf pxL qAe; simp only; rw [ByteArray.toList_eq, qBk]; by_cases hi : 0 <= idx
 ·rw [if_pos hi]; simp [hi]
 ·rw [if_neg hi]; simp [hi]
theorem jAo {name : Int} {cols : List Int} {keys idx : Int} {r : List Vl} {q : PK} (h : rowK name cols keys idx r = some q) : (q.k.toList ≠ [] /\ q.k.size <= 48) /\ q.x.size <= 48 /\ q.v.size <= 200 := by
 obtain ⟨p, _, rfl, ⟨s1, s2, s3⟩, e⟩ := qHh h; simp only; rw [qAf, qAf, qAf]; refine ⟨⟨?_, s1⟩, s2, s3⟩; rw [ByteArray.toList_eq, qBk, e]; unfold pxOf qGe qAe; simp
theorem qIl : ∀ (cs : List Cg) (met : List ByteArray), (∀ c ∈ cs, CgOk c) -> (cs.map (·.key)).Nodup -> (∀ c ∈ cs, c.key ∉ met) -> chkF met cs = 0
 | [], _, _, _, _ => rfl
 | c :: r, met, h1, h2, h3 => by
  obtain ⟨n1, n2⟩ := List.nodup_cons.1 h2; have hc := h1 c List.mem_cons_self; rw [jDj, if_neg (fun e => e.elim hc.ne (fun e => by have := hc.key; omega)), if_neg (by have := hc.value; omega), if_neg (h3 c List.mem_cons_self)]
  refine qIl r _ (fun x hx => h1 x (List.mem_cons_of_mem _ hx)) n2 (fun x hx hm => ?_)
  rcases List.mem_append.1 hm with hm | hm
  ·exact h3 x (List.mem_cons_of_mem _ hx) hm
  ·rw [List.mem_singleton] at hm; exact n1 (List.mem_map.2 ⟨x, hx, hm⟩)
theorem jEj {name : Int} {cols : List Int} {keys idx : Int} {r r' : List Vl} (hk : ∀ p q, rowK name cols keys idx r = some p -> rowK name cols keys idx r' = some q -> p.k = q.k) :
  chkF [] (qGl (rowK name cols keys idx r) (rowK name cols keys idx r')) = 0 /\ (qGl (rowK name cols keys idx r) (rowK name cols keys idx r')).length <= 3 := by
 have hcg : ∀ (q : PK) (s : List Vl) (g : Bool), rowK name cols keys idx s = some q -> CgOk ⟨q.k, q.v, g⟩ /\ CgOk ⟨q.k, ⟨#[]⟩, g⟩ /\ (q.x.toList.isEmpty = false -> CgOk ⟨q.x, ⟨#[]⟩, g⟩) := fun q s g hq => by
  obtain ⟨⟨s0, s1⟩, s2, s3⟩ := jAo hq; refine ⟨⟨s0, s1, s3⟩, ⟨s0, s1, Nat.zero_le _⟩, fun hx => ⟨fun e => ?_, s2, Nat.zero_le _⟩⟩
  have e : q.x.toList = [] := e; rw [e] at hx; cases hx
 cases hP : rowK name cols keys idx r with
 | none =>
  cases hQ : rowK name cols keys idx r' with
  | none => exact ⟨rfl, Nat.zero_le _⟩
  | some q =>
   obtain ⟨g1, _, g3⟩ := hcg q r' false hQ; unfold qGl; simp only; cases hx : q.x.toList.isEmpty with
   | true =>
    rw [if_pos rfl]; exact ⟨qIl _ _ (fun c hc => by rw [List.mem_singleton] at hc; subst hc; exact g1) (by simp) (fun c hc hm => by cases hm), by simp⟩
   | false =>
    rw [if_neg (by decide)]
    refine ⟨qIl _ _ (fun c hc => ?_) ?_ (fun c hc hm => by cases hm), by simp⟩
    ·rcases List.mem_cons.1 hc with rfl | hc
     ·exact g1
     ·rw [List.mem_singleton] at hc; subst hc; exact g3 hx
    ·have := qLy hQ hQ hx; simp [this]
 | some p =>
  cases hQ : rowK name cols keys idx r' with
  | none =>
   obtain ⟨_, g2, g3⟩ := hcg p r true hP; unfold qGl; simp only; cases hx : p.x.toList.isEmpty with
   | true =>
    rw [if_pos rfl]; exact ⟨qIl _ _ (fun c hc => by rw [List.mem_singleton] at hc; subst hc; exact g2) (by simp) (fun c hc hm => by cases hm), by simp⟩
   | false =>
    rw [if_neg (by decide)]
    refine ⟨qIl _ _ (fun c hc => ?_) ?_ (fun c hc hm => by cases hm), by simp⟩
    ·rcases List.mem_cons.1 hc with rfl | hc
     ·exact g2
     ·rw [List.mem_singleton] at hc; subst hc; exact g3 hx
    ·have := qLy hP hP hx; simp [this]
  | some q =>
   obtain ⟨g1, _, g3⟩ := hcg q r' false hQ; obtain ⟨_, _, g4⟩ := hcg p r true hP; have hpq := hk p q hP hQ; have hi : p.x.toList.isEmpty = q.x.toList.isEmpty := by rw [(qSx hP).idx, (qSx hQ).idx]
   unfold qGl; simp only; by_cases hx : q.x.toList.isEmpty = true \/ p.x.toList = q.x.toList
   ·rw [if_pos hx]; exact ⟨qIl _ _ (fun c hc => by rw [List.mem_singleton] at hc; subst hc; exact g1) (by simp) (fun c hc hm => by cases hm), by simp⟩
   ·rw [if_neg hx]; rw [not_or] at hx; have hx1 : q.x.toList.isEmpty = false := by simpa using hx.1
    refine ⟨qIl _ _ (fun c hc => ?_) ?_ (fun c hc hm => by cases hm), by simp⟩
    ·rcases List.mem_cons.1 hc with rfl | hc
     ·exact g1
     ·rcases List.mem_cons.1 hc with rfl | hc
      ·exact g3 hx1
      ·rw [List.mem_singleton] at hc; subst hc; exact g4 (by rw [hi]; exact hx1)
    ·have h1 := qLy hQ hQ hx1; have h2 := qLy hQ hP (by rw [hi]; exact hx1)
     have h3 : q.x ≠ p.x := fun e => hx.2 (by rw [e])
     simp [h1, h2, h3]
end
section
open Go Go.RowKit
theorem qPl {c : Cg} {l m : List KV} {p : KV} (h : p ∈ l ↔ p ∈ m) : p ∈ chg c l ↔ p ∈ chg c m := by rw [qDu, qDu, h]
theorem qIa : ∀ (cs : List Cg) {l m : List KV} {p : KV}, (p ∈ l ↔ p ∈ m) -> (p ∈ chgs cs l ↔ p ∈ chgs cs m)
 | [], _, _, _, h => h
 | _ :: cs, _, _, _, h => qIa cs (qPl h)
theorem qHz : ∀ (cs : List Cg) {l : List KV} {p : KV}, (∀ c ∈ cs, p.1 ≠ c.key) -> (p ∈ chgs cs l ↔ p ∈ l)
 | [], _, _, _ => Iff.rfl
 | c :: cs, l, p, h => by
  rw [qHa, qHz cs (fun d hd => h d (List.mem_cons_of_mem _ hd)), qDu]
  have h1 := h c List.mem_cons_self; constructor
  ·rintro (⟨h2, _⟩ | ⟨_, h2⟩)
   ·exact h2
   ·exact absurd (by rw [h2]) h1
  ·exact fun h2 => .inl ⟨h2, h1⟩
def PK.has (q : PK) (k : ByteArray) : Prop := k = q.k \/ (q.x.toList.isEmpty = false /\ k = q.x)
theorem qZt {P Q : Option PK} {idx : Bool} (hP : ∀ p, P = some p -> PKok p idx) (hQ : ∀ q, Q = some q -> PKok q idx) {c : Cg} (hc : c ∈ qGl P Q) : (∃ p, P = some p /\ p.has c.key) \/ (∃ q, Q = some q /\ q.has c.key) := by
 cases P with
 | none =>
  cases Q with
  | none => cases hc
  | some q =>
   unfold qGl at hc; rcases List.mem_cons.1 hc with rfl | hc
   ·exact .inr ⟨q, rfl, .inl rfl⟩
   ·split at hc
    ·cases hc
    ·rename_i hx
     rw [List.mem_singleton] at hc; subst hc; exact .inr ⟨q, rfl, .inr ⟨by simpa using hx, rfl⟩⟩
 | some p =>
  have hp := hP p rfl; cases Q with
  | none =>
   unfold qGl at hc; rcases List.mem_cons.1 hc with rfl | hc
   ·exact .inl ⟨p, rfl, .inl rfl⟩
   ·split at hc
    ·cases hc
    ·rename_i hx
     rw [List.mem_singleton] at hc; subst hc; exact .inl ⟨p, rfl, .inr ⟨by simpa using hx, rfl⟩⟩
  | some q =>
   have hq := hQ q rfl; unfold qGl at hc; rcases List.mem_cons.1 hc with rfl | hc
   ·exact .inr ⟨q, rfl, .inl rfl⟩
   ·split at hc
    ·cases hc
    ·rename_i hx
     rw [not_or] at hx; have hqx : q.x.toList.isEmpty = false := by simpa using hx.1
     rcases List.mem_cons.1 hc with rfl | hc
     ·exact .inr ⟨q, rfl, .inr ⟨hqx, rfl⟩⟩
     ·rw [List.mem_singleton] at hc; subst hc; exact .inl ⟨p, rfl, .inr ⟨by rw [hp.idx, <- hq.idx]; exact hqx, rfl⟩⟩
theorem qXm {P Q : Option PK} {idx : Bool} {O : KV -> Prop} (hP : ∀ p, P = some p -> PKok p idx) (hQ : ∀ q, Q = some q -> PKok q idx) (hk : ∀ p q, P = some p -> Q = some q -> p.k = q.k)
  (hd : ∀ p q, P = some p -> Q = some q -> q.x.toList.isEmpty = false -> p.k ≠ q.x) (hO : ∀ z, O z -> (∀ p, P = some p -> ¬ p.has z.1) /\ (∀ q, Q = some q -> ¬ q.has z.1)) {l : List KV} (h : ∀ p, p ∈ l ↔ qRb P p \/ O p) :
  ∀ p, p ∈ chgs (qGl P Q) l ↔ qRb Q p \/ O p := by
 intro z; have hself : ∀ q, Q = some q -> qRb Q z -> q.has z.1 := fun q e hs => by
  subst e; rcases hs with hs | ⟨h1, hs⟩
  ·exact .inl (by rw [hs])
  ·exact .inr ⟨h1, by rw [hs]⟩
 by_cases hz : O z
 ·obtain ⟨o1, o2⟩ := hO z hz; rw [qHz _ (fun c hc e => ?_), h]
  ·exact ⟨fun _ => .inr hz, fun _ => .inr hz⟩
  ·rcases qZt hP hQ hc with ⟨p, hp, hh⟩ | ⟨q, hq, hh⟩
   ·exact o1 p hp (by rw [e]; exact hh)
   ·exact o2 q hq (by rw [e]; exact hh)
 ·have h0 : ∀ p, p ∈ chgs (qGl none P) [] ↔ qRb P p := qNq (idx := idx) (P := none) (fun p e => by cases e) hP (fun p q e => by cases e) (fun p q e => by cases e) (fun p => ⟨(fun e => by cases e), fun e => e.elim⟩)
  have h1 := qNq hP hQ hk hd h0 z; rw [<- qIa (qGl P Q) (l := l) (m := chgs (qGl none P) []) (p := z) (by rw [h, h0]; exact ⟨fun e => e.resolve_right hz, .inl⟩)] at h1
  rw [h1]; exact ⟨.inl, fun e => e.resolve_right hz⟩
abbrev SV := ByteArray × Int
def kS (s : ByteArray) : ByteArray := ba (qAe 107 0 ++ (s.data.toList ++ [0]))
def vS (m : SV) : ByteArray := ba (intL m.2 ++ qCq (m.1 ++ m.1))
def xS (m : SV) : ByteArray := ba (qAe 107 1 ++ ordL m.2 ++ (m.1.data.toList ++ [0]))
def rowS (m : SV) : List Vl := [⟨0, m.1⟩, ⟨m.2, ⟨#[]⟩⟩, ⟨0, m.1 ++ m.1⟩]
structure SvOk (m : SV) : Prop where
 bare : qDp m.1 = true
 size : m.1.size <= 20
 lo : -9223372036854775808 <= m.2
 hi : m.2 <= 9223372036854775807
theorem qPs : qJj 107 [1, 0, 1] 1 1 = true := by
 unfold qJj; rw [if_pos (by
  intro k hk; rcases List.mem_cons.1 hk with rfl | hk
  ·exact .inr rfl
  ·rcases List.mem_cons.1 hk with rfl | hk
   ·exact .inl rfl
   ·rw [List.mem_singleton] at hk; subst hk; exact .inr rfl)]
 rfl
theorem qGn {m : SV} (h : SvOk m) : rowK 107 [1, 0, 1] 1 1 (rowS m) = some ⟨kS m.1, vS m, xS m⟩ := by
 have hsz : m.1.data.toList.length = m.1.size := rfl; have e1 : pxOf 107 [1, 0, 1] 1 1 (rowS m) = ⟨qAe 107 0 ++ (m.1.data.toList ++ [0]), intL m.2 ++ qCq (m.1 ++ m.1), qAe 107 1 ++ ordL m.2 ++ (m.1.data.toList ++ [0])⟩ := by
  unfold pxOf qGe qXx pxL qEb valL idxL rowS qDn qRw qKf; simp
 have hp : qBt 107 [1, 0, 1] 1 1 (rowS m) = some ⟨qAe 107 0 ++ (m.1.data.toList ++ [0]), intL m.2 ++ qCq (m.1 ++ m.1), qAe 107 1 ++ ordL m.2 ++ (m.1.data.toList ++ [0])⟩ := by
  rw [<- e1]; refine qHk ⟨qPs, rfl, fun j c v hc hv => ?_, fun j v hj hv => ?_⟩ ?_
  ·match j with
   | 0 => cases hc; cases hv; rfl
   | 1 => cases hc; cases hv; unfold qDe; rw [if_pos rfl, ByteArray.toList_eq]; rfl
   | 2 => cases hc; cases hv; rfl
   | j + 3 => cases hc
  ·match j, hv with
   | 0, hv => cases hv; exact h.bare
   | 1, hv => cases hv; rfl
   | j + 2, _ => exfalso; omega
  ·rw [e1]; have h8 : (ordL m.2).length = 8 := qDz 8 _; have h10 := qWb h.lo h.hi; have h20 := h.size; have hs2 : (m.1 ++ m.1).size = m.1.size + m.1.size := ByteArray.size_append; have ht : (qCq (m.1 ++ m.1)).length <= 10 + (m.1 ++ m.1).size := qEt (s := m.1 ++ m.1) (by omega)
   refine ⟨?_, ?_, ?_⟩
   ·show (qAe 107 0 ++ (m.1.data.toList ++ [0])).length <= 48; unfold qAe; simp only [List.length_append, List.length_cons, List.length_nil]; omega
   ·show (qAe 107 1 ++ ordL m.2 ++ (m.1.data.toList ++ [0])).length <= 48; unfold qAe; simp only [List.length_append, List.length_cons, List.length_nil]; omega
   ·show (intL m.2 ++ qCq (m.1 ++ m.1)).length <= 200; rw [List.length_append]; omega
 unfold rowK; rw [hp]; rfl
theorem jFf {m : SV} (h : qDp m.1 = false) : rowK 107 [1, 0, 1] 1 1 (rowS m) = none := by
 unfold rowK; rw [qEe (fun hg => by have := hg.bare 0 ⟨0, m.1⟩ (.inl (by decide)) rfl; rw [h] at this; cases this)]
 rfl
theorem qQk : ∀ {a b x y : List UInt8}, (0 : UInt8) ∉ a -> (0 : UInt8) ∉ b -> a ++ 0 :: x = b ++ 0 :: y -> a = b
 | [], [], _, _, _, _, _ => rfl
 | [], d :: b, _, _, _, hb, h => by
  rw [List.nil_append, List.cons_append] at h; cases h
  exact absurd List.mem_cons_self hb
 | c :: a, [], _, _, ha, _, h => by
  rw [List.nil_append, List.cons_append] at h; cases h
  exact absurd List.mem_cons_self ha
 | c :: a, d :: b, x, y, ha, hb, h => by
  rw [List.cons_append, List.cons_append] at h; injection h with h1 h2
  subst h1; rw [qQk (fun e => ha (List.mem_cons_of_mem _ e)) (fun e => hb (List.mem_cons_of_mem _ e)) h2]
theorem qWn {a b : ByteArray} (h : a.data.toList = b.data.toList) : a = b := toList_inj (by rw [ByteArray.toList_eq, ByteArray.toList_eq]; exact h)
theorem jIh {a b : List UInt8} (h : ba a = ba b) : a = b := by rw [<- qBk a, <- qBk b, h]
theorem jLu {s t : ByteArray} (hs : qDp s = true) (ht : qDp t = true) (h : kS s = kS t) : s = t := by
 have := jIh h; unfold qAe at this; simp only [List.cons_append, List.nil_append, List.cons.injEq, true_and] at this; exact qWn (qQk (qEq hs) (qEq ht) this)
theorem qVp {a b : Int} {x y : List UInt8} (a0 : -9223372036854775808 <= a) (a1 : a <= 9223372036854775807) (b0 : -9223372036854775808 <= b) (b1 : b <= 9223372036854775807) (h : ordL a ++ x = ordL b ++ y) : a = b /\ x = y := by
 have e1 : (ordL a).length = 8 := qDz 8 _; have e2 : (ordL b).length = 8 := qDz 8 _; obtain ⟨h1, h2⟩ := List.append_inj h (e1.trans e2.symm); have h3 := jAv (s := ba (ordL a)) (a := 0) (n := a) (r := []) (by rw [qBk, List.drop_zero, List.append_nil]) a0 a1
 have h4 := jAv (s := ba (ordL a)) (a := 0) (n := b) (r := []) (by rw [qBk, List.drop_zero, List.append_nil, h1]) b0 b1
 rw [h3] at h4; injection h4 with h5
 injection h5 with h6
 exact ⟨h6, h2⟩
theorem jLa {m n : SV} (hm : SvOk m) (hn : SvOk n) (h : xS m = xS n) : m = n := by
 have := jIh h; unfold qAe at this; simp only [List.cons_append, List.nil_append, List.cons.injEq, true_and] at this; obtain ⟨h1, h2⟩ := qVp hm.lo hm.hi hn.lo hn.hi this; exact Prod.ext (qWn (qQk (qEq hm.bare) (qEq hn.bare) h2)) h1
theorem jJl (s : ByteArray) (m : SV) : kS s ≠ xS m := jMc (by unfold qAe; simp)
theorem xS_ne (m : SV) : (xS m).toList.isEmpty = false := by rw [ByteArray.toList_eq]; unfold xS qAe; rw [qBk]; rfl
def Srt (M : List SV) : Prop := M.Pairwise (fun a b => kl a.1 b.1 = true)
def mget (M : List SV) (s : ByteArray) : Option Int := (M.find? (fun m => decide (m.1 = s))).map (·.2)
def mset (s : ByteArray) (o : Option Int) (M : List SV) : List SV := M.filter (fun m => kl m.1 s) ++ ((o.toList.map fun v => (s, v)) ++ M.filter (fun m => kl s m.1))
theorem qEy {M : List SV} {s : ByteArray} {v : Int} (h : Srt M) : mget M s = some v ↔ (s, v) ∈ M := by
 unfold mget; induction M with
 | nil => simp
 | cons m M ih =>
  obtain ⟨h1, h2⟩ := List.pairwise_cons.1 h; by_cases hm : m.1 = s
  ·rw [List.find?_cons_of_pos (by simpa using hm)]
   obtain ⟨a, b⟩ := m; simp only at hm; subst hm; simp only [Option.map_some, Option.some.injEq, List.mem_cons, Prod.mk.injEq, true_and]; constructor
   ·exact fun e => .inl e.symm
   ·rintro (e | e)
    ·exact e.symm
    ·have := h1 _ e; rw [qBz] at this; cases this
  ·rw [List.find?_cons_of_neg (by simpa using hm), ih h2, List.mem_cons]
   constructor
   ·exact .inr
   ·rintro (e | e)
    ·exact absurd (by rw [<- e]) hm
    ·exact e
theorem qEn {s : ByteArray} {o : Option Int} {M : List SV} {m : SV} : m ∈ mset s o M ↔ (m ∈ M /\ m.1 ≠ s) \/ (o = some m.2 /\ m.1 = s) := by
 unfold mset; rw [List.mem_append, List.mem_append, List.mem_filter, List.mem_filter, List.mem_map]; constructor
 ·rintro (⟨h1, h2⟩ | ⟨v, hv, rfl⟩ | ⟨h1, h2⟩)
  ·exact .inl ⟨h1, qPr h2⟩
  ·rw [Option.mem_toList] at hv; exact .inr ⟨hv, rfl⟩
  ·exact .inl ⟨h1, (qPr h2).symm⟩
 ·rintro (⟨h1, h2⟩ | ⟨h1, h2⟩)
  ·cases ha : kl m.1 s with
   | true => exact .inl ⟨h1, rfl⟩
   | false =>
    cases hb : kl s m.1 with
    | true => exact .inr (.inr ⟨h1, rfl⟩)
    | false => exact absurd (qHl ha hb) h2
  ·exact .inr (.inl ⟨m.2, by rw [Option.mem_toList]; exact h1, by rw [<- h2]⟩)
theorem jEy {s : ByteArray} {o : Option Int} {M : List SV} (h : Srt M) : Srt (mset s o M) := by
 unfold mset Srt; refine List.pairwise_append.2 ⟨h.sublist List.filter_sublist, List.pairwise_append.2 ⟨?_, h.sublist List.filter_sublist, fun x hx y hy => ?_⟩, fun x hx y hy => ?_⟩
 ·cases o <;> simp
 ·obtain ⟨v, _, rfl⟩ := List.mem_map.1 hx
  simpa using (List.mem_filter.1 hy).2
 ·have h1 : kl x.1 s = true := by simpa using (List.mem_filter.1 hx).2
  rcases List.mem_append.1 hy with hy | hy
  ·obtain ⟨v, _, rfl⟩ := List.mem_map.1 hy; exact h1
  ·exact qCz h1 (by simpa using (List.mem_filter.1 hy).2)
structure qSm (L : List KV) (M : List SV) : Prop where
 asc : Asc L
 srt : Srt M
 ok : ∀ m ∈ M, SvOk m
 mem : ∀ p, p ∈ L ↔ ∃ m ∈ M, p = (kS m.1, vS m) \/ p = (xS m, ⟨#[]⟩)
theorem jGm : qSm [] [] := ⟨List.Pairwise.nil, List.Pairwise.nil, (fun m hm => by cases hm), fun p => ⟨(fun h => by cases h), fun ⟨m, hm, _⟩ => by cases hm⟩⟩
theorem jBv {L : List KV} {M : List SV} (h : qSm L M) {s : ByteArray} (fresh : Option Int) (hf : ∀ v, fresh = some v -> SvOk (s, v)) :
  qSm (chgs (qGl ((mget M s).bind fun v => rowK 107 [1, 0, 1] 1 1 (rowS (s, v))) (fresh.bind fun v => rowK 107 [1, 0, 1] 1 1 (rowS (s, v)))) L) (mset s fresh M) := by
 have hold : ∀ v, mget M s = some v -> SvOk (s, v) := fun v e => h.ok _ ((qEy h.srt).1 e)
 have hrow : ∀ (o : Option Int), (∀ v, o = some v -> SvOk (s, v)) -> ∀ q, (o.bind fun v => rowK 107 [1, 0, 1] 1 1 (rowS (s, v))) = some q -> ∃ v, o = some v /\ SvOk (s, v) /\ q = ⟨kS s, vS (s, v), xS (s, v)⟩ := fun o ho q e => by
  obtain ⟨v, hv, e⟩ := Option.bind_eq_some_iff.1 e; have hs := ho v hv; rw [qGn hs] at e; cases e
  exact ⟨v, hv, hs, rfl⟩
 have hstand : ∀ (o : Option Int), (∀ v, o = some v -> SvOk (s, v)) -> ∀ p, qRb (o.bind fun v => rowK 107 [1, 0, 1] 1 1 (rowS (s, v))) p ↔ ∃ v, o = some v /\ (p = (kS s, vS (s, v)) \/ p = (xS (s, v), ⟨#[]⟩)) := fun o ho p => by
  cases o with
  | none => exact ⟨fun e => e.elim, fun ⟨v, e, _⟩ => by cases e⟩
  | some v =>
   have e1 : ((some v).bind fun v => rowK 107 [1, 0, 1] 1 1 (rowS (s, v))) = some ⟨kS s, vS (s, v), xS (s, v)⟩ := qGn (ho v rfl)
   rw [e1]; constructor
   ·rintro (e | ⟨_, e⟩)
    ·exact ⟨v, rfl, .inl e⟩
    ·exact ⟨v, rfl, .inr e⟩
   ·rintro ⟨w, hw, e⟩; cases hw
    exact e.imp id (fun e => ⟨xS_ne _, e⟩)
 have hokr : ∀ (o : Option Int), ∀ q, (o.bind fun v => rowK 107 [1, 0, 1] 1 1 (rowS (s, v))) = some q -> PKok q (decide ((0 : Int) <= 1)) := fun o q e => by
  obtain ⟨v, _, e⟩ := Option.bind_eq_some_iff.1 e; exact qSx e
 have hO : ∀ (o : Option Int), (∀ v, o = some v -> SvOk (s, v)) -> ∀ z : KV, (∃ m ∈ M, m.1 ≠ s /\ (z = (kS m.1, vS m) \/ z = (xS m, ⟨#[]⟩))) -> ∀ q, (o.bind fun v => rowK 107 [1, 0, 1] 1 1 (rowS (s, v))) = some q -> ¬ q.has z.1 := fun o ho z hz q e hh => by
  obtain ⟨v, _, hs, rfl⟩ := hrow o ho q e; obtain ⟨m, hm, hne, hz⟩ := hz; have hmo := h.ok m hm; rcases hz with rfl | rfl
  ·rcases hh with hh | ⟨_, hh⟩
   ·exact hne (jLu hmo.bare hs.bare hh)
   ·exact jJl _ _ hh
  ·rcases hh with hh | ⟨_, hh⟩
   ·exact jJl _ _ hh.symm
   ·exact hne (by rw [jLa hmo hs hh])
 refine ⟨qWu _ h.asc, jEy h.srt, fun m hm => ?_, fun p => ?_⟩
 ·rcases qEn.1 hm with ⟨h1, _⟩ | ⟨h1, h2⟩
  ·exact h.ok m h1
  ·have := hf m.2 h1; rw [<- h2] at this; exact this
 ·have hl : ∀ p, p ∈ L ↔ qRb ((mget M s).bind fun v => rowK 107 [1, 0, 1] 1 1 (rowS (s, v))) p \/ (∃ m ∈ M, m.1 ≠ s /\ (p = (kS m.1, vS m) \/ p = (xS m, ⟨#[]⟩))) := fun p => by
   rw [h.mem, hstand _ hold]; constructor
   ·rintro ⟨m, hm, e⟩; by_cases hs : m.1 = s
    ·refine .inl ⟨m.2, (qEy h.srt).2 (by rw [<- hs]; exact hm), ?_⟩
     rw [<- hs]; exact e
    ·exact .inr ⟨m, hm, hs, e⟩
   ·rintro (⟨v, hv, e⟩ | ⟨m, hm, _, e⟩)
    ·exact ⟨(s, v), (qEy h.srt).1 hv, e⟩
    ·exact ⟨m, hm, e⟩
  rw [qXm (idx := decide ((0 : Int) <= 1)) (hokr _) (hokr _) (fun a b e1 e2 => by
    obtain ⟨_, _, _, rfl⟩ := hrow _ hold a e1; obtain ⟨_, _, _, rfl⟩ := hrow _ hf b e2; rfl) (fun a b e1 e2 _ => by
    obtain ⟨_, _, _, rfl⟩ := hrow _ hold a e1; obtain ⟨_, _, _, rfl⟩ := hrow _ hf b e2; exact jJl _ _) (fun z hz => ⟨hO _ hold z hz, hO _ hf z hz⟩) hl p, hstand _ hf]
  constructor
  ·rintro (⟨v, hv, e⟩ | ⟨m, hm, hs, e⟩)
   ·exact ⟨(s, v), qEn.2 (.inr ⟨hv, rfl⟩), e⟩
   ·exact ⟨m, qEn.2 (.inl ⟨hm, hs⟩), e⟩
  ·rintro ⟨m, hm, e⟩; rcases qEn.1 hm with ⟨h1, h2⟩ | ⟨h1, h2⟩
   ·exact .inr ⟨m, h1, h2, e⟩
   ·refine .inl ⟨m.2, h1, ?_⟩; rw [<- h2]; exact e
end
section
open Go Go.RowKit
theorem jGf (x : List UInt8) : ∀ y : List UInt8, Op.bytesLess x y = decide (x < y) := by
 induction x with
 | nil => intro y; cases y <;> simp [Op.bytesLess]
 | cons a x ih =>
  intro y; cases y with
  | nil => simp [Op.bytesLess]
  | cons b y =>
   rw [Op.bytesLess, ih y]; by_cases h1 : a < b <;> by_cases h2 : a = b <;> by_cases h3 : x < y <;> simp [List.cons_lt_cons_iff, h1, h2, h3]
theorem jJm (a b : ByteArray) : kl a b = decide (a.data.toList < b.data.toList) := by
 unfold kl; rw [jGf, ByteArray.toList_eq, ByteArray.toList_eq]
theorem qVx (x a b : List UInt8) : kl (ba (x ++ a)) (ba (x ++ b)) = decide (a < b) := by
 rw [jJm, qBk, qBk]; congr 1
 rw [eq_iff_iff]; induction x with
 | nil => exact Iff.rfl
 | cons c x ih => rw [List.cons_append, List.cons_append, List.cons_lt_cons_iff]; simp [ih]
theorem kl_kS {s t : ByteArray} (hs : qDp s = true) (ht : qDp t = true) : kl (kS s) (kS t) = kl s t := by
 unfold kS; rw [qVx, jJm]; congr 1
 rw [eq_iff_iff]; exact qUf _ _ (qEq hs) (qEq ht)
theorem kl_xS {s t : ByteArray} {v : Int} (hs : qDp s = true) (ht : qDp t = true) : kl (xS (s, v)) (xS (t, v)) = kl s t := by
 unfold xS; rw [qVx, jJm]; congr 1
 rw [eq_iff_iff]; exact qUf _ _ (qEq hs) (qEq ht)
theorem jAd {M : List SV} (h : Srt M) (f : SV -> KV) (hf : ∀ a ∈ M, ∀ b ∈ M, kl a.1 b.1 = true -> kl (f a).1 (f b).1 = true) : Asc (M.map f) := by
 unfold Asc; rw [List.pairwise_map]; exact List.Pairwise.imp_of_mem (fun {a b} ha hb hab => hf a ha b hb hab) h
theorem qIz {x y : List UInt8} {v : ByteArray} : preB (ba x) (ba y, v) = true ↔ x <+: y := by
 unfold preB; rw [List.isPrefixOf_iff_prefix, qBk, qBk]
theorem qVz {L : List KV} {M : List SV} (h : qSm L M) : L.filter (preB (ba (qAe 107 0))) = M.map (fun m => (kS m.1, vS m)) := by
 refine qUj (qFx _ h.asc) (jAd h.srt _ (fun a ha b hb hab => ?_)) (fun p => ?_)
 ·show kl (kS a.1) (kS b.1) = true; rw [kl_kS (h.ok a ha).bare (h.ok b hb).bare]; exact hab
 ·rw [List.mem_filter, List.mem_map, h.mem]; constructor
  ·rintro ⟨⟨m, hm, e | e⟩, hp⟩
   ·exact ⟨m, hm, e.symm⟩
   ·exfalso
    rw [e] at hp; obtain ⟨t, ht⟩ := qIz.1 hp; unfold qAe at ht; simp at ht
  ·rintro ⟨m, hm, e⟩; refine ⟨⟨m, hm, .inl e.symm⟩, ?_⟩; rw [<- e]; exact qIz.2 ⟨_, rfl⟩
theorem jBw {L : List KV} {M : List SV} (h : qSm L M) {v : Int} (v0 : -9223372036854775808 <= v) (v1 : v <= 9223372036854775807) :
  L.filter (preB (ba (qAe 107 1 ++ ordL v))) = (M.filter (fun m => decide (m.2 = v))).map (fun m => (xS m, ⟨#[]⟩)) := by
 refine qUj (qFx _ h.asc) (jAd (h.srt.sublist List.filter_sublist) _ (fun a ha b hb hab => ?_)) (fun p => ?_)
 ·obtain ⟨ha1, ha2⟩ := List.mem_filter.1 ha; obtain ⟨hb1, hb2⟩ := List.mem_filter.1 hb; have ea : a.2 = v := by simpa using ha2
  have eb : b.2 = v := by simpa using hb2
  obtain ⟨a1, a2⟩ := a; obtain ⟨b1, b2⟩ := b; simp only at ea eb; subst eb; subst ea; show kl (xS (a1, a2)) (xS (b1, a2)) = true; rw [kl_xS (h.ok _ ha1).bare (h.ok _ hb1).bare]; exact hab
 ·rw [List.mem_filter, List.mem_map, h.mem]; constructor
  ·rintro ⟨⟨m, hm, e | e⟩, hp⟩
   ·exfalso
    rw [e] at hp; obtain ⟨t, ht⟩ := qIz.1 hp; unfold qAe at ht; simp at ht
   ·rw [e] at hp; obtain ⟨t, ht⟩ := qIz.1 hp; have hmo := h.ok m hm; rw [List.append_assoc, List.append_assoc] at ht; have ht2 := List.append_cancel_left ht; obtain ⟨e1, _⟩ := qVp v0 v1 hmo.lo hmo.hi ht2; exact ⟨m, List.mem_filter.2 ⟨hm, by simpa using e1.symm⟩, e.symm⟩
  ·rintro ⟨m, hm, e⟩; obtain ⟨hm1, hm2⟩ := List.mem_filter.1 hm; have em : m.2 = v := by simpa using hm2
   refine ⟨⟨m, hm1, .inr e.symm⟩, ?_⟩; rw [<- e]; refine qIz.2 ⟨m.1.data.toList ++ [0], ?_⟩; rw [em]
theorem jHk (m : SV) : ba (qAe 107 0 ++ (xS m).data.toList.drop (qAe 107 1 ++ ordL m.2).length) = kS m.1 := by
 unfold xS kS; rw [qBk, List.drop_left]
theorem qPt {m : SV} (h : SvOk m) : qEr 107 [1, 0, 1] 1 1 (kS m.1) (vS m) (rowS m) := by
 have h1 := qGn h; obtain ⟨p, hp, e, _, _⟩ := qHh h1; have hv : ∀ v ∈ rowS m, v.Ok := by
  have h20 := h.size; have hs2 : (m.1 ++ m.1).size = m.1.size + m.1.size := ByteArray.size_append; intro v hv; unfold rowS at hv; rcases List.mem_cons.1 hv with rfl | hv
  ·exact ⟨qJz, qKa, by simp only; omega⟩
  ·rcases List.mem_cons.1 hv with rfl | hv
   ·exact ⟨h.lo, h.hi, qGz⟩
   ·rw [List.mem_singleton] at hv; subst hv; exact ⟨qJz, qKa, by simp only; omega⟩
 have := qWm hv hp; injection e with e1 e2 _
 rw [<- e1, <- e2] at this; exact this
end
section
open Go Go.RowKit
def Bx (w : World) (b : Nat) (m : Nd) : Prop := w.heap[b]? = some (.cells #[.bool m.leaf, .slice m.ka m.keys.length m.kc, .slice m.va m.values.length m.vc, .slice m.ia m.kids.length m.ic] 123 (0, 0))
theorem Bx.cells {w : World} {b : Nat} {m : Nd} (h : Bx w b m) : w.cell? ⟨b, 0, none⟩ = some (.bool m.leaf) /\ w.cell? ⟨b, 1, none⟩ = some (.slice m.ka m.keys.length m.kc) /\ w.cell? ⟨b, 2, none⟩ = some (.slice m.va m.values.length m.vc) /\ w.cell? ⟨b, 3, none⟩ = some (.slice m.ia m.kids.length m.ic) := cl4 h
theorem Bx.lt {w : World} {b : Nat} {m : Nd} (h : Bx w b m) : b < w.heap.size := lth h
theorem Bx.mod {w w' : World} {b : Nat} {m : Nd} {S : Nat -> Prop} (h : Bx w b m) (hm : Mod S w w') (hs : ¬ S b) : Bx w' b m := (hm.block b h.lt hs).trans h
structure Hold (w : World) (L B : Nat) (m : Nd) : Prop where
 box : Bx w B m
 gd : Gd w m
 bs : ∀ b, m.bs b -> L <= b /\ b ≠ B
 lb : L <= B
theorem Hold.ext {w w' : World} {L B : Nat} {m : Nd} (h : Hold w L B m) (hm : Mod (fun _ => False) w w') : Hold w' L B m :=
 ⟨h.box.mod hm (fun h => h), h.gd.ext hm (fun _ _ h => h), h.bs, h.lb⟩
end
section
open Go Go.RowKit
def pre (es : List Ent) (o : Option (List Ent × Nat)) : Option (List Ent × Nat) := o.map fun q => (es ++ q.1, q.2)
def cn (leaf : Bool) (es : List Ent) : Nd := ⟨leaf, es.map (·.key), if leaf then es.map (·.value) else [], if leaf then [] else es.map (·.kid), none, 0, none, 0, none, 0⟩
theorem Has.cn_ents {m : Nd} {leaf : Bool} {es : List Ent} (h : Has m leaf es) : m.ents = (cn leaf es).ents := by
 unfold Nd.ents; rw [h.k]; show (List.range (es.map (·.key)).length).map (qCj m) = (List.range (es.map (·.key)).length).map (qCj (cn leaf es)); apply List.map_congr_left; intro i _; unfold qCj qBp qEo; rw [h.k, h.v, h.i, h.l]; rfl
theorem Has.cn_enc {m : Nd} {leaf : Bool} {es : List Ent} (h : Has m leaf es) : qJp m = qJp (cn leaf es) := by
 have hf : fitB m = fitB (cn leaf es) := by
  have : FitP m ↔ FitP (cn leaf es) := by
   unfold FitP qSz; rw [h.k, h.v, h.i, h.l]; exact Iff.rfl
  cases hb : fitB (cn leaf es) with
  | true => exact qJk (this.2 (qWg.1 hb))
  | false => exact qKq (fun hp => by rw [qJk (this.1 hp)] at hb; cases hb)
 unfold qJp; rw [hf, h.cn_ents, h.l]; rfl
end
section
open Go Go.RowKit
def lk (es : List Ent) : ByteArray := match es.getLast? with | some x => x.key | none => emp
theorem jCm {leaf : Bool} {es : List Ent} (h : qBg leaf es) (hk : leaf = false -> ∀ x ∈ es, x.kid < 16384) : qJp (cn leaf es) = true := by
 have hh : Has (cn leaf es) leaf es := ⟨rfl, rfl, rfl, rfl⟩; unfold qJp; rw [Bool.and_eq_true, qWg, decide_eq_true_eq, hh.ents h.clean]; refine ⟨⟨h.keys, ?_⟩, h.bytes⟩; have hpos : 0 < es.length := List.length_pos_iff.2 h.ne; unfold qSz cn; cases leaf with
 | true =>
  simp only [if_true, List.length_map, List.length_nil, decide_true, Bool.true_and, Bool.not_eq_true']; rw [List.any_eq_false]; intro s hs; obtain ⟨x, hx, rfl⟩ := List.mem_map.1 hs; have := h.values x hx; unfold qMf; simp
  omega
 | false =>
  simp only [Bool.false_eq_true, if_false, List.length_map, List.length_nil, decide_true, Bool.true_and, Bool.not_eq_true', Bool.and_eq_true, decide_eq_true_eq]; refine ⟨hpos, ?_⟩; rw [List.any_eq_false]; intro s hs; obtain ⟨x, hx, rfl⟩ := List.mem_map.1 hs; have h1 := h.kids rfl x hx; have h2 := hk rfl x hx; unfold outB; simp
  omega
theorem qHc {link : Int -> Option Int} : ∀ {l : List Int} {s : Int}, qNe link s l -> (s = 0 /\ l = []) \/ (s ∈ l /\ s ≠ 0)
 | [], _, h => .inl ⟨h, rfl⟩
 | _ :: _, _, h => .inr ⟨by rw [h.1]; exact List.mem_cons_self, by rw [h.1]; exact h.2.1⟩
theorem qHy : ∀ {l : List Int}, (∀ x, l.count x <= 1) -> l.Nodup
 | [], _ => List.nodup_nil
 | a :: l, h => by
  refine List.nodup_cons.2 ⟨fun hm => ?_, qHy (fun x => ?_)⟩
  ·have h1 := h a; rw [List.count_cons_self] at h1; have := List.count_pos_iff.2 hm; omega
  ·have h1 := h x; rw [List.count_cons] at h1; omega
end
section
open Go Go.RowKit
theorem jIw {D : Dsk} (h : D.off = false) (i : Nat) (hi : i < D.secs.length) : qDm D (i : Int) = (sec D i, 0) := by
 have : qBd D i = 0 := by unfold qBd; rw [h]; simp; omega
 rw [qPe, if_neg (by simp [this])]
 rfl
def upc (c : Nat -> ByteArray) (cs : List Chg) (q : Nat) : ByteArray := match cs.find? (fun x => x.pos.toNat == q) with
 | some x => pad x.data
 | none => c q
theorem qUs {c : Nat -> ByteArray} {cs : List Chg} {q : Nat} (h : q ∉ places cs) : upc c cs q = c q := by
 unfold upc; rw [List.find?_eq_none.2 (fun x hx => by
  intro he; exact h (List.mem_map.2 ⟨x, hx, by simpa using he⟩))]
theorem qOv {c : Nat -> ByteArray} : ∀ {cs : List Chg} {m : Nat} {x : Chg}, (places cs).Nodup -> cs[m]? = some x -> upc c cs x.pos.toNat = pad x.data
 | [], m, x => fun _ h => by simp at h
 | y :: r, m, x => fun hd h => by
  have hd2 : (y.pos.toNat :: places r).Nodup := hd; cases m with
  | zero =>
   simp only [List.getElem?_cons_zero, Option.some.injEq] at h; subst h; unfold upc; rw [List.find?_cons]; simp
  | succ m =>
   simp only [List.getElem?_cons_succ] at h; have hne : y.pos.toNat ≠ x.pos.toNat := fun e => (List.nodup_cons.1 hd2).1 (by rw [e]; exact List.mem_map.2 ⟨x, List.mem_of_getElem? h, rfl⟩)
   have ih := qOv (c := c) (List.nodup_cons.1 hd2).2 h; unfold upc at *; rw [List.find?_cons]; have hb : (y.pos.toNat == x.pos.toNat) = false := by rw [beq_eq_false_iff_ne]; exact hne
   rw [hb]; exact ih
end
end Go.Proofs.YtkinkgbmlhiakaaGreatDoor
