/- merged: Node -/
import Derived.Test.YtkinkgbmlhiakaaGreatDoorNd01
import Derived.Deep.DeepCutAuto
import Derived.Deep.CutBlock
import Derived.Test.YtkinkgbmlhiakaaGreatDoorNd05
namespace Go.Proofs.YtkinkgbmlhiakaaGreatDoor
section
open Go Go.RowKit
structure Nd where
 leaf : Bool
 keys : List ByteArray
 values : List ByteArray
 kids : List Int
 ka : Option Addr
 kc : Nat
 va : Option Addr
 vc : Nat
 ia : Option Addr
 ic : Nat
theorem Lies.one {α : Type} {w : World} {f : α -> Value} {a : Option Addr} {ls : List α} (h : Lies w 1 (fun x => [f x]) a ls) {i : Nat} {x : α} (hi : ls[i]? = .some x) : ∃ g off, a = .some ⟨g, off, none⟩ /\ w.cell? ⟨g, off + i, none⟩ = .some (f x) := by
 obtain ⟨g, off, rfl⟩ := h.some (by have := (List.getElem?_eq_some_iff.1 hi).1; omega)
 refine ⟨g, off, rfl, ?_⟩; have := h.src.2.2 _ rfl i (f x) (by
  have := qJi (f := fun x : α => [f x]) (n := 1) (fun _ => rfl) ls i 0 (by decide)
  rw [Nat.mul_one, Nat.add_zero, hi] at this
  simpa using this)
 rw [Addr.add_lit] at this; exact this
structure NdAt (w : World) (n : Nd) : Prop where
 k : Lies w 1 (fun x => [.string x]) n.ka n.keys
 v : Lies w 1 (fun x => [.string x]) n.va n.values
 i : Lies w 1 (fun x : Int => [.int .i64 x]) n.ia n.kids
 bk : n.keys.length <= 4194304
 bv : n.values.length <= 4194304
 bi : n.kids.length <= 4194304
 sk : ∀ x ∈ n.keys, x.size <= 4194304
 sv : ∀ x ∈ n.values, x.size <= 4194304
 rk : ∀ x ∈ n.kids, -9223372036854775808 <= x /\ x <= 9223372036854775807
theorem NdAt.ext {w w' : World} {n : Nd} (h : NdAt w n) (hm : Mod (fun _ => False) w w') : NdAt w' n := ⟨h.k.ext hm, h.v.ext hm, h.i.ext hm, h.bk, h.bv, h.bi, h.sk, h.sv, h.rk⟩
theorem NdAt.mod2 {S : Nat -> Prop} {w w' : World} {n : Nd} (h : NdAt w n) (hm : Mod S w w') (hs : ∀ k, k < w.heap.size -> ¬ S k) : NdAt w' n :=
 ⟨h.k.mod hm (fun h0 k hk => hs k (h.k.lt k h0 hk)), h.v.mod hm (fun h0 k hk => hs k (h.v.lt k h0 hk)), h.i.mod hm (fun h0 k hk => hs k (h.i.lt k h0 hk)), h.bk, h.bv, h.bi, h.sk, h.sv, h.rk⟩
structure Ent where
 key : ByteArray
 value : ByteArray
 kid : Int
def emp : ByteArray := ⟨#[]⟩
def qBp (n : Nd) (i : Nat) : ByteArray := if n.leaf then (n.values[i]?).getD emp else emp
def qEo (n : Nd) (i : Nat) : Int := if n.leaf then 0 else (n.kids[i]?).getD 0
def qCj (n : Nd) (i : Nat) : Ent := ⟨(n.keys[i]?).getD emp, qBp n i, qEo n i⟩
def Nd.ents (n : Nd) : List Ent := (List.range n.keys.length).map (qCj n)
def entL (leaf : Bool) (x : Ent) : List UInt8 := qCq x.key ++ (if leaf then qCq x.value else uvar (max 0 x.kid).toNat)
def qAo (leaf : Bool) (es : List Ent) : List UInt8 := (if leaf then 1 else 2) :: (uvar es.length ++ es.flatMap (entL leaf))
theorem qDa (n : Nd) : n.ents.length = n.keys.length := by simp [Nd.ents]
theorem qLa {w : World} {n : Nd} (h : NdAt w n) (i : Nat) : (qBp n i).size <= 4194304 := by
 unfold qBp; split
 ·cases hv : n.values[i]? with
  | none => exact Nat.zero_le _
  | some x => exact h.sv x (List.mem_of_getElem? hv)
 ·exact Nat.zero_le _
theorem qMi {w : World} {n : Nd} (h : NdAt w n) (i : Nat) : -9223372036854775808 <= qEo n i /\ qEo n i <= 9223372036854775807 := by
 unfold qEo; split
 ·omega
 ·cases hv : n.kids[i]? with
  | none => simp
  | some x => exact h.rk x (List.mem_of_getElem? hv)
def Ent.Ok (x : Ent) : Prop := x.key.size <= 4194304 /\ x.value.size <= 4194304 /\ -9223372036854775808 <= x.kid /\ x.kid <= 9223372036854775807
theorem qJo (leaf : Bool) {x : Ent} (h : x.Ok) : (entL leaf x).length <= 8388628 := by
 have h1 := qEt (s := x.key) (by have := h.1; omega)
 have h2 := qEt (s := x.value) (by have := h.2.1; omega)
 have h3 := qAs (n := (max 0 x.kid).toNat) (by have := h.2.2.2; omega)
 have := h.1; have := h.2.1; unfold entL; rw [List.length_append]; split <;> omega
theorem qHn {w : World} {n : Nd} (h : NdAt w n) {i : Nat} (hi : i < n.keys.length) : (qCj n i).Ok := by
 refine ⟨?_, qLa h i, qMi h i⟩; show ((n.keys[i]?).getD emp).size <= _; rw [List.getElem?_eq_getElem hi]; exact h.sk _ (List.getElem_mem _)
theorem jCy {w : World} {n : Nd} (h : NdAt w n) : ∀ x ∈ n.ents, x.Ok := fun x hx => by
 obtain ⟨i, hi, rfl⟩ := List.mem_map.1 hx; exact qHn h (List.mem_range.1 hi)
theorem qTt {leaf : Bool} : ∀ {es : List Ent}, (∀ x ∈ es, x.Ok) -> (es.flatMap (entL leaf)).length <= es.length * 8388628
 | [], _ => by simp
 | x :: r, h => by
  rw [List.flatMap_cons, List.length_append, List.length_cons]; have h1 := qJo leaf (h x List.mem_cons_self); have h2 := qTt (leaf := leaf) (fun y hy => h y (List.mem_cons_of_mem x hy))
  omega
set_option maxRecDepth 100000
theorem qLu {w : World} {n : Nd} (h : NdAt w n) (i : Nat) (_hi : i < 4194304) : Calls Tryz.prog 133 #[.agg #[.bool n.leaf, .slice n.ka n.keys.length n.kc, .slice n.va n.values.length n.vc, .slice n.ia n.kids.length n.ic], .int .i64 i] w fun e w' => e = .returned (.string (qBp n i)) /\ Mod (fun _ => False) w w' := by
 have hbv := h.bv; cases hl : n.leaf with
 | false =>
  have e1 : qBp n i = ⟨#[]⟩ := by unfold qBp; rw [hl]; rfl
  rw [e1]; clear h e1; go_enter Tryz.func133, Tryz.ntmps133
  go_wp2
  go_ret; exact ⟨rfl, (Mod.refl _ _).alloc _⟩
 | true =>
  by_cases hlt : i < n.values.length
  ·obtain ⟨x, hx⟩ : ∃ x, n.values[i]? = some x := ⟨_, List.getElem?_eq_getElem hlt⟩; have e1 : qBp n i = x := by unfold qBp; rw [hl, hx]; rfl
   rw [e1]; have hm : Mod (fun _ => False) w (w.alloc (.cells #[.bool true, .slice n.ka n.keys.length n.kc, .slice n.va n.values.length n.vc, .slice n.ia n.kids.length n.ic] 123)) := (Mod.refl _ _).alloc _
   obtain ⟨g, off, ha, hc⟩ := (h.v.ext hm).one hx; rw [ha] at hc ⊢; have d : decide ((i : Int) < (n.values.length : Int)) = true := by simp; omega
   clear h e1 hm hx; go_enter Tryz.func133, Tryz.ntmps133
   go_wp2
   go_ret; exact ⟨rfl, (Mod.refl _ _).alloc _⟩
  ·have e1 : qBp n i = ⟨#[]⟩ := by unfold qBp; rw [hl, List.getElem?_eq_none (by omega)]; rfl
   rw [e1]; have d : decide ((i : Int) < (n.values.length : Int)) = false := by simp; omega
   clear h e1; go_enter Tryz.func133, Tryz.ntmps133
   go_wp2
   go_ret; exact ⟨rfl, (Mod.refl _ _).alloc _⟩
theorem qTm {w : World} {n : Nd} (h : NdAt w n) (i : Nat) (_hi : i < 4194304) : Calls Tryz.prog 134 #[.agg #[.bool n.leaf, .slice n.ka n.keys.length n.kc, .slice n.va n.values.length n.vc, .slice n.ia n.kids.length n.ic], .int .i64 i] w fun e w' => e = .returned (.int .i64 (qEo n i)) /\ Mod (fun _ => False) w w' := by
 have hbv := h.bi; cases hl : n.leaf with
 | true =>
  have e1 : qEo n i = 0 := by unfold qEo; rw [hl]; rfl
  rw [e1]; clear h e1; go_enter Tryz.func134, Tryz.ntmps134
  go_wp2
  go_ret; exact ⟨rfl, (Mod.refl _ _).alloc _⟩
 | false =>
  by_cases hlt : i < n.kids.length
  ·obtain ⟨x, hx⟩ : ∃ x, n.kids[i]? = some x := ⟨_, List.getElem?_eq_getElem hlt⟩; have e1 : qEo n i = x := by unfold qEo; rw [hl, hx]; rfl
   rw [e1]; have hm : Mod (fun _ => False) w (w.alloc (.cells #[.bool false, .slice n.ka n.keys.length n.kc, .slice n.va n.values.length n.vc, .slice n.ia n.kids.length n.ic] 123)) := (Mod.refl _ _).alloc _
   obtain ⟨g, off, ha, hc⟩ := (h.i.ext hm).one hx; rw [ha] at hc ⊢; have d : decide ((i : Int) < (n.kids.length : Int)) = true := by simp; omega
   clear h e1 hm hx; go_enter Tryz.func134, Tryz.ntmps134
   go_wp2
   go_ret; exact ⟨rfl, (Mod.refl _ _).alloc _⟩
  ·have e1 : qEo n i = 0 := by unfold qEo; rw [hl, List.getElem?_eq_none (by omega)]; rfl
   rw [e1]; have d : decide ((i : Int) < (n.kids.length : Int)) = false := by simp; omega
   clear h e1; go_enter Tryz.func134, Tryz.ntmps134
   go_wp2
   go_ret; exact ⟨rfl, (Mod.refl _ _).alloc _⟩
theorem cl4 {w : World} {b : Nat} {v0 v1 v2 v3 : Value} {t : TypeId} (h : w.heap[b]? = some (.cells #[v0, v1, v2, v3] t (0, 0))) : w.cell? ⟨b, 0, none⟩ = some v0 /\ w.cell? ⟨b, 1, none⟩ = some v1 /\ w.cell? ⟨b, 2, none⟩ = some v2 /\ w.cell? ⟨b, 3, none⟩ = some v3 := by
 refine ⟨?_, ?_, ?_, ?_⟩ <;> (rw [cell_of_row _ _ _ _ _ _ h]; rfl)
set_option maxHeartbeats 1000000 in
theorem qJn {w : World} {n : Nd} (h : NdAt w n) (i : Nat) (hi : i < n.keys.length) : Calls Tryz.prog 135 #[.agg #[.bool n.leaf, .slice n.ka n.keys.length n.kc, .slice n.va n.values.length n.vc, .slice n.ia n.kids.length n.ic], .int .i64 i] w fun e w' => e = .returned (.string (ba (entL n.leaf (qCj n i)))) /\ Mod (fun _ => False) w w' := by
 have hbk := h.bk; obtain ⟨x, hx⟩ : ∃ x, n.keys[i]? = some x := ⟨_, List.getElem?_eq_getElem hi⟩; have hxs := h.sk x (List.mem_of_getElem? hx); have hxv := qLa h i; have hxk := qMi h i; have e1 : (qCj n i).key = x := by unfold qCj; rw [hx]; rfl
 have e2 : (qCj n i).value = qBp n i := rfl; have e3 : (qCj n i).kid = qEo n i := rfl; have hm : Mod (fun _ => False) w (w.alloc (.cells #[.bool n.leaf, .slice n.ka n.keys.length n.kc, .slice n.va n.values.length n.vc, .slice n.ia n.kids.length n.ic] 123)) := (Mod.refl _ _).alloc _
 have hbox : (w.alloc (.cells #[.bool n.leaf, .slice n.ka n.keys.length n.kc, .slice n.va n.values.length n.vc, .slice n.ia n.kids.length n.ic] 123)).heap[w.heap.size]? = some (.cells #[.bool n.leaf, .slice n.ka n.keys.length n.kc, .slice n.va n.values.length n.vc, .slice n.ia n.kids.length n.ic] 123 (0, 0)) := heap_alloc_new _ _; have HN := hid (h.ext hm); have HM := hid hm; have HBox := hid hbox; have he : entL n.leaf (qCj n i) = qCq x ++ (if n.leaf then qCq (qBp n i) else uvar (max 0 (qEo n i)).toNat) := by unfold entL; rw [e1, e2, e3]
 have HE := hid he; clear he; have Hx := hid hx; have i1 : (i : Int) < (n.keys.length : Int) := by omega
 clear h hm hbox hx e1 e2 e3; cases hl : n.leaf with
 | true =>
  rw [hl] at HE HM HN HBox; simp only [if_true] at HE; rw [HE.out]; generalize hV : qBp n i = V at *; have HVc : Hid (∀ y : Ext (w.alloc (.cells #[.bool true, .slice n.ka n.keys.length n.kc, .slice n.va n.values.length n.vc, .slice n.ia n.kids.length n.ic] 123)), Calls Tryz.prog 133 #[.agg #[.bool true, .slice n.ka n.keys.length n.kc, .slice n.va n.values.length n.vc, .slice n.ia n.kids.length n.ic], .int .i64 i] y.val fun e w' => e = .returned (.string V) /\ Mod (fun _ => False) y.val w') := fun y => by
   have := qLu (HN.out.ext y.mod) i (by omega)
   rw [hV, hl] at this; exact this
  have s1 : (ba (qCq x)).size <= 8388628 := by rw [qAf]; have := qEt (s := x) (by omega); omega
  have s2 : (ba (qCq V)).size <= 8388628 := by rw [qAf]; have := qEt (s := V) (by omega); omega
  go_enter Tryz.func135, Tryz.ntmps135
  go_wp2_with fail
  clear hV; generalize w.alloc (.cells #[.bool true, .slice n.ka n.keys.length n.kc, .slice n.va n.values.length n.vc, .slice n.ia n.kids.length n.ic] 123) = W at *; obtain ⟨b0, b1, b2, b3⟩ := cl4 HBox.out; obtain ⟨g, off, ha, hc⟩ := HN.out.k.one Hx.out; rw [ha] at b1 HVc ⊢; have u0 : ∀ y : Ext W, y.val.cell? ⟨w.heap.size, 0, none⟩ = some (.bool true) := fun y => y.cell b0
  have u1 : ∀ y : Ext W, y.val.cell? ⟨w.heap.size, 1, none⟩ = some (.slice (some ⟨g, off, none⟩) n.keys.length n.kc) := fun y => y.cell b1
  have u2 : ∀ y : Ext W, y.val.cell? ⟨w.heap.size, 2, none⟩ = some (.slice n.va n.values.length n.vc) := fun y => y.cell b2
  have u3 : ∀ y : Ext W, y.val.cell? ⟨w.heap.size, 3, none⟩ = some (.slice n.ia n.kids.length n.ic) := fun y => y.cell b3
  have u4 : ∀ y : Ext W, y.val.cell? ⟨g, off + i, none⟩ = some (.string x) := fun y => y.cell hc
  clear b0 b1 b2 b3 hc ha; refine qAm (by kernel_rfl) (by kernel_rfl) ?_
  repeat (go_big_quiet_step ((first | (go_at_call 62; exact qBe (qOx _ _ (by omega))) | (go_at_call 133; exact qBe (HVc.out _)))))
  refine wpQuiet_nil ?_; rintro _ ⟨y, rfl⟩; go_wp2_with fail
  go_ret; refine ⟨?_, HM.out.trans y.mod⟩; rw [<- qBf]; rfl
 | false =>
  rw [hl] at HE HM HN HBox; simp only [Bool.false_eq_true, if_false] at HE; rw [HE.out]; generalize hV : qEo n i = V at *; have HVc : Hid (∀ y : Ext (w.alloc (.cells #[.bool false, .slice n.ka n.keys.length n.kc, .slice n.va n.values.length n.vc, .slice n.ia n.kids.length n.ic] 123)), Calls Tryz.prog 134 #[.agg #[.bool false, .slice n.ka n.keys.length n.kc, .slice n.va n.values.length n.vc, .slice n.ia n.kids.length n.ic], .int .i64 i] y.val fun e w' => e = .returned (.int .i64 V) /\ Mod (fun _ => False) y.val w') := fun y => by
   have := qTm (HN.out.ext y.mod) i (by omega)
   rw [hV, hl] at this; exact this
  obtain ⟨m, hmx⟩ : ∃ m : Nat, max 0 V = m := ⟨(max 0 V).toNat, by omega⟩
  have s1 : (ba (qCq x)).size <= 8388628 := by rw [qAf]; have := qEt (s := x) (by omega); omega
  have s2 : (ba (uvar m)).size <= 10 := by rw [qAf]; exact qAs (by omega)
  rw [show (max 0 V).toNat = m by omega]
  go_enter Tryz.func135, Tryz.ntmps135
  go_wp2_with fail
  clear hV; generalize w.alloc (.cells #[.bool false, .slice n.ka n.keys.length n.kc, .slice n.va n.values.length n.vc, .slice n.ia n.kids.length n.ic] 123) = W at *; obtain ⟨b0, b1, b2, b3⟩ := cl4 HBox.out; obtain ⟨g, off, ha, hc⟩ := HN.out.k.one Hx.out; rw [ha] at b1 HVc ⊢; have u0 : ∀ y : Ext W, y.val.cell? ⟨w.heap.size, 0, none⟩ = some (.bool false) := fun y => y.cell b0
  have u1 : ∀ y : Ext W, y.val.cell? ⟨w.heap.size, 1, none⟩ = some (.slice (some ⟨g, off, none⟩) n.keys.length n.kc) := fun y => y.cell b1
  have u2 : ∀ y : Ext W, y.val.cell? ⟨w.heap.size, 2, none⟩ = some (.slice n.va n.values.length n.vc) := fun y => y.cell b2
  have u3 : ∀ y : Ext W, y.val.cell? ⟨w.heap.size, 3, none⟩ = some (.slice n.ia n.kids.length n.ic) := fun y => y.cell b3
  have u4 : ∀ y : Ext W, y.val.cell? ⟨g, off + i, none⟩ = some (.string x) := fun y => y.cell hc
  clear b0 b1 b2 b3 hc ha; refine qAm (by kernel_rfl) (by kernel_rfl) ?_
  repeat (go_big_quiet_step ((first | (go_at_call 62; exact qBe (qOx _ _ (by omega))) | (go_at_call 134; exact qBe (HVc.out _)) | (go_at_call 67; exact qBe (qEm m _ (by omega))))))
  refine wpQuiet_nil ?_; rintro _ ⟨y, rfl⟩; go_wp2_with fail
  go_ret; refine ⟨?_, HM.out.trans y.mod⟩; rw [<- qBf]; rfl
def jGz (leaf : Bool) (N : Nat) : List UInt8 := (if leaf then 1 else 2) :: uvar N
def upL (n : Nd) (k : Nat) : List UInt8 := jGz n.leaf n.keys.length ++ ((List.range k).map (qCj n)).flatMap (entL n.leaf)
theorem qUt (n : Nd) : upL n 0 = jGz n.leaf n.keys.length := by simp [upL]
theorem qUu (n : Nd) (k : Nat) : upL n (k + 1) = upL n k ++ entL n.leaf (qCj n k) := by
 unfold upL; rw [List.range_succ, List.map_append, List.flatMap_append]; simp
theorem qZp (n : Nd) : upL n n.keys.length = qAo n.leaf n.ents := by
 unfold upL qAo jGz; rw [qDa]; rfl
theorem qZo {w : World} {n : Nd} (h : NdAt w n) {k : Nat} (hk : k <= n.keys.length) : (upL n k).length <= 11 + k * 8388628 := by
 unfold upL jGz; have h1 := qAs (n := n.keys.length) (by have := h.bk; omega)
 have h2 := qTt (leaf := n.leaf) (es := (List.range k).map (qCj n)) (fun x hx => by
  obtain ⟨i, hi, rfl⟩ := List.mem_map.1 hx; exact qHn h (by have := List.mem_range.1 hi; omega))
 rw [List.length_map, List.length_range] at h2; rw [List.length_append, List.length_cons]; omega
theorem qGk (a b : List UInt8) : Lib.byteCells (a ++ b) = Lib.byteCells a ++ Lib.byteCells b := by simp [Lib.byteCells]
theorem qJu (a : List UInt8) : (Lib.byteCells a).length = a.length := by simp [Lib.byteCells]
set_option maxHeartbeats 2000000 in
theorem qYu {w : World} {n : Nd} (h : NdAt w n) (hl : n.leaf = true) : Calls Tryz.prog 105 #[.agg #[.bool true, .slice n.ka n.keys.length n.kc, .slice n.va n.values.length n.vc, .slice n.ia n.kids.length n.ic]] w fun e w' => e = .returned (.string (ba (qAo n.leaf n.ents))) /\ Mod (fun _ => False) w w' := by
 have hbk := h.bk; have hm0 : Mod (fun _ => False) w (w.alloc (.cells #[.bool true, .slice n.ka n.keys.length n.kc, .slice n.va n.values.length n.vc, .slice n.ia n.kids.length n.ic] 123)) := (Mod.refl _ _).alloc _
 have hbox : (w.alloc (.cells #[.bool true, .slice n.ka n.keys.length n.kc, .slice n.va n.values.length n.vc, .slice n.ia n.kids.length n.ic] 123)).heap[w.heap.size]? = some (.cells #[.bool true, .slice n.ka n.keys.length n.kc, .slice n.va n.values.length n.vc, .slice n.ia n.kids.length n.ic] 123 (0, 0)) := heap_alloc_new _ _; have hsz : (w.alloc (.cells #[.bool true, .slice n.ka n.keys.length n.kc, .slice n.va n.values.length n.vc, .slice n.ia n.kids.length n.ic] 123)).heap.size = w.heap.size + 1 := by simp
 have HN := hid h; have HN0 := hid (h.ext hm0); have HM0 := hid hm0; have HBox := hid hbox; have hB0 := Lib.fresh_isBuilder 208 5 (w.alloc (.cells #[.bool true, .slice n.ka n.keys.length n.kc, .slice n.va n.values.length n.vc, .slice n.ia n.kids.length n.ic] 123)); rw [hsz] at hB0; have HB0 := hid hB0; have HSz := hid hsz; have HL := hid hl; have HFin : Hid (∀ k, k < n.keys.length -> (upL n k).length + (entL n.leaf (qCj n k)).length <= 140737488355328) := fun k hk => by
  have h1 := qZo h (k := k) (by omega)
  have h2 := qJo n.leaf (qHn h hk); omega
 clear h hm0 hbox hB0 hsz hl; go_enter Tryz.func105, Tryz.ntmps105
 go_wp2_with fail
 have hWm : Mod (fun j => w.heap.size + 1 <= j) (w.alloc (.cells #[.bool true, .slice n.ka n.keys.length n.kc, .slice n.va n.values.length n.vc, .slice n.ia n.kids.length n.ic] 123)) ((w.alloc (.cells #[.bool true, .slice n.ka n.keys.length n.kc, .slice n.va n.values.length n.vc, .slice n.ia n.kids.length n.ic] 123)).alloc (.cells #[.pointer none, .slice none 0 0] 208)) := (Mod.refl _ _).alloc _
 generalize hWW : (w.alloc (.cells #[.bool true, .slice n.ka n.keys.length n.kc, .slice n.va n.values.length n.vc, .slice n.ia n.kids.length n.ic] 123)).alloc (.cells #[.pointer none, .slice none 0 0] 208) = W1 at *; clear hWW; refine (qDr _ _ _ _ _ HB0.out (by simp) (by have := hWm.size; rw [HSz.out] at this; exact this)).mono ?_
 rintro e w1 ⟨rfl, hb1, hbl1⟩; generalize hWa : w.alloc (.cells #[.bool true, .slice n.ka n.keys.length n.kc, .slice n.va n.values.length n.vc, .slice n.ia n.kids.length n.ic] 123) = Wa at *; have HM1 := hid (hWm.trans (Mod.of_below hbl1)); have HB1 := hid hb1; have up : ∀ w', Mod (fun j => w.heap.size + 1 <= j) Wa w' -> w'.heap[w.heap.size]? = some (.cells #[.bool true, .slice n.ka n.keys.length n.kc, .slice n.va n.values.length n.vc, .slice n.ia n.kids.length n.ic] 123 (0, 0)) := fun w' hm => (hm.block _ (lth HBox.out) (by omega)).trans HBox.out
 have HUp := hid up; obtain ⟨b0, b1, b2, b3⟩ := cl4 (HUp.out w1 HM1.out); clear up hb1 hbl1 hWm hWa
 ·skip
  go_wp2_with fail
  refine (jAr _ _ _ _ HB1.out).mono ?_; rintro e w2 ⟨rfl, hb2, hbl2⟩; have HB2a := hid hb2; have HM2a := hid (HM1.out.trans (Mod.of_below hbl2)); clear hb2 hbl2; go_wp2_with fail
  refine (qDr _ _ _ _ _ HB2a.out (by simp) (by have := HM2a.out.size; rw [HSz.out] at this; exact this)).mono ?_
  rintro e wc ⟨rfl, hb3, hbl3⟩; have HB2 := hid hb3; have HM2 := hid (HM2a.out.trans (Mod.of_below hbl3)); clear hb3 hbl3; obtain ⟨d0, d1, d2, d3⟩ := cl4 (HUp.out wc HM2.out); clear b0 b1 b2 b3; go_wp2_with fail
  refine (qEm n.keys.length wc (by omega)).mono ?_
  rintro e w3 ⟨rfl, hm3⟩; have HM3 := hid (HM2.out.trans (hm3.mono fun _ _ h => h.elim))
  have HB3 := hid (qKl HB2.out hm3); obtain ⟨f0, f1, f2, f3⟩ := cl4 (HUp.out w3 HM3.out); clear hm3 d0 d1 d2 d3; go_wp2_with fail
  refine (qBy _ _ _ _ _ HB3.out (by rw [qAf]; have := qAs (n := n.keys.length) (by omega); simp; omega) (by have := HM3.out.size; rw [HSz.out] at this; exact this)).mono ?_
  rintro e w4 ⟨rfl, hb4, hbl4⟩; have HM4 := hid (HM3.out.trans (Mod.of_below hbl4)); have HB4 : Hid (Lib.IsBuilder 208 5 (w.heap.size + 1) (w.heap.size + 1) (Lib.byteCells (upL n 0)) w4) := by
   rw [qUt, HL.out]; rw [qHp] at hb4; exact hb4
  obtain ⟨g0, g1, g2, g3⟩ := cl4 (HUp.out w4 HM4.out); clear hb4 hbl4 f0 f1 f2 f3; go_wp2_with fail
  go_loopw [19] (fun c wr => ∃ k : Nat, k <= n.keys.length /\ c = .int .i64 k /\ Lib.IsBuilder 208 5 (w.heap.size + 1) (w.heap.size + 1) (Lib.byteCells (upL n k)) wr /\ Mod (fun j => w.heap.size + 1 <= j) Wa wr) (fun c _ => n.keys.length - (intOf c).toNat)
  case atStart => exact ⟨0, Nat.zero_le _, rfl, HB4.out, HM4.out⟩
  case round =>
   obtain ⟨k, hk, rfl, hb, hm⟩ := hrel; have HB := hid hb; have HM := hid hm; obtain ⟨c0, c1, c2, c3⟩ := cl4 (HUp.out wr hm); clear hb hm g0 g1 g2 g3; by_cases hlt : k < n.keys.length
   ·have HE := hid (qJn (HN0.out.mod2 HM.out (fun j hj h => by rw [HSz.out] at hj; omega)) k hlt)
    have HF := hid (HFin.out k hlt); rw [HL.out] at HE; go_wp2_with fail
    refine HE.out.mono ?_; rintro e w5 ⟨rfl, hm5⟩; have HM5 := hid (HM.out.trans (hm5.mono fun _ _ h => h.elim))
    have HB5 := hid (qKl HB.out hm5); clear hm5 c0 c1 c2 c3; go_wp2_with fail
    refine (qBy _ _ _ _ _ HB5.out (by rw [qJu, qAf]; have := HF.out; rw [HL.out] at this; exact this) (by have := HM5.out.size; rw [HSz.out] at this; exact this)).mono ?_
    rintro e w6 ⟨rfl, hb6, hbl6⟩; have HM6 := hid (HM5.out.trans (Mod.of_below hbl6)); have HB6 : Hid (Lib.IsBuilder 208 5 (w.heap.size + 1) (w.heap.size + 1) (Lib.byteCells (upL n (k + 1))) w6) := by
     rw [qUu, HL.out]; rw [qHp, <- qGk] at hb6; exact hb6
    clear hb6 hbl6; go_wp2_with fail
    go_roundw
    case rel => exact ⟨k + 1, by omega, by go_num, HB6.out, HM6.out⟩
    case measure => simp [intOf]; omega
   ·have hke : k = n.keys.length := by omega
    subst hke; go_wp2_with fail
    refine (qHg _ _ _ _ HB.out (by have := HM.out.size; rw [HSz.out] at this; exact this)).mono ?_
    rintro e w5 ⟨rfl, hb5⟩; have HM5 := hid (HM.out.trans (Mod.of_below hb5)); clear hb5; go_wp2_with fail
    go_ret; rw [<- qZp]; exact ⟨rfl, HM0.out.then HM5.out (fun i hi h => by omega)⟩
set_option maxHeartbeats 2000000 in
theorem qUe {w : World} {n : Nd} (h : NdAt w n) (hl : n.leaf = false) : Calls Tryz.prog 105 #[.agg #[.bool false, .slice n.ka n.keys.length n.kc, .slice n.va n.values.length n.vc, .slice n.ia n.kids.length n.ic]] w fun e w' => e = .returned (.string (ba (qAo n.leaf n.ents))) /\ Mod (fun _ => False) w w' := by
 have hbk := h.bk; have hm0 : Mod (fun _ => False) w (w.alloc (.cells #[.bool false, .slice n.ka n.keys.length n.kc, .slice n.va n.values.length n.vc, .slice n.ia n.kids.length n.ic] 123)) := (Mod.refl _ _).alloc _
 have hbox : (w.alloc (.cells #[.bool false, .slice n.ka n.keys.length n.kc, .slice n.va n.values.length n.vc, .slice n.ia n.kids.length n.ic] 123)).heap[w.heap.size]? = some (.cells #[.bool false, .slice n.ka n.keys.length n.kc, .slice n.va n.values.length n.vc, .slice n.ia n.kids.length n.ic] 123 (0, 0)) := heap_alloc_new _ _; have hsz : (w.alloc (.cells #[.bool false, .slice n.ka n.keys.length n.kc, .slice n.va n.values.length n.vc, .slice n.ia n.kids.length n.ic] 123)).heap.size = w.heap.size + 1 := by simp
 have HN := hid h; have HN0 := hid (h.ext hm0); have HM0 := hid hm0; have HBox := hid hbox; have hB0 := Lib.fresh_isBuilder 208 5 (w.alloc (.cells #[.bool false, .slice n.ka n.keys.length n.kc, .slice n.va n.values.length n.vc, .slice n.ia n.kids.length n.ic] 123)); rw [hsz] at hB0; have HB0 := hid hB0; have HSz := hid hsz; have HL := hid hl; have HFin : Hid (∀ k, k < n.keys.length -> (upL n k).length + (entL n.leaf (qCj n k)).length <= 140737488355328) := fun k hk => by
  have h1 := qZo h (k := k) (by omega)
  have h2 := qJo n.leaf (qHn h hk); omega
 clear h hm0 hbox hB0 hsz hl; go_enter Tryz.func105, Tryz.ntmps105
 go_wp2_with fail
 have hWm : Mod (fun j => w.heap.size + 1 <= j) (w.alloc (.cells #[.bool false, .slice n.ka n.keys.length n.kc, .slice n.va n.values.length n.vc, .slice n.ia n.kids.length n.ic] 123)) ((w.alloc (.cells #[.bool false, .slice n.ka n.keys.length n.kc, .slice n.va n.values.length n.vc, .slice n.ia n.kids.length n.ic] 123)).alloc (.cells #[.pointer none, .slice none 0 0] 208)) := (Mod.refl _ _).alloc _
 generalize hWW : (w.alloc (.cells #[.bool false, .slice n.ka n.keys.length n.kc, .slice n.va n.values.length n.vc, .slice n.ia n.kids.length n.ic] 123)).alloc (.cells #[.pointer none, .slice none 0 0] 208) = W1 at *; clear hWW; refine (qDr _ _ _ _ _ HB0.out (by simp) (by have := hWm.size; rw [HSz.out] at this; exact this)).mono ?_
 rintro e w1 ⟨rfl, hb1, hbl1⟩; generalize hWa : w.alloc (.cells #[.bool false, .slice n.ka n.keys.length n.kc, .slice n.va n.values.length n.vc, .slice n.ia n.kids.length n.ic] 123) = Wa at *; have HM1 := hid (hWm.trans (Mod.of_below hbl1)); have HB1 := hid hb1; have up : ∀ w', Mod (fun j => w.heap.size + 1 <= j) Wa w' -> w'.heap[w.heap.size]? = some (.cells #[.bool false, .slice n.ka n.keys.length n.kc, .slice n.va n.values.length n.vc, .slice n.ia n.kids.length n.ic] 123 (0, 0)) := fun w' hm => (hm.block _ (lth HBox.out) (by omega)).trans HBox.out
 have HUp := hid up; obtain ⟨b0, b1, b2, b3⟩ := cl4 (HUp.out w1 HM1.out); clear up hb1 hbl1 hWm hWa
 ·skip
  have HB2 := HB1; have HM2 := HM1; obtain ⟨d0, d1, d2, d3⟩ := cl4 (HUp.out w1 HM2.out); clear b0 b1 b2 b3; go_wp2_with fail
  refine (qEm n.keys.length w1 (by omega)).mono ?_
  rintro e w3 ⟨rfl, hm3⟩; have HM3 := hid (HM2.out.trans (hm3.mono fun _ _ h => h.elim))
  have HB3 := hid (qKl HB2.out hm3); obtain ⟨f0, f1, f2, f3⟩ := cl4 (HUp.out w3 HM3.out); clear hm3 d0 d1 d2 d3; go_wp2_with fail
  refine (qBy _ _ _ _ _ HB3.out (by rw [qAf]; have := qAs (n := n.keys.length) (by omega); simp; omega) (by have := HM3.out.size; rw [HSz.out] at this; exact this)).mono ?_
  rintro e w4 ⟨rfl, hb4, hbl4⟩; have HM4 := hid (HM3.out.trans (Mod.of_below hbl4)); have HB4 : Hid (Lib.IsBuilder 208 5 (w.heap.size + 1) (w.heap.size + 1) (Lib.byteCells (upL n 0)) w4) := by
   rw [qUt, HL.out]; rw [qHp] at hb4; exact hb4
  obtain ⟨g0, g1, g2, g3⟩ := cl4 (HUp.out w4 HM4.out); clear hb4 hbl4 f0 f1 f2 f3; go_wp2_with fail
  go_loopw [19] (fun c wr => ∃ k : Nat, k <= n.keys.length /\ c = .int .i64 k /\ Lib.IsBuilder 208 5 (w.heap.size + 1) (w.heap.size + 1) (Lib.byteCells (upL n k)) wr /\ Mod (fun j => w.heap.size + 1 <= j) Wa wr) (fun c _ => n.keys.length - (intOf c).toNat)
  case atStart => exact ⟨0, Nat.zero_le _, rfl, HB4.out, HM4.out⟩
  case round =>
   obtain ⟨k, hk, rfl, hb, hm⟩ := hrel; have HB := hid hb; have HM := hid hm; obtain ⟨c0, c1, c2, c3⟩ := cl4 (HUp.out wr hm); clear hb hm g0 g1 g2 g3; by_cases hlt : k < n.keys.length
   ·have HE := hid (qJn (HN0.out.mod2 HM.out (fun j hj h => by rw [HSz.out] at hj; omega)) k hlt)
    have HF := hid (HFin.out k hlt); rw [HL.out] at HE; go_wp2_with fail
    refine HE.out.mono ?_; rintro e w5 ⟨rfl, hm5⟩; have HM5 := hid (HM.out.trans (hm5.mono fun _ _ h => h.elim))
    have HB5 := hid (qKl HB.out hm5); clear hm5 c0 c1 c2 c3; go_wp2_with fail
    refine (qBy _ _ _ _ _ HB5.out (by rw [qJu, qAf]; have := HF.out; rw [HL.out] at this; exact this) (by have := HM5.out.size; rw [HSz.out] at this; exact this)).mono ?_
    rintro e w6 ⟨rfl, hb6, hbl6⟩; have HM6 := hid (HM5.out.trans (Mod.of_below hbl6)); have HB6 : Hid (Lib.IsBuilder 208 5 (w.heap.size + 1) (w.heap.size + 1) (Lib.byteCells (upL n (k + 1))) w6) := by
     rw [qUu, HL.out]; rw [qHp, <- qGk] at hb6; exact hb6
    clear hb6 hbl6; go_wp2_with fail
    go_roundw
    case rel => exact ⟨k + 1, by omega, by go_num, HB6.out, HM6.out⟩
    case measure => simp [intOf]; omega
   ·have hke : k = n.keys.length := by omega
    subst hke; go_wp2_with fail
    refine (qHg _ _ _ _ HB.out (by have := HM.out.size; rw [HSz.out] at this; exact this)).mono ?_
    rintro e w5 ⟨rfl, hb5⟩; have HM5 := hid (HM.out.trans (Mod.of_below hb5)); clear hb5; go_wp2_with fail
    go_ret; rw [<- qZp]; exact ⟨rfl, HM0.out.then HM5.out (fun i hi h => by omega)⟩
theorem qSj {w : World} {n : Nd} (h : NdAt w n) : Calls Tryz.prog 105 #[.agg #[.bool n.leaf, .slice n.ka n.keys.length n.kc, .slice n.va n.values.length n.vc, .slice n.ia n.kids.length n.ic]] w fun e w' => e = .returned (.string (ba (qAo n.leaf n.ents))) /\ Mod (fun _ => False) w w' := by
 cases hl : n.leaf with
 | true => have := qYu h hl; rw [hl] at this; exact this
 | false => have := qUe h hl; rw [hl] at this; exact this
theorem qHe {w : World} {n : Nd} (h : NdAt w n) : Calls Tryz.prog 101 #[.agg #[.bool n.leaf, .slice n.ka n.keys.length n.kc, .slice n.va n.values.length n.vc, .slice n.ia n.kids.length n.ic]] w fun e w' => e = .returned (.int .i64 (qAo n.leaf n.ents).length) /\ Mod (fun _ => False) w w' := by
 have hm : Mod (fun _ => False) w (w.alloc (.cells #[.bool n.leaf, .slice n.ka n.keys.length n.kc, .slice n.va n.values.length n.vc, .slice n.ia n.kids.length n.ic] 123)) := (Mod.refl _ _).alloc _
 have HB := hid (qSj (h.ext hm)); have HM := hid hm; have hsz : (ba (qAo n.leaf n.ents)).size = (qAo n.leaf n.ents).length := qAf _; clear h hm; go_enter Tryz.func101, Tryz.ntmps101
 go_wp2_with fail
 refine HB.out.mono ?_; rintro e w1 ⟨rfl, hm1⟩; have HM1 := hid hm1; clear hm1; go_wp2_with fail
 go_ret; exact ⟨rfl, HM.out.trans HM1.out⟩
end
end Go.Proofs.YtkinkgbmlhiakaaGreatDoor
