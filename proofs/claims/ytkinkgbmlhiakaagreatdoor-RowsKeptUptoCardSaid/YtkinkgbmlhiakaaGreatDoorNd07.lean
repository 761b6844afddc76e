/- merged: NodeF Place TrL TrT -/
import Derived.Test.YtkinkgbmlhiakaaGreatDoorNd06
namespace Go.Proofs.YtkinkgbmlhiakaaGreatDoor
section
open Go Go.RowKit
def qMf (s : ByteArray) : Bool := decide (200 < s.size)
def outB (k : Int) : Bool := decide (k < 1) || decide (16384 <= k)
theorem jLy (s : ByteArray) (w : World) (hs : s.size <= 4194304) : Calls Tryz.prog 138 #[.string s] w fun e w' => e = .returned (.bool (qMf s)) /\ w = w' := by
 unfold qMf; go_enter Tryz.func138, Tryz.ntmps138
 go_wp2
 go_ret; refine ⟨?_, rfl⟩; congr 2
 simp
 omega
theorem jLz (k : Int) (w : World) : Calls Tryz.prog 140 #[.int .i64 k] w fun e w' => e = .returned (.bool (outB k)) /\ w = w' := by
 by_cases h : k < 1
 ·have e : outB k = true := by simp [outB, h]
  rw [e]; have d : decide (k < 1) = true := by simpa using h
  go_enter Tryz.func140, Tryz.ntmps140
  go_wp2
  go_ret; exact ⟨rfl, rfl⟩
 ·have e : outB k = decide (16384 <= k) := by simp [outB, h]
  rw [e]; have d : decide (k < 1) = false := by simpa using h
  go_enter Tryz.func140, Tryz.ntmps140
  go_wp2
  go_ret; exact ⟨rfl, rfl⟩
set_option maxRecDepth 100000
theorem jGu {w : World} {a : Option Addr} {cap : Nat} {ls : List ByteArray} (h : Lies w 1 (fun x => [.string x]) a ls) (hb : ls.length <= 4194304) (hs : ∀ x ∈ ls, x.size <= 4194304) :
  Calls Tryz.prog 169 #[.slice a ls.length cap, .func (.func 138) #[] #[]] w fun e w' => (∃ k : Int, e = .returned (.int .i64 k) /\ (decide (0 <= k) = ls.any qMf)) /\ w = w' := by
 have H := hid h; have Hs := hid hs; clear h hs; go_enter Tryz.func169, Tryz.ntmps169
 go_wp2
 go_loop [8] (fun c => ∃ k : Nat, k <= ls.length /\ c = .int .i64 k /\ ∀ j, j < k -> ∀ x, ls[j]? = some x -> qMf x = false) (fun c => ls.length - (intOf c).toNat)
 case atStart => exact ⟨0, Nat.zero_le _, rfl, fun j hj => by omega⟩
 case round =>
  obtain ⟨k, hk, rfl, hno⟩ := hrel; have Hno := hid hno; clear hno; by_cases hlt : k < ls.length
  ·obtain ⟨x, hx⟩ : ∃ x, ls[k]? = some x := ⟨_, List.getElem?_eq_getElem hlt⟩; obtain ⟨g, off, rfl, hc⟩ := H.out.one hx; have hsx := Hs.out x (List.mem_of_getElem? hx); have Hx := hid hx; clear hx; go_wp2_with fail
   refine (jLy x w hsx).mono ?_; rintro e w2 ⟨rfl, rfl⟩; cases hp : qMf x with
   | true =>
    go_wp2
    go_ret; refine ⟨⟨k, rfl, ?_⟩, rfl⟩; have : ls.any qMf = true := List.any_eq_true.2 ⟨x, List.mem_of_getElem? Hx.out, hp⟩; rw [this]; simp
   | false =>
    have Hp := hid hp; clear hp; go_wp2
    go_round
    case rel =>
     refine ⟨k + 1, by omega, by go_num, fun j hj y hy => ?_⟩
     rcases Nat.lt_or_ge j k with h | h
     ·exact Hno.out j h y hy
     ·have : j = k := by omega
      subst this; rw [Hx.out] at hy; cases hy
      exact Hp.out
    case measure => simp [intOf]; omega
  ·go_wp2
   go_ret; refine ⟨⟨-1, rfl, ?_⟩, rfl⟩; have : ls.any qMf = false := by
    rw [List.any_eq_false]; intro x hx; obtain ⟨j, hj⟩ := List.getElem?_of_mem hx; rw [Hno.out j (by have := (List.getElem?_eq_some_iff.1 hj).1; omega) x hj]
    decide
   rw [this]; rfl
theorem jDf {w : World} {a : Option Addr} {cap : Nat} {ls : List ByteArray} (h : Lies w 1 (fun x => [.string x]) a ls) (hb : ls.length <= 4194304) (hs : ∀ x ∈ ls, x.size <= 4194304) :
  Calls Tryz.prog 137 #[.slice a ls.length cap, .func (.func 138) #[] #[]] w fun e w' => e = .returned (.bool (ls.any qMf)) /\ w = w' := by
 have HI := hid (jGu (cap := cap) h hb hs); clear h hs; go_enter Tryz.func137, Tryz.ntmps137
 go_wp2_with fail
 refine HI.out.mono ?_; rintro e w2 ⟨⟨k, rfl, hk⟩, rfl⟩; have Hk := hid hk; clear hk; go_wp2
 go_ret; refine ⟨?_, rfl⟩; rw [<- Hk.out]; rfl
theorem jGv {w : World} {a : Option Addr} {cap : Nat} {ls : List Int} (h : Lies w 1 (fun x : Int => [.int .i64 x]) a ls) (hb : ls.length <= 4194304) :
  Calls Tryz.prog 170 #[.slice a ls.length cap, .func (.func 140) #[] #[]] w fun e w' => (∃ k : Int, e = .returned (.int .i64 k) /\ (decide (0 <= k) = ls.any outB)) /\ w = w' := by
 have H := hid h; clear h; go_enter Tryz.func170, Tryz.ntmps170
 go_wp2
 go_loop [8] (fun c => ∃ k : Nat, k <= ls.length /\ c = .int .i64 k /\ ∀ j, j < k -> ∀ x, ls[j]? = some x -> outB x = false) (fun c => ls.length - (intOf c).toNat)
 case atStart => exact ⟨0, Nat.zero_le _, rfl, fun j hj => by omega⟩
 case round =>
  obtain ⟨k, hk, rfl, hno⟩ := hrel; have Hno := hid hno; clear hno; by_cases hlt : k < ls.length
  ·obtain ⟨x, hx⟩ : ∃ x, ls[k]? = some x := ⟨_, List.getElem?_eq_getElem hlt⟩; obtain ⟨g, off, rfl, hc⟩ := H.out.one hx; have Hx := hid hx; clear hx; go_wp2_with fail
   refine (jLz x w).mono ?_; rintro e w2 ⟨rfl, rfl⟩; cases hp : outB x with
   | true =>
    go_wp2
    go_ret; refine ⟨⟨k, rfl, ?_⟩, rfl⟩; have : ls.any outB = true := List.any_eq_true.2 ⟨x, List.mem_of_getElem? Hx.out, hp⟩; rw [this]; simp
   | false =>
    have Hp := hid hp; clear hp; go_wp2
    go_round
    case rel =>
     refine ⟨k + 1, by omega, by go_num, fun j hj y hy => ?_⟩
     rcases Nat.lt_or_ge j k with h | h
     ·exact Hno.out j h y hy
     ·have : j = k := by omega
      subst this; rw [Hx.out] at hy; cases hy
      exact Hp.out
    case measure => simp [intOf]; omega
  ·go_wp2
   go_ret; refine ⟨⟨-1, rfl, ?_⟩, rfl⟩; have : ls.any outB = false := by
    rw [List.any_eq_false]; intro x hx; obtain ⟨j, hj⟩ := List.getElem?_of_mem hx; rw [Hno.out j (by have := (List.getElem?_eq_some_iff.1 hj).1; omega) x hj]
    decide
   rw [this]; rfl
theorem jDg {w : World} {a : Option Addr} {cap : Nat} {ls : List Int} (h : Lies w 1 (fun x : Int => [.int .i64 x]) a ls) (hb : ls.length <= 4194304) :
  Calls Tryz.prog 139 #[.slice a ls.length cap, .func (.func 140) #[] #[]] w fun e w' => e = .returned (.bool (ls.any outB)) /\ w = w' := by
 have HI := hid (jGv (cap := cap) h hb); clear h; go_enter Tryz.func139, Tryz.ntmps139
 go_wp2_with fail
 refine HI.out.mono ?_; rintro e w2 ⟨⟨k, rfl, hk⟩, rfl⟩; have Hk := hid hk; clear hk; go_wp2
 go_ret; refine ⟨?_, rfl⟩; rw [<- Hk.out]; rfl
theorem qLi (t : TypeId) (a b : ByteArray) : binOp .geq t (.string a) (.string b) = pure (.bool (!Op.bytesLess a.toList b.toList)) := by simp [binOp, Op.stringOp]
attribute [local go_sem] qLi
def jKv (ks : List ByteArray) (i : Nat) : Prop := ∃ x, ks[i]? = some x /\ x.toList ≠ [] /\ x.size <= 48 /\ (0 < i -> ∃ y, ks[i - 1]? = some y /\ Op.bytesLess y.toList x.toList = true)
def qSl (ks : List ByteArray) : Prop := ∀ i, i < ks.length -> jKv ks i
def qSz (n : Nd) : Bool := if n.leaf then (decide (n.kids.length = 0) && decide (n.values.length = n.keys.length) && !n.values.any qMf) else (decide (n.values.length = 0) && decide (n.kids.length = n.keys.length) && decide (0 < n.keys.length) && !n.kids.any outB)
def FitP (n : Nd) : Prop := qSl n.keys /\ qSz n = true
noncomputable def fitB (n : Nd) : Bool := @decide (FitP n) (Classical.propDecidable _)
theorem qJk {n : Nd} (h : FitP n) : fitB n = true := @decide_eq_true _ (Classical.propDecidable _) h
theorem qKq {n : Nd} (h : ¬ FitP n) : fitB n = false := @decide_eq_false _ (Classical.propDecidable _) h
theorem qWg {n : Nd} : fitB n = true ↔ FitP n := ⟨fun h => @of_decide_eq_true _ (Classical.propDecidable _) h, qJk⟩
theorem jCu {n : Nd} (h : qSl n.keys) : fitB n = qSz n := by
 cases hr : qSz n with
 | true => exact qJk ⟨h, hr⟩
 | false => exact qKq (fun hf => by rw [hf.2] at hr; cases hr)
set_option maxHeartbeats 1000000 in
theorem jJz {w : World} {n : Nd} (h : NdAt w n) : Calls Tryz.prog 106 #[.agg #[.bool n.leaf, .slice n.ka n.keys.length n.kc, .slice n.va n.values.length n.vc, .slice n.ia n.kids.length n.ic]] w fun e w' => e = .returned (.bool (fitB n)) /\ Mod (fun _ => False) w w' := by
 have hbk := h.bk; have hbv := h.bv; have hbi := h.bi; have hm : Mod (fun _ => False) w (w.alloc (.cells #[.bool n.leaf, .slice n.ka n.keys.length n.kc, .slice n.va n.values.length n.vc, .slice n.ia n.kids.length n.ic] 123)) := (Mod.refl _ _).alloc _
 have hbox : (w.alloc (.cells #[.bool n.leaf, .slice n.ka n.keys.length n.kc, .slice n.va n.values.length n.vc, .slice n.ia n.kids.length n.ic] 123)).heap[w.heap.size]? = some (.cells #[.bool n.leaf, .slice n.ka n.keys.length n.kc, .slice n.va n.values.length n.vc, .slice n.ia n.kids.length n.ic] 123 (0, 0)) := heap_alloc_new _ _; obtain ⟨b0, b1, b2, b3⟩ := cl4 hbox; have HN := hid (h.ext hm); have HM := hid hm; generalize hF : fitB n = F; have HF := hid hF; clear h hm hF hbox; go_enter Tryz.func106, Tryz.ntmps106
 go_wp2_with fail
 generalize w.alloc (.cells #[.bool n.leaf, .slice n.ka n.keys.length n.kc, .slice n.va n.values.length n.vc, .slice n.ia n.kids.length n.ic] 123) = W at *; go_loop [8] (fun c => ∃ k : Nat, k <= n.keys.length /\ c = .int .i64 k /\ ∀ i, i < k -> jKv n.keys i) (fun c => n.keys.length - (intOf c).toNat)
 case atStart => exact ⟨0, Nat.zero_le _, rfl, fun i hi => by omega⟩
 case round =>
  obtain ⟨k, hk, rfl, hok⟩ := hrel; have HOk := hid hok; clear hok; by_cases hlt : k < n.keys.length
  ·obtain ⟨x, hx⟩ : ∃ x, n.keys[k]? = some x := ⟨_, List.getElem?_eq_getElem hlt⟩; obtain ⟨g, off, ha, hc⟩ := HN.out.k.one hx; have hsx := HN.out.sk x (List.mem_of_getElem? hx); have Hx := hid hx; have hbad : ¬ jKv n.keys k -> F = false := fun hb => by rw [<- HF.out]; exact qKq (fun hf => hb (hf.1 k hlt))
   have HBad := hid hbad; clear hbad; by_cases he : x.toList = []
   ·have hF0 : F = false := HBad.out (fun ⟨y, h1, h2, _⟩ => by rw [Hx.out] at h1; cases h1; exact h2 he)
    have d1 : x.toList.isEmpty = true := by rw [he]; rfl
    have HF0 := hid hF0; clear hF0 hx; rw [ha] at b1 ⊢; clear ha; go_wp2
    go_ret; refine ⟨?_, HM.out⟩; rw [HF0.out]; rfl
   ·have d1 : x.toList.isEmpty = false := by cases h : x.toList <;> simp_all
    by_cases h48 : x.size <= 48
    ·have d2 : decide ((48 : Int) < (x.size : Int)) = false := by rw [decide_eq_false_iff_not]; omega
     by_cases hk0 : 0 < k
     ·obtain ⟨y, hy⟩ : ∃ y, n.keys[k - 1]? = some y := ⟨_, List.getElem?_eq_getElem (by omega)⟩
      obtain ⟨g', off', ha', hc'⟩ := HN.out.k.one hy; rw [ha] at ha'; cases ha'
      have Hy := hid hy; rw [ha] at b1 ⊢; clear ha hx hy; cases hlt2 : Op.bytesLess y.toList x.toList with
      | true =>
       have HLt := hid hlt2; go_wp2
       go_round
       case rel =>
        refine ⟨k + 1, by omega, by go_num, fun i hi => ?_⟩
        rcases Nat.lt_or_ge i k with h | h
        ·exact HOk.out i h
        ·have : i = k := by omega
         subst this; exact ⟨x, Hx.out, he, h48, fun _ => ⟨y, Hy.out, HLt.out⟩⟩
       case measure => simp [intOf]; omega
      | false =>
       have hF0 : F = false := HBad.out (fun ⟨x', h1, _, _, h2⟩ => by
        rw [Hx.out] at h1; cases h1
        obtain ⟨y', h3, h4⟩ := h2 hk0; rw [Hy.out] at h3; cases h3
        rw [hlt2] at h4; cases h4)
       have HF0 := hid hF0; clear hF0; go_wp2
       go_ret; refine ⟨?_, HM.out⟩; rw [HF0.out]; rfl
     ·have hk00 : k = 0 := by omega
      rw [ha] at b1 ⊢; clear ha hx; have d3 : decide ((0 : Int) < (k : Int)) = false := by rw [decide_eq_false_iff_not]; omega
      have HK0 := hid hk00; clear hk00; go_wp2
      go_round
      case rel =>
       refine ⟨k + 1, by omega, by go_num, fun i hi => ?_⟩
       have : i = k := by have := HK0.out; omega
       subst this; exact ⟨x, Hx.out, he, h48, fun h => absurd h hk0⟩
      case measure => simp [intOf]; omega
    ·have d2 : decide ((48 : Int) < (x.size : Int)) = true := by rw [decide_eq_true_iff]; omega
     have hF0 : F = false := HBad.out (fun ⟨y, h1, _, h2, _⟩ => by rw [Hx.out] at h1; cases h1; exact h48 h2)
     have HF0 := hid hF0; clear hF0 hx; rw [ha] at b1 ⊢; clear ha; go_wp2
     go_ret; refine ⟨?_, HM.out⟩; rw [HF0.out]; rfl
  ·have hke : k = n.keys.length := by omega
   subst hke; have hFr : F = qSz n := by rw [<- HF.out]; exact jCu HOk.out
   have HCv := hid (jDf (cap := n.vc) HN.out.v hbv HN.out.sv); have HCi := hid (jDg (cap := n.ic) HN.out.i hbi); unfold qSz at hFr; generalize n.values.any qMf = A at *; generalize n.kids.any outB = B at *; have HFr := hid hFr; clear hFr; cases hl : n.leaf with
   | true =>
    rw [hl] at b0 HFr; simp only [if_true] at HFr; by_cases h1 : n.kids.length = 0
    ·have d1 : ((n.kids.length : Int) == 0) = true := by rw [beq_iff_eq]; omega
     by_cases h2 : n.values.length = n.keys.length
     ·have d2 : ((n.values.length : Int) == (n.keys.length : Int)) = true := by rw [beq_iff_eq]; omega
      simp only [h1, h2, decide_true, Bool.true_and] at HFr; clear h1 hl; have H2 := hid h2; clear h2; go_wp2_with fail
      refine HCv.out.mono ?_; rintro e w2 ⟨rfl, rfl⟩; go_wp2_with fail
      go_ret; refine ⟨?_, HM.out⟩; rw [HFr.out]; rfl
     ·have d2 : ((n.values.length : Int) == (n.keys.length : Int)) = false := by rw [beq_eq_false_iff_ne]; omega
      simp only [h1, h2, decide_true, decide_false, Bool.true_and, Bool.false_and] at HFr; clear h1 h2 hl; go_wp2_with fail
      go_ret; refine ⟨?_, HM.out⟩; rw [HFr.out]; rfl
    ·have d1 : ((n.kids.length : Int) == 0) = false := by rw [beq_eq_false_iff_ne]; omega
     simp only [h1, decide_false, Bool.false_and] at HFr; clear h1 hl; go_wp2_with fail
     go_ret; refine ⟨?_, HM.out⟩; rw [HFr.out]; rfl
   | false =>
    rw [hl] at b0 HFr; simp only [Bool.false_eq_true, if_false] at HFr; by_cases h1 : n.values.length = 0
    ·have d1 : ((n.values.length : Int) == 0) = true := by rw [beq_iff_eq]; omega
     by_cases h2 : n.kids.length = n.keys.length
     ·have d2 : ((n.kids.length : Int) == (n.keys.length : Int)) = true := by rw [beq_iff_eq]; omega
      by_cases h3 : 0 < n.keys.length
      ·have d3 : decide ((0 : Int) < (n.keys.length : Int)) = true := by rw [decide_eq_true_iff]; omega
       simp only [h1, h2, h3, decide_true, Bool.true_and] at HFr; clear h1 hl; have H2 := hid h2; clear h2; go_wp2_with fail
       refine HCi.out.mono ?_; rintro e w2 ⟨rfl, rfl⟩; go_wp2_with fail
       go_ret; refine ⟨?_, HM.out⟩; rw [HFr.out]; rfl
      ·have d3 : decide ((0 : Int) < (n.keys.length : Int)) = false := by rw [decide_eq_false_iff_not]; omega
       simp only [h1, h2, h3, decide_true, decide_false, Bool.true_and, Bool.false_and] at HFr; clear h1 h2 hl; go_wp2_with fail
       go_ret; refine ⟨?_, HM.out⟩; rw [HFr.out]; rfl
     ·have d2 : ((n.kids.length : Int) == (n.keys.length : Int)) = false := by rw [beq_eq_false_iff_ne]; omega
      simp only [h1, h2, decide_true, decide_false, Bool.true_and, Bool.false_and] at HFr; clear h1 h2 hl; go_wp2_with fail
      go_ret; refine ⟨?_, HM.out⟩; rw [HFr.out]; rfl
    ·have d1 : ((n.values.length : Int) == 0) = false := by rw [beq_eq_false_iff_ne]; omega
     simp only [h1, decide_false, Bool.false_and] at HFr; clear h1 hl; go_wp2_with fail
     go_ret; refine ⟨?_, HM.out⟩; rw [HFr.out]; rfl
noncomputable def qJp (n : Nd) : Bool := fitB n && decide ((qAo n.leaf n.ents).length <= 1024)
def encV (E : Bool) (L : List UInt8) : Value := .tuple #[.string (if E then ba L else ⟨#[]⟩), .int .i64 (if E then 0 else 40)]
theorem qYp {w : World} {n : Nd} (h : NdAt w n) : Calls Tryz.prog 66 #[.agg #[.bool n.leaf, .slice n.ka n.keys.length n.kc, .slice n.va n.values.length n.vc, .slice n.ia n.kids.length n.ic]] w fun e w' => e = .returned (encV (qJp n) (qAo n.leaf n.ents)) /\ Mod (fun _ => False) w w' := by
 have hm : Mod (fun _ => False) w (w.alloc (.cells #[.bool n.leaf, .slice n.ka n.keys.length n.kc, .slice n.va n.values.length n.vc, .slice n.ia n.kids.length n.ic] 123)) := (Mod.refl _ _).alloc _
 have hbox : (w.alloc (.cells #[.bool n.leaf, .slice n.ka n.keys.length n.kc, .slice n.va n.values.length n.vc, .slice n.ia n.kids.length n.ic] 123)).heap[w.heap.size]? = some (.cells #[.bool n.leaf, .slice n.ka n.keys.length n.kc, .slice n.va n.values.length n.vc, .slice n.ia n.kids.length n.ic] 123 (0, 0)) := heap_alloc_new _ _; have HN := hid (h.ext hm); have HB := hid (qSj (h.ext hm)); have HM := hid hm; have HBox := hid hbox; have hsz : (ba (qAo n.leaf n.ents)).size = (qAo n.leaf n.ents).length := qAf _; generalize hE : qJp n = E; unfold qJp at hE; have HE := hid hE; generalize hL : qAo n.leaf n.ents = L at *; clear h hm hbox hE hL
 go_enter Tryz.func66, Tryz.ntmps66
 go_wp2_with fail
 generalize w.alloc (.cells #[.bool n.leaf, .slice n.ka n.keys.length n.kc, .slice n.va n.values.length n.vc, .slice n.ia n.kids.length n.ic] 123) = W at *; refine HB.out.mono ?_; rintro e w1 ⟨rfl, hm1⟩; obtain ⟨b0, b1, b2, b3⟩ := cl4 ((hm1.block _ (lth HBox.out) (fun h => h)).trans HBox.out)
 have HF := hid (jJz (HN.out.ext hm1)); have HM1 := hid (HM.out.trans hm1); clear hm1; go_wp2_with fail
 refine HF.out.mono ?_; rintro e w2 ⟨rfl, hm2⟩; have HM2 := hid (HM1.out.trans hm2); clear hm2; cases hf : fitB n with
 | true =>
  by_cases hle : L.length <= 1024
  ·have d : decide ((L.length : Int) <= 1024) = true := by rw [decide_eq_true_iff]; omega
   have hE : E = true := by rw [<- HE.out, hf]; simpa using hle
   have HE1 := hid hE; clear hE hf; go_wp2_with fail
   go_ret2; refine ⟨?_, HM2.out⟩; rw [HE1.out]; rfl
  ·have d : decide ((L.length : Int) <= 1024) = false := by rw [decide_eq_false_iff_not]; omega
   have hE : E = false := by rw [<- HE.out, hf]; simpa using hle
   have HE1 := hid hE; clear hE hf; go_wp2_with fail
   go_ret2; refine ⟨?_, HM2.out⟩; rw [HE1.out]; rfl
 | false =>
  have hE : E = false := by rw [<- HE.out, hf]; rfl
  have HE1 := hid hE; clear hE hf; go_wp2_with fail
  go_ret2; refine ⟨?_, HM2.out⟩; rw [HE1.out]; rfl
end
section
open Go Go.RowKit
theorem qMg : ∀ l : List UInt8, Op.bytesLess l l = false
 | [] => rfl
 | a :: l => by simp [Op.bytesLess, qMg l, UInt8.lt_irrefl]
theorem qFs : ∀ {a b c : List UInt8}, Op.bytesLess a b = true -> Op.bytesLess b c = true -> Op.bytesLess a c = true
 | _, [], _, h, _ => by simp [Op.bytesLess] at h
 | [], _ :: _, [], _, h => by simp [Op.bytesLess] at h
 | _ :: _, _ :: _, [], _, h => by simp [Op.bytesLess] at h
 | [], _ :: _, _ :: _, _, _ => by simp [Op.bytesLess]
 | x :: a, y :: b, z :: c, h1, h2 => by
  simp only [Op.bytesLess, Bool.or_eq_true, decide_eq_true_eq, Bool.and_eq_true, beq_iff_eq] at h1 h2 ⊢; rcases h1 with h1 | ⟨rfl, h1⟩
  ·rcases h2 with h2 | ⟨rfl, h2⟩
   ·exact .inl (UInt8.lt_trans h1 h2)
   ·exact .inl h1
  ·rcases h2 with h2 | ⟨rfl, h2⟩
   ·exact .inl h2
   ·exact .inr ⟨rfl, qFs h1 h2⟩
theorem qOb : ∀ {a b : List UInt8}, Op.bytesLess a b = false -> Op.bytesLess b a = false -> a = b
 | [], [], _, _ => rfl
 | [], _ :: _, h, _ => by simp [Op.bytesLess] at h
 | _ :: _, [], _, h => by simp [Op.bytesLess] at h
 | x :: a, y :: b, h1, h2 => by
  simp only [Op.bytesLess, Bool.or_eq_false_iff, decide_eq_false_iff_not, Bool.and_eq_false_iff, beq_eq_false_iff_ne] at h1 h2; have hxy : x = y := by
   have h3 := h1.1; have h4 := h2.1; rw [UInt8.lt_iff_toNat_lt] at h3 h4; exact UInt8.toNat_inj.1 (by omega)
  subst hxy; have h5 := h1.2.resolve_left (fun h => h rfl)
  have h6 := h2.2.resolve_left (fun h => h rfl)
  rw [qOb h5 h6]
theorem toList_inj {a b : ByteArray} (h : a.toList = b.toList) : a = b := by
 rw [ByteArray.toList_eq, ByteArray.toList_eq] at h; exact qMw h
def qNc (ks : List ByteArray) : Prop := ∀ (i j : Nat) (x y : ByteArray), i < j -> ks[i]? = some x -> ks[j]? = some y -> Op.bytesLess x.toList y.toList = true
theorem jFg {ks : List ByteArray} (h : ∀ (i : Nat) (x y : ByteArray), ks[i]? = some x -> ks[i + 1]? = some y -> Op.bytesLess x.toList y.toList = true) : qNc ks := by
 intro i j x y hij hx hy; obtain ⟨d, rfl⟩ : ∃ d, j = i + 1 + d := ⟨j - (i + 1), by omega⟩
 clear hij; induction d generalizing y with
 | zero => exact h i x y hx hy
 | succ d ih =>
  obtain ⟨z, hz⟩ : ∃ z, ks[i + 1 + d]? = some z := ⟨_, List.getElem?_eq_getElem (by have := (List.getElem?_eq_some_iff.1 hy).1; omega)⟩
  exact qFs (ih z hz) (h (i + 1 + d) z y hz hy)
theorem qRu (s : ByteArray) (w : World) : Calls Tryz.prog 119 #[.string s] w fun e w' => e = .returned (.bool false) /\ w = w' := by
 have e1 : (s.toList == s.toList) = true := by simp
 go_enter Tryz.func119, Tryz.ntmps119
 go_wp2
 go_ret; exact ⟨rfl, rfl⟩
theorem qYt (s : ByteArray) (w : World) : Calls Tryz.prog 158 #[.string s] w fun e w' => e = .returned (.bool false) /\ w = w' := by
 have e1 : (s.toList == s.toList) = true := by simp
 go_enter Tryz.func158, Tryz.ntmps158
 go_wp2
 go_ret; exact ⟨rfl, rfl⟩
theorem jGe (a b : ByteArray) (w : World) : Calls Tryz.prog 118 #[.string a, .string b] w fun e w' => e = .returned (.bool (Op.bytesLess a.toList b.toList)) /\ w = w' := by
 go_enter Tryz.func118, Tryz.ntmps118
 go_wp2_with (go_at_call 158; refine (qYt _ _).mono ?_; rintro e w' ⟨rfl, rfl⟩)
 go_ret; exact ⟨rfl, rfl⟩
structure At (ks : List ByteArray) (key : ByteArray) (i : Nat) : Prop where
 le : i <= ks.length
 lo : ∀ (j : Nat) (x : ByteArray), j < i -> ks[j]? = some x -> Op.bytesLess x.toList key.toList = true
 hi : ∀ (j : Nat) (x : ByteArray), i <= j -> ks[j]? = some x -> Op.bytesLess x.toList key.toList = false
def BsAns (ks : List ByteArray) (key : ByteArray) (e : Ending) : Prop := ∃ (i : Nat) (ok : Bool), At ks key i /\ (ok = true ↔ ks[i]? = some key) /\ e = .returned (.tuple #[.int .i64 i, .bool ok])
set_option maxRecDepth 100000
set_option maxHeartbeats 1000000 in
theorem qMt {w : World} {a : Option Addr} {ks : List ByteArray} (cap : Nat) (key : ByteArray) (h : Lies w 1 (fun x => [.string x]) a ks) (hb : ks.length <= 4194304) (hr : qNc ks) : Calls Tryz.prog 82 #[.slice a ks.length cap, .string key] w fun e w' => BsAns ks key e /\ w = w' := by
 have H := hid h; have HR := hid hr; clear h hr; go_enter Tryz.func82, Tryz.ntmps82
 go_wp2
 go_loop [7, 8] (fun ci cj => ∃ i j : Nat, i <= j /\ j <= ks.length /\ ci = .int .i64 i /\ cj = .int .i64 j /\ (∀ (q : Nat) (x : ByteArray), q < i -> ks[q]? = some x -> Op.bytesLess x.toList key.toList = true) /\ (∀ (q : Nat) (x : ByteArray), j <= q -> ks[q]? = some x -> Op.bytesLess x.toList key.toList = false)) (fun ci cj => (intOf cj).toNat - (intOf ci).toNat)
 case atStart => exact ⟨0, ks.length, Nat.zero_le _, Nat.le_refl _, rfl, rfl, fun q x hq => by omega, fun q x hq hx => by have := (List.getElem?_eq_some_iff.1 hx).1; omega⟩
 case round =>
  obtain ⟨i, j, hij, hj, rfl, rfl, hlo, hhi⟩ := hrel; have HLo := hid hlo; have HHi := hid hhi; clear hlo hhi; by_cases hlt : i < j
  ·obtain ⟨m, hm⟩ : ∃ m, (i + j) / 2 = m := ⟨_, rfl⟩; have hm1 : i <= m := by omega
   have hm2 : m < j := by omega
   obtain ⟨x, hx⟩ : ∃ x, ks[m]? = some x := ⟨_, List.getElem?_eq_getElem (by omega)⟩
   obtain ⟨g, off, rfl, hc⟩ := H.out.one hx; have Hx := hid hx; have e1 : ((i : Int) + (j : Int)) / 2 = (m : Int) := by omega
   clear hx; go_wp2_with fail
   refine (jGe x key w).mono ?_; rintro e w2 ⟨rfl, rfl⟩; cases hl : Op.bytesLess x.toList key.toList with
   | true =>
    have HL := hid hl; clear hl; go_wp2_with fail
    go_round
    case rel =>
     refine ⟨m + 1, j, by omega, by omega, by go_num, rfl, fun q y hq hy => ?_, HHi.out⟩
     rcases Nat.lt_or_ge q m with h | h
     ·exact qFs (HR.out q m y x h hy Hx.out) HL.out
     ·have : q = m := by omega
      subst this; rw [Hx.out] at hy; cases hy
      exact HL.out
    case measure => simp [intOf]; omega
   | false =>
    have HL := hid hl; clear hl; go_wp2_with fail
    go_round
    case rel =>
     refine ⟨i, m, by omega, by omega, rfl, rfl, HLo.out, fun q y hq hy => ?_⟩
     rcases Nat.lt_or_ge m q with h | h
     ·cases hlt2 : Op.bytesLess y.toList key.toList with
      | false => rfl
      | true => have := qFs (HR.out m q x y h Hx.out hy) hlt2; rw [HL.out] at this; cases this
     ·have : q = m := by omega
      subst this; rw [Hx.out] at hy; cases hy
      exact HL.out
    case measure => simp [intOf]; omega
  ·have hije : i = j := by omega
   subst hije; have hAt : At ks key i := ⟨by omega, HLo.out, HHi.out⟩
   have HAt := hid hAt; clear hAt; by_cases hin : i < ks.length
   ·obtain ⟨x, hx⟩ : ∃ x, ks[i]? = some x := ⟨_, List.getElem?_eq_getElem hin⟩; obtain ⟨g, off, rfl, hc⟩ := H.out.one hx; have Hx := hid hx; have d0 : decide ((i : Int) < (ks.length : Int)) = true := by rw [decide_eq_true_iff]; omega
    clear hx; by_cases hxk : x = key
    ·have e1 : (x.toList == key.toList) = true := by rw [hxk]; simp
     have Hxk := hid hxk; clear hxk; go_wp2_with (go_at_call 119; refine (qRu _ _).mono ?_; rintro e w' ⟨rfl, rfl⟩)
     go_ret2; exact ⟨⟨i, true, HAt.out, by rw [Hx.out, Hxk.out]; simp, rfl⟩, rfl⟩
    ·have e1 : (x.toList == key.toList) = false := by
      cases h : (x.toList == key.toList)
      ·rfl
      ·exact absurd (toList_inj (by simpa using h)) hxk
     have Hxk := hid hxk; clear hxk; go_wp2_with (go_at_call 119; refine (qRu _ _).mono ?_; rintro e w' ⟨rfl, rfl⟩)
     go_ret2; exact ⟨⟨i, false, HAt.out, by rw [Hx.out]; simp; exact Hxk.out, rfl⟩, rfl⟩
   ·have d0 : decide ((i : Int) < (ks.length : Int)) = false := by rw [decide_eq_false_iff_not]; omega
    go_wp2_with fail
    go_ret2; exact ⟨⟨i, false, HAt.out, by rw [List.getElem?_eq_none (by omega)]; simp, rfl⟩, rfl⟩
def jHy (ks : List ByteArray) (key : ByteArray) (e : Ending) : Prop := ∃ (i : Nat) (ok : Bool), At ks key i /\ (ok = true ↔ ks[i]? = some key) /\ e = .returned (.tuple #[.int .i64 (if ok then (i : Int) else ((i - 1 : Nat) : Int)), .bool ok])
theorem qGq {w : World} {n : Nd} (key : ByteArray) (h : NdAt w n) (hr : qNc n.keys) : Calls Tryz.prog 42 #[.agg #[.bool n.leaf, .slice n.ka n.keys.length n.kc, .slice n.va n.values.length n.vc, .slice n.ia n.kids.length n.ic], .string key] w fun e w' => jHy n.keys key e /\ Mod (fun _ => False) w w' := by
 have hbk := h.bk; have hm : Mod (fun _ => False) w (w.alloc (.cells #[.bool n.leaf, .slice n.ka n.keys.length n.kc, .slice n.va n.values.length n.vc, .slice n.ia n.kids.length n.ic] 123)) := (Mod.refl _ _).alloc _
 have HB := hid (qMt n.kc key (h.k.ext hm) hbk hr); have HM := hid hm; clear h hm hr; go_enter Tryz.func42, Tryz.ntmps42
 go_wp2_with fail
 refine HB.out.mono ?_; rintro e w1 ⟨⟨i, ok, hat, hok, rfl⟩, rfl⟩; have hle := hat.le; have HAt := hid hat; have HOk := hid hok; clear hat hok; cases ok with
 | true =>
  by_cases hi : 0 < i
  ·have d : decide ((0 : Int) < (i : Int)) = true := by rw [decide_eq_true_iff]; omega
   go_wp2_with fail
   all_goals go_ret2
   all_goals first | exact ⟨⟨i, true, HAt.out, (by have := HOk.out; simpa using this), rfl⟩, HM.out⟩ | omega
  ·obtain rfl : i = 0 := by omega
   go_wp2_with fail
   all_goals go_ret2
   all_goals first | exact ⟨⟨0, true, HAt.out, (by have := HOk.out; simpa using this), rfl⟩, HM.out⟩ | omega
 | false =>
  cases i with
  | zero =>
   go_wp2_with fail
   all_goals go_ret2
   all_goals first | exact ⟨⟨0, false, HAt.out, HOk.out, rfl⟩, HM.out⟩ | omega
  | succ i =>
   rw [show ((i + 1 : Nat) : Int) = (i : Int) + 1 by omega]
   by_cases hi : 0 < i
   ·go_wp2_with fail
    all_goals go_ret2
    all_goals first | exact ⟨⟨i + 1, false, HAt.out, HOk.out, rfl⟩, HM.out⟩ | omega
   ·obtain rfl : i = 0 := by omega
    go_wp2_with fail
    all_goals go_ret2
    all_goals first | exact ⟨⟨0 + 1, false, HAt.out, HOk.out, rfl⟩, HM.out⟩ | omega
end
section
open Go Go.RowKit
abbrev KV := ByteArray × ByteArray
def kl (a b : ByteArray) : Bool := Op.bytesLess a.toList b.toList
theorem qBz (a : ByteArray) : kl a a = false := qMg _
theorem qCz {a b c : ByteArray} (h : kl a b = true) (k : kl b c = true) : kl a c = true := qFs h k
theorem qHl {a b : ByteArray} (h : kl a b = false) (k : kl b a = false) : a = b := toList_inj (qOb h k)
theorem qDw {a b : ByteArray} (h : kl a b = true) : kl b a = false := by
 cases k : kl b a with
 | false => rfl
 | true => have := qCz h k; rw [qBz] at this; cases this
theorem qPr {a b : ByteArray} (h : kl a b = true) : a ≠ b := fun e => by rw [e, qBz] at h; cases h
def Asc (l : List KV) : Prop := l.Pairwise (fun a b => kl a.1 b.1 = true)
structure Cg where
 key : ByteArray
 value : ByteArray
 gone : Bool
def Cg.put (c : Cg) : List KV := if c.gone then [] else [(c.key, c.value)]
def chg (c : Cg) (l : List KV) : List KV := l.filter (fun p => kl p.1 c.key) ++ (c.put ++ l.filter (fun p => kl c.key p.1))
theorem qDq {α : Type} {p : α -> Bool} {l : List α} (h : ∀ x ∈ l, p x = true) : l.filter p = l := List.filter_eq_self.2 h
theorem qBb {α : Type} {p : α -> Bool} {l : List α} (h : ∀ x ∈ l, p x = false) : l.filter p = [] := List.filter_eq_nil_iff.2 (fun x hx => by rw [h x hx]; simp)
theorem jKm {c : Cg} {a m z : List KV} (h1 : ∀ p ∈ a, kl p.1 c.key = true) (h2 : ∀ p ∈ z, kl c.key p.1 = true) : chg c (a ++ (m ++ z)) = a ++ (chg c m ++ z) := by
 unfold chg; simp only [List.filter_append]; have e1 : a.filter (fun p => kl p.1 c.key) = a := qDq h1
 have e2 : z.filter (fun p => kl p.1 c.key) = [] := qBb (fun p hp => qDw (h2 p hp))
 have e3 : a.filter (fun p => kl c.key p.1) = [] := qBb (fun p hp => qDw (h1 p hp))
 have e4 : z.filter (fun p => kl c.key p.1) = z := qDq h2
 rw [e1, e2, e3, e4]; simp
theorem qFx {l : List KV} (p : KV -> Bool) (h : Asc l) : Asc (l.filter p) := h.sublist List.filter_sublist
theorem qCa {a b : List KV} : Asc (a ++ b) ↔ Asc a /\ Asc b /\ ∀ x ∈ a, ∀ y ∈ b, kl x.1 y.1 = true := List.pairwise_append
theorem jDv {c : Cg} {l : List KV} (h : Asc l) : Asc (chg c l) := by
 unfold chg; have h1 : ∀ x ∈ l.filter (fun p => kl p.1 c.key), kl x.1 c.key = true := fun x hx => (List.mem_filter.1 hx).2
 have h2 : ∀ x ∈ l.filter (fun p => kl c.key p.1), kl c.key x.1 = true := fun x hx => (List.mem_filter.1 hx).2
 have h3 : ∀ x ∈ c.put, x.1 = c.key := fun x hx => by
  unfold Cg.put at hx; split at hx
  ·cases hx
  ·rw [List.mem_singleton] at hx; rw [hx]
 refine qCa.2 ⟨qFx _ h, qCa.2 ⟨?_, qFx _ h, fun x hx y hy => by rw [h3 x hx]; exact h2 y hy⟩, fun x hx y hy => ?_⟩
 ·unfold Cg.put; split <;> simp [Asc]
 ·rcases List.mem_append.1 hy with hy | hy
  ·rw [h3 y hy]; exact h1 x hx
  ·exact qCz (h1 x hx) (h2 y hy)
end
section
open Go Go.RowKit
structure TE (α : Type) where
 key : ByteArray
 spot : Int
 sub : α
def Tr : Nat -> Type
 | 0 => List KV
 | h + 1 => List (TE (Tr h))
def flat : (h : Nat) -> Tr h -> List KV
 | 0, l => l
 | h + 1, l => List.flatMap (fun e : TE (Tr h) => flat h e.sub) l
def fkey : (h : Nat) -> Tr h -> Option ByteArray
 | 0, l => (List.head? (α := KV) l).map (·.1)
 | h + 1, l => (List.head? (α := TE (Tr h)) l).map (·.key)
def Wf : (h : Nat) -> Tr h -> Prop
 | 0, l => l ≠ ([] : List KV)
 | h + 1, l => l ≠ ([] : List (TE (Tr h))) /\ ∀ e : TE (Tr h), List.Mem e l -> Wf h e.sub /\ fkey h e.sub = some e.key
def secs : (h : Nat) -> Int -> Tr h -> List Int
 | 0, s, _ => [s]
 | h + 1, s, l => s :: List.flatMap (fun e : TE (Tr h) => secs h e.spot e.sub) l
theorem qKo : ∀ (h : Nat) (t : Tr h), Wf h t -> ∃ k v r, fkey h t = some k /\ flat h t = (k, v) :: r
 | 0, l, hw => by
  cases l with
  | nil => exact absurd rfl hw
  | cons p r => exact ⟨p.1, p.2, r, rfl, rfl⟩
 | h + 1, l, hw => by
  cases l with
  | nil => exact absurd rfl hw.1
  | cons e r =>
   obtain ⟨h1, h2⟩ := hw.2 e (.head _); obtain ⟨k, v, q, h3, h4⟩ := qKo h e.sub h1; rw [h2] at h3; cases h3
   exact ⟨e.key, v, q ++ List.flatMap (fun e : TE (Tr h) => flat h e.sub) r, rfl, by
    show List.flatMap (fun e : TE (Tr h) => flat h e.sub) (e :: r) = _
    rw [List.flatMap_cons, h4]; rfl⟩
def qAg {h : Nat} (l : List (TE (Tr h))) : List KV := l.flatMap (fun e => flat h e.sub)
theorem qAi {h : Nat} (a b : List (TE (Tr h))) : qAg (a ++ b) = qAg a ++ qAg b := by unfold qAg; simp
def Ok {h : Nat} (l : List (TE (Tr h))) : Prop := ∀ e ∈ l, Wf h e.sub /\ fkey h e.sub = some e.key
theorem qFq {h : Nat} {a b : List (TE (Tr h))} : Ok (a ++ b) ↔ Ok a /\ Ok b := by
 unfold Ok; constructor
 ·exact fun k => ⟨fun e he => k e (List.mem_append_left _ he), fun e he => k e (List.mem_append_right _ he)⟩
 ·rintro ⟨k1, k2⟩ e he; rcases List.mem_append.1 he with h | h
  ·exact k1 e h
  ·exact k2 e h
theorem qGs {h : Nat} {l : List (TE (Tr h))} (k : Ok l) {e : TE (Tr h)} (he : e ∈ l) : ∃ v r, flat h e.sub = (e.key, v) :: r := by
 obtain ⟨h1, h2⟩ := k e he; obtain ⟨q, v, r, h3, h4⟩ := qKo h e.sub h1; rw [h2] at h3; cases h3
 exact ⟨v, r, h4⟩
theorem qRp {h : Nat} {l : List (TE (Tr h))} {p : KV} (hp : p ∈ qAg l) : ∃ e ∈ l, p ∈ flat h e.sub := by
 unfold qAg at hp; exact List.mem_flatMap.1 hp
theorem jIc {h : Nat} {l : List (TE (Tr h))} (k : Ok l) (ha : Asc (qAg l)) {e : TE (Tr h)} (he : e ∈ l) {p : KV} (hp : p ∈ flat h e.sub) : p.1 = e.key \/ kl e.key p.1 = true := by
 obtain ⟨v, r, hf⟩ := qGs k he; have hs : Asc (flat h e.sub) := by
  have : List.Sublist (flat h e.sub) (qAg l) := by
   obtain ⟨a, b, rfl⟩ := List.append_of_mem he; rw [show a ++ e :: b = a ++ ([e] ++ b) from rfl, qAi, qAi]
   have : qAg [e] = flat h e.sub := by simp [qAg]
   rw [this]; exact (List.sublist_append_left _ _).trans (List.sublist_append_right _ _)
  exact ha.sublist this
 rw [hf] at hs hp; rcases List.mem_cons.1 hp with rfl | hp
 ·exact .inl rfl
 ·exact .inr ((List.pairwise_cons.1 hs).1 p hp)
theorem jCs {h : Nat} {c : Cg} {a b : List (TE (Tr h))} {e : TE (Tr h)} (k : Ok (a ++ ([e] ++ b))) (ha : Asc (qAg (a ++ ([e] ++ b))))
  (h1 : a = [] \/ e.key = c.key \/ kl e.key c.key = true) (h2 : ∀ x ∈ b, kl c.key x.key = true) :
  chg c (qAg (a ++ ([e] ++ b))) = qAg a ++ (chg c (flat h e.sub) ++ qAg b) := by
 have he : qAg [e] = flat h e.sub := by simp [qAg]
 rw [qAi, qAi, he]; have ha' := ha; rw [qAi, qAi, he] at ha'; obtain ⟨_, _, hab⟩ := qCa.1 ha'; refine jKm (fun p hp => ?_) (fun p hp => ?_)
 ·rcases h1 with rfl | h1
  ·simp [qAg] at hp
  ·obtain ⟨v, r, hf⟩ := qGs k (e := e) (List.mem_append_right _ (List.mem_append_left _ (List.mem_singleton.2 rfl))); have h3 : kl p.1 e.key = true := hab p hp (e.key, v) (List.mem_append_left _ (by rw [hf]; exact List.mem_cons_self))
   rcases h1 with h1 | h1
   ·rw [<- h1]; exact h3
   ·exact qCz h3 h1
 ·obtain ⟨x, hx, hp⟩ := qRp hp; have h3 := h2 x hx; rcases jIc k ha (List.mem_append_right _ (List.mem_append_right _ hx)) hp with h4 | h4
  ·rw [h4]; exact h3
  ·exact qCz h3 h4
end
end Go.Proofs.YtkinkgbmlhiakaaGreatDoor
