/- merged: RwH RwK RwV RwY RwZ RwP RwQ RwN RwD -/
import Derived.Test.YtkinkgbmlhiakaaGreatDoorNb23
import Derived.Test.YtkinkgbmlhiakaaGreatDoorNb11
import Derived.Test.YtkinkgbmlhiakaaGreatDoorNb04
import Derived.IntWalk
import Derived.Lib.Strings
namespace Go.Proofs.YtkinkgbmlhiakaaGreatDoor
section
open Go Go.RowKit
set_option maxRecDepth 100000
theorem jGr (k : Int) (w : World) : Calls Tryz.prog 76 #[.int .i64 k] w fun e w' => e = .returned (.bool (decide (¬ qEi k))) /\ w = w' := by
 by_cases h0 : k < 0
 ·have d0 : decide (k < 0) = true := by simpa using h0
  have HV : Hid (decide (¬ qEi k) = true) := hid (decide_eq_true (by unfold qEi; omega))
  clear h0; go_enter Tryz.func76, Tryz.ntmps76
  go_wp2
  go_ret; rw [HV.out]; exact ⟨rfl, rfl⟩
 ·have d0 : decide (k < 0) = false := by simpa using h0
  by_cases h1 : 1 < k
  ·have d1 : decide (1 < k) = true := by simpa using h1
   have HV : Hid (decide (¬ qEi k) = true) := hid (decide_eq_true (by unfold qEi; omega))
   clear h0 h1; go_enter Tryz.func76, Tryz.ntmps76
   go_wp2
   go_ret; rw [HV.out]; exact ⟨rfl, rfl⟩
  ·have d1 : decide (1 < k) = false := by simpa using h1
   have HV : Hid (decide (¬ qEi k) = false) := hid (decide_eq_false (by unfold qEi; omega))
   clear h0 h1; go_enter Tryz.func76, Tryz.ntmps76
   go_wp2
   go_ret; rw [HV.out]; exact ⟨rfl, rfl⟩
theorem jGd {w : World} {ca : Option Addr} {cols : List Int} (cc : Nat) (hl : Lies w 1 oneI ca cols) (hn : cols.length <= 140737488351232) :
  Calls Tryz.prog 116 #[.slice ca cols.length cc, .func (.func 76) #[] #[]] w fun e w' => (∃ r : Int, e = .returned (.int .i64 r) /\ (0 <= r ↔ ¬ ∀ k ∈ cols, qEi k)) /\ w = w' := by
 have HL := hid hl; clear hl; go_enter Tryz.func116, Tryz.ntmps116
 go_wp2
 go_loop [8] (fun c => ∃ k : Nat, k <= cols.length /\ c = .int .i64 k /\ ∀ j x, j < k -> cols[j]? = some x -> qEi x) (fun c => cols.length - (intOf c).toNat)
 case atStart => exact ⟨0, Nat.zero_le _, rfl, fun j x h => by omega⟩
 case round =>
  obtain ⟨k, hk, rfl, hb⟩ := hrel; have HB := hid hb; clear hb; by_cases hlt : k < cols.length
  ·obtain ⟨x, hx⟩ : ∃ x, cols[k]? = some x := ⟨_, List.getElem?_eq_getElem hlt⟩; have HX := hid hx; obtain ⟨g, off, rfl⟩ := HL.out.some (by omega)
   have q0 := HL.out.cell oneI_len hx (j := 0) rfl; rw [Nat.add_zero, Nat.mul_one] at q0; have HC := hid (jGr x w); clear hx; by_cases hx1 : qEi x
   ·rw [decide_eq_false (fun h => h hx1)] at HC
    have HK := hid hx1; clear hx1; go_wp2_with fail
    refine HC.out.mono ?_; rintro e w1 ⟨rfl, rfl⟩; go_wp2_with fail
    go_round
    case rel =>
     refine ⟨k + 1, by omega, by go_num, fun j y hj hy => ?_⟩
     by_cases hjk : j = k
     ·subst hjk; rw [HX.out] at hy; cases hy
      exact HK.out
     ·exact HB.out j y (by omega) hy
    case measure => simp [intOf]; omega
   ·rw [decide_eq_true hx1] at HC; have HK := hid hx1; clear hx1; go_wp2_with fail
    refine HC.out.mono ?_; rintro e w1 ⟨rfl, rfl⟩; go_wp2_with fail
    go_ret; exact ⟨⟨_, rfl, ⟨fun _ h => HK.out (h x (List.mem_of_getElem? HX.out)), fun _ => by omega⟩⟩, rfl⟩
  ·have hke : k = cols.length := by omega
   subst hke; go_wp2_with fail
   go_ret; have HAll : Hid (∀ x ∈ cols, qEi x) := hid (fun x hx => by
    obtain ⟨i, hi⟩ := List.getElem?_of_mem hx; exact HB.out i x (List.getElem?_eq_some_iff.1 hi).1 hi)
   refine ⟨⟨_, rfl, ⟨fun h => by omega, fun h => ?_⟩⟩, rfl⟩
   obtain ⟨x, hx, hk⟩ : ∃ x, x ∈ cols /\ ¬ qEi x := by simpa using h
   exact absurd (HAll.out x hx) hk
theorem jGo {w : World} {ca : Option Addr} {cols : List Int} (cc : Nat) (hl : Lies w 1 oneI ca cols) (hn : cols.length <= 140737488351232) :
  Calls Tryz.prog 75 #[.slice ca cols.length cc, .func (.func 76) #[] #[]] w fun e w' => e = .returned (.bool (decide (¬ ∀ k ∈ cols, qEi k))) /\ w = w' := by
 have HI := hid (jGd cc hl hn); clear hl; go_enter Tryz.func75, Tryz.ntmps75
 go_wp2_with fail
 refine HI.out.mono ?_; rintro e w1 ⟨⟨r, rfl, hr⟩, rfl⟩; have HV : Hid (decide (0 <= r) = decide (¬ ∀ k ∈ cols, qEi k)) := hid (decide_eq_decide.2 hr); clear hr; go_wp2_with fail
 go_ret; rw [HV.out]; exact ⟨rfl, rfl⟩
end
section
open Go Go.RowKit
theorem jDu (name : Int) (cols : List Int) (keys idx : Int) : qIs name cols keys idx = (fitC name cols.length keys idx && decide (∀ k ∈ cols, qEi k)) := by
 unfold qIs; by_cases h : ∀ k ∈ cols, qEi k
 ·rw [if_pos h, decide_eq_true h, Bool.and_true]
 ·rw [if_neg h, decide_eq_false h, Bool.and_false]
set_option maxRecDepth 100000
set_option maxHeartbeats 2000000 in
theorem qOc {w : World} {ca : Option Addr} {cols : List Int} (name keys idx : Int) (cc : Nat) (hl : Lies w 1 oneI ca cols) (hn : cols.length <= 140737488351232) :
  Calls Tryz.prog 37 #[.agg #[.int .u8 name, .slice ca cols.length cc, .int .i64 keys, .int .i64 idx]] w fun e w' => e = .returned (.bool (qIs name cols keys idx)) /\ Mod (fun _ => False) w w' := by
 have hma : Mod (fun _ => False) w (w.alloc (.cells #[.int .u8 name, .slice ca cols.length cc, .int .i64 keys, .int .i64 idx] 24)) := (Mod.refl _ _).alloc _
 have HM := hid hma; have HC := hid (jGo cc (hl.ext hma) hn); have HF := hid (jDu name cols keys idx); clear hma hl; by_cases h0 : 97 <= name
 case neg =>
  have d0 : decide (97 <= name) = false := by simpa using h0
  have HV : Hid (fitC name cols.length keys idx = false) := hid (by simp [fitC, *])
  clear h0; go_enter Tryz.func37, Tryz.ntmps37
  go_wp2_with fail
  go_ret; rw [HF.out, HV.out]; exact ⟨rfl, HM.out⟩
 have d0 : decide (97 <= name) = true := by simpa using h0
 by_cases h1 : name <= 122
 case neg =>
  have d1 : decide (name <= 122) = false := by simpa using h1
  have HV : Hid (fitC name cols.length keys idx = false) := hid (by simp [fitC, *])
  clear h0 h1; go_enter Tryz.func37, Tryz.ntmps37
  go_wp2_with fail
  go_ret; rw [HF.out, HV.out]; exact ⟨rfl, HM.out⟩
 have d1 : decide (name <= 122) = true := by simpa using h1
 by_cases h2 : 1 <= keys
 case neg =>
  have d2 : decide (1 <= keys) = false := by simpa using h2
  have HV : Hid (fitC name cols.length keys idx = false) := hid (by simp [fitC, *])
  clear h0 h1 h2; go_enter Tryz.func37, Tryz.ntmps37
  go_wp2_with fail
  go_ret; rw [HF.out, HV.out]; exact ⟨rfl, HM.out⟩
 have d2 : decide (1 <= keys) = true := by simpa using h2
 by_cases h3 : keys <= (cols.length : Int)
 case neg =>
  have d3 : decide (keys <= (cols.length : Int)) = false := by simpa using h3
  have HV : Hid (fitC name cols.length keys idx = false) := hid (by simp [fitC, *])
  clear h0 h1 h2 h3; go_enter Tryz.func37, Tryz.ntmps37
  go_wp2_with fail
  go_ret; rw [HF.out, HV.out]; exact ⟨rfl, HM.out⟩
 have d3 : decide (keys <= (cols.length : Int)) = true := by simpa using h3
 by_cases h4 : -1 <= idx
 case neg =>
  have d4 : decide (-1 <= idx) = false := by simpa using h4
  have HV : Hid (fitC name cols.length keys idx = false) := hid (by simp [fitC, *])
  clear h0 h1 h2 h3 h4; go_enter Tryz.func37, Tryz.ntmps37
  go_wp2_with fail
  go_ret; rw [HF.out, HV.out]; exact ⟨rfl, HM.out⟩
 have d4 : decide (-1 <= idx) = true := by simpa using h4
 by_cases h5 : idx < (cols.length : Int)
 case neg =>
  have d5 : decide (idx < (cols.length : Int)) = false := by simpa using h5
  have HV : Hid (fitC name cols.length keys idx = false) := hid (by simp [fitC, *])
  clear h0 h1 h2 h3 h4 h5; go_enter Tryz.func37, Tryz.ntmps37
  go_wp2_with fail
  go_ret; rw [HF.out, HV.out]; exact ⟨rfl, HM.out⟩
 have d5 : decide (idx < (cols.length : Int)) = true := by simpa using h5
 have HV : Hid (fitC name cols.length keys idx = true) := hid (by simp [fitC, *])
 clear h0 h1 h2 h3 h4 h5; have HD : Hid (decide (¬ ∀ k ∈ cols, qEi k) = !decide (∀ k ∈ cols, qEi k)) := hid decide_not; rw [HD.out] at HC; generalize decide (∀ k ∈ cols, qEi k) = z at *; go_enter Tryz.func37, Tryz.ntmps37
 go_wp2_with fail
 refine HC.out.mono ?_; rintro e w1 ⟨rfl, rfl⟩; go_wp2_with fail
 go_ret; rw [HF.out, HV.out]; exact ⟨by cases z <;> rfl, HM.out⟩
end
section
open Go Go.RowKit
structure Vl where
 n : Int
 s : ByteArray
def Vl.cs (v : Vl) : List Value := [.int .i64 v.n, .string v.s]
theorem qEt (v : Vl) : v.cs.length = 2 := rfl
def qOb (k : Int) (v : Vl) : Bool := if k = 0 then v.s.toList.isEmpty else (v.n == 0 && qGo v.s)
def qDr (k : Int) (v : Vl) : List UInt8 := qPt k v.n v.s
theorem qTr (k : Int) (v : Vl) (w : World) (hv : v.Ok) :
  Calls Tryz.prog 39 #[.int .i64 k, .agg #[.int .i64 v.n, .string v.s]] w fun e w' => e = .returned (.tuple #[.string (ba (qDr k v)), .bool (qOb k v)]) /\ Mod (fun _ => False) w w' := by
 unfold qDr qPt qOb; by_cases hk : k = 0
 ·subst hk; rw [if_pos rfl, if_pos rfl]; exact jDr v.n v.s w hv.n0 hv.n1
 ·rw [if_neg hk, if_neg hk]; exact qZk k v.n v.s w hk hv.s
def qDj (cols : List Int) (r : List Vl) (k : Nat) : List UInt8 := ((cols.zip r).take k).flatMap fun p => qDr p.1 p.2
theorem qVk {cols : List Int} {r : List Vl} {k : Nat} {c : Int} {v : Vl} (hc : cols[k]? = some c) (hv : r[k]? = some v) : qDj cols r (k + 1) = qDj cols r k ++ qDr c v := by
 unfold qDj; have h : (cols.zip r)[k]? = some (c, v) := by rw [List.getElem?_zip_eq_some]; exact ⟨hc, hv⟩
 have hl := (List.getElem?_eq_some_iff.1 h).1; rw [List.take_succ_eq_append_getElem hl, List.flatMap_append, (List.getElem?_eq_some_iff.1 h).2]; simp
end
section
open Go Go.RowKit
theorem qUw {w : World} {b : Nat} {v0 v1 v2 v3 : Value} {T : TypeId} (h : w.heap[b]? = some (.cells #[v0, v1, v2, v3] T (0, 0))) : w.cell? ⟨b, 0, none⟩ = some v0 /\ w.cell? ⟨b, 1, none⟩ = some v1 :=
 ⟨by rw [cell_of_row _ _ _ _ _ _ h]; rfl, by rw [cell_of_row _ _ _ _ _ _ h]; rfl⟩
def FitK (cols : List Int) (r : List Vl) (k : Nat) : Prop := ∀ j c v, j < k -> cols[j]? = some c -> r[j]? = some v -> qOb c v = true
set_option maxRecDepth 100000
set_option maxHeartbeats 2000000 in
theorem jCz {w : World} {ca ra : Option Addr} {cols : List Int} {r : List Vl} (name idx : Int) (keys cc rc : Nat) (hl : Lies w 1 oneI ca cols) (hr : Lies w 2 Vl.cs ra r) (hlen : r.length = cols.length) (hk : keys <= cols.length) (hn : cols.length <= 140737488351232) (hv : ∀ v ∈ r, v.Ok) (hsz : ∀ k, (qDj cols r k).length <= 2305843009213693952) :
  Calls Tryz.prog 60 #[.agg #[.int .u8 name, .slice ca cols.length cc, .int .i64 (keys : Int), .int .i64 idx], .slice ra r.length rc] w fun e w' =>
   ((FitK cols r keys /\ e = .returned (.tuple #[.string (ba (qDj cols r keys)), .bool true])) \/ (¬ FitK cols r keys /\ e = .returned (.tuple #[.string ⟨#[]⟩, .bool false]))) /\ Mod (fun _ => False) w w' := by
 have hma : Mod (fun _ => False) w (w.alloc (.cells #[.int .u8 name, .slice ca cols.length cc, .int .i64 (keys : Int), .int .i64 idx] 24)) := (Mod.refl _ _).alloc _
 have hcb : (w.alloc (.cells #[.int .u8 name, .slice ca cols.length cc, .int .i64 (keys : Int), .int .i64 idx] 24)).heap[w.heap.size]? = some (.cells #[.int .u8 name, .slice ca cols.length cc, .int .i64 (keys : Int), .int .i64 idx] 24 (0, 0)) := heap_alloc_new _ _; have HM := hid hma; have HCb := hid hcb; have HL := hid (hl.ext hma); have HR := hid (hr.ext hma); have HV := hid hv; have HS := hid hsz; have HLen := hid hlen; clear hma hcb hl hr hv hsz hlen; go_enter Tryz.func60, Tryz.ntmps60
 go_wp2_with fail
 obtain ⟨C, hC⟩ : ∃ C, w.alloc (.cells #[.int .u8 name, .slice ca cols.length cc, .int .i64 (keys : Int), .int .i64 idx] 24) = C := ⟨_, rfl⟩; rw [hC] at HM HCb HL HR; go_loopw [6, 12] (fun s c wr => ∃ k : Nat, k <= keys /\ c = .int .i64 (k : Int) /\ s = .string (ba (qDj cols r k)) /\ FitK cols r k /\ Mod (fun _ => False) C wr) (fun _ c _ => keys - (intOf c).toNat)
 case atStart => exact ⟨0, Nat.zero_le _, rfl, rfl, (fun j c v h => by omega), by rw [hC]; exact Mod.refl _ _⟩
 case round =>
  obtain ⟨k, hkk, rfl, rfl, hf, hm⟩ := hrel; have HF := hid hf; have HMr := hid hm; clear hf hm; by_cases hlt : k < keys
  ·obtain ⟨c, hc⟩ : ∃ c, cols[k]? = some c := ⟨_, List.getElem?_eq_getElem (by omega)⟩
   obtain ⟨v, hvv⟩ : ∃ v, r[k]? = some v := ⟨_, List.getElem?_eq_getElem (by rw [HLen.out]; omega)⟩
   have hkr : k < r.length := by rw [HLen.out]; omega
   have HSu := hid (qVk hc hvv); have HStep : Hid (qOb c v = true -> FitK cols r (k + 1)) := hid (fun ht j c' v' hj h1 h2 => by
    by_cases hjk : j = k
    ·subst hjk; rw [hc] at h1; rw [hvv] at h2; cases h1
     cases h2
     exact ht
    ·exact HF.out j c' v' (by omega) h1 h2)
   have HBad : Hid (qOb c v = false -> ¬ FitK cols r keys) := hid (fun ht h => by have := h k c v hlt hc hvv; rw [ht] at this; cases this)
   have hlc := HL.out.ext HMr.out; have hrc := HR.out.ext HMr.out; have HVo := hid (HV.out v (List.mem_of_getElem? hvv)); have HSz := hid (HS.out k); have HSz2 := hid (HS.out (k + 1)); obtain ⟨g, off, rfl⟩ := hlc.some (by omega)
   obtain ⟨g2, off2, rfl⟩ := hrc.some (by omega)
   have q0 := hlc.cell oneI_len hc (j := 0) rfl; have p0 := hrc.cell qEt hvv (j := 0) rfl; have p1 := hrc.cell qEt hvv (j := 1) rfl; rw [Nat.add_zero, Nat.mul_one] at q0; rw [Nat.add_zero] at p0; have b1 : wr.cell? ⟨w.heap.size, 1, none⟩ = some (.slice (some ⟨g, off, none⟩) cols.length cc) := (qUw ((HMr.out.block _ (lth HCb.out) (fun h => h)).trans HCb.out)).2
   have g0 := fun x : Ext wr => x.cell q0
   have g1 := fun x : Ext wr => x.cell p0
   have g2' := fun x : Ext wr => x.cell p1
   have g3 := fun x : Ext wr => x.cell b1
   have HK := hid (fun x : Ext wr => qTr c v x.val HVo.out)
   have s0 : (ba (qDj cols r k)).size <= 2305843009213693952 := by rw [qAd]; exact HSz.out
   have s1 : (ba (qDr c v)).size <= 2305843009213693952 := by
    have := HSz2.out; rw [HSu.out, List.length_append] at this; rw [qAd]; omega
   have HBa : Hid (ba (qDj cols r k) ++ ba (qDr c v) = ba (qDj cols r (k + 1))) := hid (by rw [HSu.out, qBi])
   obtain ⟨n, t⟩ := v; simp only at p0 p1 g1 g2' HK; generalize qDr c ⟨n, t⟩ = fm at *; generalize qOb c ⟨n, t⟩ = ft at *; clear hlc hrc hc hvv q0 p0 p1 b1; go_wp2_with fail
   refine qAk (by kernel_rfl) (by kernel_rfl) ?_
   repeat (go_big_quiet_step ((go_at_call 39; exact qBb (HK.out _))))
   refine wpQuiet_nil ?_; rintro _ ⟨x, rfl⟩; clear g0 g1 g2' g3; cases ft with
   | false =>
    go_wp2_with fail
    go_ret2; exact ⟨.inr ⟨HBad.out (by trivial), rfl⟩, HM.out.trans (HMr.out.trans x.mod)⟩
   | true =>
    go_wp2_with fail
    go_roundw
    case rel => exact ⟨k + 1, by omega, by go_num, by rw [HBa.out], HStep.out (by trivial), HMr.out.trans x.mod⟩
    case measure => simp [intOf]; omega
  ·have hke : k = keys := by omega
   subst hke; go_wp2_with fail
   go_ret2; exact ⟨.inl ⟨HF.out, rfl⟩, HM.out.trans HMr.out⟩
end
section
open Go Go.RowKit
def qAl (name : Nat) (b : UInt8) : List UInt8 := [UInt8.ofNat name, b]
end
section
open Go Go.RowKit
def qIj (k : Int) (v : Vl) : List UInt8 := if k = 0 then intL v.n else qDu v.s
def valL (cols : List Int) (r : List Vl) (keys j : Nat) : List UInt8 := (((cols.zip r).take j).drop keys).flatMap fun p => qIj p.1 p.2
theorem qHi (cols : List Int) (r : List Vl) {keys j : Nat} (h : j <= keys) : valL cols r keys j = [] := by
 unfold valL; rw [List.drop_of_length_le (by rw [List.length_take]; omega)]
 rfl
theorem qWt {cols : List Int} {r : List Vl} {keys k : Nat} {c : Int} {v : Vl} (h : keys <= k) (hc : cols[k]? = some c) (hv : r[k]? = some v) : valL cols r keys (k + 1) = valL cols r keys k ++ qIj c v := by
 unfold valL; have h' : (cols.zip r)[k]? = some (c, v) := by rw [List.getElem?_zip_eq_some]; exact ⟨hc, hv⟩
 have hl := (List.getElem?_eq_some_iff.1 h').1; rw [List.take_succ_eq_append_getElem hl, List.drop_append_of_le_length (by rw [List.length_take]; omega), List.flatMap_append, (List.getElem?_eq_some_iff.1 h').2]
 simp
def qCk (k : Int) (v : Vl) : Bool := if k = 0 then v.s.toList.isEmpty else (v.n == 0)
theorem qWc {s : ByteArray} (h : s.toList.isEmpty = true) : qGo s = true := by
 unfold qGo; rw [ByteArray.toList_eq, List.isEmpty_iff] at h; rw [h]; rfl
theorem qIr {k : Int} {v : Vl} (h : qCk k v = true) : qOb k v = qGo v.s := by
 unfold qCk at h; unfold qOb; by_cases hk : k = 0
 ·rw [if_pos hk] at h ⊢; rw [h, qWc h]
 ·rw [if_neg hk] at h ⊢; rw [h, Bool.true_and]
structure Good (name : Int) (cols : List Int) (keys idx : Int) (r : List Vl) : Prop where
 fit : qIs name cols keys idx = true
 len : r.length = cols.length
 typed : ∀ (j : Nat) c v, cols[j]? = some c -> r[j]? = some v -> qCk c v = true
 bare : ∀ (j : Nat) v, ((j : Int) < keys \/ (j : Int) = idx) -> r[j]? = some v -> qGo v.s = true
def idxL (cols : List Int) (r : List Vl) (idx : Int) : List UInt8 := qDr (cols.getD idx.toNat 0) (r.getD idx.toNat ⟨0, ⟨#[]⟩⟩)
def qFk (name : Int) (cols : List Int) (keys : Int) (r : List Vl) : List UInt8 := qAl name.toNat 0 ++ qDj cols r keys.toNat
def qVa (cols : List Int) (keys : Int) (r : List Vl) : List UInt8 := valL cols r keys.toNat cols.length
def pxL (name : Int) (cols : List Int) (keys idx : Int) (r : List Vl) : List UInt8 := if 0 <= idx then qAl name.toNat 1 ++ idxL cols r idx ++ qDj cols r keys.toNat else []
structure PX where
 k : List UInt8
 v : List UInt8
 x : List UInt8
def qEo (p : PX) : Prop := p.k.length <= 48 /\ p.x.length <= 48 /\ p.v.length <= 200
instance (p : PX) : Decidable (qEo p) := inferInstanceAs (Decidable (_ /\ _ /\ _))
def pxOf (name : Int) (cols : List Int) (keys idx : Int) (r : List Vl) : PX := ⟨qFk name cols keys r, qVa cols keys r, pxL name cols keys idx r⟩
noncomputable def qBs (name : Int) (cols : List Int) (keys idx : Int) (r : List Vl) : Option PX :=
 open Classical in if Good name cols keys idx r /\ qEo (pxOf name cols keys idx r) then some (pxOf name cols keys idx r) else none
theorem qDx {name : Int} {cols : List Int} {keys idx : Int} {r : List Vl} (h : ¬ Good name cols keys idx r) : qBs name cols keys idx r = none := by
 unfold qBs; rw [if_neg (fun h' => h h'.1)]
theorem qMc {name : Int} {cols : List Int} {keys idx : Int} {r : List Vl} (h : ¬ qEo (pxOf name cols keys idx r)) : qBs name cols keys idx r = none := by
 unfold qBs; rw [if_neg (fun h' => h h'.2)]
theorem qGh {name : Int} {cols : List Int} {keys idx : Int} {r : List Vl} (h : Good name cols keys idx r) (h2 : qEo (pxOf name cols keys idx r)) : qBs name cols keys idx r = some (pxOf name cols keys idx r) := by
 unfold qBs; rw [if_pos ⟨h, h2⟩]
theorem qFt {name : Int} {cols : List Int} {keys idx : Int} {r : List Vl} {p : PX} (h : qBs name cols keys idx r = some p) : Good name cols keys idx r /\ qEo p /\ p = pxOf name cols keys idx r := by
 unfold qBs at h; split at h
 ·next h' => cases h; exact ⟨h'.1, h'.2, rfl⟩
 ·cases h
theorem qJu {name : Int} {cols : List Int} {keys idx : Int} (h : qIs name cols keys idx = true) : (∀ k ∈ cols, qEi k) /\ 97 <= name /\ name <= 122 /\ 1 <= keys /\ keys <= (cols.length : Int) /\ -1 <= idx /\ idx < (cols.length : Int) := by
 unfold qIs at h; split at h
 ·next hk =>
  refine ⟨hk, ?_⟩; unfold fitC at h; simp only [Bool.and_eq_true, decide_eq_true_eq] at h; exact h
 ·cases h
end
section
open Go Go.RowKit
structure RV where
 v : Vl
 n : Nat
 ok : Bool
def noV : RV := ⟨⟨0, ⟨#[]⟩⟩, 0, false⟩
def rdO (s : ByteArray) (a : Nat) : RV := if s.size < a + 8 then noV else ⟨⟨(rdBE 0 ((s.data.toList.drop a).take 8) : Int) - 9223372036854775808, ⟨#[]⟩⟩, a + 8, true⟩
def rdI (s : ByteArray) (a : Nat) : RV := if (rdU 0 (s.data.toList.drop a)).e = 0 then ⟨⟨unzz (rdU 0 (s.data.toList.drop a)).v, ⟨#[]⟩⟩, a + (rdU 0 (s.data.toList.drop a)).n, true⟩ else noV
def rdZ (s : ByteArray) (a : Nat) : RV := if Lib.indexByte (s.data.toList.drop a) 0 < 0 then noV else ⟨⟨0, s.extract a (a + (Lib.indexByte (s.data.toList.drop a) 0).toNat)⟩, a + (Lib.indexByte (s.data.toList.drop a) 0).toNat + 1, true⟩
def rdX (s : ByteArray) (a : Nat) : RV := if (rdT s a).e = 0 then ⟨⟨0, (rdT s a).t⟩, (rdT s a).n, true⟩ else noV
def qBv (k : Int) (s : ByteArray) (a : Nat) : RV := if k = 0 then rdO s a else rdZ s a
def qCf (k : Int) (s : ByteArray) (a : Nat) : RV := if k = 0 then rdI s a else rdX s a
theorem qMk : ∀ (l r : List UInt8), (0 : UInt8) ∉ l -> Lib.indexByte (l ++ 0 :: r) 0 = (l.length : Int)
 | [], r => fun _ => by simp [Lib.indexByte]
 | b :: l, r => fun h => by
  have hb : b ≠ 0 := fun e => h (by simp [e])
  have ih := qMk l r (fun e => h (by simp [e]))
  have e : (b == 0) = false := by simpa using hb
  rw [List.cons_append, Lib.indexByte, e]; simp only [Bool.false_eq_true, if_false, ih]; have e2 : ((l.length : Int) == -1) = false := by rw [beq_eq_false_iff_ne]; omega
  rw [e2]; simp
theorem jEe {s : ByteArray} (h : qGo s = true) : (0 : UInt8) ∉ s.data.toList := by
 intro hm; unfold qGo at h; rw [List.contains_iff_mem.2 hm] at h; cases h
theorem qJe {s t : ByteArray} {a : Nat} {r : List UInt8} (h : s.data.toList.drop a = t.data.toList ++ r) : s.extract a (a + t.data.toList.length) = t := by
 apply qLe; rw [ByteArray.data_extract]; simp only [Array.toList_extract]; rw [List.extract_eq_take_drop, h]; rw [show a + t.data.toList.length - a = t.data.toList.length by omega, List.take_left]
theorem qPy {s : ByteArray} {a : Nat} {l : List UInt8} (h : s.data.toList.drop a = l) (h0 : 0 < l.length) : a + l.length = s.size := by
 have := congrArg List.length h; rw [List.length_drop, Array.length_toList] at this; have : s.data.size = s.size := rfl; omega
theorem jHt {s : ByteArray} {a : Nat} {n : Int} {r : List UInt8} (h : s.data.toList.drop a = ordL n ++ r) (h0 : -9223372036854775808 <= n) (h1 : n <= 9223372036854775807) : rdO s a = ⟨⟨n, ⟨#[]⟩⟩, a + 8, true⟩ := by
 have hl : (ordL n).length = 8 := qDf 8 _; have hs := qPy h (by rw [List.length_append]; omega)
 rw [List.length_append, hl] at hs; have hb := qXx 8 (ordN n) 0; rw [Nat.mod_eq_of_lt (qYd h1), Nat.zero_mul, Nat.zero_add] at hb; unfold rdO; rw [if_neg (by omega), h, List.take_left' hl]
 unfold ordL; rw [hb]; have : ((ordN n : Nat) : Int) - 9223372036854775808 = n := by unfold ordN; omega
 rw [this]
theorem jHv {s : ByteArray} {a : Nat} {n : Int} {r : List UInt8} (h : s.data.toList.drop a = intL n ++ r) (h0 : -9223372036854775808 <= n) (h1 : n <= 9223372036854775807) : rdI s a = ⟨⟨n, ⟨#[]⟩⟩, a + (intL n).length, true⟩ := by
 have hr := jEo h (by have := jEx h0 h1; have e : qEu = 18446744073709551616 := (by decide); omega)
 unfold rdI; rw [hr]; simp only [if_true, jEz]; rfl
theorem jHo {s t : ByteArray} {a : Nat} {r : List UInt8} (h : s.data.toList.drop a = t.data.toList ++ [0] ++ r) (hb : qGo t = true) : rdZ s a = ⟨⟨0, t⟩, a + (t.data.toList.length + 1), true⟩ := by
 rw [List.append_assoc, List.singleton_append] at h; have hi := qMk t.data.toList r (jEe hb); unfold rdZ; rw [h, hi, if_neg (by omega), Int.toNat_natCast, qJe h, Nat.add_assoc]
theorem jHq {s t : ByteArray} {a : Nat} {r : List UInt8} (h : s.data.toList.drop a = qDu t ++ r) (ht : t.size <= 140737488351232) : rdX s a = ⟨⟨0, t⟩, a + (qDu t).length, true⟩ := by
 have hl : t.data.toList.length = t.size := by rw [Array.length_toList]; rfl
 have h' := h; unfold qDu at h'; rw [List.append_assoc] at h'; have hr := jEo h' (by have e : qEu = 18446744073709551616 := (by decide); omega)
 have hd := qIt h'; have hs := qPy h' (by rw [List.length_append]; have := qOs t.size; omega)
 rw [List.length_append, List.length_append, hl] at hs; have he := qJe hd; rw [hl] at he; have hT : rdT s a = ⟨t, a + (uvar t.size).length + t.size, 0⟩ := by
  unfold rdT rtOf; rw [hr]; simp only [if_true]; rw [if_neg (by omega), he]
 unfold rdX; rw [hT]; simp only [if_true, qDu, List.length_append, hl, Nat.add_assoc]
def qEh (keys : Nat) (ks vs : ByteArray) : Nat -> List Int -> Nat -> Nat -> Option (List Vl)
 | _, [], _, _ => some []
 | i, k :: r, a, b =>
  if i < keys then (if (qBv k ks a).ok then (qEh keys ks vs (i + 1) r (qBv k ks a).n b).map ((qBv k ks a).v :: ·) else none)
  else (if (qCf k vs b).ok then (qEh keys ks vs (i + 1) r a (qCf k vs b).n).map ((qCf k vs b).v :: ·) else none)
theorem qOw {v : Vl} (h : qCk 0 v = true) : v = ⟨v.n, ⟨#[]⟩⟩ := by
 obtain ⟨n, s⟩ := v; unfold qCk at h; rw [if_pos rfl, ByteArray.toList_eq, List.isEmpty_iff] at h; have : s = ⟨#[]⟩ := qLe (by rw [h])
 rw [this]
theorem qLt {k : Int} {v : Vl} (hk : k ≠ 0) (h : qCk k v = true) : v = ⟨0, v.s⟩ := by
 obtain ⟨n, s⟩ := v; unfold qCk at h; rw [if_neg hk, beq_iff_eq] at h; simp only at h; rw [h]
theorem qWx {k : Int} {s : ByteArray} {a : Nat} {v : Vl} {r : List UInt8} (h : s.data.toList.drop a = qDr k v ++ r) (hv : v.Ok) (ht : qCk k v = true) (hb : qGo v.s = true) : qBv k s a = ⟨v, a + (qDr k v).length, true⟩ := by
 unfold qDr qPt at h ⊢; unfold qBv; by_cases hk : k = 0
 ·subst hk; rw [if_pos rfl] at h ⊢; rw [if_pos rfl, jHt h hv.n0 hv.n1, <- qOw ht]; rw [show (ordL v.n).length = 8 from qDf 8 _]
 ·rw [if_neg hk] at h ⊢; rw [if_neg hk, jHo h hb, <- qLt hk ht]; simp
theorem qWw {k : Int} {s : ByteArray} {a : Nat} {v : Vl} {r : List UInt8} (h : s.data.toList.drop a = qIj k v ++ r) (hv : v.Ok) (ht : qCk k v = true) : qCf k s a = ⟨v, a + (qIj k v).length, true⟩ := by
 unfold qIj at h ⊢; unfold qCf; by_cases hk : k = 0
 ·subst hk; rw [if_pos rfl] at h ⊢; rw [if_pos rfl, jHv h hv.n0 hv.n1, <- qOw ht]
 ·rw [if_neg hk] at h ⊢; rw [if_neg hk, jHq h hv.s, <- qLt hk ht]
theorem qSt (keys : Nat) (ks vs : ByteArray) : ∀ (cols : List Int) (r : List Vl) (i a b : Nat), r.length = cols.length →
  (∀ v ∈ r, v.Ok) -> (∀ (j : Nat) c v, cols[j]? = some c -> r[j]? = some v -> qCk c v = true) -> (∀ (j : Nat) v, i + j < keys -> r[j]? = some v -> qGo v.s = true) →
  ks.data.toList.drop a = ((cols.zip r).take (keys - i)).flatMap (fun p => qDr p.1 p.2) -> vs.data.toList.drop b = ((cols.zip r).drop (keys - i)).flatMap (fun p => qIj p.1 p.2) →
  qEh keys ks vs i cols a b = some r
 | [], [] => fun i a b _ _ _ _ _ _ => rfl
 | [], v :: r => fun i a b h => by simp at h
 | c :: cols, [] => fun i a b h => by simp at h
 | c :: cols, v :: r => fun i a b hl hv ht hb hk hs => by
  have h1 : qCk c v = true := ht 0 c v rfl rfl; have h2 : v.Ok := hv v (by simp)
  have ih := fun a b => qSt keys ks vs cols r (i + 1) a b (by simpa using hl) (fun x hx => hv x (by simp [hx])) (fun j c' v' hc hv' => ht (j + 1) c' v' hc hv') (fun j v' hj hv' => hb (j + 1) v' (by omega) hv')
  rw [qEh]; by_cases hi : i < keys
  ·rw [if_pos hi]; obtain ⟨m, hm⟩ : ∃ m, keys - i = m + 1 := ⟨keys - i - 1, by omega⟩
   have hm' : keys - (i + 1) = m := by omega
   rw [hm, List.zip_cons_cons, List.take_succ_cons, List.flatMap_cons] at hk; rw [hm, List.zip_cons_cons, List.drop_succ_cons] at hs; rw [hm'] at ih; have hu := qWx hk h2 h1 (hb 0 v (by omega) rfl)
   have hd := qIt hk; rw [hu]; simp only [if_true]; rw [ih _ _ hd hs]; rfl
  ·rw [if_neg hi]; have hm : keys - i = 0 := by omega
   have hm' : keys - (i + 1) = 0 := by omega
   rw [hm, List.take_zero] at hk; rw [hm, List.drop_zero, List.zip_cons_cons, List.flatMap_cons] at hs; rw [hm', List.take_zero, List.drop_zero] at ih; have hu := qWw hs h2 h1; have hd := qIt hs; rw [hu]; simp only [if_true]; rw [ih _ _ hk hd]; rfl
theorem qUz {name : Int} {cols : List Int} {keys idx : Int} {r : List Vl} {p : PX} (hv : ∀ v ∈ r, v.Ok) (h : qBs name cols keys idx r = some p) : qEh keys.toNat (ba p.k) (ba p.v) 0 cols 2 0 = some r := by
 obtain ⟨hg, _, rfl⟩ := qFt h; refine qSt keys.toNat _ _ cols r 0 2 0 hg.len hv hg.typed (fun j v hj hr => hg.bare j v (.inl (by omega)) hr) ?_ ?_
 ·rw [qCs]; rfl
 ·rw [qCs]; unfold pxOf qVa valL; rw [List.take_of_length_le (by rw [List.length_zip, hg.len]; omega)]
  rfl
end
section
open Go Go.RowKit
def riV (at' : Nat) (x : RU) : Value := if x.e = 0 then .tuple #[.int .i64 (unzz x.v), .int .i64 ((at' : Int) + (x.n : Int)), .int .i64 0] else .tuple #[.int .i64 0, .int .i64 0, .int .i64 (x.e : Int)]
theorem jEy {h b : Int} (h0 : 0 <= h) (h1 : h < 9223372036854775808) (hb : b = 0 \/ b = 1) : bits .xor .i64 h (-b) = if b = 1 then -h - 1 else h := by
 obtain ⟨n, rfl⟩ := Int.eq_ofNat_of_zero_le h0; have hn : n < 18446744073709551616 := by omega
 have e1 : (BitVec.ofInt 64 (n : Int)).toNat = n := by
  rw [BitVec.ofInt_natCast, BitVec.toNat_ofNat]; exact Nat.mod_eq_of_lt hn
 rcases hb with rfl | rfl
 ·show IntKind.i64.wrap ((BitVec.ofInt 64 (n : Int) ^^^ BitVec.ofInt 64 (-0)).toNat : Int) = _; rw [BitVec.toNat_xor, e1, show (BitVec.ofInt 64 (-0)).toNat = 0 from rfl, Nat.xor_zero, IntKind.wrap_i64, if_neg (by decide)]
  omega
 ·show IntKind.i64.wrap ((BitVec.ofInt 64 (n : Int) ^^^ BitVec.ofInt 64 (-1)).toNat : Int) = _; rw [BitVec.toNat_xor, e1, show (BitVec.ofInt 64 (-1)).toNat = 18446744073709551615 from rfl, qSe hn, IntKind.wrap_i64, if_pos rfl]
  omega
theorem jGy {v : Nat} (h : v < 18446744073709551616) : bits .and .u64 (v : Int) 1 = ((v % 2 : Nat) : Int) := by
 have := bits_mask .u64 64 (by decide) (fun n h0 h1 => by rw [IntKind.wrap_u64]; omega) 1 (by decide) (v : Int) (by omega) (by omega)
 rw [show (1 : Int) = 2 ^ 1 - 1 from rfl, this]
 omega
set_option maxRecDepth 100000
theorem qQv (s : ByteArray) (at' : Nat) (w : World) (hs : s.size <= maxLen) : Calls Tryz.prog 93 #[.string s, .int .i64 (at' : Int)] w fun e w' => e = .returned (riV at' (rdU 0 (s.data.toList.drop at'))) /\ w = w' := by
 have HU := hid (qEl s at' w hs); obtain ⟨_, _, _, h4⟩ := qFr (s.data.toList.drop at') 0; have h5 := h4 (by omega)
 rw [Nat.pow_zero, Nat.mul_one, show qEu = 18446744073709551616 by decide] at h5
 clear h4; generalize rdU 0 (s.data.toList.drop at') = x at *; obtain ⟨v, n, er⟩ := x; simp only at h5; by_cases he : er = 0
 ·subst he; have hv : ruV at' ⟨v, n, 0⟩ = .tuple #[.int .u64 (v : Int), .int .i64 ((at' : Int) + (n : Int)), .int .i64 0] := rfl; rw [hv] at HU; have HX : Hid (bits .xor .i64 ((v : Int) / 2) (-((v % 2 : Nat) : Int)) = unzz v) := hid (by
   rw [jEy (by omega) (by omega) (by omega)]
   unfold unzz; split <;> split <;> omega)
  have HA := hid (jGy h5); go_enter Tryz.func93, Tryz.ntmps93
  go_wp2_with fail
  refine HU.out.mono ?_; rintro e w' ⟨rfl, rfl⟩; go_wp2_with fail
  rw [HA.out, show wrap64 (-wrap64 ((v % 2 : Nat) : Int)) = -((v % 2 : Nat) : Int) by unfold wrap64; omega, HX.out]
  exact bodyPost_ret (v := .tuple #[.int .i64 (unzz v), .int .i64 ((at' : Int) + (n : Int)), .int .i64 0]) (by simp [results, Tryz.results93, go_sem]) rfl ⟨rfl, rfl⟩
 ·have hv : ruV at' ⟨v, n, er⟩ = .tuple #[.int .u64 0, .int .i64 0, .int .i64 (er : Int)] := by unfold ruV; rw [if_neg he]
  rw [hv] at HU; have HA : Hid (riV at' ⟨v, n, er⟩ = .tuple #[.int .i64 0, .int .i64 0, .int .i64 (er : Int)]) := hid (by unfold riV; rw [if_neg he])
  have hne : ((er : Int) != 0) = true := by rw [bne_iff_ne]; omega
  rw [HA.out]; clear HA hv; go_enter Tryz.func93, Tryz.ntmps93
  go_wp2_with fail
  refine HU.out.mono ?_; rintro e w' ⟨rfl, rfl⟩; go_wp2_with fail
  exact bodyPost_ret (v := .tuple #[.int .i64 0, .int .i64 0, .int .i64 (er : Int)]) (by simp [results, Tryz.results93, go_sem]) rfl ⟨rfl, rfl⟩
theorem qXw : ∀ (l : List UInt8) (a : Nat), rdBE a l < (a + 1) * 256 ^ l.length
 | [], a => by simp [rdBE]
 | b :: r, a => by
  have h := qXw r (a * 256 + b.toNat); have hb : b.toNat < 256 := b.toNat_lt; rw [rdBE, List.length_cons, Nat.pow_succ, Nat.mul_comm (256 ^ r.length) 256, <- Nat.mul_assoc]; exact Nat.lt_of_lt_of_le h (Nat.mul_le_mul_right _ (by omega))
theorem qPf : ∀ (l : List UInt8) (a : Nat) (b : UInt8), rdBE a (l ++ [b]) = rdBE a l * 256 + b.toNat
 | [], a, b => rfl
 | c :: r, a, b => by rw [List.cons_append, rdBE, rdBE, qPf r]
theorem qXv {l : List UInt8} {k : Nat} {b : UInt8} (h : l[k]? = some b) : rdBE 0 (l.take (k + 1)) = rdBE 0 (l.take k) * 256 + b.toNat := by
 obtain ⟨hk, rfl⟩ := List.getElem?_eq_some_iff.1 h; rw [List.take_succ_eq_append_getElem hk, qPf]
theorem qIh (l : List UInt8) (k : Nat) : rdBE 0 (l.take k) < 256 ^ k := by
 have h := qXw (l.take k) 0; rw [Nat.zero_add, Nat.one_mul] at h; exact Nat.lt_of_lt_of_le h (Nat.pow_le_pow_right (by decide) (by rw [List.length_take]; omega))
theorem jFo {u b : Nat} (hu : u < 72057594037927936) (hb : b < 256) : bits .or .u64 (IntKind.u64.wrap ((u : Int) * 256)) (b : Int) = ((u * 256 + b : Nat) : Int) := by
 rw [show IntKind.u64.wrap ((u : Int) * 256) = (u : Int) * 256 by rw [IntKind.wrap_u64]; omega]
 rw [bits_join .u64 64 (by decide) (fun n h0 h1 => by rw [IntKind.wrap_u64]; omega) 8 _ _ (by omega) (by omega) (by omega) (by omega) (by omega) (by omega)]
 omega
theorem jBl {u : Nat} (hu : u < 18446744073709551616) : wrap64 (bits .xor .u64 (u : Int) 9223372036854775808) = (u : Int) - 9223372036854775808 := by
 rw [show (9223372036854775808 : Int) = ((9223372036854775808 : Nat) : Int) from rfl, bits_xor_u64_nat _ _ hu (by decide)]
 unfold wrap64; by_cases h : u < 9223372036854775808
 ·rw [qQk h]; omega
 ·obtain ⟨l, rfl⟩ : ∃ l, u = 9223372036854775808 + l := ⟨u - 9223372036854775808, by omega⟩
  rw [qSd (by omega)]; omega
def roV (s : ByteArray) (at' : Nat) : Value := if s.size < at' + 8 then .tuple #[.int .i64 0, .int .i64 0, .int .i64 20] else .tuple #[.int .i64 ((rdBE 0 ((s.data.toList.drop at').take 8) : Int) - 9223372036854775808), .int .i64 ((at' : Int) + 8), .int .i64 0]
theorem qZs {s : ByteArray} {at' k : Nat} (h : at' + k < s.size) : (s.data.toList.drop at')[k]? = some s[at' + k] := by
 rw [List.getElem?_drop, List.getElem?_eq_getElem (by simpa using h)]
 rfl
theorem qQu (s : ByteArray) (at' : Nat) (w : World) (hs : s.size <= maxLen) (ha : at' <= s.size) : Calls Tryz.prog 91 #[.string s, .int .i64 (at' : Int)] w fun e w' => e = .returned (roV s at') /\ w = w' := by
 unfold roV; unfold maxLen at hs; have d1 : decide ((at' : Int) < 0) = false := by rw [decide_eq_false_iff_not]; omega
 have d2 : decide (s.size < at') = false := by rw [decide_eq_false_iff_not]; omega
 by_cases h8 : s.size < at' + 8
 ·have d0 : decide ((s.size : Int) - (at' : Int) < 8) = true := by rw [decide_eq_true_iff]; omega
  rw [if_pos h8]; go_enter Tryz.func91, Tryz.ntmps91
  go_wp2
  exact bodyPost_ret (v := .tuple #[.int .i64 0, .int .i64 0, .int .i64 20]) (by simp [results, Tryz.results91, go_sem]) rfl ⟨rfl, rfl⟩
 ·have d0 : decide ((s.size : Int) - (at' : Int) < 8) = false := by rw [decide_eq_false_iff_not]; omega
  rw [if_neg h8]; go_enter Tryz.func91, Tryz.ntmps91
  go_wp2
  go_loop [7, 24] (fun u c => ∃ k : Nat, k <= 8 /\ c = .int .i64 (k : Int) /\ u = .int .u64 ((rdBE 0 ((s.data.toList.drop at').take k) : Nat) : Int)) (fun _ c => 8 - (intOf c).toNat)
  case atStart => exact ⟨0, by omega, rfl, rfl⟩
  case round =>
   obtain ⟨k, hk, rfl, rfl⟩ := hrel; by_cases hlt : k < 8
   ·have HT := hid (qXv (qZs (s := s) (at' := at') (k := k) (by omega)))
    have hb : s[at' + k].toNat < 256 := UInt8.toNat_lt _; have HO := hid (jFo (u := rdBE 0 ((s.data.toList.drop at').take k)) (b := s[at' + k].toNat) (Nat.lt_of_lt_of_le (qIh _ k) (Nat.le_trans (Nat.pow_le_pow_right (by decide) (show k <= 7 by omega)) (by decide))) hb)
    have hin : at' + k < s.size := by omega
    have HU8 := hid (qKb hb); clear hb; go_wp2
    go_round
    case rel => exact ⟨k + 1, by omega, by go_num, by rw [HU8.out, HO.out, HT.out]⟩
    case measure => simp [intOf]; omega
   ·have hke : k = 8 := by omega
    subst hke; have HB := hid (jBl (u := rdBE 0 ((s.data.toList.drop at').take 8)) (Nat.lt_of_lt_of_le (qIh _ 8) (by decide)))
    go_wp2
    rw [HB.out]; exact bodyPost_ret (v := .tuple #[.int .i64 ((rdBE 0 ((s.data.toList.drop at').take 8) : Int) - 9223372036854775808), .int .i64 ((at' : Int) + 8), .int .i64 0]) (by simp [results, Tryz.results91, go_sem]) rfl ⟨rfl, rfl⟩
end
section
open Go Go.RowKit
theorem qNz {α : Type} (f : α -> List UInt8) (M : Nat) : ∀ l : List α, (∀ x ∈ l, (f x).length <= M) -> (l.flatMap f).length <= l.length * M
 | [], _ => by simp
 | x :: l, h => by
  have h1 := h x (by simp)
  have h2 := qNz f M l (fun y hy => h y (by simp [hy]))
  rw [List.flatMap_cons, List.length_append, List.length_cons, Nat.add_mul]; omega
theorem jDq {k : Int} {v : Vl} {B : Nat} (h : v.s.size <= B) : (qDr k v).length <= B + 20 := by
 have hl : v.s.data.toList.length = v.s.size := by rw [Array.length_toList]; rfl
 have h8 : (ordL v.n).length = 8 := qDf 8 _; unfold qDr qPt; split
 ·omega
 ·rw [List.length_append, List.length_singleton]; omega
theorem jCe {k : Int} {v : Vl} {B : Nat} (hv : v.Ok) (h : v.s.size <= B) : (qIj k v).length <= B + 20 := by
 have h10 := qTm hv.n0 hv.n1; have ht := qEv (s := v.s) (by have := hv.s; omega)
 unfold qIj; split <;> omega
theorem qKc {cols : List Int} {r : List Vl} (hc : cols.length <= 4194304) (hv : ∀ v ∈ r, v.Ok) (hb : ∀ v ∈ r, v.s.size <= 4194304) :
  (∀ k, (qDj cols r k).length <= 1152921504606846976) /\ ∀ j k, (valL cols r j k).length <= 1152921504606846976 := by
 have hz : (cols.zip r).length <= cols.length := by rw [List.length_zip]; omega
 refine ⟨fun k => ?_, fun j k => ?_⟩
 ·have h := qNz (fun p : Int × Vl => qDr p.1 p.2) 4194324 ((cols.zip r).take k) (fun p hp => jDq (hb _ (List.of_mem_zip (List.mem_of_mem_take hp)).2))
  have hl : ((cols.zip r).take k).length <= 4194304 := by rw [List.length_take]; omega
  have := Nat.mul_le_mul_right 4194324 hl; unfold qDj; omega
 ·have h := qNz (fun p : Int × Vl => qIj p.1 p.2) 4194324 (((cols.zip r).take k).drop j) (fun p hp => jCe (hv _ (List.of_mem_zip (List.mem_of_mem_take (List.mem_of_mem_drop hp))).2) (hb _ (List.of_mem_zip (List.mem_of_mem_take (List.mem_of_mem_drop hp))).2))
  have hl : (((cols.zip r).take k).drop j).length <= 4194304 := by rw [List.length_drop, List.length_take]; omega
  have := Nat.mul_le_mul_right 4194324 hl; unfold valL; omega
def qFo (name : Int) (cols : List Int) (keys idx : Int) (ks vs : ByteArray) (r : List Vl) : Prop :=
 qEh keys.toNat ks vs 0 cols 2 0 = some r /\ ∃ p, qBs name cols keys idx r = some p /\ ba p.k = ks /\ ba p.v = vs
theorem qTv {name : Int} {cols : List Int} {keys idx : Int} {r : List Vl} {p : PX} (hv : ∀ v ∈ r, v.Ok) (h : qBs name cols keys idx r = some p) : qFo name cols keys idx (ba p.k) (ba p.v) r :=
 ⟨qUz hv h, p, h, rfl, rfl⟩
theorem qZw {name : Int} {cols : List Int} {keys idx : Int} {ks vs : ByteArray} {r r' : List Vl} (h : qFo name cols keys idx ks vs r) (h' : qFo name cols keys idx ks vs r') : r' = r := by
 have := h.1.symm.trans h'.1; cases this
 rfl
theorem jGn {name : Int} {cols : List Int} {keys idx : Int} {ks vs : ByteArray} {r : List Vl} (h : qFo name cols keys idx ks vs r) : qIs name cols keys idx = true := by
 obtain ⟨p, hp, _⟩ := h.2; exact (qFt hp).1.fit
theorem qVs {name : Int} {cols : List Int} {keys idx : Int} {ks vs : ByteArray} {r : List Vl} (h : qFo name cols keys idx ks vs r) : Lib.hasPrefix ks.data.toList (qAl name.toNat 0) = true := by
 obtain ⟨p, hp, hk, _⟩ := h.2; rw [<- hk, qCs, (qFt hp).2.2]; unfold pxOf qFk; simp only; unfold Lib.hasPrefix; rw [List.isPrefixOf_iff_prefix]; exact List.prefix_append _ _
theorem qVb {s : ByteArray} {n : Nat} {b : UInt8} (h : Lib.hasPrefix s.data.toList (qAl n b) = true) : 2 <= s.size := by
 unfold Lib.hasPrefix at h; rw [List.isPrefixOf_iff_prefix] at h; exact h.length_le
theorem qHw : (⟨#[]⟩ : ByteArray).size <= 140737488351232 := by decide
theorem qWk : (-9223372036854775808 : Int) <= 0 := by decide
theorem qWl : (0 : Int) <= 9223372036854775807 := by decide
theorem qKl : noV.v.Ok /\ noV.v.s.size = 0 := ⟨⟨by decide, by decide, by decide⟩, rfl⟩
theorem jHs (s : ByteArray) (a : Nat) : (rdO s a).v.Ok /\ (rdO s a).v.s.size = 0 /\ ((rdO s a).ok = true -> (rdO s a).n <= s.size) := by
 unfold rdO; split
 ·exact ⟨qKl.1, qKl.2, fun h => by cases h⟩
 ·have h := qIh (s.data.toList.drop a) 8; rw [show (256 : Nat) ^ 8 = 18446744073709551616 by decide] at h
  exact ⟨⟨by simp only; omega, by simp only; omega, qHw⟩, rfl, fun _ => by simp only; omega⟩
theorem jHu (s : ByteArray) (a : Nat) : (rdI s a).v.Ok /\ (rdI s a).v.s.size = 0 := by
 unfold rdI; split
 ·next h =>
  obtain ⟨_, _, _, h4⟩ := qFr (s.data.toList.drop a) 0; have h5 := h4 (by omega)
  rw [Nat.pow_zero, Nat.mul_one, show qEu = 18446744073709551616 by decide] at h5
  refine ⟨⟨?_, ?_, qHw⟩, rfl⟩
  ·simp only; unfold unzz; split <;> omega
  ·simp only; unfold unzz; split <;> omega
 ·exact qKl
theorem jHn (s : ByteArray) (a : Nat) (hs : s.size <= 140737488351232) : (rdZ s a).v.Ok /\ (rdZ s a).v.s.size <= s.size /\ ((rdZ s a).ok = true -> a <= s.size -> (rdZ s a).n <= s.size) := by
 unfold rdZ; split
 ·exact ⟨qKl.1, by rw [qKl.2]; omega, fun h => by cases h⟩
 ·next h =>
  have hx : (s.extract a (a + (Lib.indexByte (s.data.toList.drop a) 0).toNat)).size <= s.size := by rw [ByteArray.size_extract]; omega
  refine ⟨⟨qWk, qWl, by simp only; omega⟩, hx, fun _ ha => ?_⟩
  obtain ⟨m, hm⟩ := Int.eq_ofNat_of_zero_le (show 0 <= Lib.indexByte (s.data.toList.drop a) 0 by omega)
  have h1 := (List.getElem?_eq_some_iff.1 (Lib.indexByte_some hm).1).1; rw [List.length_drop] at h1; have h2 : s.data.toList.length = s.size := rfl; simp only; omega
theorem jHp (s : ByteArray) (a : Nat) (hs : s.size <= 140737488351232) : (rdX s a).v.Ok /\ (rdX s a).v.s.size <= s.size := by
 have ht : (rdT s a).t.size <= s.size := by
  unfold rdT rtOf; split
  ·split
   ·show 0 <= _; omega
   ·simp only; rw [ByteArray.size_extract]; omega
  ·show 0 <= _; omega
 unfold rdX; split
 ·exact ⟨⟨qWk, qWl, by simp only; omega⟩, ht⟩
 ·exact ⟨qKl.1, by rw [qKl.2]; omega⟩
theorem qOv (k : Int) (s : ByteArray) (a : Nat) (hs : s.size <= 140737488351232) : (qBv k s a).v.Ok /\ (qBv k s a).v.s.size <= s.size /\ ((qBv k s a).ok = true -> a <= s.size -> (qBv k s a).n <= s.size) := by
 unfold qBv; split
 ·obtain ⟨h1, h2, h3⟩ := jHs s a; exact ⟨h1, by omega, fun h _ => h3 h⟩
 ·exact jHn s a hs
theorem qOu (k : Int) (s : ByteArray) (a : Nat) (hs : s.size <= 140737488351232) : (qCf k s a).v.Ok /\ (qCf k s a).v.s.size <= s.size := by
 unfold qCf; split
 ·obtain ⟨h1, h2⟩ := jHu s a; exact ⟨h1, by omega⟩
 ·exact jHp s a hs
theorem qNi {keys : Nat} {ks vs : ByteArray} {B : Nat} (hk : ks.size <= B) (hv : vs.size <= B) (hB : B <= 140737488351232) : ∀ (cols : List Int) (i a b : Nat) (r : List Vl), qEh keys ks vs i cols a b = some r -> r.length = cols.length /\ ∀ v ∈ r, v.Ok /\ v.s.size <= B
 | [], i, a, b, r => fun h => by
  cases h
  exact ⟨rfl, fun v hv => by cases hv⟩
 | c :: cols, i, a, b, r => fun h => by
  rw [qEh] at h; by_cases hi : i < keys
  ·rw [if_pos hi] at h; split at h
   ·cases hr : qEh keys ks vs (i + 1) cols (qBv c ks a).n b with
    | none => rw [hr] at h; cases h
    | some q =>
     rw [hr] at h; cases h
     obtain ⟨h1, h2⟩ := qNi hk hv hB cols _ _ _ _ hr; refine ⟨by simp [h1], fun v hm => ?_⟩
     rcases List.mem_cons.1 hm with rfl | hm
     ·have := qOv c ks a (by omega)
      exact ⟨this.1, by omega⟩
     ·exact h2 v hm
   ·cases h
  ·rw [if_neg hi] at h; split at h
   ·cases hr : qEh keys ks vs (i + 1) cols a (qCf c vs b).n with
    | none => rw [hr] at h; cases h
    | some q =>
     rw [hr] at h; cases h
     obtain ⟨h1, h2⟩ := qNi hk hv hB cols _ _ _ _ hr; refine ⟨by simp [h1], fun v hm => ?_⟩
     rcases List.mem_cons.1 hm with rfl | hm
     ·have := qOu c vs b (by omega)
      exact ⟨this.1, by omega⟩
     ·exact h2 v hm
   ·cases h
theorem qXu {keys : Nat} {ks vs : ByteArray} {i a b : Nat} {c : Int} {cols : List Int} {done : List Vl} {X : Option (List Vl)} (h : X = (qEh keys ks vs i (c :: cols) a b).map (done ++ ·)) (hi : i < keys) :
  ((qBv c ks a).ok = true -> X = (qEh keys ks vs (i + 1) cols (qBv c ks a).n b).map ((done ++ [(qBv c ks a).v]) ++ ·)) /\ ((qBv c ks a).ok = false -> X = none) := by
 rw [h, qEh, if_pos hi]; refine ⟨fun ho => ?_, fun ho => ?_⟩
 ·rw [if_pos ho]; cases qEh keys ks vs (i + 1) cols (qBv c ks a).n b with
  | none => rfl
  | some q => simp
 ·rw [ho]; rfl
theorem qXt {keys : Nat} {ks vs : ByteArray} {i a b : Nat} {c : Int} {cols : List Int} {done : List Vl} {X : Option (List Vl)} (h : X = (qEh keys ks vs i (c :: cols) a b).map (done ++ ·)) (hi : ¬ i < keys) :
  ((qCf c vs b).ok = true -> X = (qEh keys ks vs (i + 1) cols a (qCf c vs b).n).map ((done ++ [(qCf c vs b).v]) ++ ·)) /\ ((qCf c vs b).ok = false -> X = none) := by
 rw [h, qEh, if_neg hi]; refine ⟨fun ho => ?_, fun ho => ?_⟩
 ·rw [if_pos ho]; cases qEh keys ks vs (i + 1) cols a (qCf c vs b).n with
  | none => rfl
  | some q => simp
 ·rw [ho]; rfl
end
end Go.Proofs.YtkinkgbmlhiakaaGreatDoor
