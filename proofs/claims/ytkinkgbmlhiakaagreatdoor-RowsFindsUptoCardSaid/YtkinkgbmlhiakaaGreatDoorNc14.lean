/- merged: RwF RwG RwT RwH RwK RwV RwY RwZ RwP RdT RwQ -/
import Derived.Test.YtkinkgbmlhiakaaGreatDoorNc13
import Derived.Test.YtkinkgbmlhiakaaGreatDoorNc02
import Derived.BigQuiet
import Derived.Test.YtkinkgbmlhiakaaGreatDoorNc01
import Derived.Test.YtkinkgbmlhiakaaGreatDoorNc04
import Derived.IntWalk
namespace Go.Proofs.YtkinkgbmlhiakaaGreatDoor
section
open Go Go.RowKit
def qQh (k n : Int) (s : ByteArray) : List UInt8 := if k = 0 then ordL n else s.data.toList ++ [0]
def qEr (s : ByteArray) : Bool := !s.data.toList.contains 0
theorem jEv (s : ByteArray) (k : Nat) (h : k < s.size) : s.data.toList[k]? = some s[k] := by
 rw [Array.getElem?_toList, Array.getElem?_eq_getElem h]; rfl
set_option maxRecDepth 100000
theorem qYr (s : ByteArray) (w : World) (hs : s.size <= 140737488351232) : Calls Tryz.prog 40 #[.string s] w fun e w' => e = .returned (.bool (qEr s)) /\ w = w' := by
 go_enter Tryz.func40, Tryz.ntmps40
 go_wp2
 go_loop [3] (fun c => ∃ k : Nat, k <= s.size /\ c = .int .i64 k /\ ∀ j, j < k -> s.data.toList[j]? ≠ some 0) (fun c => s.size - (intOf c).toNat)
 case atStart => exact ⟨0, Nat.zero_le _, rfl, fun j h => by omega⟩
 case round =>
  obtain ⟨k, hk, rfl, hb⟩ := hrel; have HB := hid hb; clear hb; by_cases hlt : k < s.size
  ·have HG := hid (jEv s k hlt); by_cases hz : s[k] = 0
   ·have HP : Hid (qEr s = false) := hid (by
     unfold qEr; rw [hz] at HG; have : s.data.toList.contains 0 = true := by rw [List.contains_iff_mem]; exact List.mem_of_getElem? HG.out
     rw [this]; rfl)
    have e1 : ((s[k].toNat : Int) == 0) = true := by rw [hz]; rfl
    clear hz; go_wp2
    go_ret; rw [HP.out]; exact ⟨rfl, rfl⟩
   ·have e1 : ((s[k].toNat : Int) == 0) = false := by
     have : s[k].toNat ≠ 0 := fun h => hz (UInt8.toNat_inj.1 h)
     simp; omega
    have HZ := hid hz; clear hz; go_wp2
    go_round
    case rel =>
     refine ⟨k + 1, by omega, by go_num, fun j hj => ?_⟩
     by_cases hjk : j = k
     ·subst hjk; rw [HG.out]; exact fun h => HZ.out (Option.some.inj h)
     ·exact HB.out j (by omega)
    case measure => simp [intOf]; omega
  ·have hke : k = s.size := by omega
   subst hke; have HP : Hid (qEr s = true) := hid (by
    unfold qEr; have : s.data.toList.contains 0 = false := by
     rw [<- Bool.not_eq_true, List.contains_iff_mem]; intro hm; obtain ⟨i, hi⟩ := List.getElem?_of_mem hm; have hl := (List.getElem?_eq_some_iff.1 hi).1; rw [Array.length_toList] at hl; exact HB.out i hl hi
    rw [this]; rfl)
   go_wp2
   go_ret; rw [HP.out]; exact ⟨rfl, rfl⟩
end
section
open Go Go.RowKit
theorem qLl (c : UInt8) : ∀ l : List UInt8, -1 <= Lib.indexByte l c /\ (0 <= Lib.indexByte l c ↔ c ∈ l)
 | [] => by simp [Lib.indexByte]
 | b :: l => by
  obtain ⟨h1, h2⟩ := qLl c l; unfold Lib.indexByte; by_cases hb : b = c
  ·subst hb; simp
  ·have e : (b == c) = false := by simpa using hb
   rw [e]; simp only [Bool.false_eq_true, if_false]; have hc : c ∈ b :: l ↔ c ∈ l := by simp [Ne.symm hb]
   rw [hc, <- h2]; by_cases hm : Lib.indexByte l c = -1
   ·rw [hm]; simp
   ·have e2 : (Lib.indexByte l c == -1) = false := by simpa using hm
    rw [e2]; simp only [Bool.false_eq_true, if_false]; omega
theorem qOu (s : ByteArray) : decide (0 <= Lib.indexByte s.data.toList 0) = !qEr s := by
 unfold qEr; rw [Bool.not_not]; by_cases h : (0 : UInt8) ∈ s.data.toList
 ·rw [decide_eq_true ((qLl 0 _).2.2 h), List.contains_iff_mem.2 h]
 ·have h2 : s.data.toList.contains 0 = false := by rw [<- Bool.not_eq_true, List.contains_iff_mem]; exact h
  rw [decide_eq_false (fun e => h ((qLl 0 _).2.1 e)), h2]
set_option maxRecDepth 100000
theorem jFa (n : Int) (s : ByteArray) (w : World) (h0 : -9223372036854775808 <= n) (h1 : n <= 9223372036854775807) :
  Calls Tryz.prog 39 #[.int .i64 0, .agg #[.int .i64 n, .string s]] w fun e w' => e = .returned (.tuple #[.string (ba (ordL n)), .bool s.toList.isEmpty]) /\ Mod (fun _ => False) w w' := by
 have hma : Mod (fun _ => False) w (w.alloc (.cells #[.int .i64 n, .string s] 46)) := (Mod.refl _ _).alloc _
 have hcb : (w.alloc (.cells #[.int .i64 n, .string s] 46)).heap[w.heap.size]? = some (.cells #[.int .i64 n, .string s] 46 (0, 0)) := heap_alloc_new _ _; have HM := hid hma; have HCb := hid hcb; have HO := hid (fun v => qRq n v h0 h1)
 clear hma hcb; go_enter Tryz.func39, Tryz.ntmps39
 go_wp2_with fail
 generalize w.alloc (.cells #[.int .i64 n, .string s] 46) = C at *; have g0 : ∀ x : Ext C, x.val.cell? ⟨w.heap.size, 0, none⟩ = some (.int .i64 n) := fun x => by rw [cell_of_row _ _ _ _ _ _ (x.heap HCb.out)]; rfl
 have g1 : ∀ x : Ext C, x.val.cell? ⟨w.heap.size, 1, none⟩ = some (.string s) := fun x => by rw [cell_of_row _ _ _ _ _ _ (x.heap HCb.out)]; rfl
 have HK := hid (fun x : Ext C => HO.out x.val)
 refine qAc (by kernel_rfl) (by kernel_rfl) ?_
 repeat (go_big_quiet_step ((go_at_call 80; exact qAt (HK.out _))))
 refine wpQuiet_nil ?_; rintro _ ⟨x, rfl⟩; go_wp2_with fail
 go_ret2; exact ⟨rfl, HM.out.trans x.mod⟩
theorem jAk (k n : Int) (s : ByteArray) (w : World) (hk : k ≠ 0) (hs : s.size <= 140737488351232) :
  Calls Tryz.prog 39 #[.int .i64 k, .agg #[.int .i64 n, .string s]] w fun e w' => e = .returned (.tuple #[.string (ba (s.data.toList ++ [0])), .bool (n == 0 && qEr s)]) /\ Mod (fun _ => False) w w' := by
 have hma : Mod (fun _ => False) w (w.alloc (.cells #[.int .i64 n, .string s] 46)) := (Mod.refl _ _).alloc _
 have hcb : (w.alloc (.cells #[.int .i64 n, .string s] 46)).heap[w.heap.size]? = some (.cells #[.int .i64 n, .string s] 46 (0, 0)) := heap_alloc_new _ _; have HM := hid hma; have HCb := hid hcb; have HCt : Hid (∀ v : World, Calls Tryz.prog 81 #[.string s, .string ⟨#[0]⟩] v fun e w' => e = .returned (.bool (!qEr s)) /\ Mod (fun _ => False) v w') := hid (fun v => by
  have h := Tryz.strings_Contains_one s 0 v; rw [qOu] at h; refine h.mono ?_; rintro e w' ⟨rfl, rfl⟩; exact ⟨rfl, Mod.refl _ _⟩)
 have HE : Hid (s ++ (⟨#[0]⟩ : ByteArray) = ba (s.data.toList ++ [0])) := hid (by rw [<- qBc, qSo]; rfl)
 have e0 : (k == 0) = false := by simpa using hk
 clear hma hcb hk; by_cases hn : n = 0
 ·subst hn; generalize qEr s = bp at *; go_enter Tryz.func39, Tryz.ntmps39
  go_wp2_with fail
  generalize w.alloc (.cells #[.int .i64 0, .string s] 46) = C at *; have g0 : ∀ x : Ext C, x.val.cell? ⟨w.heap.size, 0, none⟩ = some (.int .i64 0) := fun x => by rw [cell_of_row _ _ _ _ _ _ (x.heap HCb.out)]; rfl
  have g1 : ∀ x : Ext C, x.val.cell? ⟨w.heap.size, 1, none⟩ = some (.string s) := fun x => by rw [cell_of_row _ _ _ _ _ _ (x.heap HCb.out)]; rfl
  have HK := hid (fun x : Ext C => HCt.out x.val)
  refine qAc (by kernel_rfl) (by kernel_rfl) ?_
  repeat (go_big_quiet_step ((go_at_call 81; exact qAt (HK.out _))))
  refine wpQuiet_nil ?_; rintro _ ⟨x, rfl⟩; go_wp2_with fail
  go_ret2; rw [<- HE.out]; exact ⟨by cases bp <;> rfl, HM.out.trans x.mod⟩
 ·have e1 : (n == 0) = false := by simpa using hn
  clear hn; go_enter Tryz.func39, Tryz.ntmps39
  go_wp2_with fail
  generalize w.alloc (.cells #[.int .i64 n, .string s] 46) = C at *; have g0 : ∀ x : Ext C, x.val.cell? ⟨w.heap.size, 0, none⟩ = some (.int .i64 n) := fun x => by rw [cell_of_row _ _ _ _ _ _ (x.heap HCb.out)]; rfl
  have g1 : ∀ x : Ext C, x.val.cell? ⟨w.heap.size, 1, none⟩ = some (.string s) := fun x => by rw [cell_of_row _ _ _ _ _ _ (x.heap HCb.out)]; rfl
  refine qAc (by kernel_rfl) (by kernel_rfl) ?_
  repeat (go_big_quiet_step ((fail)))
  refine wpQuiet_nil ?_; rintro _ ⟨x, rfl⟩; go_wp2_with fail
  go_ret2; rw [<- HE.out, e1]; exact ⟨rfl, HM.out.trans x.mod⟩
end
section
open Go Go.RowKit
def fitC (name : Int) (n : Nat) (keys idx : Int) : Bool := decide (97 <= name) && (decide (name <= 122) && (decide (1 <= keys) && (decide (keys <= (n : Int)) && (decide (-1 <= idx) && decide (idx < (n : Int))))))
def qEe (k : Int) : Prop := k = 0 \/ k = 1
instance (k : Int) : Decidable (qEe k) := inferInstanceAs (Decidable (k = 0 \/ k = 1))
noncomputable def qDw (name : Int) (cols : List Int) (keys idx : Int) : Bool := open Classical in if ∀ k ∈ cols, qEe k then fitC name cols.length keys idx else false
def oneI (k : Int) : List Value := [.int .i64 k]
theorem qDb (k : Int) : (oneI k).length = 1 := rfl
set_option maxRecDepth 100000
set_option maxHeartbeats 2000000 in
theorem jCz {w : World} {ca : Option Addr} {cols : List Int} (name keys idx : Int) (cc : Nat) (hl : Lies w 1 oneI ca cols) (hn : cols.length <= 140737488351232) :
  Calls Tryz.prog 17 #[.agg #[.int .u8 name, .slice ca cols.length cc, .int .i64 keys, .int .i64 idx]] w fun e w' => e = .returned (.bool (qDw name cols keys idx)) /\ Mod (fun _ => False) w w' := by
 have hma : Mod (fun _ => False) w (w.alloc (.cells #[.int .u8 name, .slice ca cols.length cc, .int .i64 keys, .int .i64 idx] 58)) := (Mod.refl _ _).alloc _
 have HM := hid hma; have HL := hid (hl.ext hma); clear hma hl; go_enter Tryz.func17, Tryz.ntmps17
 go_wp2_with fail
 go_loop [3] (fun c => ∃ k : Nat, k <= cols.length /\ c = .int .i64 k /\ ∀ j x, j < k -> cols[j]? = some x -> qEe x) (fun c => cols.length - (intOf c).toNat)
 case atStart => exact ⟨0, Nat.zero_le _, rfl, fun j x h => by omega⟩
 case round =>
  obtain ⟨k, hk, rfl, hb⟩ := hrel; have HB := hid hb; clear hb; by_cases hlt : k < cols.length
  ·obtain ⟨x, hx⟩ : ∃ x, cols[k]? = some x := ⟨_, List.getElem?_eq_getElem hlt⟩; have HX := hid hx; obtain ⟨g, off, rfl⟩ := HL.out.some (by omega)
   have q0 := HL.out.cell qDb hx (j := 0) rfl; rw [Nat.add_zero, Nat.mul_one] at q0; clear hx; by_cases h0 : x = 0
   ·have e0 : (x != 0) = false := by simpa using h0
    have HK : Hid (qEe x) := hid (.inl h0); clear h0; go_wp2_with fail
    go_round
    case rel =>
     refine ⟨k + 1, by omega, by go_num, fun j y hj hy => ?_⟩
     by_cases hjk : j = k
     ·subst hjk; rw [HX.out] at hy; cases hy
      exact HK.out
     ·exact HB.out j y (by omega) hy
    case measure => simp [intOf]; omega
   ·have e0 : (x != 0) = true := by simpa using h0
    by_cases h1 : x = 1
    ·have e1 : (x != 1) = false := by simpa using h1
     have HK : Hid (qEe x) := hid (.inr h1); clear h0 h1; go_wp2_with fail
     go_round
     case rel =>
      refine ⟨k + 1, by omega, by go_num, fun j y hj hy => ?_⟩
      by_cases hjk : j = k
      ·subst hjk; rw [HX.out] at hy; cases hy
       exact HK.out
      ·exact HB.out j y (by omega) hy
     case measure => simp [intOf]; omega
    ·have e1 : (x != 1) = true := by simpa using h1
     have HF : Hid (qDw name cols keys idx = false) := hid (by
      unfold qDw; rw [if_neg (fun h => (h x (List.mem_of_getElem? HX.out)).elim h0 h1)])
     clear h0 h1; go_wp2_with fail
     go_ret; rw [HF.out]; exact ⟨rfl, HM.out⟩
  ·have hke : k = cols.length := by omega
   subst hke; have HF : Hid (qDw name cols keys idx = fitC name cols.length keys idx) := hid (by
    unfold qDw; rw [if_pos (fun x hx => by
     obtain ⟨i, hi⟩ := List.getElem?_of_mem hx; exact HB.out i x (List.getElem?_eq_some_iff.1 hi).1 hi)])
   by_cases h0 : 97 <= name
   case neg =>
    have d0 : decide (97 <= name) = false := by simpa using h0
    have HV : Hid (fitC name cols.length keys idx = false) := hid (by simp [fitC, *])
    clear h0; go_wp2_with fail
    go_ret; rw [HF.out, HV.out]; exact ⟨rfl, HM.out⟩
   have d0 : decide (97 <= name) = true := by simpa using h0
   by_cases h1 : name <= 122
   case neg =>
    have d1 : decide (name <= 122) = false := by simpa using h1
    have HV : Hid (fitC name cols.length keys idx = false) := hid (by simp [fitC, *])
    clear h0 h1; go_wp2_with fail
    go_ret; rw [HF.out, HV.out]; exact ⟨rfl, HM.out⟩
   have d1 : decide (name <= 122) = true := by simpa using h1
   by_cases h2 : 1 <= keys
   case neg =>
    have d2 : decide (1 <= keys) = false := by simpa using h2
    have HV : Hid (fitC name cols.length keys idx = false) := hid (by simp [fitC, *])
    clear h0 h1 h2; go_wp2_with fail
    go_ret; rw [HF.out, HV.out]; exact ⟨rfl, HM.out⟩
   have d2 : decide (1 <= keys) = true := by simpa using h2
   by_cases h3 : keys <= (cols.length : Int)
   case neg =>
    have d3 : decide (keys <= (cols.length : Int)) = false := by simpa using h3
    have HV : Hid (fitC name cols.length keys idx = false) := hid (by simp [fitC, *])
    clear h0 h1 h2 h3; go_wp2_with fail
    go_ret; rw [HF.out, HV.out]; exact ⟨rfl, HM.out⟩
   have d3 : decide (keys <= (cols.length : Int)) = true := by simpa using h3
   by_cases h4 : -1 <= idx
   case neg =>
    have d4 : decide (-1 <= idx) = false := by simpa using h4
    have HV : Hid (fitC name cols.length keys idx = false) := hid (by simp [fitC, *])
    clear h0 h1 h2 h3 h4; go_wp2_with fail
    go_ret; rw [HF.out, HV.out]; exact ⟨rfl, HM.out⟩
   have d4 : decide (-1 <= idx) = true := by simpa using h4
   by_cases h5 : idx < (cols.length : Int)
   case neg =>
    have d5 : decide (idx < (cols.length : Int)) = false := by simpa using h5
    have HV : Hid (fitC name cols.length keys idx = false) := hid (by simp [fitC, *])
    clear h0 h1 h2 h3 h4 h5; go_wp2_with fail
    go_ret; rw [HF.out, HV.out]; exact ⟨rfl, HM.out⟩
   have d5 : decide (idx < (cols.length : Int)) = true := by simpa using h5
   have HV : Hid (fitC name cols.length keys idx = true) := hid (by simp [fitC, *])
   clear h0 h1 h2 h3 h4 h5; go_wp2_with fail
   go_ret; rw [HF.out, HV.out]; exact ⟨rfl, HM.out⟩
end
section
open Go Go.RowKit
set_option maxRecDepth 100000
theorem jIb (k : Int) (w : World) : Calls Tryz.prog 76 #[.int .i64 k] w fun e w' => e = .returned (.bool (decide (¬ qEe k))) /\ w = w' := by
 by_cases h0 : k < 0
 ·have d0 : decide (k < 0) = true := by simpa using h0
  have HV : Hid (decide (¬ qEe k) = true) := hid (decide_eq_true (by unfold qEe; omega))
  clear h0; go_enter Tryz.func76, Tryz.ntmps76
  go_wp2
  go_ret; rw [HV.out]; exact ⟨rfl, rfl⟩
 ·have d0 : decide (k < 0) = false := by simpa using h0
  by_cases h1 : 1 < k
  ·have d1 : decide (1 < k) = true := by simpa using h1
   have HV : Hid (decide (¬ qEe k) = true) := hid (decide_eq_true (by unfold qEe; omega))
   clear h0 h1; go_enter Tryz.func76, Tryz.ntmps76
   go_wp2
   go_ret; rw [HV.out]; exact ⟨rfl, rfl⟩
  ·have d1 : decide (1 < k) = false := by simpa using h1
   have HV : Hid (decide (¬ qEe k) = false) := hid (decide_eq_false (by unfold qEe; omega))
   clear h0 h1; go_enter Tryz.func76, Tryz.ntmps76
   go_wp2
   go_ret; rw [HV.out]; exact ⟨rfl, rfl⟩
theorem jHn {w : World} {ca : Option Addr} {cols : List Int} (cc : Nat) (hl : Lies w 1 oneI ca cols) (hn : cols.length <= 140737488351232) :
  Calls Tryz.prog 116 #[.slice ca cols.length cc, .func (.func 76) #[] #[]] w fun e w' => (∃ r : Int, e = .returned (.int .i64 r) /\ (0 <= r ↔ ¬ ∀ k ∈ cols, qEe k)) /\ w = w' := by
 have HL := hid hl; clear hl; go_enter Tryz.func116, Tryz.ntmps116
 go_wp2
 go_loop [8] (fun c => ∃ k : Nat, k <= cols.length /\ c = .int .i64 k /\ ∀ j x, j < k -> cols[j]? = some x -> qEe x) (fun c => cols.length - (intOf c).toNat)
 case atStart => exact ⟨0, Nat.zero_le _, rfl, fun j x h => by omega⟩
 case round =>
  obtain ⟨k, hk, rfl, hb⟩ := hrel; have HB := hid hb; clear hb; by_cases hlt : k < cols.length
  ·obtain ⟨x, hx⟩ : ∃ x, cols[k]? = some x := ⟨_, List.getElem?_eq_getElem hlt⟩; have HX := hid hx; obtain ⟨g, off, rfl⟩ := HL.out.some (by omega)
   have q0 := HL.out.cell qDb hx (j := 0) rfl; rw [Nat.add_zero, Nat.mul_one] at q0; have HC := hid (jIb x w); clear hx; by_cases hx1 : qEe x
   ·rw [decide_eq_false (fun h => h hx1)] at HC
    have HK := hid hx1; clear hx1; go_wp2_with fail
    refine HC.out.mono ?_; rintro e w1 ⟨rfl, rfl⟩; go_wp2_with fail
    go_round
    case rel =>
     refine ⟨k + 1, by omega, by go_num, fun j y hj hy => ?_⟩
     by_cases hjk : j = k
     ·subst hjk; rw [HX.out] at hy; cases hy
      exact HK.out
     ·exact HB.out j y (by omega) hy
    case measure => simp [intOf]; omega
   ·rw [decide_eq_true hx1] at HC; have HK := hid hx1; clear hx1; go_wp2_with fail
    refine HC.out.mono ?_; rintro e w1 ⟨rfl, rfl⟩; go_wp2_with fail
    go_ret; exact ⟨⟨_, rfl, ⟨fun _ h => HK.out (h x (List.mem_of_getElem? HX.out)), fun _ => by omega⟩⟩, rfl⟩
  ·have hke : k = cols.length := by omega
   subst hke; go_wp2_with fail
   go_ret; have HAll : Hid (∀ x ∈ cols, qEe x) := hid (fun x hx => by
    obtain ⟨i, hi⟩ := List.getElem?_of_mem hx; exact HB.out i x (List.getElem?_eq_some_iff.1 hi).1 hi)
   refine ⟨⟨_, rfl, ⟨fun h => by omega, fun h => ?_⟩⟩, rfl⟩
   obtain ⟨x, hx, hk⟩ : ∃ x, x ∈ cols /\ ¬ qEe x := by simpa using h
   exact absurd (HAll.out x hx) hk
theorem jHz {w : World} {ca : Option Addr} {cols : List Int} (cc : Nat) (hl : Lies w 1 oneI ca cols) (hn : cols.length <= 140737488351232) :
  Calls Tryz.prog 75 #[.slice ca cols.length cc, .func (.func 76) #[] #[]] w fun e w' => e = .returned (.bool (decide (¬ ∀ k ∈ cols, qEe k))) /\ w = w' := by
 have HI := hid (jHn cc hl hn); clear hl; go_enter Tryz.func75, Tryz.ntmps75
 go_wp2_with fail
 refine HI.out.mono ?_; rintro e w1 ⟨⟨r, rfl, hr⟩, rfl⟩; have HV : Hid (decide (0 <= r) = decide (¬ ∀ k ∈ cols, qEe k)) := hid (decide_eq_decide.2 hr); clear hr; go_wp2_with fail
 go_ret; rw [HV.out]; exact ⟨rfl, rfl⟩
end
section
open Go Go.RowKit
theorem jFd (name : Int) (cols : List Int) (keys idx : Int) : qDw name cols keys idx = (fitC name cols.length keys idx && decide (∀ k ∈ cols, qEe k)) := by
 unfold qDw; by_cases h : ∀ k ∈ cols, qEe k
 ·rw [if_pos h, decide_eq_true h, Bool.and_true]
 ·rw [if_neg h, decide_eq_false h, Bool.and_false]
set_option maxRecDepth 100000
set_option maxHeartbeats 2000000 in
theorem qGv {w : World} {ca : Option Addr} {cols : List Int} (name keys idx : Int) (cc : Nat) (hl : Lies w 1 oneI ca cols) (hn : cols.length <= 140737488351232) :
  Calls Tryz.prog 37 #[.agg #[.int .u8 name, .slice ca cols.length cc, .int .i64 keys, .int .i64 idx]] w fun e w' => e = .returned (.bool (qDw name cols keys idx)) /\ Mod (fun _ => False) w w' := by
 have hma : Mod (fun _ => False) w (w.alloc (.cells #[.int .u8 name, .slice ca cols.length cc, .int .i64 keys, .int .i64 idx] 24)) := (Mod.refl _ _).alloc _
 have HM := hid hma; have HC := hid (jHz cc (hl.ext hma) hn); have HF := hid (jFd name cols keys idx); clear hma hl; by_cases h0 : 97 <= name
 case neg =>
  have d0 : decide (97 <= name) = false := by simpa using h0
  have HV : Hid (fitC name cols.length keys idx = false) := hid (by simp [fitC, *])
  clear h0; go_enter Tryz.func37, Tryz.ntmps37
  go_wp2_with fail
  go_ret; rw [HF.out, HV.out]; exact ⟨rfl, HM.out⟩
 have d0 : decide (97 <= name) = true := by simpa using h0
 by_cases h1 : name <= 122
 case neg =>
  have d1 : decide (name <= 122) = false := by simpa using h1
  have HV : Hid (fitC name cols.length keys idx = false) := hid (by simp [fitC, *])
  clear h0 h1; go_enter Tryz.func37, Tryz.ntmps37
  go_wp2_with fail
  go_ret; rw [HF.out, HV.out]; exact ⟨rfl, HM.out⟩
 have d1 : decide (name <= 122) = true := by simpa using h1
 by_cases h2 : 1 <= keys
 case neg =>
  have d2 : decide (1 <= keys) = false := by simpa using h2
  have HV : Hid (fitC name cols.length keys idx = false) := hid (by simp [fitC, *])
  clear h0 h1 h2; go_enter Tryz.func37, Tryz.ntmps37
  go_wp2_with fail
  go_ret; rw [HF.out, HV.out]; exact ⟨rfl, HM.out⟩
 have d2 : decide (1 <= keys) = true := by simpa using h2
 by_cases h3 : keys <= (cols.length : Int)
 case neg =>
  have d3 : decide (keys <= (cols.length : Int)) = false := by simpa using h3
  have HV : Hid (fitC name cols.length keys idx = false) := hid (by simp [fitC, *])
  clear h0 h1 h2 h3; go_enter Tryz.func37, Tryz.ntmps37
  go_wp2_with fail
  go_ret; rw [HF.out, HV.out]; exact ⟨rfl, HM.out⟩
 have d3 : decide (keys <= (cols.length : Int)) = true := by simpa using h3
 by_cases h4 : -1 <= idx
 case neg =>
  have d4 : decide (-1 <= idx) = false := by simpa using h4
  have HV : Hid (fitC name cols.length keys idx = false) := hid (by simp [fitC, *])
  clear h0 h1 h2 h3 h4; go_enter Tryz.func37, Tryz.ntmps37
  go_wp2_with fail
  go_ret; rw [HF.out, HV.out]; exact ⟨rfl, HM.out⟩
 have d4 : decide (-1 <= idx) = true := by simpa using h4
 by_cases h5 : idx < (cols.length : Int)
 case neg =>
  have d5 : decide (idx < (cols.length : Int)) = false := by simpa using h5
  have HV : Hid (fitC name cols.length keys idx = false) := hid (by simp [fitC, *])
  clear h0 h1 h2 h3 h4 h5; go_enter Tryz.func37, Tryz.ntmps37
  go_wp2_with fail
  go_ret; rw [HF.out, HV.out]; exact ⟨rfl, HM.out⟩
 have d5 : decide (idx < (cols.length : Int)) = true := by simpa using h5
 have HV : Hid (fitC name cols.length keys idx = true) := hid (by simp [fitC, *])
 clear h0 h1 h2 h3 h4 h5; have HD : Hid (decide (¬ ∀ k ∈ cols, qEe k) = !decide (∀ k ∈ cols, qEe k)) := hid decide_not; rw [HD.out] at HC; generalize decide (∀ k ∈ cols, qEe k) = z at *; go_enter Tryz.func37, Tryz.ntmps37
 go_wp2_with fail
 refine HC.out.mono ?_; rintro e w1 ⟨rfl, rfl⟩; go_wp2_with fail
 go_ret; rw [HF.out, HV.out]; exact ⟨by cases z <;> rfl, HM.out⟩
end
section
open Go Go.RowKit
structure Vl where
 n : Int
 s : ByteArray
def Vl.cs (v : Vl) : List Value := [.int .i64 v.n, .string v.s]
theorem qHf (v : Vl) : v.cs.length = 2 := rfl
structure Vl.Ok (v : Vl) : Prop where
 n0 : -9223372036854775808 <= v.n
 n1 : v.n <= 9223372036854775807
 s : v.s.size <= 140737488351232
def qEd (k : Int) (v : Vl) : Bool := if k = 0 then v.s.toList.isEmpty else (v.n == 0 && qEr v.s)
def qCe (k : Int) (v : Vl) : List UInt8 := qQh k v.n v.s
theorem qKq (k : Int) (v : Vl) (w : World) (hv : v.Ok) :
  Calls Tryz.prog 39 #[.int .i64 k, .agg #[.int .i64 v.n, .string v.s]] w fun e w' => e = .returned (.tuple #[.string (ba (qCe k v)), .bool (qEd k v)]) /\ Mod (fun _ => False) w w' := by
 unfold qCe qQh qEd; by_cases hk : k = 0
 ·subst hk; rw [if_pos rfl, if_pos rfl]; exact jFa v.n v.s w hv.n0 hv.n1
 ·rw [if_neg hk, if_neg hk]; exact jAk k v.n v.s w hk hv.s
def qEf (cols : List Int) (r : List Vl) (k : Nat) : List UInt8 := ((cols.zip r).take k).flatMap fun p => qCe p.1 p.2
theorem qVz {cols : List Int} {r : List Vl} {k : Nat} {c : Int} {v : Vl} (hc : cols[k]? = some c) (hv : r[k]? = some v) : qEf cols r (k + 1) = qEf cols r k ++ qCe c v := by
 unfold qEf; have h : (cols.zip r)[k]? = some (c, v) := by rw [List.getElem?_zip_eq_some]; exact ⟨hc, hv⟩
 have hl := (List.getElem?_eq_some_iff.1 h).1; rw [List.take_succ_eq_append_getElem hl, List.flatMap_append, (List.getElem?_eq_some_iff.1 h).2]; simp
end
section
open Go Go.RowKit
theorem qVm {w : World} {b : Nat} {v0 v1 v2 v3 : Value} {T : TypeId} (h : w.heap[b]? = some (.cells #[v0, v1, v2, v3] T (0, 0))) : w.cell? ⟨b, 0, none⟩ = some v0 /\ w.cell? ⟨b, 1, none⟩ = some v1 :=
 ⟨by rw [cell_of_row _ _ _ _ _ _ h]; rfl, by rw [cell_of_row _ _ _ _ _ _ h]; rfl⟩
def FitK (cols : List Int) (r : List Vl) (k : Nat) : Prop := ∀ j c v, j < k -> cols[j]? = some c -> r[j]? = some v -> qEd c v = true
set_option maxRecDepth 100000
set_option maxHeartbeats 2000000 in
theorem jEe {w : World} {ca ra : Option Addr} {cols : List Int} {r : List Vl} (name idx : Int) (keys cc rc : Nat) (hl : Lies w 1 oneI ca cols) (hr : Lies w 2 Vl.cs ra r) (hlen : r.length = cols.length) (hk : keys <= cols.length) (hn : cols.length <= 140737488351232) (hv : ∀ v ∈ r, v.Ok) (hsz : ∀ k, (qEf cols r k).length <= 2305843009213693952) :
  Calls Tryz.prog 60 #[.agg #[.int .u8 name, .slice ca cols.length cc, .int .i64 (keys : Int), .int .i64 idx], .slice ra r.length rc] w fun e w' =>
   ((FitK cols r keys /\ e = .returned (.tuple #[.string (ba (qEf cols r keys)), .bool true])) \/ (¬ FitK cols r keys /\ e = .returned (.tuple #[.string ⟨#[]⟩, .bool false]))) /\ Mod (fun _ => False) w w' := by
 have hma : Mod (fun _ => False) w (w.alloc (.cells #[.int .u8 name, .slice ca cols.length cc, .int .i64 (keys : Int), .int .i64 idx] 24)) := (Mod.refl _ _).alloc _
 have hcb : (w.alloc (.cells #[.int .u8 name, .slice ca cols.length cc, .int .i64 (keys : Int), .int .i64 idx] 24)).heap[w.heap.size]? = some (.cells #[.int .u8 name, .slice ca cols.length cc, .int .i64 (keys : Int), .int .i64 idx] 24 (0, 0)) := heap_alloc_new _ _; have HM := hid hma; have HCb := hid hcb; have HL := hid (hl.ext hma); have HR := hid (hr.ext hma); have HV := hid hv; have HS := hid hsz; have HLen := hid hlen; clear hma hcb hl hr hv hsz hlen; go_enter Tryz.func60, Tryz.ntmps60
 go_wp2_with fail
 obtain ⟨C, hC⟩ : ∃ C, w.alloc (.cells #[.int .u8 name, .slice ca cols.length cc, .int .i64 (keys : Int), .int .i64 idx] 24) = C := ⟨_, rfl⟩; rw [hC] at HM HCb HL HR; go_loopw [6, 12] (fun s c wr => ∃ k : Nat, k <= keys /\ c = .int .i64 (k : Int) /\ s = .string (ba (qEf cols r k)) /\ FitK cols r k /\ Mod (fun _ => False) C wr) (fun _ c _ => keys - (intOf c).toNat)
 case atStart => exact ⟨0, Nat.zero_le _, rfl, rfl, (fun j c v h => by omega), by rw [hC]; exact Mod.refl _ _⟩
 case round =>
  obtain ⟨k, hkk, rfl, rfl, hf, hm⟩ := hrel; have HF := hid hf; have HMr := hid hm; clear hf hm; by_cases hlt : k < keys
  ·obtain ⟨c, hc⟩ : ∃ c, cols[k]? = some c := ⟨_, List.getElem?_eq_getElem (by omega)⟩
   obtain ⟨v, hvv⟩ : ∃ v, r[k]? = some v := ⟨_, List.getElem?_eq_getElem (by rw [HLen.out]; omega)⟩
   have hkr : k < r.length := by rw [HLen.out]; omega
   have HSu := hid (qVz hc hvv); have HStep : Hid (qEd c v = true -> FitK cols r (k + 1)) := hid (fun ht j c' v' hj h1 h2 => by
    by_cases hjk : j = k
    ·subst hjk; rw [hc] at h1; rw [hvv] at h2; cases h1
     cases h2
     exact ht
    ·exact HF.out j c' v' (by omega) h1 h2)
   have HBad : Hid (qEd c v = false -> ¬ FitK cols r keys) := hid (fun ht h => by have := h k c v hlt hc hvv; rw [ht] at this; cases this)
   have hlc := HL.out.ext HMr.out; have hrc := HR.out.ext HMr.out; have HVo := hid (HV.out v (List.mem_of_getElem? hvv)); have HSz := hid (HS.out k); have HSz2 := hid (HS.out (k + 1)); obtain ⟨g, off, rfl⟩ := hlc.some (by omega)
   obtain ⟨g2, off2, rfl⟩ := hrc.some (by omega)
   have q0 := hlc.cell qDb hc (j := 0) rfl; have p0 := hrc.cell qHf hvv (j := 0) rfl; have p1 := hrc.cell qHf hvv (j := 1) rfl; rw [Nat.add_zero, Nat.mul_one] at q0; rw [Nat.add_zero] at p0; have b1 : wr.cell? ⟨w.heap.size, 1, none⟩ = some (.slice (some ⟨g, off, none⟩) cols.length cc) := (qVm ((HMr.out.block _ (lth HCb.out) (fun h => h)).trans HCb.out)).2
   have g0 := fun x : Ext wr => x.cell q0
   have g1 := fun x : Ext wr => x.cell p0
   have g2' := fun x : Ext wr => x.cell p1
   have g3 := fun x : Ext wr => x.cell b1
   have HK := hid (fun x : Ext wr => qKq c v x.val HVo.out)
   have s0 : (ba (qEf cols r k)).size <= 2305843009213693952 := by rw [qAd]; exact HSz.out
   have s1 : (ba (qCe c v)).size <= 2305843009213693952 := by
    have := HSz2.out; rw [HSu.out, List.length_append] at this; rw [qAd]; omega
   have HBa : Hid (ba (qEf cols r k) ++ ba (qCe c v) = ba (qEf cols r (k + 1))) := hid (by rw [HSu.out, qBc])
   obtain ⟨n, t⟩ := v; simp only at p0 p1 g1 g2' HK; generalize qCe c ⟨n, t⟩ = fm at *; generalize qEd c ⟨n, t⟩ = ft at *; clear hlc hrc hc hvv q0 p0 p1 b1; go_wp2_with fail
   refine qAc (by kernel_rfl) (by kernel_rfl) ?_
   repeat (go_big_quiet_step ((go_at_call 39; exact qAt (HK.out _))))
   refine wpQuiet_nil ?_; rintro _ ⟨x, rfl⟩; clear g0 g1 g2' g3; cases ft with
   | false =>
    go_wp2_with fail
    go_ret2; exact ⟨.inr ⟨HBad.out (by trivial), rfl⟩, HM.out.trans (HMr.out.trans x.mod)⟩
   | true =>
    go_wp2_with fail
    go_roundw
    case rel => exact ⟨k + 1, by omega, by go_num, by rw [HBa.out], HStep.out (by trivial), HMr.out.trans x.mod⟩
    case measure => simp [intOf]; omega
  ·have hke : k = keys := by omega
   subst hke; go_wp2_with fail
   go_ret2; exact ⟨.inl ⟨HF.out, rfl⟩, HM.out.trans HMr.out⟩
end
section
open Go Go.RowKit
def qAj (name : Nat) (b : UInt8) : List UInt8 := [UInt8.ofNat name, b]
end
section
open Go Go.RowKit
def qKg (k : Int) (v : Vl) : List UInt8 := if k = 0 then intL v.n else qEa v.s
def valL (cols : List Int) (r : List Vl) (keys j : Nat) : List UInt8 := (((cols.zip r).take j).drop keys).flatMap fun p => qKg p.1 p.2
theorem qHx (cols : List Int) (r : List Vl) {keys j : Nat} (h : j <= keys) : valL cols r keys j = [] := by
 unfold valL; rw [List.drop_of_length_le (by rw [List.length_take]; omega)]
 rfl
theorem qXh {cols : List Int} {r : List Vl} {keys k : Nat} {c : Int} {v : Vl} (h : keys <= k) (hc : cols[k]? = some c) (hv : r[k]? = some v) : valL cols r keys (k + 1) = valL cols r keys k ++ qKg c v := by
 unfold valL; have h' : (cols.zip r)[k]? = some (c, v) := by rw [List.getElem?_zip_eq_some]; exact ⟨hc, hv⟩
 have hl := (List.getElem?_eq_some_iff.1 h').1; rw [List.take_succ_eq_append_getElem hl, List.drop_append_of_le_length (by rw [List.length_take]; omega), List.flatMap_append, (List.getElem?_eq_some_iff.1 h').2]
 simp
def qDg (k : Int) (v : Vl) : Bool := if k = 0 then v.s.toList.isEmpty else (v.n == 0)
theorem qWr {s : ByteArray} (h : s.toList.isEmpty = true) : qEr s = true := by
 unfold qEr; rw [ByteArray.toList_eq, List.isEmpty_iff] at h; rw [h]; rfl
theorem qGu {k : Int} {v : Vl} (h : qDg k v = true) : qEd k v = qEr v.s := by
 unfold qDg at h; unfold qEd; by_cases hk : k = 0
 ·rw [if_pos hk] at h ⊢; rw [h, qWr h]
 ·rw [if_neg hk] at h ⊢; rw [h, Bool.true_and]
structure Good (name : Int) (cols : List Int) (keys idx : Int) (r : List Vl) : Prop where
 fit : qDw name cols keys idx = true
 len : r.length = cols.length
 typed : ∀ (j : Nat) c v, cols[j]? = some c -> r[j]? = some v -> qDg c v = true
 bare : ∀ (j : Nat) v, ((j : Int) < keys \/ (j : Int) = idx) -> r[j]? = some v -> qEr v.s = true
def idxL (cols : List Int) (r : List Vl) (idx : Int) : List UInt8 := qCe (cols.getD idx.toNat 0) (r.getD idx.toNat ⟨0, ⟨#[]⟩⟩)
def qHc (name : Int) (cols : List Int) (keys : Int) (r : List Vl) : List UInt8 := qAj name.toNat 0 ++ qEf cols r keys.toNat
def qYt (cols : List Int) (keys : Int) (r : List Vl) : List UInt8 := valL cols r keys.toNat cols.length
def pxL (name : Int) (cols : List Int) (keys idx : Int) (r : List Vl) : List UInt8 := if 0 <= idx then qAj name.toNat 1 ++ idxL cols r idx ++ qEf cols r keys.toNat else []
structure PX where
 k : List UInt8
 v : List UInt8
 x : List UInt8
def qFs (p : PX) : Prop := p.k.length <= 48 /\ p.x.length <= 48 /\ p.v.length <= 200
instance (p : PX) : Decidable (qFs p) := inferInstanceAs (Decidable (_ /\ _ /\ _))
def pxOf (name : Int) (cols : List Int) (keys idx : Int) (r : List Vl) : PX := ⟨qHc name cols keys r, qYt cols keys r, pxL name cols keys idx r⟩
noncomputable def qDn (name : Int) (cols : List Int) (keys idx : Int) (r : List Vl) : Option PX :=
 open Classical in if Good name cols keys idx r /\ qFs (pxOf name cols keys idx r) then some (pxOf name cols keys idx r) else none
theorem qFj {name : Int} {cols : List Int} {keys idx : Int} {r : List Vl} (h : ¬ Good name cols keys idx r) : qDn name cols keys idx r = none := by
 unfold qDn; rw [if_neg (fun h' => h h'.1)]
theorem qMw {name : Int} {cols : List Int} {keys idx : Int} {r : List Vl} (h : ¬ qFs (pxOf name cols keys idx r)) : qDn name cols keys idx r = none := by
 unfold qDn; rw [if_neg (fun h' => h h'.2)]
theorem qJe {name : Int} {cols : List Int} {keys idx : Int} {r : List Vl} (h : Good name cols keys idx r) (h2 : qFs (pxOf name cols keys idx r)) : qDn name cols keys idx r = some (pxOf name cols keys idx r) := by
 unfold qDn; rw [if_pos ⟨h, h2⟩]
theorem qIe {name : Int} {cols : List Int} {keys idx : Int} {r : List Vl} {p : PX} (h : qDn name cols keys idx r = some p) : Good name cols keys idx r /\ qFs p /\ p = pxOf name cols keys idx r := by
 unfold qDn at h; split at h
 ·next h' => cases h; exact ⟨h'.1, h'.2, rfl⟩
 ·cases h
theorem qGw {name : Int} {cols : List Int} {keys idx : Int} (h : qDw name cols keys idx = true) : (∀ k ∈ cols, qEe k) /\ 97 <= name /\ name <= 122 /\ 1 <= keys /\ keys <= (cols.length : Int) /\ -1 <= idx /\ idx < (cols.length : Int) := by
 unfold qDw at h; split at h
 ·next hk =>
  refine ⟨hk, ?_⟩; unfold fitC at h; simp only [Bool.and_eq_true, decide_eq_true_eq] at h; exact h
 ·cases h
end
section
open Go Go.RowKit
structure RT where
 t : ByteArray
 n : Nat
 e : Nat
def rtOf (s : ByteArray) (at' : Nat) (x : RU) : RT :=
 if x.e = 0 then (if s.size < at' + x.n + x.v then ⟨⟨#[]⟩, 0, 20⟩ else ⟨s.extract (at' + x.n) (at' + x.n + x.v), at' + x.n + x.v, 0⟩) else ⟨⟨#[]⟩, 0, x.e⟩
def rdT (s : ByteArray) (at' : Nat) : RT := rtOf s at' (rdU 0 (s.data.toList.drop at'))
def rtV (x : RT) : Value := .tuple #[.string x.t, .int .i64 (x.n : Int), .int .i64 (x.e : Int)]
theorem jJd (s : ByteArray) (at' : Nat) (he : (rdU 0 (s.data.toList.drop at')).e = 0) : at' + (rdU 0 (s.data.toList.drop at')).n <= s.size /\ 1 <= (rdU 0 (s.data.toList.drop at')).n /\ (rdU 0 (s.data.toList.drop at')).v < 18446744073709551616 := by
 obtain ⟨h1, h2, _, h4⟩ := qGd (s.data.toList.drop at') 0; have h3 := h2 he; have h5 := h4 (by omega)
 rw [Nat.pow_zero, Nat.mul_one] at h5; have h6 : qFg = 18446744073709551616 := by decide
 rw [List.length_drop, Array.length_toList] at h1; have h7 : s.data.size = s.size := rfl; omega
set_option maxRecDepth 100000
set_option maxHeartbeats 2000000 in
theorem qPt (s : ByteArray) (at' : Nat) (w : World) (hs : s.size <= maxLen) : Calls Tryz.prog 94 #[.string s, .int .i64 (at' : Int)] w fun e w' => e = .returned (rtV (rdT s at')) /\ w = w' := by
 have HU := hid (qEx s at' w hs); unfold rdT; unfold maxLen at hs; have hin := jJd s at'; generalize rdU 0 (s.data.toList.drop at') = x at *; obtain ⟨v, n, er⟩ := x; by_cases he : er = 0
 ·subst he; obtain ⟨h1, h2, h3⟩ := hin rfl; simp only at h1 h2 h3; clear hin; have hv : ruV at' ⟨v, n, 0⟩ = .tuple #[.int .u64 (v : Int), .int .i64 ((at' + n : Nat) : Int), .int .i64 0] := by unfold ruV; simp
  have hr : rtOf s at' ⟨v, n, 0⟩ = if s.size < at' + n + v then ⟨⟨#[]⟩, 0, 20⟩ else ⟨s.extract (at' + n) (at' + n + v), at' + n + v, 0⟩ := rfl
  rw [hv] at HU; rw [hr]; clear hv hr; generalize at' + n = m at *; have hwr : IntKind.u64.wrap ((s.size : Int) - (m : Int)) = (s.size : Int) - (m : Int) := by rw [IntKind.wrap_u64]; omega
  by_cases hbig : s.size < m + v
  ·have d : decide ((s.size : Int) - (m : Int) < (v : Int)) = true := by rw [decide_eq_true_iff]; omega
   rw [if_pos hbig]; go_enter Tryz.func94, Tryz.ntmps94
   go_wp2_with fail
   refine HU.out.mono ?_; rintro e w' ⟨rfl, rfl⟩; go_wp2_with fail
   exact bodyPost_ret (v := .tuple #[.string ⟨#[]⟩, .int .i64 0, .int .i64 20]) (by simp [results, Tryz.results94, go_sem]) rfl ⟨rfl, rfl⟩
  ·have d : decide ((s.size : Int) - (m : Int) < (v : Int)) = false := by rw [decide_eq_false_iff_not]; omega
   have hv2 : IntKind.i64.wrap (v : Int) = (v : Int) := IntWalk.i64_in _ (by omega)
   have hsl : ∀ w : World, (Instr.slice 9 (.string s) (some (.int .i64 (m : Int))) (some (.int .i64 ((m : Int) + (v : Int)))) none).run Tryz.prog w = .ok (.string (s.extract m (m + v))) w := fun w => by
    have := run_slice_string (P := Tryz.prog) w 9 s .i64 .i64 (m : Int) ((m : Int) + (v : Int)) Tryz.underlying9 (by omega) (by omega) (by omega)
    rw [show ((m : Int) + (v : Int)).toNat = m + v by omega, show ((m : Int)).toNat = m by omega] at this
    exact this
   have e5 : ((m + v : Nat) : Int) = (m : Int) + (v : Int) := by omega
   have HE5 := hid e5; clear e5; rw [if_neg hbig]; go_enter Tryz.func94, Tryz.ntmps94
   go_wp2_with fail
   refine HU.out.mono ?_; rintro e w' ⟨rfl, rfl⟩; go_wp2_with fail
   exact bodyPost_ret (v := .tuple #[.string (s.extract m (m + v)), .int .i64 ((m : Int) + (v : Int)), .int .i64 0]) (by simp [results, Tryz.results94, go_sem]) rfl ⟨by unfold rtV; rw [HE5.out]; rfl, rfl⟩
 ·have hv : ruV at' ⟨v, n, er⟩ = .tuple #[.int .u64 0, .int .i64 0, .int .i64 (er : Int)] := by unfold ruV; rw [if_neg he]
  rw [hv] at HU; clear hv hin; have HA : Hid (rtOf s at' ⟨v, n, er⟩ = ⟨⟨#[]⟩, 0, er⟩) := hid (by unfold rtOf; rw [if_neg he])
  have hne : ((er : Int) != 0) = true := by rw [bne_iff_ne]; omega
  rw [HA.out]; clear HA; go_enter Tryz.func94, Tryz.ntmps94
  go_wp2_with fail
  refine HU.out.mono ?_; rintro e w' ⟨rfl, rfl⟩; go_wp2_with fail
  exact bodyPost_ret (v := .tuple #[.string ⟨#[]⟩, .int .i64 0, .int .i64 (er : Int)]) (by simp [results, Tryz.results94, go_sem]) rfl ⟨rfl, rfl⟩
end
section
open Go Go.RowKit
structure RV where
 v : Vl
 n : Nat
 ok : Bool
def noV : RV := ⟨⟨0, ⟨#[]⟩⟩, 0, false⟩
def rdO (s : ByteArray) (a : Nat) : RV := if s.size < a + 8 then noV else ⟨⟨(rdBE 0 ((s.data.toList.drop a).take 8) : Int) - 9223372036854775808, ⟨#[]⟩⟩, a + 8, true⟩
def rdI (s : ByteArray) (a : Nat) : RV := if (rdU 0 (s.data.toList.drop a)).e = 0 then ⟨⟨unzz (rdU 0 (s.data.toList.drop a)).v, ⟨#[]⟩⟩, a + (rdU 0 (s.data.toList.drop a)).n, true⟩ else noV
def rdZ (s : ByteArray) (a : Nat) : RV := if Lib.indexByte (s.data.toList.drop a) 0 < 0 then noV else ⟨⟨0, s.extract a (a + (Lib.indexByte (s.data.toList.drop a) 0).toNat)⟩, a + (Lib.indexByte (s.data.toList.drop a) 0).toNat + 1, true⟩
def rdX (s : ByteArray) (a : Nat) : RV := if (rdT s a).e = 0 then ⟨⟨0, (rdT s a).t⟩, (rdT s a).n, true⟩ else noV
def qBy (k : Int) (s : ByteArray) (a : Nat) : RV := if k = 0 then rdO s a else rdZ s a
def qCo (k : Int) (s : ByteArray) (a : Nat) : RV := if k = 0 then rdI s a else rdX s a
theorem qNe : ∀ (l r : List UInt8), (0 : UInt8) ∉ l -> Lib.indexByte (l ++ 0 :: r) 0 = (l.length : Int)
 | [], r => fun _ => by simp [Lib.indexByte]
 | b :: l, r => fun h => by
  have hb : b ≠ 0 := fun e => h (by simp [e])
  have ih := qNe l r (fun e => h (by simp [e]))
  have e : (b == 0) = false := by simpa using hb
  rw [List.cons_append, Lib.indexByte, e]; simp only [Bool.false_eq_true, if_false, ih]; have e2 : ((l.length : Int) == -1) = false := by rw [beq_eq_false_iff_ne]; omega
  rw [e2]; simp
theorem qOy {s : ByteArray} (h : qEr s = true) : (0 : UInt8) ∉ s.data.toList := by
 intro hm; unfold qEr at h; rw [List.contains_iff_mem.2 hm] at h; cases h
theorem qKa {s t : ByteArray} {a : Nat} {r : List UInt8} (h : s.data.toList.drop a = t.data.toList ++ r) : s.extract a (a + t.data.toList.length) = t := by
 apply qLw; rw [ByteArray.data_extract]; simp only [Array.toList_extract]; rw [List.extract_eq_take_drop, h]; rw [show a + t.data.toList.length - a = t.data.toList.length by omega, List.take_left]
theorem qQl {s : ByteArray} {a : Nat} {l : List UInt8} (h : s.data.toList.drop a = l) (h0 : 0 < l.length) : a + l.length = s.size := by
 have := congrArg List.length h; rw [List.length_drop, Array.length_toList] at this; have : s.data.size = s.size := rfl; omega
theorem qYn {s : ByteArray} {a : Nat} {n : Int} {r : List UInt8} (h : s.data.toList.drop a = ordL n ++ r) (h0 : -9223372036854775808 <= n) (h1 : n <= 9223372036854775807) : rdO s a = ⟨⟨n, ⟨#[]⟩⟩, a + 8, true⟩ := by
 have hl : (ordL n).length = 8 := qDu 8 _; have hs := qQl h (by rw [List.length_append]; omega)
 rw [List.length_append, hl] at hs; have hb := qYq 8 (ordN n) 0; rw [Nat.mod_eq_of_lt (qYx h1), Nat.zero_mul, Nat.zero_add] at hb; unfold rdO; rw [if_neg (by omega), h, List.take_left' hl]
 unfold ordL; rw [hb]; have : ((ordN n : Nat) : Int) - 9223372036854775808 = n := by unfold ordN; omega
 rw [this]
theorem jJg {s : ByteArray} {a : Nat} {n : Int} {r : List UInt8} (h : s.data.toList.drop a = intL n ++ r) (h0 : -9223372036854775808 <= n) (h1 : n <= 9223372036854775807) : rdI s a = ⟨⟨n, ⟨#[]⟩⟩, a + (intL n).length, true⟩ := by
 have hr := jGb h (by have := jGj h0 h1; have e : qFg = 18446744073709551616 := (by decide); omega)
 unfold rdI; rw [hr]; simp only [if_true, jGm]; rfl
theorem jJa {s t : ByteArray} {a : Nat} {r : List UInt8} (h : s.data.toList.drop a = t.data.toList ++ [0] ++ r) (hb : qEr t = true) : rdZ s a = ⟨⟨0, t⟩, a + (t.data.toList.length + 1), true⟩ := by
 rw [List.append_assoc, List.singleton_append] at h; have hi := qNe t.data.toList r (qOy hb); unfold rdZ; rw [h, hi, if_neg (by omega), Int.toNat_natCast, qKa h, Nat.add_assoc]
theorem jJc {s t : ByteArray} {a : Nat} {r : List UInt8} (h : s.data.toList.drop a = qEa t ++ r) (ht : t.size <= 140737488351232) : rdX s a = ⟨⟨0, t⟩, a + (qEa t).length, true⟩ := by
 have hl : t.data.toList.length = t.size := by rw [Array.length_toList]; rfl
 have h' := h; unfold qEa at h'; rw [List.append_assoc] at h'; have hr := jGb h' (by have e : qFg = 18446744073709551616 := (by decide); omega)
 have hd := qJp h'; have hs := qQl h' (by rw [List.length_append]; have := qEv t.size; omega)
 rw [List.length_append, List.length_append, hl] at hs; have he := qKa hd; rw [hl] at he; have hT : rdT s a = ⟨t, a + (uvar t.size).length + t.size, 0⟩ := by
  unfold rdT rtOf; rw [hr]; simp only [if_true]; rw [if_neg (by omega), he]
 unfold rdX; rw [hT]; simp only [if_true, qEa, List.length_append, hl, Nat.add_assoc]
def qEu (keys : Nat) (ks vs : ByteArray) : Nat -> List Int -> Nat -> Nat -> Option (List Vl)
 | _, [], _, _ => some []
 | i, k :: r, a, b =>
  if i < keys then (if (qBy k ks a).ok then (qEu keys ks vs (i + 1) r (qBy k ks a).n b).map ((qBy k ks a).v :: ·) else none)
  else (if (qCo k vs b).ok then (qEu keys ks vs (i + 1) r a (qCo k vs b).n).map ((qCo k vs b).v :: ·) else none)
theorem qPi {v : Vl} (h : qDg 0 v = true) : v = ⟨v.n, ⟨#[]⟩⟩ := by
 obtain ⟨n, s⟩ := v; unfold qDg at h; rw [if_pos rfl, ByteArray.toList_eq, List.isEmpty_iff] at h; have : s = ⟨#[]⟩ := qLw (by rw [h])
 rw [this]
theorem qMp {k : Int} {v : Vl} (hk : k ≠ 0) (h : qDg k v = true) : v = ⟨0, v.s⟩ := by
 obtain ⟨n, s⟩ := v; unfold qDg at h; rw [if_neg hk, beq_iff_eq] at h; simp only at h; rw [h]
theorem qXl {k : Int} {s : ByteArray} {a : Nat} {v : Vl} {r : List UInt8} (h : s.data.toList.drop a = qCe k v ++ r) (hv : v.Ok) (ht : qDg k v = true) (hb : qEr v.s = true) : qBy k s a = ⟨v, a + (qCe k v).length, true⟩ := by
 unfold qCe qQh at h ⊢; unfold qBy; by_cases hk : k = 0
 ·subst hk; rw [if_pos rfl] at h ⊢; rw [if_pos rfl, qYn h hv.n0 hv.n1, <- qPi ht]; rw [show (ordL v.n).length = 8 from qDu 8 _]
 ·rw [if_neg hk] at h ⊢; rw [if_neg hk, jJa h hb, <- qMp hk ht]; simp
theorem qXk {k : Int} {s : ByteArray} {a : Nat} {v : Vl} {r : List UInt8} (h : s.data.toList.drop a = qKg k v ++ r) (hv : v.Ok) (ht : qDg k v = true) : qCo k s a = ⟨v, a + (qKg k v).length, true⟩ := by
 unfold qKg at h ⊢; unfold qCo; by_cases hk : k = 0
 ·subst hk; rw [if_pos rfl] at h ⊢; rw [if_pos rfl, jJg h hv.n0 hv.n1, <- qPi ht]
 ·rw [if_neg hk] at h ⊢; rw [if_neg hk, jJc h hv.s, <- qMp hk ht]
theorem qTi (keys : Nat) (ks vs : ByteArray) : ∀ (cols : List Int) (r : List Vl) (i a b : Nat), r.length = cols.length →
  (∀ v ∈ r, v.Ok) -> (∀ (j : Nat) c v, cols[j]? = some c -> r[j]? = some v -> qDg c v = true) -> (∀ (j : Nat) v, i + j < keys -> r[j]? = some v -> qEr v.s = true) →
  ks.data.toList.drop a = ((cols.zip r).take (keys - i)).flatMap (fun p => qCe p.1 p.2) -> vs.data.toList.drop b = ((cols.zip r).drop (keys - i)).flatMap (fun p => qKg p.1 p.2) →
  qEu keys ks vs i cols a b = some r
 | [], [] => fun i a b _ _ _ _ _ _ => rfl
 | [], v :: r => fun i a b h => by simp at h
 | c :: cols, [] => fun i a b h => by simp at h
 | c :: cols, v :: r => fun i a b hl hv ht hb hk hs => by
  have h1 : qDg c v = true := ht 0 c v rfl rfl; have h2 : v.Ok := hv v (by simp)
  have ih := fun a b => qTi keys ks vs cols r (i + 1) a b (by simpa using hl) (fun x hx => hv x (by simp [hx])) (fun j c' v' hc hv' => ht (j + 1) c' v' hc hv') (fun j v' hj hv' => hb (j + 1) v' (by omega) hv')
  rw [qEu]; by_cases hi : i < keys
  ·rw [if_pos hi]; obtain ⟨m, hm⟩ : ∃ m, keys - i = m + 1 := ⟨keys - i - 1, by omega⟩
   have hm' : keys - (i + 1) = m := by omega
   rw [hm, List.zip_cons_cons, List.take_succ_cons, List.flatMap_cons] at hk; rw [hm, List.zip_cons_cons, List.drop_succ_cons] at hs; rw [hm'] at ih; have hu := qXl hk h2 h1 (hb 0 v (by omega) rfl)
   have hd := qJp hk; rw [hu]; simp only [if_true]; rw [ih _ _ hd hs]; rfl
  ·rw [if_neg hi]; have hm : keys - i = 0 := by omega
   have hm' : keys - (i + 1) = 0 := by omega
   rw [hm, List.take_zero] at hk; rw [hm, List.drop_zero, List.zip_cons_cons, List.flatMap_cons] at hs; rw [hm', List.take_zero, List.drop_zero] at ih; have hu := qXk hs h2 h1; have hd := qJp hs; rw [hu]; simp only [if_true]; rw [ih _ _ hk hd]; rfl
theorem qVp {name : Int} {cols : List Int} {keys idx : Int} {r : List Vl} {p : PX} (hv : ∀ v ∈ r, v.Ok) (h : qDn name cols keys idx r = some p) : qEu keys.toNat (ba p.k) (ba p.v) 0 cols 2 0 = some r := by
 obtain ⟨hg, _, rfl⟩ := qIe h; refine qTi keys.toNat _ _ cols r 0 2 0 hg.len hv hg.typed (fun j v hj hr => hg.bare j v (.inl (by omega)) hr) ?_ ?_
 ·rw [qDs]; rfl
 ·rw [qDs]; unfold pxOf qYt valL; rw [List.take_of_length_le (by rw [List.length_zip, hg.len]; omega)]
  rfl
end
end Go.Proofs.YtkinkgbmlhiakaaGreatDoor
