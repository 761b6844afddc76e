/- merged: RwB RwI RwO RwF RwG RwT RwH RwK RwV RwY RwZ RwP RdT -/
import Derived.Test.YtkinkgbmlhiakaaGreatDoorNd13
import Derived.Test.YtkinkgbmlhiakaaGreatDoorNd01
import Derived.Laws.Bits64
import Derived.Laws.Bits64b
import Derived.Test.YtkinkgbmlhiakaaGreatDoorNd02
import Derived.BigQuiet
import Derived.Test.YtkinkgbmlhiakaaGreatDoorNd04
import Derived.IntWalk
namespace Go.Proofs.YtkinkgbmlhiakaaGreatDoor
section
open Go Go.RowKit
theorem qUo {a : Nat} (h : a < 18446744073709551616) : a ^^^ 18446744073709551615 = 18446744073709551615 - a := by
 have := congrArg BitVec.toNat (BitVec.xor_allOnes (x := BitVec.ofNat 64 a)); rw [BitVec.toNat_xor, BitVec.toNat_not, BitVec.toNat_allOnes, BitVec.toNat_ofNat, Nat.mod_eq_of_lt h] at this; exact this
theorem qSo {l : Nat} (h : l < 9223372036854775808) : l ^^^ 9223372036854775808 = 9223372036854775808 + l := by
 rw [show (9223372036854775808 : Nat) = 2 ^ 63 from rfl] at h ⊢
 have e := Nat.two_pow_add_eq_or_of_lt h 1; rw [Nat.mul_one] at e; rw [e, Nat.or_comm]; apply Nat.eq_of_testBit_eq; intro i; rw [Nat.testBit_xor, Nat.testBit_or]; by_cases hi : i = 63
 ·subst hi; rw [Nat.testBit_lt_two_pow h]; simp
 ·rw [Nat.testBit_two_pow_of_ne (by omega)]
  simp
theorem qUn {l : Nat} (h : l < 9223372036854775808) : (9223372036854775808 + l) ^^^ 9223372036854775808 = l := by
 rw [<- qSo h, Nat.xor_assoc, Nat.xor_self, Nat.xor_zero]
theorem jGr {v : Int} (h0 : -9223372036854775808 <= v) (h1 : v <= 9223372036854775807) (a b : Int) (ha : a = (v * 2) % 18446744073709551616) (hb : b = if 0 <= v then 0 else 18446744073709551615) :
  bits .xor .u64 a b = (zz v : Int) := by
 obtain ⟨n, hn⟩ : ∃ n : Nat, a = (n : Int) := ⟨a.toNat, by omega⟩
 have hl : n < 18446744073709551616 := by omega
 unfold zz; by_cases h : 0 <= v
 ·rw [if_pos h] at hb; rw [if_pos h, hn, hb, show (0 : Int) = ((0 : Nat) : Int) from rfl, bits_xor_u64_nat _ _ hl (by decide), Nat.xor_zero]
  omega
 ·rw [if_neg h] at hb; rw [if_neg h, hn, hb, show (18446744073709551615 : Int) = ((18446744073709551615 : Nat) : Int) from rfl, bits_xor_u64_nat _ _ hl (by decide), qUo hl]
  omega
theorem jFp {v : Int} (h0 : -9223372036854775808 <= v) (h1 : v <= 9223372036854775807) (a : Int) (ha : a = v % 18446744073709551616) :
  bits .xor .u64 a 9223372036854775808 = (ordN v : Int) := by
 obtain ⟨n, hn⟩ : ∃ n : Nat, a = (n : Int) := ⟨a.toNat, by omega⟩
 have hl : n < 18446744073709551616 := by omega
 rw [hn, show (9223372036854775808 : Int) = ((9223372036854775808 : Nat) : Int) from rfl, bits_xor_u64_nat _ _ hl (by decide)]
 unfold ordN; by_cases h : 0 <= v
 ·rw [qSo (by omega)]
  omega
 ·obtain ⟨l, hl2⟩ : ∃ l, n = 9223372036854775808 + l := ⟨n - 9223372036854775808, by omega⟩
  rw [hl2, qUn (by omega)]
  omega
end
section
open Go Go.RowKit
def intL (v : Int) : List UInt8 := uvar (zz v)
theorem qWb {v : Int} (h0 : -9223372036854775808 <= v) (h1 : v <= 9223372036854775807) : (intL v).length <= 10 := qAs (jIl h0 h1)
set_option maxRecDepth 100000
theorem jJp (v : Int) (w : World) (h0 : -9223372036854775808 <= v) (h1 : v <= 9223372036854775807) : Calls Tryz.prog 61 #[.int .i64 v] w fun e w' => e = .returned (.string (ba (intL v))) /\ Mod (fun _ => False) w w' := by
 have HU := hid (qEm (zz v) w (jIl h0 h1)); go_enter Tryz.func61, Tryz.ntmps61
 go_wp2_with fail
 rw [jGr h0 h1 _ _ (by rw [IntKind.wrap_u64]; show wrap64 (v * 2) % 18446744073709551616 = _; unfold wrap64; omega) (by rw [IntKind.wrap_u64]; split <;> omega)]
 refine HU.out.mono ?_; rintro e w1 ⟨rfl, hm⟩; have HM := hid hm; clear hm; go_wp2_with fail
 go_ret; exact ⟨rfl, HM.out⟩
end
section
open Go Go.RowKit
def ordL (v : Int) : List UInt8 := be 8 (ordN v)
def ordC (U k : Nat) : List UInt8 := (be 8 U).take k ++ List.replicate (8 - k) 0
theorem jFr (U k : Nat) (hk : k <= 8) : (ordC U k).length = 8 := by
 unfold ordC; rw [List.length_append, List.length_take, qDz, List.length_replicate]; omega
theorem jFs (U k : Nat) (hk : k < 8) : (ordC U k)[k]? = some 0 := by
 unfold ordC; rw [List.getElem?_append_right (by rw [List.length_take, qDz]; omega), List.length_take, qDz, show k - min k 8 = 0 by omega, List.getElem?_replicate, if_pos (by omega)]
theorem jFq (U k : Nat) (hk : k < 8) : (ordC U k).set k (UInt8.ofNat (U / 256 ^ (7 - k) % 256)) = ordC U (k + 1) := by
 apply List.ext_getElem?; intro i; have hl : (ordC U k).length = 8 := jFr U k (by omega)
 rw [List.getElem?_set, hl]; unfold ordC; by_cases h1 : k = i
 ·subst h1; rw [if_pos rfl, if_pos hk, List.getElem?_append_left (by rw [List.length_take, qDz]; omega), List.getElem?_take, if_pos (by omega), jIg 8 U k hk]
 ·rw [if_neg h1]; by_cases h2 : i < k
  ·rw [List.getElem?_append_left (by rw [List.length_take, qDz]; omega), List.getElem?_append_left (by rw [List.length_take, qDz]; omega), List.getElem?_take, List.getElem?_take, if_pos h2, if_pos (by omega)]
  ·rw [List.getElem?_append_right (by rw [List.length_take, qDz]; omega), List.getElem?_append_right (by rw [List.length_take, qDz]; omega), List.length_take, List.length_take, qDz, List.getElem?_replicate, List.getElem?_replicate]
   by_cases h3 : i < 8
   ·rw [if_pos (by omega), if_pos (by omega)]
   ·rw [if_neg (by omega), if_neg (by omega)]
theorem jFt (U : Nat) : ordC U 8 = be 8 U := by
 unfold ordC; rw [List.take_of_length_le (by rw [qDz]; decide)]
 simp
theorem jBf (U : Nat) : Lib.byteCells (ordC U 0) = [.int .u8 0, .int .u8 0, .int .u8 0, .int .u8 0, .int .u8 0, .int .u8 0, .int .u8 0, .int .u8 0] := rfl
set_option maxRecDepth 100000
theorem qTi (v : Int) (w : World) (h0 : -9223372036854775808 <= v) (h1 : v <= 9223372036854775807) : Calls Tryz.prog 80 #[.int .i64 v] w fun e w' => e = .returned (.string (ba (ordL v))) /\ Mod (fun _ => False) w w' := by
 have e1 : bits .xor .u64 (IntKind.u64.wrap v) 9223372036854775808 = (ordN v : Int) := jFp h0 h1 _ (by rw [IntKind.wrap_u64])
 have hU := jBe h1; go_enter Tryz.func80, Tryz.ntmps80
 go_wp2_with fail
 clear e1; generalize hUU : ordN v = U at *; go_loopw [9] (fun c wr => ∃ k : Nat, k <= 8 /\ c = .int .i64 (k : Int) /\ wr.heap[w.heap.size]? = some (.cells (Lib.byteCells (ordC U k)).toArray 221 (0, 0)) /\ Mod (fun _ => False) w wr) (fun c _ => 8 - (intOf c).toNat)
 case atStart => exact ⟨0, by decide, rfl, by rw [jBf]; exact heap_alloc_new _ _, (Mod.refl _ _).alloc _⟩
 case round =>
  obtain ⟨k, hk, rfl, hrow, hm⟩ := hrel; have HRow := hid hrow; have HM := hid hm; by_cases hlt : k < 8
  ·have c0 : wr.cell? ⟨w.heap.size, k, none⟩ = some (.int .u8 0) := by
    rw [cell_of_row _ _ _ _ _ _ hrow]; simp [Lib.byteCells, jFs U k hlt]
   have f0 : wr.frozen? ⟨w.heap.size, k, none⟩ = false := frozen_of_row _ _ _ _ _ hrow; have s1 : IntKind.i64.wrap (8 * (k : Int)) = 8 * (k : Int) := by rw [IntKind.wrap_i64]; omega
   have s2 : IntKind.i64.wrap (56 - 8 * (k : Int)) = 56 - 8 * (k : Int) := by rw [IntKind.wrap_i64]; omega
   clear hrow hm; go_wp2_with fail
   have hv : ((U : Int) / 2 ^ (56 - 8 * k) % 256) = (((UInt8.ofNat (U / 256 ^ (7 - k) % 256)).toNat : Nat) : Int) := by
    rw [qDi _ (Nat.mod_lt _ (by decide)), show (256 : Nat) ^ (7 - k) = 2 ^ (56 - 8 * k) by rw [show (256 : Nat) = 2 ^ 8 from rfl, <- Nat.pow_mul, show 8 * (7 - k) = 56 - 8 * k by omega]]
    simp
   rw [hv]; go_roundw
   case rel =>
    refine ⟨k + 1, by omega, by go_num, ?_, HM.out.setCell (fun h => absurd h (Nat.lt_irrefl _)) _⟩
    rw [heap_setCell_same wr w.heap.size k _ 221 _ HRow.out, <- jFq U k hlt]; congr 3
    apply Array.ext'; simp [Lib.byteCells, List.map_set]
   case measure => simp [intOf]; omega
  ·have hke : k = 8 := by omega
   subst hke; rw [jFt] at hrow; have hcv : (convert 128 9 (.slice (some ⟨w.heap.size, 0, none⟩) 8 8)).run Tryz.prog wr = .ok (.string (ba (be 8 U))) wr := by
    have := run_convert_bytes_back (P := Tryz.prog) wr 128 9 5 ⟨w.heap.size, 0, none⟩ 8 (be 8 U) Tryz.underlying128 Tryz.underlying5 Tryz.underlying9 (fun j hj => by
     rw [Addr.add_lit, cell_of_row _ _ _ _ _ _ hrow]; simp [Lib.byteCells, hj])
    rwa [qDz] at this
   clear hrow hm; go_wp2_with fail
   go_ret; unfold ordL; rw [hUU]; exact ⟨rfl, HM.out⟩
end
section
open Go Go.RowKit
def qRw (k n : Int) (s : ByteArray) : List UInt8 := if k = 0 then ordL n else s.data.toList ++ [0]
def qDp (s : ByteArray) : Bool := !s.data.toList.contains 0
end
section
open Go Go.RowKit
theorem qMl (c : UInt8) : ∀ l : List UInt8, -1 <= Lib.indexByte l c /\ (0 <= Lib.indexByte l c ↔ c ∈ l)
 | [] => by simp [Lib.indexByte]
 | b :: l => by
  obtain ⟨h1, h2⟩ := qMl c l; unfold Lib.indexByte; by_cases hb : b = c
  ·subst hb; simp
  ·have e : (b == c) = false := by simpa using hb
   rw [e]; simp only [Bool.false_eq_true, if_false]; have hc : c ∈ b :: l ↔ c ∈ l := by simp [Ne.symm hb]
   rw [hc, <- h2]; by_cases hm : Lib.indexByte l c = -1
   ·rw [hm]; simp
   ·have e2 : (Lib.indexByte l c == -1) = false := by simpa using hm
    rw [e2]; simp only [Bool.false_eq_true, if_false]; omega
theorem qQh (s : ByteArray) : decide (0 <= Lib.indexByte s.data.toList 0) = !qDp s := by
 unfold qDp; rw [Bool.not_not]; by_cases h : (0 : UInt8) ∈ s.data.toList
 ·rw [decide_eq_true ((qMl 0 _).2.2 h), List.contains_iff_mem.2 h]
 ·have h2 : s.data.toList.contains 0 = false := by rw [<- Bool.not_eq_true, List.contains_iff_mem]; exact h
  rw [decide_eq_false (fun e => h ((qMl 0 _).2.1 e)), h2]
set_option maxRecDepth 100000
theorem jHg (n : Int) (s : ByteArray) (w : World) (h0 : -9223372036854775808 <= n) (h1 : n <= 9223372036854775807) :
  Calls Tryz.prog 39 #[.int .i64 0, .agg #[.int .i64 n, .string s]] w fun e w' => e = .returned (.tuple #[.string (ba (ordL n)), .bool s.toList.isEmpty]) /\ Mod (fun _ => False) w w' := by
 have hma : Mod (fun _ => False) w (w.alloc (.cells #[.int .i64 n, .string s] 46)) := (Mod.refl _ _).alloc _
 have hcb : (w.alloc (.cells #[.int .i64 n, .string s] 46)).heap[w.heap.size]? = some (.cells #[.int .i64 n, .string s] 46 (0, 0)) := heap_alloc_new _ _; have HM := hid hma; have HCb := hid hcb; have HO := hid (fun v => qTi n v h0 h1)
 clear hma hcb; go_enter Tryz.func39, Tryz.ntmps39
 go_wp2_with fail
 generalize w.alloc (.cells #[.int .i64 n, .string s] 46) = C at *; have g0 : ∀ x : Ext C, x.val.cell? ⟨w.heap.size, 0, none⟩ = some (.int .i64 n) := fun x => by rw [cell_of_row _ _ _ _ _ _ (x.heap HCb.out)]; rfl
 have g1 : ∀ x : Ext C, x.val.cell? ⟨w.heap.size, 1, none⟩ = some (.string s) := fun x => by rw [cell_of_row _ _ _ _ _ _ (x.heap HCb.out)]; rfl
 have HK := hid (fun x : Ext C => HO.out x.val)
 refine qAm (by kernel_rfl) (by kernel_rfl) ?_
 repeat (go_big_quiet_step ((go_at_call 80; exact qBe (HK.out _))))
 refine wpQuiet_nil ?_; rintro _ ⟨x, rfl⟩; go_wp2_with fail
 go_ret2; exact ⟨rfl, HM.out.trans x.mod⟩
theorem jCr (k n : Int) (s : ByteArray) (w : World) (hk : k ≠ 0) (hs : s.size <= 140737488351232) :
  Calls Tryz.prog 39 #[.int .i64 k, .agg #[.int .i64 n, .string s]] w fun e w' => e = .returned (.tuple #[.string (ba (s.data.toList ++ [0])), .bool (n == 0 && qDp s)]) /\ Mod (fun _ => False) w w' := by
 have hma : Mod (fun _ => False) w (w.alloc (.cells #[.int .i64 n, .string s] 46)) := (Mod.refl _ _).alloc _
 have hcb : (w.alloc (.cells #[.int .i64 n, .string s] 46)).heap[w.heap.size]? = some (.cells #[.int .i64 n, .string s] 46 (0, 0)) := heap_alloc_new _ _; have HM := hid hma; have HCb := hid hcb; have HCt : Hid (∀ v : World, Calls Tryz.prog 81 #[.string s, .string ⟨#[0]⟩] v fun e w' => e = .returned (.bool (!qDp s)) /\ Mod (fun _ => False) v w') := hid (fun v => by
  have h := Tryz.strings_Contains_one s 0 v; rw [qQh] at h; refine h.mono ?_; rintro e w' ⟨rfl, rfl⟩; exact ⟨rfl, Mod.refl _ _⟩)
 have HE : Hid (s ++ (⟨#[0]⟩ : ByteArray) = ba (s.data.toList ++ [0])) := hid (by rw [<- qBf, qUi]; rfl)
 have e0 : (k == 0) = false := by simpa using hk
 clear hma hcb hk; by_cases hn : n = 0
 ·subst hn; generalize qDp s = bp at *; go_enter Tryz.func39, Tryz.ntmps39
  go_wp2_with fail
  generalize w.alloc (.cells #[.int .i64 0, .string s] 46) = C at *; have g0 : ∀ x : Ext C, x.val.cell? ⟨w.heap.size, 0, none⟩ = some (.int .i64 0) := fun x => by rw [cell_of_row _ _ _ _ _ _ (x.heap HCb.out)]; rfl
  have g1 : ∀ x : Ext C, x.val.cell? ⟨w.heap.size, 1, none⟩ = some (.string s) := fun x => by rw [cell_of_row _ _ _ _ _ _ (x.heap HCb.out)]; rfl
  have HK := hid (fun x : Ext C => HCt.out x.val)
  refine qAm (by kernel_rfl) (by kernel_rfl) ?_
  repeat (go_big_quiet_step ((go_at_call 81; exact qBe (HK.out _))))
  refine wpQuiet_nil ?_; rintro _ ⟨x, rfl⟩; go_wp2_with fail
  go_ret2; rw [<- HE.out]; exact ⟨by cases bp <;> rfl, HM.out.trans x.mod⟩
 ·have e1 : (n == 0) = false := by simpa using hn
  clear hn; go_enter Tryz.func39, Tryz.ntmps39
  go_wp2_with fail
  generalize w.alloc (.cells #[.int .i64 n, .string s] 46) = C at *; have g0 : ∀ x : Ext C, x.val.cell? ⟨w.heap.size, 0, none⟩ = some (.int .i64 n) := fun x => by rw [cell_of_row _ _ _ _ _ _ (x.heap HCb.out)]; rfl
  have g1 : ∀ x : Ext C, x.val.cell? ⟨w.heap.size, 1, none⟩ = some (.string s) := fun x => by rw [cell_of_row _ _ _ _ _ _ (x.heap HCb.out)]; rfl
  refine qAm (by kernel_rfl) (by kernel_rfl) ?_
  repeat (go_big_quiet_step ((fail)))
  refine wpQuiet_nil ?_; rintro _ ⟨x, rfl⟩; go_wp2_with fail
  go_ret2; rw [<- HE.out, e1]; exact ⟨rfl, HM.out.trans x.mod⟩
end
section
open Go Go.RowKit
def fitC (name : Int) (n : Nat) (keys idx : Int) : Bool := decide (97 <= name) && (decide (name <= 122) && (decide (1 <= keys) && (decide (keys <= (n : Int)) && (decide (-1 <= idx) && decide (idx < (n : Int))))))
def qFd (k : Int) : Prop := k = 0 \/ k = 1
instance (k : Int) : Decidable (qFd k) := inferInstanceAs (Decidable (k = 0 \/ k = 1))
noncomputable def qJj (name : Int) (cols : List Int) (keys idx : Int) : Bool := open Classical in if ∀ k ∈ cols, qFd k then fitC name cols.length keys idx else false
def oneI (k : Int) : List Value := [.int .i64 k]
theorem oneI_len (k : Int) : (oneI k).length = 1 := rfl
end
section
open Go Go.RowKit
set_option maxRecDepth 100000
theorem jKk (k : Int) (w : World) : Calls Tryz.prog 76 #[.int .i64 k] w fun e w' => e = .returned (.bool (decide (¬ qFd k))) /\ w = w' := by
 by_cases h0 : k < 0
 ·have d0 : decide (k < 0) = true := by simpa using h0
  have HV : Hid (decide (¬ qFd k) = true) := hid (decide_eq_true (by unfold qFd; omega))
  clear h0; go_enter Tryz.func76, Tryz.ntmps76
  go_wp2
  go_ret; rw [HV.out]; exact ⟨rfl, rfl⟩
 ·have d0 : decide (k < 0) = false := by simpa using h0
  by_cases h1 : 1 < k
  ·have d1 : decide (1 < k) = true := by simpa using h1
   have HV : Hid (decide (¬ qFd k) = true) := hid (decide_eq_true (by unfold qFd; omega))
   clear h0 h1; go_enter Tryz.func76, Tryz.ntmps76
   go_wp2
   go_ret; rw [HV.out]; exact ⟨rfl, rfl⟩
  ·have d1 : decide (1 < k) = false := by simpa using h1
   have HV : Hid (decide (¬ qFd k) = false) := hid (decide_eq_false (by unfold qFd; omega))
   clear h0 h1; go_enter Tryz.func76, Tryz.ntmps76
   go_wp2
   go_ret; rw [HV.out]; exact ⟨rfl, rfl⟩
theorem jJt {w : World} {ca : Option Addr} {cols : List Int} (cc : Nat) (hl : Lies w 1 oneI ca cols) (hn : cols.length <= 140737488351232) :
  Calls Tryz.prog 116 #[.slice ca cols.length cc, .func (.func 76) #[] #[]] w fun e w' => (∃ r : Int, e = .returned (.int .i64 r) /\ (0 <= r ↔ ¬ ∀ k ∈ cols, qFd k)) /\ w = w' := by
 have HL := hid hl; clear hl; go_enter Tryz.func116, Tryz.ntmps116
 go_wp2
 go_loop [8] (fun c => ∃ k : Nat, k <= cols.length /\ c = .int .i64 k /\ ∀ j x, j < k -> cols[j]? = some x -> qFd x) (fun c => cols.length - (intOf c).toNat)
 case atStart => exact ⟨0, Nat.zero_le _, rfl, fun j x h => by omega⟩
 case round =>
  obtain ⟨k, hk, rfl, hb⟩ := hrel; have HB := hid hb; clear hb; by_cases hlt : k < cols.length
  ·obtain ⟨x, hx⟩ : ∃ x, cols[k]? = some x := ⟨_, List.getElem?_eq_getElem hlt⟩; have HX := hid hx; obtain ⟨g, off, rfl⟩ := HL.out.some (by omega)
   have q0 := HL.out.cell oneI_len hx (j := 0) rfl; rw [Nat.add_zero, Nat.mul_one] at q0; have HC := hid (jKk x w); clear hx; by_cases hx1 : qFd x
   ·rw [decide_eq_false (fun h => h hx1)] at HC
    have HK := hid hx1; clear hx1; go_wp2_with fail
    refine HC.out.mono ?_; rintro e w1 ⟨rfl, rfl⟩; go_wp2_with fail
    go_round
    case rel =>
     refine ⟨k + 1, by omega, by go_num, fun j y hj hy => ?_⟩
     by_cases hjk : j = k
     ·subst hjk; rw [HX.out] at hy; cases hy
      exact HK.out
     ·exact HB.out j y (by omega) hy
    case measure => simp [intOf]; omega
   ·rw [decide_eq_true hx1] at HC; have HK := hid hx1; clear hx1; go_wp2_with fail
    refine HC.out.mono ?_; rintro e w1 ⟨rfl, rfl⟩; go_wp2_with fail
    go_ret; exact ⟨⟨_, rfl, ⟨fun _ h => HK.out (h x (List.mem_of_getElem? HX.out)), fun _ => by omega⟩⟩, rfl⟩
  ·have hke : k = cols.length := by omega
   subst hke; go_wp2_with fail
   go_ret; have HAll : Hid (∀ x ∈ cols, qFd x) := hid (fun x hx => by
    obtain ⟨i, hi⟩ := List.getElem?_of_mem hx; exact HB.out i x (List.getElem?_eq_some_iff.1 hi).1 hi)
   refine ⟨⟨_, rfl, ⟨fun h => by omega, fun h => ?_⟩⟩, rfl⟩
   obtain ⟨x, hx, hk⟩ : ∃ x, x ∈ cols /\ ¬ qFd x := by simpa using h
   exact absurd (HAll.out x hx) hk
theorem jKh {w : World} {ca : Option Addr} {cols : List Int} (cc : Nat) (hl : Lies w 1 oneI ca cols) (hn : cols.length <= 140737488351232) :
  Calls Tryz.prog 75 #[.slice ca cols.length cc, .func (.func 76) #[] #[]] w fun e w' => e = .returned (.bool (decide (¬ ∀ k ∈ cols, qFd k))) /\ w = w' := by
 have HI := hid (jJt cc hl hn); clear hl; go_enter Tryz.func75, Tryz.ntmps75
 go_wp2_with fail
 refine HI.out.mono ?_; rintro e w1 ⟨⟨r, rfl, hr⟩, rfl⟩; have HV : Hid (decide (0 <= r) = decide (¬ ∀ k ∈ cols, qFd k)) := hid (decide_eq_decide.2 hr); clear hr; go_wp2_with fail
 go_ret; rw [HV.out]; exact ⟨rfl, rfl⟩
end
section
open Go Go.RowKit
theorem jHj (name : Int) (cols : List Int) (keys idx : Int) : qJj name cols keys idx = (fitC name cols.length keys idx && decide (∀ k ∈ cols, qFd k)) := by
 unfold qJj; by_cases h : ∀ k ∈ cols, qFd k
 ·rw [if_pos h, decide_eq_true h, Bool.and_true]
 ·rw [if_neg h, decide_eq_false h, Bool.and_false]
set_option maxRecDepth 100000
set_option maxHeartbeats 2000000 in
theorem qLq {w : World} {ca : Option Addr} {cols : List Int} (name keys idx : Int) (cc : Nat) (hl : Lies w 1 oneI ca cols) (hn : cols.length <= 140737488351232) :
  Calls Tryz.prog 37 #[.agg #[.int .u8 name, .slice ca cols.length cc, .int .i64 keys, .int .i64 idx]] w fun e w' => e = .returned (.bool (qJj name cols keys idx)) /\ Mod (fun _ => False) w w' := by
 have hma : Mod (fun _ => False) w (w.alloc (.cells #[.int .u8 name, .slice ca cols.length cc, .int .i64 keys, .int .i64 idx] 24)) := (Mod.refl _ _).alloc _
 have HM := hid hma; have HC := hid (jKh cc (hl.ext hma) hn); have HF := hid (jHj name cols keys idx); clear hma hl; by_cases h0 : 97 <= name
 case neg =>
  have d0 : decide (97 <= name) = false := by simpa using h0
  have HV : Hid (fitC name cols.length keys idx = false) := hid (by simp [fitC, *])
  clear h0; go_enter Tryz.func37, Tryz.ntmps37
  go_wp2_with fail
  go_ret; rw [HF.out, HV.out]; exact ⟨rfl, HM.out⟩
 have d0 : decide (97 <= name) = true := by simpa using h0
 by_cases h1 : name <= 122
 case neg =>
  have d1 : decide (name <= 122) = false := by simpa using h1
  have HV : Hid (fitC name cols.length keys idx = false) := hid (by simp [fitC, *])
  clear h0 h1; go_enter Tryz.func37, Tryz.ntmps37
  go_wp2_with fail
  go_ret; rw [HF.out, HV.out]; exact ⟨rfl, HM.out⟩
 have d1 : decide (name <= 122) = true := by simpa using h1
 by_cases h2 : 1 <= keys
 case neg =>
  have d2 : decide (1 <= keys) = false := by simpa using h2
  have HV : Hid (fitC name cols.length keys idx = false) := hid (by simp [fitC, *])
  clear h0 h1 h2; go_enter Tryz.func37, Tryz.ntmps37
  go_wp2_with fail
  go_ret; rw [HF.out, HV.out]; exact ⟨rfl, HM.out⟩
 have d2 : decide (1 <= keys) = true := by simpa using h2
 by_cases h3 : keys <= (cols.length : Int)
 case neg =>
  have d3 : decide (keys <= (cols.length : Int)) = false := by simpa using h3
  have HV : Hid (fitC name cols.length keys idx = false) := hid (by simp [fitC, *])
  clear h0 h1 h2 h3; go_enter Tryz.func37, Tryz.ntmps37
  go_wp2_with fail
  go_ret; rw [HF.out, HV.out]; exact ⟨rfl, HM.out⟩
 have d3 : decide (keys <= (cols.length : Int)) = true := by simpa using h3
 by_cases h4 : -1 <= idx
 case neg =>
  have d4 : decide (-1 <= idx) = false := by simpa using h4
  have HV : Hid (fitC name cols.length keys idx = false) := hid (by simp [fitC, *])
  clear h0 h1 h2 h3 h4; go_enter Tryz.func37, Tryz.ntmps37
  go_wp2_with fail
  go_ret; rw [HF.out, HV.out]; exact ⟨rfl, HM.out⟩
 have d4 : decide (-1 <= idx) = true := by simpa using h4
 by_cases h5 : idx < (cols.length : Int)
 case neg =>
  have d5 : decide (idx < (cols.length : Int)) = false := by simpa using h5
  have HV : Hid (fitC name cols.length keys idx = false) := hid (by simp [fitC, *])
  clear h0 h1 h2 h3 h4 h5; go_enter Tryz.func37, Tryz.ntmps37
  go_wp2_with fail
  go_ret; rw [HF.out, HV.out]; exact ⟨rfl, HM.out⟩
 have d5 : decide (idx < (cols.length : Int)) = true := by simpa using h5
 have HV : Hid (fitC name cols.length keys idx = true) := hid (by simp [fitC, *])
 clear h0 h1 h2 h3 h4 h5; have HD : Hid (decide (¬ ∀ k ∈ cols, qFd k) = !decide (∀ k ∈ cols, qFd k)) := hid decide_not; rw [HD.out] at HC; generalize decide (∀ k ∈ cols, qFd k) = z at *; go_enter Tryz.func37, Tryz.ntmps37
 go_wp2_with fail
 refine HC.out.mono ?_; rintro e w1 ⟨rfl, rfl⟩; go_wp2_with fail
 go_ret; rw [HF.out, HV.out]; exact ⟨by cases z <;> rfl, HM.out⟩
end
section
open Go Go.RowKit
structure Vl where
 n : Int
 s : ByteArray
def Vl.cs (v : Vl) : List Value := [.int .i64 v.n, .string v.s]
theorem qEl (v : Vl) : v.cs.length = 2 := rfl
structure Vl.Ok (v : Vl) : Prop where
 n0 : -9223372036854775808 <= v.n
 n1 : v.n <= 9223372036854775807
 s : v.s.size <= 140737488351232
def qMn (k : Int) (v : Vl) : Bool := if k = 0 then v.s.toList.isEmpty else (v.n == 0 && qDp v.s)
def qDn (k : Int) (v : Vl) : List UInt8 := qRw k v.n v.s
theorem qQa (k : Int) (v : Vl) (w : World) (hv : v.Ok) :
  Calls Tryz.prog 39 #[.int .i64 k, .agg #[.int .i64 v.n, .string v.s]] w fun e w' => e = .returned (.tuple #[.string (ba (qDn k v)), .bool (qMn k v)]) /\ Mod (fun _ => False) w w' := by
 unfold qDn qRw qMn; by_cases hk : k = 0
 ·subst hk; rw [if_pos rfl, if_pos rfl]; exact jHg v.n v.s w hv.n0 hv.n1
 ·rw [if_neg hk, if_neg hk]; exact jCr k v.n v.s w hk hv.s
def qEb (cols : List Int) (r : List Vl) (k : Nat) : List UInt8 := ((cols.zip r).take k).flatMap fun p => qDn p.1 p.2
theorem qYi {cols : List Int} {r : List Vl} {k : Nat} {c : Int} {v : Vl} (hc : cols[k]? = some c) (hv : r[k]? = some v) : qEb cols r (k + 1) = qEb cols r k ++ qDn c v := by
 unfold qEb; have h : (cols.zip r)[k]? = some (c, v) := by rw [List.getElem?_zip_eq_some]; exact ⟨hc, hv⟩
 have hl := (List.getElem?_eq_some_iff.1 h).1; rw [List.take_succ_eq_append_getElem hl, List.flatMap_append, (List.getElem?_eq_some_iff.1 h).2]; simp
end
section
open Go Go.RowKit
theorem qXt {w : World} {b : Nat} {v0 v1 v2 v3 : Value} {T : TypeId} (h : w.heap[b]? = some (.cells #[v0, v1, v2, v3] T (0, 0))) : w.cell? ⟨b, 0, none⟩ = some v0 /\ w.cell? ⟨b, 1, none⟩ = some v1 :=
 ⟨by rw [cell_of_row _ _ _ _ _ _ h]; rfl, by rw [cell_of_row _ _ _ _ _ _ h]; rfl⟩
def FitK (cols : List Int) (r : List Vl) (k : Nat) : Prop := ∀ j c v, j < k -> cols[j]? = some c -> r[j]? = some v -> qMn c v = true
set_option maxRecDepth 100000
set_option maxHeartbeats 2000000 in
theorem jGk {w : World} {ca ra : Option Addr} {cols : List Int} {r : List Vl} (name idx : Int) (keys cc rc : Nat) (hl : Lies w 1 oneI ca cols) (hr : Lies w 2 Vl.cs ra r) (hlen : r.length = cols.length) (hk : keys <= cols.length) (hn : cols.length <= 140737488351232) (hv : ∀ v ∈ r, v.Ok) (hsz : ∀ k, (qEb cols r k).length <= 2305843009213693952) :
  Calls Tryz.prog 60 #[.agg #[.int .u8 name, .slice ca cols.length cc, .int .i64 (keys : Int), .int .i64 idx], .slice ra r.length rc] w fun e w' =>
   ((FitK cols r keys /\ e = .returned (.tuple #[.string (ba (qEb cols r keys)), .bool true])) \/ (¬ FitK cols r keys /\ e = .returned (.tuple #[.string ⟨#[]⟩, .bool false]))) /\ Mod (fun _ => False) w w' := by
 have hma : Mod (fun _ => False) w (w.alloc (.cells #[.int .u8 name, .slice ca cols.length cc, .int .i64 (keys : Int), .int .i64 idx] 24)) := (Mod.refl _ _).alloc _
 have hcb : (w.alloc (.cells #[.int .u8 name, .slice ca cols.length cc, .int .i64 (keys : Int), .int .i64 idx] 24)).heap[w.heap.size]? = some (.cells #[.int .u8 name, .slice ca cols.length cc, .int .i64 (keys : Int), .int .i64 idx] 24 (0, 0)) := heap_alloc_new _ _; have HM := hid hma; have HCb := hid hcb; have HL := hid (hl.ext hma); have HR := hid (hr.ext hma); have HV := hid hv; have HS := hid hsz; have HLen := hid hlen; clear hma hcb hl hr hv hsz hlen; go_enter Tryz.func60, Tryz.ntmps60
 go_wp2_with fail
 obtain ⟨C, hC⟩ : ∃ C, w.alloc (.cells #[.int .u8 name, .slice ca cols.length cc, .int .i64 (keys : Int), .int .i64 idx] 24) = C := ⟨_, rfl⟩; rw [hC] at HM HCb HL HR; go_loopw [6, 12] (fun s c wr => ∃ k : Nat, k <= keys /\ c = .int .i64 (k : Int) /\ s = .string (ba (qEb cols r k)) /\ FitK cols r k /\ Mod (fun _ => False) C wr) (fun _ c _ => keys - (intOf c).toNat)
 case atStart => exact ⟨0, Nat.zero_le _, rfl, rfl, (fun j c v h => by omega), by rw [hC]; exact Mod.refl _ _⟩
 case round =>
  obtain ⟨k, hkk, rfl, rfl, hf, hm⟩ := hrel; have HF := hid hf; have HMr := hid hm; clear hf hm; by_cases hlt : k < keys
  ·obtain ⟨c, hc⟩ : ∃ c, cols[k]? = some c := ⟨_, List.getElem?_eq_getElem (by omega)⟩
   obtain ⟨v, hvv⟩ : ∃ v, r[k]? = some v := ⟨_, List.getElem?_eq_getElem (by rw [HLen.out]; omega)⟩
   have hkr : k < r.length := by rw [HLen.out]; omega
   have HSu := hid (qYi hc hvv); have HStep : Hid (qMn c v = true -> FitK cols r (k + 1)) := hid (fun ht j c' v' hj h1 h2 => by
    by_cases hjk : j = k
    ·subst hjk; rw [hc] at h1; rw [hvv] at h2; cases h1
     cases h2
     exact ht
    ·exact HF.out j c' v' (by omega) h1 h2)
   have HBad : Hid (qMn c v = false -> ¬ FitK cols r keys) := hid (fun ht h => by have := h k c v hlt hc hvv; rw [ht] at this; cases this)
   have hlc := HL.out.ext HMr.out; have hrc := HR.out.ext HMr.out; have HVo := hid (HV.out v (List.mem_of_getElem? hvv)); have HSz := hid (HS.out k); have HSz2 := hid (HS.out (k + 1)); obtain ⟨g, off, rfl⟩ := hlc.some (by omega)
   obtain ⟨g2, off2, rfl⟩ := hrc.some (by omega)
   have q0 := hlc.cell oneI_len hc (j := 0) rfl; have p0 := hrc.cell qEl hvv (j := 0) rfl; have p1 := hrc.cell qEl hvv (j := 1) rfl; rw [Nat.add_zero, Nat.mul_one] at q0; rw [Nat.add_zero] at p0; have b1 : wr.cell? ⟨w.heap.size, 1, none⟩ = some (.slice (some ⟨g, off, none⟩) cols.length cc) := (qXt ((HMr.out.block _ (lth HCb.out) (fun h => h)).trans HCb.out)).2
   have g0 := fun x : Ext wr => x.cell q0
   have g1 := fun x : Ext wr => x.cell p0
   have g2' := fun x : Ext wr => x.cell p1
   have g3 := fun x : Ext wr => x.cell b1
   have HK := hid (fun x : Ext wr => qQa c v x.val HVo.out)
   have s0 : (ba (qEb cols r k)).size <= 2305843009213693952 := by rw [qAf]; exact HSz.out
   have s1 : (ba (qDn c v)).size <= 2305843009213693952 := by
    have := HSz2.out; rw [HSu.out, List.length_append] at this; rw [qAf]; omega
   have HBa : Hid (ba (qEb cols r k) ++ ba (qDn c v) = ba (qEb cols r (k + 1))) := hid (by rw [HSu.out, qBf])
   obtain ⟨n, t⟩ := v; simp only at p0 p1 g1 g2' HK; generalize qDn c ⟨n, t⟩ = fm at *; generalize qMn c ⟨n, t⟩ = ft at *; clear hlc hrc hc hvv q0 p0 p1 b1; go_wp2_with fail
   refine qAm (by kernel_rfl) (by kernel_rfl) ?_
   repeat (go_big_quiet_step ((go_at_call 39; exact qBe (HK.out _))))
   refine wpQuiet_nil ?_; rintro _ ⟨x, rfl⟩; clear g0 g1 g2' g3; cases ft with
   | false =>
    go_wp2_with fail
    go_ret2; exact ⟨.inr ⟨HBad.out (by trivial), rfl⟩, HM.out.trans (HMr.out.trans x.mod)⟩
   | true =>
    go_wp2_with fail
    go_roundw
    case rel => exact ⟨k + 1, by omega, by go_num, by rw [HBa.out], HStep.out (by trivial), HMr.out.trans x.mod⟩
    case measure => simp [intOf]; omega
  ·have hke : k = keys := by omega
   subst hke; go_wp2_with fail
   go_ret2; exact ⟨.inl ⟨HF.out, rfl⟩, HM.out.trans HMr.out⟩
end
section
open Go Go.RowKit
def qAe (name : Nat) (b : UInt8) : List UInt8 := [UInt8.ofNat name, b]
end
section
open Go Go.RowKit
def qKf (k : Int) (v : Vl) : List UInt8 := if k = 0 then intL v.n else qCq v.s
def valL (cols : List Int) (r : List Vl) (keys j : Nat) : List UInt8 := (((cols.zip r).take j).drop keys).flatMap fun p => qKf p.1 p.2
theorem qIr (cols : List Int) (r : List Vl) {keys j : Nat} (h : j <= keys) : valL cols r keys j = [] := by
 unfold valL; rw [List.drop_of_length_le (by rw [List.length_take]; omega)]
 rfl
theorem qZn {cols : List Int} {r : List Vl} {keys k : Nat} {c : Int} {v : Vl} (h : keys <= k) (hc : cols[k]? = some c) (hv : r[k]? = some v) : valL cols r keys (k + 1) = valL cols r keys k ++ qKf c v := by
 unfold valL; have h' : (cols.zip r)[k]? = some (c, v) := by rw [List.getElem?_zip_eq_some]; exact ⟨hc, hv⟩
 have hl := (List.getElem?_eq_some_iff.1 h').1; rw [List.take_succ_eq_append_getElem hl, List.drop_append_of_le_length (by rw [List.length_take]; omega), List.flatMap_append, (List.getElem?_eq_some_iff.1 h').2]
 simp
def qDe (k : Int) (v : Vl) : Bool := if k = 0 then v.s.toList.isEmpty else (v.n == 0)
theorem qYz {s : ByteArray} (h : s.toList.isEmpty = true) : qDp s = true := by
 unfold qDp; rw [ByteArray.toList_eq, List.isEmpty_iff] at h; rw [h]; rfl
theorem qKp {k : Int} {v : Vl} (h : qDe k v = true) : qMn k v = qDp v.s := by
 unfold qDe at h; unfold qMn; by_cases hk : k = 0
 ·rw [if_pos hk] at h ⊢; rw [h, qYz h]
 ·rw [if_neg hk] at h ⊢; rw [h, Bool.true_and]
structure Good (name : Int) (cols : List Int) (keys idx : Int) (r : List Vl) : Prop where
 fit : qJj name cols keys idx = true
 len : r.length = cols.length
 typed : ∀ (j : Nat) c v, cols[j]? = some c -> r[j]? = some v -> qDe c v = true
 bare : ∀ (j : Nat) v, ((j : Int) < keys \/ (j : Int) = idx) -> r[j]? = some v -> qDp v.s = true
def idxL (cols : List Int) (r : List Vl) (idx : Int) : List UInt8 := qDn (cols.getD idx.toNat 0) (r.getD idx.toNat ⟨0, ⟨#[]⟩⟩)
def qGe (name : Int) (cols : List Int) (keys : Int) (r : List Vl) : List UInt8 := qAe name.toNat 0 ++ qEb cols r keys.toNat
def qXx (cols : List Int) (keys : Int) (r : List Vl) : List UInt8 := valL cols r keys.toNat cols.length
def pxL (name : Int) (cols : List Int) (keys idx : Int) (r : List Vl) : List UInt8 := if 0 <= idx then qAe name.toNat 1 ++ idxL cols r idx ++ qEb cols r keys.toNat else []
structure PX where
 k : List UInt8
 v : List UInt8
 x : List UInt8
def qFj (p : PX) : Prop := p.k.length <= 48 /\ p.x.length <= 48 /\ p.v.length <= 200
instance (p : PX) : Decidable (qFj p) := inferInstanceAs (Decidable (_ /\ _ /\ _))
def pxOf (name : Int) (cols : List Int) (keys idx : Int) (r : List Vl) : PX := ⟨qGe name cols keys r, qXx cols keys r, pxL name cols keys idx r⟩
noncomputable def qBt (name : Int) (cols : List Int) (keys idx : Int) (r : List Vl) : Option PX :=
 open Classical in if Good name cols keys idx r /\ qFj (pxOf name cols keys idx r) then some (pxOf name cols keys idx r) else none
theorem qEe {name : Int} {cols : List Int} {keys idx : Int} {r : List Vl} (h : ¬ Good name cols keys idx r) : qBt name cols keys idx r = none := by
 unfold qBt; rw [if_neg (fun h' => h h'.1)]
theorem qNy {name : Int} {cols : List Int} {keys idx : Int} {r : List Vl} (h : ¬ qFj (pxOf name cols keys idx r)) : qBt name cols keys idx r = none := by
 unfold qBt; rw [if_neg (fun h' => h h'.2)]
theorem qHk {name : Int} {cols : List Int} {keys idx : Int} {r : List Vl} (h : Good name cols keys idx r) (h2 : qFj (pxOf name cols keys idx r)) : qBt name cols keys idx r = some (pxOf name cols keys idx r) := by
 unfold qBt; rw [if_pos ⟨h, h2⟩]
theorem qGr {name : Int} {cols : List Int} {keys idx : Int} {r : List Vl} {p : PX} (h : qBt name cols keys idx r = some p) : Good name cols keys idx r /\ qFj p /\ p = pxOf name cols keys idx r := by
 unfold qBt at h; split at h
 ·next h' => cases h; exact ⟨h'.1, h'.2, rfl⟩
 ·cases h
theorem qJl {name : Int} {cols : List Int} {keys idx : Int} (h : qJj name cols keys idx = true) : (∀ k ∈ cols, qFd k) /\ 97 <= name /\ name <= 122 /\ 1 <= keys /\ keys <= (cols.length : Int) /\ -1 <= idx /\ idx < (cols.length : Int) := by
 unfold qJj at h; split at h
 ·next hk =>
  refine ⟨hk, ?_⟩; unfold fitC at h; simp only [Bool.and_eq_true, decide_eq_true_eq] at h; exact h
 ·cases h
end
section
open Go Go.RowKit
structure RT where
 t : ByteArray
 n : Nat
 e : Nat
def rtOf (s : ByteArray) (at' : Nat) (x : RU) : RT :=
 if x.e = 0 then (if s.size < at' + x.n + x.v then ⟨⟨#[]⟩, 0, 20⟩ else ⟨s.extract (at' + x.n) (at' + x.n + x.v), at' + x.n + x.v, 0⟩) else ⟨⟨#[]⟩, 0, x.e⟩
def rdT (s : ByteArray) (at' : Nat) : RT := rtOf s at' (rdU 0 (s.data.toList.drop at'))
def rtV (x : RT) : Value := .tuple #[.string x.t, .int .i64 (x.n : Int), .int .i64 (x.e : Int)]
theorem jLj (s : ByteArray) (at' : Nat) (he : (rdU 0 (s.data.toList.drop at')).e = 0) : at' + (rdU 0 (s.data.toList.drop at')).n <= s.size /\ 1 <= (rdU 0 (s.data.toList.drop at')).n /\ (rdU 0 (s.data.toList.drop at')).v < 18446744073709551616 := by
 obtain ⟨h1, h2, _, h4⟩ := qGo (s.data.toList.drop at') 0; have h3 := h2 he; have h5 := h4 (by omega)
 rw [Nat.pow_zero, Nat.mul_one] at h5; have h6 : qFo = 18446744073709551616 := by decide
 rw [List.length_drop, Array.length_toList] at h1; have h7 : s.data.size = s.size := rfl; omega
set_option maxRecDepth 100000
set_option maxHeartbeats 2000000 in
theorem qRh (s : ByteArray) (at' : Nat) (w : World) (hs : s.size <= maxLen) : Calls Tryz.prog 94 #[.string s, .int .i64 (at' : Int)] w fun e w' => e = .returned (rtV (rdT s at')) /\ w = w' := by
 have HU := hid (qFg s at' w hs); unfold rdT; unfold maxLen at hs; have hin := jLj s at'; generalize rdU 0 (s.data.toList.drop at') = x at *; obtain ⟨v, n, er⟩ := x; by_cases he : er = 0
 ·subst he; obtain ⟨h1, h2, h3⟩ := hin rfl; simp only at h1 h2 h3; clear hin; have hv : ruV at' ⟨v, n, 0⟩ = .tuple #[.int .u64 (v : Int), .int .i64 ((at' + n : Nat) : Int), .int .i64 0] := by unfold ruV; simp
  have hr : rtOf s at' ⟨v, n, 0⟩ = if s.size < at' + n + v then ⟨⟨#[]⟩, 0, 20⟩ else ⟨s.extract (at' + n) (at' + n + v), at' + n + v, 0⟩ := rfl
  rw [hv] at HU; rw [hr]; clear hv hr; generalize at' + n = m at *; have hwr : IntKind.u64.wrap ((s.size : Int) - (m : Int)) = (s.size : Int) - (m : Int) := by rw [IntKind.wrap_u64]; omega
  by_cases hbig : s.size < m + v
  ·have d : decide ((s.size : Int) - (m : Int) < (v : Int)) = true := by rw [decide_eq_true_iff]; omega
   rw [if_pos hbig]; go_enter Tryz.func94, Tryz.ntmps94
   go_wp2_with fail
   refine HU.out.mono ?_; rintro e w' ⟨rfl, rfl⟩; go_wp2_with fail
   exact bodyPost_ret (v := .tuple #[.string ⟨#[]⟩, .int .i64 0, .int .i64 20]) (by simp [results, Tryz.results94, go_sem]) rfl ⟨rfl, rfl⟩
  ·have d : decide ((s.size : Int) - (m : Int) < (v : Int)) = false := by rw [decide_eq_false_iff_not]; omega
   have hv2 : IntKind.i64.wrap (v : Int) = (v : Int) := IntWalk.i64_in _ (by omega)
   have hsl : ∀ w : World, (Instr.slice 9 (.string s) (some (.int .i64 (m : Int))) (some (.int .i64 ((m : Int) + (v : Int)))) none).run Tryz.prog w = .ok (.string (s.extract m (m + v))) w := fun w => by
    have := run_slice_string (P := Tryz.prog) w 9 s .i64 .i64 (m : Int) ((m : Int) + (v : Int)) Tryz.underlying9 (by omega) (by omega) (by omega)
    rw [show ((m : Int) + (v : Int)).toNat = m + v by omega, show ((m : Int)).toNat = m by omega] at this
    exact this
   have e5 : ((m + v : Nat) : Int) = (m : Int) + (v : Int) := by omega
   have HE5 := hid e5; clear e5; rw [if_neg hbig]; go_enter Tryz.func94, Tryz.ntmps94
   go_wp2_with fail
   refine HU.out.mono ?_; rintro e w' ⟨rfl, rfl⟩; go_wp2_with fail
   exact bodyPost_ret (v := .tuple #[.string (s.extract m (m + v)), .int .i64 ((m : Int) + (v : Int)), .int .i64 0]) (by simp [results, Tryz.results94, go_sem]) rfl ⟨by unfold rtV; rw [HE5.out]; rfl, rfl⟩
 ·have hv : ruV at' ⟨v, n, er⟩ = .tuple #[.int .u64 0, .int .i64 0, .int .i64 (er : Int)] := by unfold ruV; rw [if_neg he]
  rw [hv] at HU; clear hv hin; have HA : Hid (rtOf s at' ⟨v, n, er⟩ = ⟨⟨#[]⟩, 0, er⟩) := hid (by unfold rtOf; rw [if_neg he])
  have hne : ((er : Int) != 0) = true := by rw [bne_iff_ne]; omega
  rw [HA.out]; clear HA; go_enter Tryz.func94, Tryz.ntmps94
  go_wp2_with fail
  refine HU.out.mono ?_; rintro e w' ⟨rfl, rfl⟩; go_wp2_with fail
  exact bodyPost_ret (v := .tuple #[.string ⟨#[]⟩, .int .i64 0, .int .i64 (er : Int)]) (by simp [results, Tryz.results94, go_sem]) rfl ⟨rfl, rfl⟩
end
end Go.Proofs.YtkinkgbmlhiakaaGreatDoor
