/- merged: RoB RwL RwB RwI RwO RwF RwG RwT RwH RwK RwV RwY RwZ RwP -/
import Derived.Test.YtkinkgbmlhiakaaGreatDoorNb27
import Derived.Test.YtkinkgbmlhiakaaGreatDoorNb26
import Derived.Test.YtkinkgbmlhiakaaGreatDoorNb01
import Derived.Test.YtkinkgbmlhiakaaGreatDoorNb03
import Derived.Laws.Bits64
import Derived.Laws.Bits64b
import Derived.Test.YtkinkgbmlhiakaaGreatDoorNb02
import Derived.BigQuiet
namespace Go.Proofs.YtkinkgbmlhiakaaGreatDoor
section
open Go Go.RowKit
theorem qUr : ∀ (s t a : List UInt8), Op.bytesLess a s = false -> Op.bytesLess (s ++ t) a = false -> s <+: a
 | [], _, a, _, _ => List.nil_prefix
 | c :: s, t, [], h1, _ => by simp [Op.bytesLess] at h1
 | c :: s, t, d :: a, h1, h2 => by
  rw [List.cons_append] at h2; unfold Op.bytesLess at h1 h2; by_cases hcd : c = d
  ·subst hcd; simp at h1 h2
   obtain ⟨r, hr⟩ := qUr s t a h1 h2; exact ⟨r, by rw [List.cons_append, hr]⟩
  ·exfalso
   have h3 : c < d \/ d < c := by
    rcases UInt8.lt_or_lt_of_ne hcd with h | h
    ·exact .inl h
    ·exact .inr h
   rcases h3 with h3 | h3
   ·simp [h3] at h2
   ·simp [h3] at h1
def preB (s : ByteArray) (p : KV) : Bool := s.data.toList.isPrefixOf p.1.data.toList
theorem jKb {s : ByteArray} {p : KV} (h : preB s p = true) : geK s p = true := by
 unfold preB at h; rw [List.isPrefixOf_iff_prefix] at h; obtain ⟨t, ht⟩ := h; unfold geK kl; rw [ByteArray.toList_eq, ByteArray.toList_eq, <- ht]; have aux : ∀ (s t : List UInt8), Op.bytesLess (s ++ t) s = false := by
  intro s; induction s with
  | nil => intro t; cases t <;> simp [Op.bytesLess]
  | cons c s ih => intro t; rw [List.cons_append]; unfold Op.bytesLess; simp [ih t]
 rw [aux]; rfl
theorem qQp {s : ByteArray} : ∀ {l : List KV}, Asc l -> (∀ p ∈ l, geK s p = true) -> l.takeWhile (preB s) = l.filter (preB s)
 | [], _, _ => rfl
 | p :: r, ha, hg => by
  obtain ⟨a1, a2⟩ := List.pairwise_cons.1 ha; cases hp : preB s p with
  | true =>
   rw [List.takeWhile_cons_of_pos hp, List.filter_cons_of_pos hp, qQp a2 (fun q hq => hg q (List.mem_cons_of_mem _ hq))]
  | false =>
   rw [List.takeWhile_cons_of_neg (by rw [hp]; simp), List.filter_cons_of_neg (by rw [hp]; simp)]
   symm
   refine qBd (fun q hq => ?_)
   cases hpq : preB s q with
   | false => rfl
   | true =>
    exfalso
    have h1 := hg p List.mem_cons_self; have h2 := a1 q hq; unfold preB at hpq hp; rw [List.isPrefixOf_iff_prefix] at hpq; obtain ⟨t, ht⟩ := hpq; unfold geK kl at h1; unfold kl at h2; rw [ByteArray.toList_eq, ByteArray.toList_eq] at h1 h2; have h3 : Op.bytesLess (s.data.toList ++ t) p.1.data.toList = false := by
     rw [ht]; have := qDx (a := p.1) (b := q.1) (by unfold kl; rw [ByteArray.toList_eq, ByteArray.toList_eq]; exact h2)
     unfold kl at this; rw [ByteArray.toList_eq, ByteArray.toList_eq] at this; exact this
    have h4 := qUr s.data.toList t p.1.data.toList (by simpa using h1) h3
    rw [<- List.isPrefixOf_iff_prefix] at h4; rw [h4] at hp; cases hp
theorem jCl {s : ByteArray} {l : List KV} (ha : Asc l) : (l.filter (geK s)).takeWhile (preB s) = l.filter (preB s) := by
 rw [qQp (qGz _ ha) (fun p hp => (List.mem_filter.1 hp).2), List.filter_filter]
 congr 1
 funext p
 cases hp : preB s p with
 | false => simp
 | true => simp [jKb hp]
end
section
open Go Go.RowKit
def be : Nat -> Nat -> List UInt8
 | 0, _ => []
 | k + 1, u => UInt8.ofNat (u / 256 ^ k % 256) :: be k u
theorem qDi : ∀ k u, (be k u).length = k
 | 0, _ => rfl
 | k + 1, u => by rw [be, List.length_cons, qDi k u]
theorem jGp : ∀ (k u i : Nat), i < k -> (be k u)[i]? = some (UInt8.ofNat (u / 256 ^ (k - 1 - i) % 256))
 | 0, _, _ => fun h => by omega
 | k + 1, u, 0 => fun _ => by rw [be, List.getElem?_cons_zero, show k + 1 - 1 - 0 = k by omega]
 | k + 1, u, i + 1 => fun h => by rw [be, List.getElem?_cons_succ, jGp k u i (by omega), show k + 1 - 1 - (i + 1) = k - 1 - i by omega]
theorem qVk : ∀ (k u : Nat), be k (u % 256 ^ k) = be k u
 | 0, _ => rfl
 | k + 1, u => by
  have h1 : u % 256 ^ (k + 1) / 256 ^ k % 256 = u / 256 ^ k % 256 := by
   rw [Nat.pow_succ, Nat.mod_mul_right_div_self, Nat.mod_mod]
  have h2 : be k (u % 256 ^ (k + 1)) = be k u := by
   rw [<- qVk k (u % 256 ^ (k + 1)), <- qVk k u, Nat.pow_succ, Nat.mod_mul_right_mod]
  rw [be, be, h1, h2]
theorem be_lt : ∀ (k u v : Nat), u < 256 ^ k -> v < 256 ^ k -> ∀ x y : List UInt8, be k u ++ x < be k v ++ y ↔ u < v \/ (u = v /\ x < y)
 | 0, u, v => fun h1 h2 x y => by
  have e1 : u = 0 := by simpa using h1
  have e2 : v = 0 := by simpa using h2
  subst e1 e2; simp [be]
 | k + 1, u, v => fun h1 h2 x y => by
  rw [be, be, List.cons_append, List.cons_append, List.cons_lt_cons_iff, <- qVk k u, <- qVk k v,
   be_lt k (u % 256 ^ k) (v % 256 ^ k) (Nat.mod_lt _ (Nat.pow_pos (by decide))) (Nat.mod_lt _ (Nat.pow_pos (by decide)))]
  have p : 0 < 256 ^ k := Nat.pow_pos (by decide)
  have q1 : u / 256 ^ k < 256 := Nat.div_lt_of_lt_mul (by rw [Nat.pow_succ] at h1; exact h1)
  have q2 : v / 256 ^ k < 256 := Nat.div_lt_of_lt_mul (by rw [Nat.pow_succ] at h2; exact h2)
  rw [Nat.mod_eq_of_lt q1, Nat.mod_eq_of_lt q2]; have l1 : UInt8.ofNat (u / 256 ^ k) < UInt8.ofNat (v / 256 ^ k) ↔ u / 256 ^ k < v / 256 ^ k := by
   rw [UInt8.lt_iff_toNat_lt, qDd _ q1, qDd _ q2]
  have l2 : UInt8.ofNat (u / 256 ^ k) = UInt8.ofNat (v / 256 ^ k) ↔ u / 256 ^ k = v / 256 ^ k := by
   constructor
   ·intro h; have := congrArg UInt8.toNat h
    rwa [qDd _ q1, qDd _ q2] at this
   ·intro h; rw [h]
  rw [l1, l2]; have d1 := Nat.div_add_mod u (256 ^ k); have d2 := Nat.div_add_mod v (256 ^ k); have m1 := Nat.mod_lt u p; have m2 := Nat.mod_lt v p; generalize u / 256 ^ k = a at *; generalize v / 256 ^ k = b at *; generalize u % 256 ^ k = c at *; generalize v % 256 ^ k = d at *; generalize 256 ^ k = N at *; constructor
  ·rintro (h | ⟨rfl, h | ⟨rfl, h⟩⟩)
   ·left
    have : N * (a + 1) <= N * b := Nat.mul_le_mul_left N h; rw [Nat.mul_add] at this; omega
   ·left; omega
   ·right; exact ⟨by omega, h⟩
  ·rintro (h | ⟨h, h'⟩)
   ·rcases Nat.lt_trichotomy a b with e | e | e
    ·exact .inl e
    ·subst e; exact .inr ⟨rfl, .inl (by omega)⟩
    ·have : N * (b + 1) <= N * a := Nat.mul_le_mul_left N e; rw [Nat.mul_add] at this; omega
   ·rcases Nat.lt_trichotomy a b with e | e | e
    ·have : N * (a + 1) <= N * b := Nat.mul_le_mul_left N e; rw [Nat.mul_add] at this; omega
    ·subst e; exact .inr ⟨rfl, .inr ⟨by omega, h'⟩⟩
    ·have : N * (b + 1) <= N * a := Nat.mul_le_mul_left N e; rw [Nat.mul_add] at this; omega
def rdBE : Nat -> List UInt8 -> Nat
 | a, [] => a
 | a, b :: r => rdBE (a * 256 + b.toNat) r
theorem qZs : ∀ (k u a : Nat), rdBE a (be k u) = a * 256 ^ k + u % 256 ^ k
 | 0, u, a => by simp [be, rdBE, Nat.mod_one]
 | k + 1, u, a => by
  rw [be, rdBE, qZs k u, qDd _ (Nat.mod_lt _ (by decide))]
  have h : u % 256 ^ (k + 1) = 256 ^ k * (u / 256 ^ k % 256) + u % 256 ^ k := by
   rw [Nat.pow_succ, Nat.mod_mul, Nat.add_comm]
  rw [h, Nat.pow_succ, Nat.add_mul, Nat.mul_assoc, Nat.mul_comm 256 (256 ^ k), Nat.mul_comm (u / 256 ^ k % 256)]; omega
def zz (v : Int) : Nat := if 0 <= v then 2 * v.toNat else 2 * (-(v + 1)).toNat + 1
def unzz (n : Nat) : Int := if n % 2 = 1 then -((n / 2 : Nat) : Int) - 1 else ((n / 2 : Nat) : Int)
theorem jGz (v : Int) : unzz (zz v) = v := by
 unfold unzz zz; split
 ·split <;> omega
 ·split <;> omega
theorem jGv {v : Int} (h0 : -9223372036854775808 <= v) (h1 : v <= 9223372036854775807) : zz v < 18446744073709551616 := by
 unfold zz; split <;> omega
def ordN (v : Int) : Nat := (v + 9223372036854775808).toNat
theorem qZx {v : Int} (h1 : v <= 9223372036854775807) : ordN v < 256 ^ 8 := by
 have : (256 : Nat) ^ 8 = 18446744073709551616 := by decide
 unfold ordN; omega
end
section
open Go Go.RowKit
theorem qTl {a : Nat} (h : a < 18446744073709551616) : a ^^^ 18446744073709551615 = 18446744073709551615 - a := by
 have := congrArg BitVec.toNat (BitVec.xor_allOnes (x := BitVec.ofNat 64 a)); rw [BitVec.toNat_xor, BitVec.toNat_not, BitVec.toNat_allOnes, BitVec.toNat_ofNat, Nat.mod_eq_of_lt h] at this; exact this
theorem qRq {l : Nat} (h : l < 9223372036854775808) : l ^^^ 9223372036854775808 = 9223372036854775808 + l := by
 rw [show (9223372036854775808 : Nat) = 2 ^ 63 from rfl] at h ⊢
 have e := Nat.two_pow_add_eq_or_of_lt h 1; rw [Nat.mul_one] at e; rw [e, Nat.or_comm]; apply Nat.eq_of_testBit_eq; intro i; rw [Nat.testBit_xor, Nat.testBit_or]; by_cases hi : i = 63
 ·subst hi; rw [Nat.testBit_lt_two_pow h]; simp
 ·rw [Nat.testBit_two_pow_of_ne (by omega)]
  simp
theorem qTk {l : Nat} (h : l < 9223372036854775808) : (9223372036854775808 + l) ^^^ 9223372036854775808 = l := by
 rw [<- qRq h, Nat.xor_assoc, Nat.xor_self, Nat.xor_zero]
theorem jFc {v : Int} (h0 : -9223372036854775808 <= v) (h1 : v <= 9223372036854775807) (a b : Int) (ha : a = (v * 2) % 18446744073709551616) (hb : b = if 0 <= v then 0 else 18446744073709551615) :
  bits .xor .u64 a b = (zz v : Int) := by
 obtain ⟨n, hn⟩ : ∃ n : Nat, a = (n : Int) := ⟨a.toNat, by omega⟩
 have hl : n < 18446744073709551616 := by omega
 unfold zz; by_cases h : 0 <= v
 ·rw [if_pos h] at hb; rw [if_pos h, hn, hb, show (0 : Int) = ((0 : Nat) : Int) from rfl, bits_xor_u64_nat _ _ hl (by decide), Nat.xor_zero]
  omega
 ·rw [if_neg h] at hb; rw [if_neg h, hn, hb, show (18446744073709551615 : Int) = ((18446744073709551615 : Nat) : Int) from rfl, bits_xor_u64_nat _ _ hl (by decide), qTl hl]
  omega
theorem jEd {v : Int} (h0 : -9223372036854775808 <= v) (h1 : v <= 9223372036854775807) (a : Int) (ha : a = v % 18446744073709551616) :
  bits .xor .u64 a 9223372036854775808 = (ordN v : Int) := by
 obtain ⟨n, hn⟩ : ∃ n : Nat, a = (n : Int) := ⟨a.toNat, by omega⟩
 have hl : n < 18446744073709551616 := by omega
 rw [hn, show (9223372036854775808 : Int) = ((9223372036854775808 : Nat) : Int) from rfl, bits_xor_u64_nat _ _ hl (by decide)]
 unfold ordN; by_cases h : 0 <= v
 ·rw [qRq (by omega)]
  omega
 ·obtain ⟨l, hl2⟩ : ∃ l, n = 9223372036854775808 + l := ⟨n - 9223372036854775808, by omega⟩
  rw [hl2, qTk (by omega)]
  omega
end
section
open Go Go.RowKit
def intL (v : Int) : List UInt8 := uvar (zz v)
theorem qUu {v : Int} (h0 : -9223372036854775808 <= v) (h1 : v <= 9223372036854775807) : (intL v).length <= 10 := qAt (jGv h0 h1)
set_option maxRecDepth 100000
theorem jIa (v : Int) (w : World) (h0 : -9223372036854775808 <= v) (h1 : v <= 9223372036854775807) : Calls Tryz.prog 61 #[.int .i64 v] w fun e w' => e = .returned (.string (ba (intL v))) /\ Mod (fun _ => False) w w' := by
 have HU := hid (qEd (zz v) w (jGv h0 h1)); go_enter Tryz.func61, Tryz.ntmps61
 go_wp2_with fail
 rw [jFc h0 h1 _ _ (by rw [IntKind.wrap_u64]; show wrap64 (v * 2) % 18446744073709551616 = _; unfold wrap64; omega) (by rw [IntKind.wrap_u64]; split <;> omega)]
 refine HU.out.mono ?_; rintro e w1 ⟨rfl, hm⟩; have HM := hid hm; clear hm; go_wp2_with fail
 go_ret; exact ⟨rfl, HM.out⟩
end
section
open Go Go.RowKit
def ordL (v : Int) : List UInt8 := be 8 (ordN v)
def ordC (U k : Nat) : List UInt8 := (be 8 U).take k ++ List.replicate (8 - k) 0
theorem jEf (U k : Nat) (hk : k <= 8) : (ordC U k).length = 8 := by
 unfold ordC; rw [List.length_append, List.length_take, qDi, List.length_replicate]; omega
theorem jEg (U k : Nat) (hk : k < 8) : (ordC U k)[k]? = some 0 := by
 unfold ordC; rw [List.getElem?_append_right (by rw [List.length_take, qDi]; omega), List.length_take, qDi, show k - min k 8 = 0 by omega, List.getElem?_replicate, if_pos (by omega)]
theorem jEe (U k : Nat) (hk : k < 8) : (ordC U k).set k (UInt8.ofNat (U / 256 ^ (7 - k) % 256)) = ordC U (k + 1) := by
 apply List.ext_getElem?; intro i; have hl : (ordC U k).length = 8 := jEf U k (by omega)
 rw [List.getElem?_set, hl]; unfold ordC; by_cases h1 : k = i
 ·subst h1; rw [if_pos rfl, if_pos hk, List.getElem?_append_left (by rw [List.length_take, qDi]; omega), List.getElem?_take, if_pos (by omega), jGp 8 U k hk]
 ·rw [if_neg h1]; by_cases h2 : i < k
  ·rw [List.getElem?_append_left (by rw [List.length_take, qDi]; omega), List.getElem?_append_left (by rw [List.length_take, qDi]; omega), List.getElem?_take, List.getElem?_take, if_pos h2, if_pos (by omega)]
  ·rw [List.getElem?_append_right (by rw [List.length_take, qDi]; omega), List.getElem?_append_right (by rw [List.length_take, qDi]; omega), List.length_take, List.length_take, qDi, List.getElem?_replicate, List.getElem?_replicate]
   by_cases h3 : i < 8
   ·rw [if_pos (by omega), if_pos (by omega)]
   ·rw [if_neg (by omega), if_neg (by omega)]
theorem jEh (U : Nat) : ordC U 8 = be 8 U := by
 unfold ordC; rw [List.take_of_length_le (by rw [qDi]; decide)]
 simp
theorem qZy (U : Nat) : Lib.byteCells (ordC U 0) = [.int .u8 0, .int .u8 0, .int .u8 0, .int .u8 0, .int .u8 0, .int .u8 0, .int .u8 0, .int .u8 0] := rfl
set_option maxRecDepth 100000
theorem qSj (v : Int) (w : World) (h0 : -9223372036854775808 <= v) (h1 : v <= 9223372036854775807) : Calls Tryz.prog 80 #[.int .i64 v] w fun e w' => e = .returned (.string (ba (ordL v))) /\ Mod (fun _ => False) w w' := by
 have e1 : bits .xor .u64 (IntKind.u64.wrap v) 9223372036854775808 = (ordN v : Int) := jEd h0 h1 _ (by rw [IntKind.wrap_u64])
 have hU := qZx h1; go_enter Tryz.func80, Tryz.ntmps80
 go_wp2_with fail
 clear e1; generalize hUU : ordN v = U at *; go_loopw [9] (fun c wr => ∃ k : Nat, k <= 8 /\ c = .int .i64 (k : Int) /\ wr.heap[w.heap.size]? = some (.cells (Lib.byteCells (ordC U k)).toArray 221 (0, 0)) /\ Mod (fun _ => False) w wr) (fun c _ => 8 - (intOf c).toNat)
 case atStart => exact ⟨0, by decide, rfl, by rw [qZy]; exact heap_alloc_new _ _, (Mod.refl _ _).alloc _⟩
 case round =>
  obtain ⟨k, hk, rfl, hrow, hm⟩ := hrel; have HRow := hid hrow; have HM := hid hm; by_cases hlt : k < 8
  ·have c0 : wr.cell? ⟨w.heap.size, k, none⟩ = some (.int .u8 0) := by
    rw [cell_of_row _ _ _ _ _ _ hrow]; simp [Lib.byteCells, jEg U k hlt]
   have f0 : wr.frozen? ⟨w.heap.size, k, none⟩ = false := frozen_of_row _ _ _ _ _ hrow; have s1 : IntKind.i64.wrap (8 * (k : Int)) = 8 * (k : Int) := by rw [IntKind.wrap_i64]; omega
   have s2 : IntKind.i64.wrap (56 - 8 * (k : Int)) = 56 - 8 * (k : Int) := by rw [IntKind.wrap_i64]; omega
   clear hrow hm; go_wp2_with fail
   have hv : ((U : Int) / 2 ^ (56 - 8 * k) % 256) = (((UInt8.ofNat (U / 256 ^ (7 - k) % 256)).toNat : Nat) : Int) := by
    rw [qDd _ (Nat.mod_lt _ (by decide)), show (256 : Nat) ^ (7 - k) = 2 ^ (56 - 8 * k) by rw [show (256 : Nat) = 2 ^ 8 from rfl, <- Nat.pow_mul, show 8 * (7 - k) = 56 - 8 * k by omega]]
    simp
   rw [hv]; go_roundw
   case rel =>
    refine ⟨k + 1, by omega, by go_num, ?_, HM.out.setCell (fun h => absurd h (Nat.lt_irrefl _)) _⟩
    rw [heap_setCell_same wr w.heap.size k _ 221 _ HRow.out, <- jEe U k hlt]; congr 3
    apply Array.ext'; simp [Lib.byteCells, List.map_set]
   case measure => simp [intOf]; omega
  ·have hke : k = 8 := by omega
   subst hke; rw [jEh] at hrow; have hcv : (convert 128 9 (.slice (some ⟨w.heap.size, 0, none⟩) 8 8)).run Tryz.prog wr = .ok (.string (ba (be 8 U))) wr := by
    have := run_convert_bytes_back (P := Tryz.prog) wr 128 9 5 ⟨w.heap.size, 0, none⟩ 8 (be 8 U) Tryz.underlying128 Tryz.underlying5 Tryz.underlying9 (fun j hj => by
     rw [Addr.add_lit, cell_of_row _ _ _ _ _ _ hrow]; simp [Lib.byteCells, hj])
    rwa [qDi] at this
   clear hrow hm; go_wp2_with fail
   go_ret; unfold ordL; rw [hUU]; exact ⟨rfl, HM.out⟩
end
section
open Go Go.RowKit
def qQz (k n : Int) (s : ByteArray) : List UInt8 := if k = 0 then ordL n else s.data.toList ++ [0]
def qHc (s : ByteArray) : Bool := !s.data.toList.contains 0
end
section
open Go Go.RowKit
theorem qLu (c : UInt8) : ∀ l : List UInt8, -1 <= Lib.indexByte l c /\ (0 <= Lib.indexByte l c ↔ c ∈ l)
 | [] => by simp [Lib.indexByte]
 | b :: l => by
  obtain ⟨h1, h2⟩ := qLu c l; unfold Lib.indexByte; by_cases hb : b = c
  ·subst hb; simp
  ·have e : (b == c) = false := by simpa using hb
   rw [e]; simp only [Bool.false_eq_true, if_false]; have hc : c ∈ b :: l ↔ c ∈ l := by simp [Ne.symm hb]
   rw [hc, <- h2]; by_cases hm : Lib.indexByte l c = -1
   ·rw [hm]; simp
   ·have e2 : (Lib.indexByte l c == -1) = false := by simpa using hm
    rw [e2]; simp only [Bool.false_eq_true, if_false]; omega
theorem qPk (s : ByteArray) : decide (0 <= Lib.indexByte s.data.toList 0) = !qHc s := by
 unfold qHc; rw [Bool.not_not]; by_cases h : (0 : UInt8) ∈ s.data.toList
 ·rw [decide_eq_true ((qLu 0 _).2.2 h), List.contains_iff_mem.2 h]
 ·have h2 : s.data.toList.contains 0 = false := by rw [<- Bool.not_eq_true, List.contains_iff_mem]; exact h
  rw [decide_eq_false (fun e => h ((qLu 0 _).2.1 e)), h2]
set_option maxRecDepth 100000
theorem jFp (n : Int) (s : ByteArray) (w : World) (h0 : -9223372036854775808 <= n) (h1 : n <= 9223372036854775807) :
  Calls Tryz.prog 39 #[.int .i64 0, .agg #[.int .i64 n, .string s]] w fun e w' => e = .returned (.tuple #[.string (ba (ordL n)), .bool s.toList.isEmpty]) /\ Mod (fun _ => False) w w' := by
 have hma : Mod (fun _ => False) w (w.alloc (.cells #[.int .i64 n, .string s] 46)) := (Mod.refl _ _).alloc _
 have hcb : (w.alloc (.cells #[.int .i64 n, .string s] 46)).heap[w.heap.size]? = some (.cells #[.int .i64 n, .string s] 46 (0, 0)) := heap_alloc_new _ _; have HM := hid hma; have HCb := hid hcb; have HO := hid (fun v => qSj n v h0 h1)
 clear hma hcb; go_enter Tryz.func39, Tryz.ntmps39
 go_wp2_with fail
 generalize w.alloc (.cells #[.int .i64 n, .string s] 46) = C at *; have g0 : ∀ x : Ext C, x.val.cell? ⟨w.heap.size, 0, none⟩ = some (.int .i64 n) := fun x => by rw [cell_of_row _ _ _ _ _ _ (x.heap HCb.out)]; rfl
 have g1 : ∀ x : Ext C, x.val.cell? ⟨w.heap.size, 1, none⟩ = some (.string s) := fun x => by rw [cell_of_row _ _ _ _ _ _ (x.heap HCb.out)]; rfl
 have HK := hid (fun x : Ext C => HO.out x.val)
 refine qAo (by kernel_rfl) (by kernel_rfl) ?_
 repeat (go_big_quiet_step ((go_at_call 80; exact qBg (HK.out _))))
 refine wpQuiet_nil ?_; rintro _ ⟨x, rfl⟩; go_wp2_with fail
 go_ret2; exact ⟨rfl, HM.out.trans x.mod⟩
theorem jBh (k n : Int) (s : ByteArray) (w : World) (hk : k ≠ 0) (hs : s.size <= 140737488351232) :
  Calls Tryz.prog 39 #[.int .i64 k, .agg #[.int .i64 n, .string s]] w fun e w' => e = .returned (.tuple #[.string (ba (s.data.toList ++ [0])), .bool (n == 0 && qHc s)]) /\ Mod (fun _ => False) w w' := by
 have hma : Mod (fun _ => False) w (w.alloc (.cells #[.int .i64 n, .string s] 46)) := (Mod.refl _ _).alloc _
 have hcb : (w.alloc (.cells #[.int .i64 n, .string s] 46)).heap[w.heap.size]? = some (.cells #[.int .i64 n, .string s] 46 (0, 0)) := heap_alloc_new _ _; have HM := hid hma; have HCb := hid hcb; have HCt : Hid (∀ v : World, Calls Tryz.prog 81 #[.string s, .string ⟨#[0]⟩] v fun e w' => e = .returned (.bool (!qHc s)) /\ Mod (fun _ => False) v w') := hid (fun v => by
  have h := Tryz.strings_Contains_one s 0 v; rw [qPk] at h; refine h.mono ?_; rintro e w' ⟨rfl, rfl⟩; exact ⟨rfl, Mod.refl _ _⟩)
 have HE : Hid (s ++ (⟨#[0]⟩ : ByteArray) = ba (s.data.toList ++ [0])) := hid (by rw [<- qBl, qTg]; rfl)
 have e0 : (k == 0) = false := by simpa using hk
 clear hma hcb hk; by_cases hn : n = 0
 ·subst hn; generalize qHc s = bp at *; go_enter Tryz.func39, Tryz.ntmps39
  go_wp2_with fail
  generalize w.alloc (.cells #[.int .i64 0, .string s] 46) = C at *; have g0 : ∀ x : Ext C, x.val.cell? ⟨w.heap.size, 0, none⟩ = some (.int .i64 0) := fun x => by rw [cell_of_row _ _ _ _ _ _ (x.heap HCb.out)]; rfl
  have g1 : ∀ x : Ext C, x.val.cell? ⟨w.heap.size, 1, none⟩ = some (.string s) := fun x => by rw [cell_of_row _ _ _ _ _ _ (x.heap HCb.out)]; rfl
  have HK := hid (fun x : Ext C => HCt.out x.val)
  refine qAo (by kernel_rfl) (by kernel_rfl) ?_
  repeat (go_big_quiet_step ((go_at_call 81; exact qBg (HK.out _))))
  refine wpQuiet_nil ?_; rintro _ ⟨x, rfl⟩; go_wp2_with fail
  go_ret2; rw [<- HE.out]; exact ⟨by cases bp <;> rfl, HM.out.trans x.mod⟩
 ·have e1 : (n == 0) = false := by simpa using hn
  clear hn; go_enter Tryz.func39, Tryz.ntmps39
  go_wp2_with fail
  generalize w.alloc (.cells #[.int .i64 n, .string s] 46) = C at *; have g0 : ∀ x : Ext C, x.val.cell? ⟨w.heap.size, 0, none⟩ = some (.int .i64 n) := fun x => by rw [cell_of_row _ _ _ _ _ _ (x.heap HCb.out)]; rfl
  have g1 : ∀ x : Ext C, x.val.cell? ⟨w.heap.size, 1, none⟩ = some (.string s) := fun x => by rw [cell_of_row _ _ _ _ _ _ (x.heap HCb.out)]; rfl
  refine qAo (by kernel_rfl) (by kernel_rfl) ?_
  repeat (go_big_quiet_step ((fail)))
  refine wpQuiet_nil ?_; rintro _ ⟨x, rfl⟩; go_wp2_with fail
  go_ret2; rw [<- HE.out, e1]; exact ⟨rfl, HM.out.trans x.mod⟩
end
section
open Go Go.RowKit
def fitC (name : Int) (n : Nat) (keys idx : Int) : Bool := decide (97 <= name) && (decide (name <= 122) && (decide (1 <= keys) && (decide (keys <= (n : Int)) && (decide (-1 <= idx) && decide (idx < (n : Int))))))
def qEr (k : Int) : Prop := k = 0 \/ k = 1
instance (k : Int) : Decidable (qEr k) := inferInstanceAs (Decidable (k = 0 \/ k = 1))
noncomputable def qJt (name : Int) (cols : List Int) (keys idx : Int) : Bool := open Classical in if ∀ k ∈ cols, qEr k then fitC name cols.length keys idx else false
def oneI (k : Int) : List Value := [.int .i64 k]
theorem oneI_len (k : Int) : (oneI k).length = 1 := rfl
end
section
open Go Go.RowKit
set_option maxRecDepth 100000
theorem jIt (k : Int) (w : World) : Calls Tryz.prog 76 #[.int .i64 k] w fun e w' => e = .returned (.bool (decide (¬ qEr k))) /\ w = w' := by
 by_cases h0 : k < 0
 ·have d0 : decide (k < 0) = true := by simpa using h0
  have HV : Hid (decide (¬ qEr k) = true) := hid (decide_eq_true (by unfold qEr; omega))
  clear h0; go_enter Tryz.func76, Tryz.ntmps76
  go_wp2
  go_ret; rw [HV.out]; exact ⟨rfl, rfl⟩
 ·have d0 : decide (k < 0) = false := by simpa using h0
  by_cases h1 : 1 < k
  ·have d1 : decide (1 < k) = true := by simpa using h1
   have HV : Hid (decide (¬ qEr k) = true) := hid (decide_eq_true (by unfold qEr; omega))
   clear h0 h1; go_enter Tryz.func76, Tryz.ntmps76
   go_wp2
   go_ret; rw [HV.out]; exact ⟨rfl, rfl⟩
  ·have d1 : decide (1 < k) = false := by simpa using h1
   have HV : Hid (decide (¬ qEr k) = false) := hid (decide_eq_false (by unfold qEr; omega))
   clear h0 h1; go_enter Tryz.func76, Tryz.ntmps76
   go_wp2
   go_ret; rw [HV.out]; exact ⟨rfl, rfl⟩
theorem jIf {w : World} {ca : Option Addr} {cols : List Int} (cc : Nat) (hl : Lies w 1 oneI ca cols) (hn : cols.length <= 140737488351232) :
  Calls Tryz.prog 116 #[.slice ca cols.length cc, .func (.func 76) #[] #[]] w fun e w' => (∃ r : Int, e = .returned (.int .i64 r) /\ (0 <= r ↔ ¬ ∀ k ∈ cols, qEr k)) /\ w = w' := by
 have HL := hid hl; clear hl; go_enter Tryz.func116, Tryz.ntmps116
 go_wp2
 go_loop [8] (fun c => ∃ k : Nat, k <= cols.length /\ c = .int .i64 k /\ ∀ j x, j < k -> cols[j]? = some x -> qEr x) (fun c => cols.length - (intOf c).toNat)
 case atStart => exact ⟨0, Nat.zero_le _, rfl, fun j x h => by omega⟩
 case round =>
  obtain ⟨k, hk, rfl, hb⟩ := hrel; have HB := hid hb; clear hb; by_cases hlt : k < cols.length
  ·obtain ⟨x, hx⟩ : ∃ x, cols[k]? = some x := ⟨_, List.getElem?_eq_getElem hlt⟩; have HX := hid hx; obtain ⟨g, off, rfl⟩ := HL.out.some (by omega)
   have q0 := HL.out.cell oneI_len hx (j := 0) rfl; rw [Nat.add_zero, Nat.mul_one] at q0; have HC := hid (jIt x w); clear hx; by_cases hx1 : qEr x
   ·rw [decide_eq_false (fun h => h hx1)] at HC
    have HK := hid hx1; clear hx1; go_wp2_with fail
    refine HC.out.mono ?_; rintro e w1 ⟨rfl, rfl⟩; go_wp2_with fail
    go_round
    case rel =>
     refine ⟨k + 1, by omega, by go_num, fun j y hj hy => ?_⟩
     by_cases hjk : j = k
     ·subst hjk; rw [HX.out] at hy; cases hy
      exact HK.out
     ·exact HB.out j y (by omega) hy
    case measure => simp [intOf]; omega
   ·rw [decide_eq_true hx1] at HC; have HK := hid hx1; clear hx1; go_wp2_with fail
    refine HC.out.mono ?_; rintro e w1 ⟨rfl, rfl⟩; go_wp2_with fail
    go_ret; exact ⟨⟨_, rfl, ⟨fun _ h => HK.out (h x (List.mem_of_getElem? HX.out)), fun _ => by omega⟩⟩, rfl⟩
  ·have hke : k = cols.length := by omega
   subst hke; go_wp2_with fail
   go_ret; have HAll : Hid (∀ x ∈ cols, qEr x) := hid (fun x hx => by
    obtain ⟨i, hi⟩ := List.getElem?_of_mem hx; exact HB.out i x (List.getElem?_eq_some_iff.1 hi).1 hi)
   refine ⟨⟨_, rfl, ⟨fun h => by omega, fun h => ?_⟩⟩, rfl⟩
   obtain ⟨x, hx, hk⟩ : ∃ x, x ∈ cols /\ ¬ qEr x := by simpa using h
   exact absurd (HAll.out x hx) hk
theorem jIq {w : World} {ca : Option Addr} {cols : List Int} (cc : Nat) (hl : Lies w 1 oneI ca cols) (hn : cols.length <= 140737488351232) :
  Calls Tryz.prog 75 #[.slice ca cols.length cc, .func (.func 76) #[] #[]] w fun e w' => e = .returned (.bool (decide (¬ ∀ k ∈ cols, qEr k))) /\ w = w' := by
 have HI := hid (jIf cc hl hn); clear hl; go_enter Tryz.func75, Tryz.ntmps75
 go_wp2_with fail
 refine HI.out.mono ?_; rintro e w1 ⟨⟨r, rfl, hr⟩, rfl⟩; have HV : Hid (decide (0 <= r) = decide (¬ ∀ k ∈ cols, qEr k)) := hid (decide_eq_decide.2 hr); clear hr; go_wp2_with fail
 go_ret; rw [HV.out]; exact ⟨rfl, rfl⟩
end
section
open Go Go.RowKit
theorem jFs (name : Int) (cols : List Int) (keys idx : Int) : qJt name cols keys idx = (fitC name cols.length keys idx && decide (∀ k ∈ cols, qEr k)) := by
 unfold qJt; by_cases h : ∀ k ∈ cols, qEr k
 ·rw [if_pos h, decide_eq_true h, Bool.and_true]
 ·rw [if_neg h, decide_eq_false h, Bool.and_false]
set_option maxRecDepth 100000
set_option maxHeartbeats 2000000 in
theorem qPh {w : World} {ca : Option Addr} {cols : List Int} (name keys idx : Int) (cc : Nat) (hl : Lies w 1 oneI ca cols) (hn : cols.length <= 140737488351232) :
  Calls Tryz.prog 37 #[.agg #[.int .u8 name, .slice ca cols.length cc, .int .i64 keys, .int .i64 idx]] w fun e w' => e = .returned (.bool (qJt name cols keys idx)) /\ Mod (fun _ => False) w w' := by
 have hma : Mod (fun _ => False) w (w.alloc (.cells #[.int .u8 name, .slice ca cols.length cc, .int .i64 keys, .int .i64 idx] 24)) := (Mod.refl _ _).alloc _
 have HM := hid hma; have HC := hid (jIq cc (hl.ext hma) hn); have HF := hid (jFs name cols keys idx); clear hma hl; by_cases h0 : 97 <= name
 case neg =>
  have d0 : decide (97 <= name) = false := by simpa using h0
  have HV : Hid (fitC name cols.length keys idx = false) := hid (by simp [fitC, *])
  clear h0; go_enter Tryz.func37, Tryz.ntmps37
  go_wp2_with fail
  go_ret; rw [HF.out, HV.out]; exact ⟨rfl, HM.out⟩
 have d0 : decide (97 <= name) = true := by simpa using h0
 by_cases h1 : name <= 122
 case neg =>
  have d1 : decide (name <= 122) = false := by simpa using h1
  have HV : Hid (fitC name cols.length keys idx = false) := hid (by simp [fitC, *])
  clear h0 h1; go_enter Tryz.func37, Tryz.ntmps37
  go_wp2_with fail
  go_ret; rw [HF.out, HV.out]; exact ⟨rfl, HM.out⟩
 have d1 : decide (name <= 122) = true := by simpa using h1
 by_cases h2 : 1 <= keys
 case neg =>
  have d2 : decide (1 <= keys) = false := by simpa using h2
  have HV : Hid (fitC name cols.length keys idx = false) := hid (by simp [fitC, *])
  clear h0 h1 h2; go_enter Tryz.func37, Tryz.ntmps37
  go_wp2_with fail
  go_ret; rw [HF.out, HV.out]; exact ⟨rfl, HM.out⟩
 have d2 : decide (1 <= keys) = true := by simpa using h2
 by_cases h3 : keys <= (cols.length : Int)
 case neg =>
  have d3 : decide (keys <= (cols.length : Int)) = false := by simpa using h3
  have HV : Hid (fitC name cols.length keys idx = false) := hid (by simp [fitC, *])
  clear h0 h1 h2 h3; go_enter Tryz.func37, Tryz.ntmps37
  go_wp2_with fail
  go_ret; rw [HF.out, HV.out]; exact ⟨rfl, HM.out⟩
 have d3 : decide (keys <= (cols.length : Int)) = true := by simpa using h3
 by_cases h4 : -1 <= idx
 case neg =>
  have d4 : decide (-1 <= idx) = false := by simpa using h4
  have HV : Hid (fitC name cols.length keys idx = false) := hid (by simp [fitC, *])
  clear h0 h1 h2 h3 h4; go_enter Tryz.func37, Tryz.ntmps37
  go_wp2_with fail
  go_ret; rw [HF.out, HV.out]; exact ⟨rfl, HM.out⟩
 have d4 : decide (-1 <= idx) = true := by simpa using h4
 by_cases h5 : idx < (cols.length : Int)
 case neg =>
  have d5 : decide (idx < (cols.length : Int)) = false := by simpa using h5
  have HV : Hid (fitC name cols.length keys idx = false) := hid (by simp [fitC, *])
  clear h0 h1 h2 h3 h4 h5; go_enter Tryz.func37, Tryz.ntmps37
  go_wp2_with fail
  go_ret; rw [HF.out, HV.out]; exact ⟨rfl, HM.out⟩
 have d5 : decide (idx < (cols.length : Int)) = true := by simpa using h5
 have HV : Hid (fitC name cols.length keys idx = true) := hid (by simp [fitC, *])
 clear h0 h1 h2 h3 h4 h5; have HD : Hid (decide (¬ ∀ k ∈ cols, qEr k) = !decide (∀ k ∈ cols, qEr k)) := hid decide_not; rw [HD.out] at HC; generalize decide (∀ k ∈ cols, qEr k) = z at *; go_enter Tryz.func37, Tryz.ntmps37
 go_wp2_with fail
 refine HC.out.mono ?_; rintro e w1 ⟨rfl, rfl⟩; go_wp2_with fail
 go_ret; rw [HF.out, HV.out]; exact ⟨by cases z <;> rfl, HM.out⟩
end
section
open Go Go.RowKit
structure Vl where
 n : Int
 s : ByteArray
def Vl.cs (v : Vl) : List Value := [.int .i64 v.n, .string v.s]
theorem qFe (v : Vl) : v.cs.length = 2 := rfl
structure Vl.Ok (v : Vl) : Prop where
 n0 : -9223372036854775808 <= v.n
 n1 : v.n <= 9223372036854775807
 s : v.s.size <= 140737488351232
def qPg (k : Int) (v : Vl) : Bool := if k = 0 then v.s.toList.isEmpty else (v.n == 0 && qHc v.s)
def qEc (k : Int) (v : Vl) : List UInt8 := qQz k v.n v.s
theorem qUz (k : Int) (v : Vl) (w : World) (hv : v.Ok) :
  Calls Tryz.prog 39 #[.int .i64 k, .agg #[.int .i64 v.n, .string v.s]] w fun e w' => e = .returned (.tuple #[.string (ba (qEc k v)), .bool (qPg k v)]) /\ Mod (fun _ => False) w w' := by
 unfold qEc qQz qPg; by_cases hk : k = 0
 ·subst hk; rw [if_pos rfl, if_pos rfl]; exact jFp v.n v.s w hv.n0 hv.n1
 ·rw [if_neg hk, if_neg hk]; exact jBh k v.n v.s w hk hv.s
def qDs (cols : List Int) (r : List Vl) (k : Nat) : List UInt8 := ((cols.zip r).take k).flatMap fun p => qEc p.1 p.2
theorem qWy {cols : List Int} {r : List Vl} {k : Nat} {c : Int} {v : Vl} (hc : cols[k]? = some c) (hv : r[k]? = some v) : qDs cols r (k + 1) = qDs cols r k ++ qEc c v := by
 unfold qDs; have h : (cols.zip r)[k]? = some (c, v) := by rw [List.getElem?_zip_eq_some]; exact ⟨hc, hv⟩
 have hl := (List.getElem?_eq_some_iff.1 h).1; rw [List.take_succ_eq_append_getElem hl, List.flatMap_append, (List.getElem?_eq_some_iff.1 h).2]; simp
end
section
open Go Go.RowKit
theorem qWj {w : World} {b : Nat} {v0 v1 v2 v3 : Value} {T : TypeId} (h : w.heap[b]? = some (.cells #[v0, v1, v2, v3] T (0, 0))) : w.cell? ⟨b, 0, none⟩ = some v0 /\ w.cell? ⟨b, 1, none⟩ = some v1 :=
 ⟨by rw [cell_of_row _ _ _ _ _ _ h]; rfl, by rw [cell_of_row _ _ _ _ _ _ h]; rfl⟩
def FitK (cols : List Int) (r : List Vl) (k : Nat) : Prop := ∀ j c v, j < k -> cols[j]? = some c -> r[j]? = some v -> qPg c v = true
set_option maxRecDepth 100000
set_option maxHeartbeats 2000000 in
theorem jEx {w : World} {ca ra : Option Addr} {cols : List Int} {r : List Vl} (name idx : Int) (keys cc rc : Nat) (hl : Lies w 1 oneI ca cols) (hr : Lies w 2 Vl.cs ra r) (hlen : r.length = cols.length) (hk : keys <= cols.length) (hn : cols.length <= 140737488351232) (hv : ∀ v ∈ r, v.Ok) (hsz : ∀ k, (qDs cols r k).length <= 2305843009213693952) :
  Calls Tryz.prog 60 #[.agg #[.int .u8 name, .slice ca cols.length cc, .int .i64 (keys : Int), .int .i64 idx], .slice ra r.length rc] w fun e w' =>
   ((FitK cols r keys /\ e = .returned (.tuple #[.string (ba (qDs cols r keys)), .bool true])) \/ (¬ FitK cols r keys /\ e = .returned (.tuple #[.string ⟨#[]⟩, .bool false]))) /\ Mod (fun _ => False) w w' := by
 have hma : Mod (fun _ => False) w (w.alloc (.cells #[.int .u8 name, .slice ca cols.length cc, .int .i64 (keys : Int), .int .i64 idx] 24)) := (Mod.refl _ _).alloc _
 have hcb : (w.alloc (.cells #[.int .u8 name, .slice ca cols.length cc, .int .i64 (keys : Int), .int .i64 idx] 24)).heap[w.heap.size]? = some (.cells #[.int .u8 name, .slice ca cols.length cc, .int .i64 (keys : Int), .int .i64 idx] 24 (0, 0)) := heap_alloc_new _ _; have HM := hid hma; have HCb := hid hcb; have HL := hid (hl.ext hma); have HR := hid (hr.ext hma); have HV := hid hv; have HS := hid hsz; have HLen := hid hlen; clear hma hcb hl hr hv hsz hlen; go_enter Tryz.func60, Tryz.ntmps60
 go_wp2_with fail
 obtain ⟨C, hC⟩ : ∃ C, w.alloc (.cells #[.int .u8 name, .slice ca cols.length cc, .int .i64 (keys : Int), .int .i64 idx] 24) = C := ⟨_, rfl⟩; rw [hC] at HM HCb HL HR; go_loopw [6, 12] (fun s c wr => ∃ k : Nat, k <= keys /\ c = .int .i64 (k : Int) /\ s = .string (ba (qDs cols r k)) /\ FitK cols r k /\ Mod (fun _ => False) C wr) (fun _ c _ => keys - (intOf c).toNat)
 case atStart => exact ⟨0, Nat.zero_le _, rfl, rfl, (fun j c v h => by omega), by rw [hC]; exact Mod.refl _ _⟩
 case round =>
  obtain ⟨k, hkk, rfl, rfl, hf, hm⟩ := hrel; have HF := hid hf; have HMr := hid hm; clear hf hm; by_cases hlt : k < keys
  ·obtain ⟨c, hc⟩ : ∃ c, cols[k]? = some c := ⟨_, List.getElem?_eq_getElem (by omega)⟩
   obtain ⟨v, hvv⟩ : ∃ v, r[k]? = some v := ⟨_, List.getElem?_eq_getElem (by rw [HLen.out]; omega)⟩
   have hkr : k < r.length := by rw [HLen.out]; omega
   have HSu := hid (qWy hc hvv); have HStep : Hid (qPg c v = true -> FitK cols r (k + 1)) := hid (fun ht j c' v' hj h1 h2 => by
    by_cases hjk : j = k
    ·subst hjk; rw [hc] at h1; rw [hvv] at h2; cases h1
     cases h2
     exact ht
    ·exact HF.out j c' v' (by omega) h1 h2)
   have HBad : Hid (qPg c v = false -> ¬ FitK cols r keys) := hid (fun ht h => by have := h k c v hlt hc hvv; rw [ht] at this; cases this)
   have hlc := HL.out.ext HMr.out; have hrc := HR.out.ext HMr.out; have HVo := hid (HV.out v (List.mem_of_getElem? hvv)); have HSz := hid (HS.out k); have HSz2 := hid (HS.out (k + 1)); obtain ⟨g, off, rfl⟩ := hlc.some (by omega)
   obtain ⟨g2, off2, rfl⟩ := hrc.some (by omega)
   have q0 := hlc.cell oneI_len hc (j := 0) rfl; have p0 := hrc.cell qFe hvv (j := 0) rfl; have p1 := hrc.cell qFe hvv (j := 1) rfl; rw [Nat.add_zero, Nat.mul_one] at q0; rw [Nat.add_zero] at p0; have b1 : wr.cell? ⟨w.heap.size, 1, none⟩ = some (.slice (some ⟨g, off, none⟩) cols.length cc) := (qWj ((HMr.out.block _ (lth HCb.out) (fun h => h)).trans HCb.out)).2
   have g0 := fun x : Ext wr => x.cell q0
   have g1 := fun x : Ext wr => x.cell p0
   have g2' := fun x : Ext wr => x.cell p1
   have g3 := fun x : Ext wr => x.cell b1
   have HK := hid (fun x : Ext wr => qUz c v x.val HVo.out)
   have s0 : (ba (qDs cols r k)).size <= 2305843009213693952 := by rw [qAd]; exact HSz.out
   have s1 : (ba (qEc c v)).size <= 2305843009213693952 := by
    have := HSz2.out; rw [HSu.out, List.length_append] at this; rw [qAd]; omega
   have HBa : Hid (ba (qDs cols r k) ++ ba (qEc c v) = ba (qDs cols r (k + 1))) := hid (by rw [HSu.out, qBl])
   obtain ⟨n, t⟩ := v; simp only at p0 p1 g1 g2' HK; generalize qEc c ⟨n, t⟩ = fm at *; generalize qPg c ⟨n, t⟩ = ft at *; clear hlc hrc hc hvv q0 p0 p1 b1; go_wp2_with fail
   refine qAo (by kernel_rfl) (by kernel_rfl) ?_
   repeat (go_big_quiet_step ((go_at_call 39; exact qBg (HK.out _))))
   refine wpQuiet_nil ?_; rintro _ ⟨x, rfl⟩; clear g0 g1 g2' g3; cases ft with
   | false =>
    go_wp2_with fail
    go_ret2; exact ⟨.inr ⟨HBad.out (by trivial), rfl⟩, HM.out.trans (HMr.out.trans x.mod)⟩
   | true =>
    go_wp2_with fail
    go_roundw
    case rel => exact ⟨k + 1, by omega, by go_num, by rw [HBa.out], HStep.out (by trivial), HMr.out.trans x.mod⟩
    case measure => simp [intOf]; omega
  ·have hke : k = keys := by omega
   subst hke; go_wp2_with fail
   go_ret2; exact ⟨.inl ⟨HF.out, rfl⟩, HM.out.trans HMr.out⟩
end
section
open Go Go.RowKit
def qAg (name : Nat) (b : UInt8) : List UInt8 := [UInt8.ofNat name, b]
end
section
open Go Go.RowKit
def qJi (k : Int) (v : Vl) : List UInt8 := if k = 0 then intL v.n else qCy v.s
def valL (cols : List Int) (r : List Vl) (keys j : Nat) : List UInt8 := (((cols.zip r).take j).drop keys).flatMap fun p => qJi p.1 p.2
theorem qHy (cols : List Int) (r : List Vl) {keys j : Nat} (h : j <= keys) : valL cols r keys j = [] := by
 unfold valL; rw [List.drop_of_length_le (by rw [List.length_take]; omega)]
 rfl
theorem qYg {cols : List Int} {r : List Vl} {keys k : Nat} {c : Int} {v : Vl} (h : keys <= k) (hc : cols[k]? = some c) (hv : r[k]? = some v) : valL cols r keys (k + 1) = valL cols r keys k ++ qJi c v := by
 unfold valL; have h' : (cols.zip r)[k]? = some (c, v) := by rw [List.getElem?_zip_eq_some]; exact ⟨hc, hv⟩
 have hl := (List.getElem?_eq_some_iff.1 h').1; rw [List.take_succ_eq_append_getElem hl, List.drop_append_of_le_length (by rw [List.length_take]; omega), List.flatMap_append, (List.getElem?_eq_some_iff.1 h').2]
 simp
def qCu (k : Int) (v : Vl) : Bool := if k = 0 then v.s.toList.isEmpty else (v.n == 0)
theorem qXp {s : ByteArray} (h : s.toList.isEmpty = true) : qHc s = true := by
 unfold qHc; rw [ByteArray.toList_eq, List.isEmpty_iff] at h; rw [h]; rfl
theorem qJs {k : Int} {v : Vl} (h : qCu k v = true) : qPg k v = qHc v.s := by
 unfold qCu at h; unfold qPg; by_cases hk : k = 0
 ·rw [if_pos hk] at h ⊢; rw [h, qXp h]
 ·rw [if_neg hk] at h ⊢; rw [h, Bool.true_and]
structure Good (name : Int) (cols : List Int) (keys idx : Int) (r : List Vl) : Prop where
 fit : qJt name cols keys idx = true
 len : r.length = cols.length
 typed : ∀ (j : Nat) c v, cols[j]? = some c -> r[j]? = some v -> qCu c v = true
 bare : ∀ (j : Nat) v, ((j : Int) < keys \/ (j : Int) = idx) -> r[j]? = some v -> qHc v.s = true
def idxL (cols : List Int) (r : List Vl) (idx : Int) : List UInt8 := qEc (cols.getD idx.toNat 0) (r.getD idx.toNat ⟨0, ⟨#[]⟩⟩)
def qFu (name : Int) (cols : List Int) (keys : Int) (r : List Vl) : List UInt8 := qAg name.toNat 0 ++ qDs cols r keys.toNat
def qWn (cols : List Int) (keys : Int) (r : List Vl) : List UInt8 := valL cols r keys.toNat cols.length
def pxL (name : Int) (cols : List Int) (keys idx : Int) (r : List Vl) : List UInt8 := if 0 <= idx then qAg name.toNat 1 ++ idxL cols r idx ++ qDs cols r keys.toNat else []
structure PX where
 k : List UInt8
 v : List UInt8
 x : List UInt8
def qEy (p : PX) : Prop := p.k.length <= 48 /\ p.x.length <= 48 /\ p.v.length <= 200
instance (p : PX) : Decidable (qEy p) := inferInstanceAs (Decidable (_ /\ _ /\ _))
def pxOf (name : Int) (cols : List Int) (keys idx : Int) (r : List Vl) : PX := ⟨qFu name cols keys r, qWn cols keys r, pxL name cols keys idx r⟩
noncomputable def qBx (name : Int) (cols : List Int) (keys idx : Int) (r : List Vl) : Option PX :=
 open Classical in if Good name cols keys idx r /\ qEy (pxOf name cols keys idx r) then some (pxOf name cols keys idx r) else none
theorem qEg {name : Int} {cols : List Int} {keys idx : Int} {r : List Vl} (h : ¬ Good name cols keys idx r) : qBx name cols keys idx r = none := by
 unfold qBx; rw [if_neg (fun h' => h h'.1)]
theorem qNg {name : Int} {cols : List Int} {keys idx : Int} {r : List Vl} (h : ¬ qEy (pxOf name cols keys idx r)) : qBx name cols keys idx r = none := by
 unfold qBx; rw [if_neg (fun h' => h h'.2)]
theorem qGt {name : Int} {cols : List Int} {keys idx : Int} {r : List Vl} (h : Good name cols keys idx r) (h2 : qEy (pxOf name cols keys idx r)) : qBx name cols keys idx r = some (pxOf name cols keys idx r) := by
 unfold qBx; rw [if_pos ⟨h, h2⟩]
theorem qGe {name : Int} {cols : List Int} {keys idx : Int} {r : List Vl} {p : PX} (h : qBx name cols keys idx r = some p) : Good name cols keys idx r /\ qEy p /\ p = pxOf name cols keys idx r := by
 unfold qBx at h; split at h
 ·next h' => cases h; exact ⟨h'.1, h'.2, rfl⟩
 ·cases h
theorem qKv {name : Int} {cols : List Int} {keys idx : Int} (h : qJt name cols keys idx = true) : (∀ k ∈ cols, qEr k) /\ 97 <= name /\ name <= 122 /\ 1 <= keys /\ keys <= (cols.length : Int) /\ -1 <= idx /\ idx < (cols.length : Int) := by
 unfold qJt at h; split at h
 ·next hk =>
  refine ⟨hk, ?_⟩; unfold fitC at h; simp only [Bool.and_eq_true, decide_eq_true_eq] at h; exact h
 ·cases h
end
end Go.Proofs.YtkinkgbmlhiakaaGreatDoor
