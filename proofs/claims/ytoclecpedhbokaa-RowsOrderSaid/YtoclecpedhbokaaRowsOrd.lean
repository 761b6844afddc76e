/- The keys of rows are in the order of their key columns' values: for all numbers and texts; the arguments read afterwards as before. -/
import Derived.Test.YtoclecpedhbokaaRows
import Derived.Test.YtoclecpedhbokaaRwW
import Derived.Test.YtoclecpedhbokaaOpen1
import Derived.OpenShut
import Derived.ShutString
namespace Go.Proofs.Ytoclecpedhbokaa
open Go Go.RowKit

namespace RowsOrder
open Go.ChangeShapes Go.WideShapes Go.ChangeAt Go.ChangeMaps

def ordC : List Int := [0, 1]
def ordR (a : Int) (s : ByteArray) : List Vl := [⟨a, ⟨#[]⟩⟩, ⟨0, s⟩]
def ordK (a : Int) (s : ByteArray) : List UInt8 := [107, 0] ++ (be 8 (ordN a) ++ (s.data.toList ++ [0]))

theorem ord_ok {a : Int} {s : ByteArray} (h0 : -9223372036854775808 ≤ a) (h1 : a ≤ 9223372036854775807) (hs : s.size ≤ 140737488351232) : ∀ v ∈ ordR a s, v.Ok := by
  intro v hv
  simp only [ordR, List.mem_cons, List.not_mem_nil, or_false] at hv
  rcases hv with rfl | rfl
  · exact ⟨h0, h1, emp_small⟩
  · exact ⟨zero_lo, zero_hi, hs⟩

theorem sizes_two {cols : List Int} {r : List Vl} (hc : cols.length ≤ 2) (hv : ∀ v ∈ r, v.Ok) :
    (∀ k, (keysL cols r k).length ≤ 1152921504606846976) ∧ ∀ j k, (valL cols r j k).length ≤ 1152921504606846976 := by
  have hz : (cols.zip r).length ≤ cols.length := by rw [List.length_zip]; omega
  refine ⟨fun k => ?_, fun j k => ?_⟩
  · have h := flat_le (fun p : Int × Vl => formV p.1 p.2) 140737488351252 ((cols.zip r).take k) (fun p hp => form_len (hv _ (List.of_mem_zip (List.mem_of_mem_take hp)).2).s)
    have hl : ((cols.zip r).take k).length ≤ 2 := by rw [List.length_take]; omega
    have := Nat.mul_le_mul_right 140737488351252 hl
    unfold keysL
    omega
  · have h := flat_le (fun p : Int × Vl => packV p.1 p.2) 140737488351252 (((cols.zip r).take k).drop j) (fun p hp => pack_len (hv _ (List.of_mem_zip (List.mem_of_mem_take (List.mem_of_mem_drop hp))).2) (hv _ (List.of_mem_zip (List.mem_of_mem_take (List.mem_of_mem_drop hp))).2).s)
    have hl : (((cols.zip r).take k).drop j).length ≤ 2 := by rw [List.length_drop, List.length_take]; omega
    have := Nat.mul_le_mul_right 140737488351252 hl
    unfold valL
    omega

/-- The key of the law's row. -/
theorem ord_key {a : Int} {s : ByteArray} {p : PX} (h : pairO 107 ordC 2 (-1) (ordR a s) = some p) : p.k = ordK a s ∧ (0 : UInt8) ∉ s.data.toList := by
  obtain ⟨hg, _, rfl⟩ := pairO_inv h
  refine ⟨?_, bare_mem (hg.bare 1 ⟨0, s⟩ (.inl (by decide)) rfl)⟩
  unfold pxOf pkeyL
  simp only
  rw [show (2 : Int).toNat = 2 from rfl, show (107 : Int).toNat = 107 from rfl]
  have hk : keysL ordC (ordR a s) 2 = be 8 (ordN a) ++ (s.data.toList ++ [0]) := by
    unfold keysL ordC ordR
    simp [formV, formL, ordL]
  rw [hk]
  rfl

theorem less_eq (x : List UInt8) : ∀ y : List UInt8, Op.bytesLess x y = decide (x < y) := by
  induction x with
  | nil => intro y; cases y <;> simp [Op.bytesLess]
  | cons a x ih =>
    intro y
    cases y with
    | nil => simp [Op.bytesLess]
    | cons b y =>
      rw [Op.bytesLess, ih y]
      by_cases h1 : a < b <;> by_cases h2 : a = b <;> by_cases h3 : x < y <;> simp [List.cons_lt_cons_iff, h1, h2, h3]

theorem key_order {a b : Int} (a0 : -9223372036854775808 ≤ a) (a1 : a ≤ 9223372036854775807) (b0 : -9223372036854775808 ≤ b) (b1 : b ≤ 9223372036854775807) {s u : ByteArray} (hs : (0 : UInt8) ∉ s.data.toList) (hu : (0 : UInt8) ∉ u.data.toList) :
    (ordK a s < ordK b u ↔ a < b ∨ (a = b ∧ s.data.toList < u.data.toList)) ∧ (ordK a s = ordK b u ↔ a = b ∧ s.data.toList = u.data.toList) := by
  refine ⟨?_, ?_, ?_⟩
  · unfold ordK
    rw [show ∀ l : List UInt8, [107, 0] ++ l = 107 :: 0 :: l from fun _ => rfl, show ∀ l : List UInt8, [107, 0] ++ l = 107 :: 0 :: l from fun _ => rfl, List.cons_lt_cons_iff, List.cons_lt_cons_iff, key_lt a0 a1 b0 b1 hs hu]
    simp
  · intro h
    unfold ordK at h
    have h2 := List.append_cancel_left h
    have h3 := List.append_inj h2 (by rw [be_len, be_len])
    refine ⟨?_, ?_⟩
    · have e1 := rdBE_be 8 (ordN a) 0
      rw [h3.1, rdBE_be 8 (ordN b) 0, Nat.mod_eq_of_lt (ordN_lt a1), Nat.mod_eq_of_lt (ordN_lt b1)] at e1
      unfold ordN at e1
      omega
    · exact List.append_cancel_right h3.2
  · rintro ⟨rfl, h⟩
    unfold ordK
    rw [h]

set_option maxRecDepth 100000 in
theorem open_two {H : Type} {enc : TypeId × Value → H} {w : World} {base : Nat} {spare : Nat → Bool} {held : Bool} {r : Reach} {b0 : Nat} {v : Value} {d : DataW H} {ps : List MemPlace} (hval : Value.okWide Try.prog w r b0 47 v) (hd : DataW.Trod enc Try.prog w base spare held 47 v d ps) (_ : Fits Try.prog 47 d) :
    ∃ a b : Int, v = .agg #[.int .i64 a, .int .i64 b] ∧ -9223372036854775808 ≤ a ∧ a ≤ 9223372036854775807 ∧ -9223372036854775808 ≤ b ∧ b ≤ 9223372036854775807 := by
  simp only [Value.okWide, Try.underlying47] at hval
  obtain ⟨cs, rfl, hc, _⟩ := hval
  obtain ⟨fuel, hf⟩ := hd
  obtain ⟨xs, m, _, _, hl, hx, hel⟩ := DataW.trod_array Try.underlying47 hf
  have c1 : Try.prog.cellsOf 2 = 1 := by kernel_rfl
  have c2 : Try.prog.cellsOf 47 = 2 := by kernel_rfl
  have h0 := hel 0 (by decide)
  have h1 := hel 1 (by decide)
  rw [c1, List.getElem?_eq_getElem (by omega)] at h0 h1
  obtain ⟨a, e0, _, w0⟩ := DataW.trod_int Try.underlying2 h0
  obtain ⟨b, e1, _, w1⟩ := DataW.trod_int Try.underlying2 h1
  have g0 := get_of_take1 e0
  have g1 := get_of_take1 e1
  have k0 := wf_i64 w0
  have k1 := wf_i64 w1
  refine ⟨a, b, ?_, k0.1, k0.2, k1.1, k1.2⟩
  rw [c2] at hc
  simp only [Value.cells] at g0 g1
  have : cs.toList = [.int .i64 a, .int .i64 b] := by
    apply List.ext_getElem?
    intro j
    match j with
    | 0 => exact g0
    | 1 => exact g1
    | j + 2 => rw [List.getElem?_eq_none (by rw [Array.length_toList]; omega), List.getElem?_eq_none (by simp)]
  rw [← Array.toArray_toList (xs := cs), this]

set_option maxRecDepth 100000 in
set_option maxHeartbeats 4000000 in
theorem walk (W : World) (a b : Int) (a0 : -9223372036854775808 ≤ a) (a1 : a ≤ 9223372036854775807) (b0 : -9223372036854775808 ≤ b) (b1 : b ≤ 9223372036854775807) (s : ByteArray) (_ : s.size ≤ maxLen) (hs : s.size ≤ 140737488351232) (u : ByteArray) (_ : u.size ≤ maxLen) (hu : u.size ≤ 140737488351232) :
    Calls Try.prog 5 #[.agg #[.int .i64 a, .int .i64 b], .string s, .string u] W fun e w' => e = .returned (.bool true) ∧ Below W.heap.size W w' := by
  have HWk := hid (fun V : World => wakes_any V)
  have HE1 := hid (fun (V : World) (ca ra : Option Addr) (h1 : Lies V 1 oneI ca ordC) (h2 : Lies V 2 Vl.cs ra (ordR a s)) => encode_any (w := V) 107 2 (-1) 2 2 h1 h2 (by decide) (show (2 : Nat) ≤ 140737488351232 by decide) (ord_ok a0 a1 hs) (sizes_two (by decide) (ord_ok a0 a1 hs)).1 (sizes_two (by decide) (ord_ok a0 a1 hs)).2)
  have HE2 := hid (fun (V : World) (ca ra : Option Addr) (h1 : Lies V 1 oneI ca ordC) (h2 : Lies V 2 Vl.cs ra (ordR b u)) => encode_any (w := V) 107 2 (-1) 2 2 h1 h2 (by decide) (show (2 : Nat) ≤ 140737488351232 by decide) (ord_ok b0 b1 hu) (sizes_two (by decide) (ord_ok b0 b1 hu)).1 (sizes_two (by decide) (ord_ok b0 b1 hu)).2)
  have enc_shape : ∀ P : Option PX, ∃ (k v : ByteArray) (e : Int), encV P = .tuple #[.agg #[.string k, .string v], .int .i64 e] ∧ ((e = 60 ∧ P = none) ∨ (e = 0 ∧ ∃ p, P = some p ∧ k = ba p.k)) := fun P => by
    cases P with
    | none => exact ⟨_, _, _, rfl, .inl ⟨rfl, rfl⟩⟩
    | some p => exact ⟨_, _, _, rfl, .inr ⟨rfl, p, rfl, rfl⟩⟩
  obtain ⟨k1, v1, e1, hE1, hc1⟩ := enc_shape (pairO 107 ordC 2 (-1) (ordR a s))
  obtain ⟨k2, v2, e2, hE2, hc2⟩ := enc_shape (pairO 107 ordC 2 (-1) (ordR b u))
  rw [hE1] at HE1
  rw [hE2] at HE2
  have HC1 := hid hc1
  have HC2 := hid hc2
  have HA := hid (And.intro a0 a1)
  have HB := hid (And.intro b0 b1)
  clear enc_shape hE1 hE2 hc1 hc2 a0 a1 b0 b1
  have HM0 : Hid (Mod (fun _ => False) W (W.alloc (.cells #[.int .i64 a, .int .i64 b] 47))) := hid ((Mod.refl _ _).alloc _)
  obtain ⟨x0, x1, _, _⟩ := row2 (heap_alloc_new W (.cells #[.int .i64 a, .int .i64 b] 47))
  go_enter Try.func5, Try.ntmps5
  go_upto_region 1 with fail
  go_region
  generalize (W.alloc (.cells #[.int .i64 a, .int .i64 b] 47)) = C0 at *
  have HMC := hid HM0.out.drew
  clear x0 x1
  generalize C0.drew = C at *
  have hs1 : (C.alloc (.cells #[.int .i64 0, .int .i64 1] 48)).heap.size = C.heap.size + 1 := by simp
  have hk1 : ((C.alloc (.cells #[.int .i64 0, .int .i64 1] 48)).alloc (.cells #[.int .u8 107, .slice (some ⟨C.heap.size, 0, none⟩) 2 2, .int .i64 2, .int .i64 (-1)] 24)).heap[C.heap.size]? = some (.cells (ordC.flatMap oneI).toArray 48 (0, 0)) := by
    rw [Below.heap_alloc _ _ _ (by omega)]
    exact heap_alloc_new _ _
  have ht1 : ((C.alloc (.cells #[.int .i64 0, .int .i64 1] 48)).alloc (.cells #[.int .u8 107, .slice (some ⟨C.heap.size, 0, none⟩) 2 2, .int .i64 2, .int .i64 (-1)] 24)).heap[C.heap.size + 1]? = some (.cells #[.int .u8 107, .slice (some ⟨C.heap.size, 0, none⟩) 2 2, .int .i64 2, .int .i64 (-1)] 24 (0, 0)) := by
    have h := heap_alloc_new (C.alloc (.cells #[.int .i64 0, .int .i64 1] 48)) (.cells #[.int .u8 107, .slice (some ⟨C.heap.size, 0, none⟩) 2 2, .int .i64 2, .int .i64 (-1)] 24)
    rw [hs1] at h
    exact h
  have HK := hid hk1
  have HT := hid ht1
  have HMV := hid ((HMC.out.alloc (.cells #[.int .i64 0, .int .i64 1] 48)).alloc (.cells #[.int .u8 107, .slice (some ⟨C.heap.size, 0, none⟩) 2 2, .int .i64 2, .int .i64 (-1)] 24))
  clear hs1 hk1 ht1
  go_upto_region 3 with fail
  generalize (C.alloc (.cells #[.int .i64 0, .int .i64 1] 48)).alloc (.cells #[.int .u8 107, .slice (some ⟨C.heap.size, 0, none⟩) 2 2, .int .i64 2, .int .i64 (-1)] 24) = V at *
  have HLc : Hid (∀ V', Mod (fun _ => False) V V' → Lies V' 1 oneI (some ⟨C.heap.size, 0, none⟩) ordC) := hid (fun V' hm => (lies_new oneI_len HK.out).ext hm)
  have HRw := hid (fun (V' : World) (hm : Mod (fun _ => False) V V') => row4 ((hm.block _ (lt_of_heap HT.out) (fun h => h)).trans HT.out))
  obtain ⟨t0, t1, t2, t3⟩ := HRw.out V (Mod.refl _ _)
  have HM3 : Hid (Mod (fun _ => False) V (V.alloc (.cells #[.int .i64 a, .string ⟨#[]⟩, .int .i64 0, .string s] 50))) := hid ((Mod.refl _ _).alloc _)
  have HR3 : Hid (Lies (V.alloc (.cells #[.int .i64 a, .string ⟨#[]⟩, .int .i64 0, .string s] 50)) 2 Vl.cs (some ⟨V.heap.size, 0, none⟩) (ordR a s)) := hid (lies_new vl_len (heap_alloc_new _ _))
  have hE1 := hid (HE1.out _ _ _ (HLc.out _ HM3.out) HR3.out)
  go_upto_region 4 with (go_at_call 7; refine hE1.out.mono ?_; rintro e w4 ⟨rfl, hm4⟩; have HM4 := hid (HM3.out.trans hm4); clear hm4)
  have HN4 : Hid ((w4.alloc (.cells #[.string k1, .string v1] 28)).heap[w4.heap.size]? = some (.cells #[.string k1, .string v1] 28 (0, 0))) := hid (heap_alloc_new _ _)
  have HM4b := hid (HM4.out.alloc (.cells #[.string k1, .string v1] 28))
  clear t0 t1 t2 t3
  generalize w4.alloc (.cells #[.string k1, .string v1] 28) = V4 at *
  obtain ⟨t0, t1, t2, t3⟩ := HRw.out V4 HM4b.out
  have HM5 : Hid (Mod (fun _ => False) V4 (V4.alloc (.cells #[.int .i64 b, .string ⟨#[]⟩, .int .i64 0, .string u] 50))) := hid ((Mod.refl _ _).alloc _)
  have HR5 : Hid (Lies (V4.alloc (.cells #[.int .i64 b, .string ⟨#[]⟩, .int .i64 0, .string u] 50)) 2 Vl.cs (some ⟨V4.heap.size, 0, none⟩) (ordR b u)) := hid (lies_new vl_len (heap_alloc_new _ _))
  have hE2 := hid (HE2.out _ _ _ (HLc.out _ (HM4b.out.trans HM5.out)) HR5.out)
  go_upto_region 5 with (go_at_call 7; refine hE2.out.mono ?_; rintro e w6 ⟨rfl, hm6⟩; have HM6 := hid (HM5.out.trans hm6); clear hm6)
  have HN6 : Hid ((w6.alloc (.cells #[.string k2, .string v2] 28)).heap[w6.heap.size]? = some (.cells #[.string k2, .string v2] 28 (0, 0))) := hid (heap_alloc_new _ _)
  have HM6b := hid (HM6.out.alloc (.cells #[.string k2, .string v2] 28))
  clear t0 t1 t2 t3
  generalize w6.alloc (.cells #[.string k2, .string v2] 28) = V6 at *
  have HM7 := hid (HMV.out.trans (HM4b.out.trans HM6b.out))
  rcases HC1.out with ⟨rfl, _⟩ | ⟨rfl, p, hp, rfl⟩
  · go_wp2_with (first | (go_at_call 11; refine (HWk.out V6).mono ?_; rintro e w8 ⟨rfl, hm8⟩; have HM8 := hid hm8; clear hm8) | (go_at_call 11; refine (HWk.out w8).mono ?_; rintro e w9 ⟨rfl, hm9⟩; have HM9 := hid hm9; clear hm9))
    go_ret
    exact ⟨rfl, (HM7.out.trans (HM8.out.trans HM9.out)).below (Nat.le_refl _) (fun _ h => h.elim)⟩
  · rcases HC2.out with ⟨rfl, _⟩ | ⟨rfl, q, hq, rfl⟩
    · go_wp2_with (first | (go_at_call 11; refine (HWk.out V6).mono ?_; rintro e w8 ⟨rfl, hm8⟩; have HM8 := hid hm8; clear hm8) | (go_at_call 11; refine (HWk.out w8).mono ?_; rintro e w9 ⟨rfl, hm9⟩; have HM9 := hid hm9; clear hm9))
      go_ret
      exact ⟨rfl, (HM7.out.trans (HM8.out.trans HM9.out)).below (Nat.le_refl _) (fun _ h => h.elim)⟩
    · obtain ⟨p1, p2⟩ := ord_key hp
      obtain ⟨q1, q2⟩ := ord_key hq
      obtain ⟨HLt, HEq⟩ := key_order HA.out.1 HA.out.2 HB.out.1 HB.out.2 p2 q2
      have hN4 := (HM6b.out.block _ (lt_of_heap HN4.out) (fun h => h)).trans HN4.out
      rw [p1] at hN4
      have hN6 := HN6.out
      rw [q1] at hN6
      generalize ordK a s = x at *
      generalize ordK b u = y at *
      have HN4' := hid hN4
      have HN6' := hid hN6
      have HLt' := hid HLt
      have HEq' := hid HEq
      clear hN4 hN6 HLt HEq hp hq p1 p2 q1 q2
      go_upto_region 7 with (go_at_call 11; refine (HWk.out _).mono ?_; rintro e w8 ⟨rfl, hm8⟩; have HM8 := hid hm8; clear hm8)
      obtain ⟨c0, _, _, _⟩ := row2 ((HM8.out.block _ (lt_of_heap HN4'.out) (fun h => h)).trans HN4'.out)
      obtain ⟨d0, _, _, _⟩ := row2 ((HM8.out.block _ (lt_of_heap HN6'.out) (fun h => h)).trans HN6'.out)
      have hm9 := HM7.out.trans HM8.out
      have HM9 := hid hm9
      have e1 : Op.bytesLess (ba x).toList (ba y).toList = (decide (a < b) || (decide (a = b) && Op.bytesLess s.toList u.toList)) := by
        rw [less_eq, less_eq, ByteArray.toList_eq, ByteArray.toList_eq, ByteArray.toList_eq, ByteArray.toList_eq, ba_data, ba_data, Bool.eq_iff_iff, Bool.or_eq_true, Bool.and_eq_true, decide_eq_true_iff, decide_eq_true_iff, decide_eq_true_iff, decide_eq_true_iff]
        exact HLt'.out
      have e2 : (ba x).toList = (ba y).toList ↔ (a = b ∧ s.toList = u.toList) := by
        rw [ByteArray.toList_eq, ByteArray.toList_eq, ByteArray.toList_eq, ByteArray.toList_eq, ba_data, ba_data]
        exact HEq'.out
      clear hm9 HLt' HEq' HC1 HC2
      rcases Int.lt_trichotomy a b with hab | hab | hab
      · have hne : ¬ a = b := by omega
        have f1 : Op.bytesLess (ba x).toList (ba y).toList = true := by rw [e1, decide_eq_true hab]; rfl
        have f2 : ((ba x).toList == (ba y).toList) = false := beq_eq_false_iff_ne.2 (fun h => hne (e2.1 h).1)
        clear e1 e2
        go_wp2_with fail
        go_ret
        exact ⟨rfl, HM9.out.below (Nat.le_refl _) (fun _ h => h.elim)⟩
      · have hnl : ¬ a < b := by omega
        have f1 : Op.bytesLess (ba x).toList (ba y).toList = Op.bytesLess s.toList u.toList := by rw [e1, decide_eq_false hnl, decide_eq_true hab]; rfl
        by_cases hsu : s.toList = u.toList
        · have f2 : ((ba x).toList == (ba y).toList) = true := beq_iff_eq.2 (e2.2 ⟨hab, hsu⟩)
          clear e1 e2
          obtain rfl := list_inj hsu
          have hbl : Op.bytesLess s.toList s.toList = false := by rw [less_eq]; exact decide_eq_false (List.lt_irrefl _)
          rw [hbl] at f1
          go_wp2_with fail
          go_ret
          exact ⟨rfl, HM9.out.below (Nat.le_refl _) (fun _ h => h.elim)⟩
        · have f2 : ((ba x).toList == (ba y).toList) = false := beq_eq_false_iff_ne.2 (fun h => hsu (e2.1 h).2)
          have f3 : (s.toList == u.toList) = false := beq_eq_false_iff_ne.2 hsu
          clear e1 e2
          cases hbl : Op.bytesLess s.toList u.toList <;> (rw [hbl] at f1; go_wp2_with fail; go_ret; exact ⟨rfl, HM9.out.below (Nat.le_refl _) (fun _ h => h.elim)⟩)
      · have hne : ¬ a = b := by omega
        have hnl : ¬ a < b := by omega
        have f1 : Op.bytesLess (ba x).toList (ba y).toList = false := by rw [e1, decide_eq_false hnl, decide_eq_false hne]; rfl
        have f2 : ((ba x).toList == (ba y).toList) = false := beq_eq_false_iff_ne.2 (fun h => hne (e2.1 h).1)
        clear e1 e2
        go_wp2_with fail
        go_ret
        exact ⟨rfl, HM9.out.below (Nat.le_refl _) (fun _ h => h.elim)⟩

theorem own : ownKnob Try.prog.godebug = none := by kernel_rfl
theorem laidOut : laidOutB Try.prog = true := by kernel_rfl

set_option maxRecDepth 100000 in
theorem lifted (os : Os) (started : os.Started) (H : Type) (enc : TypeId × Value → H) :
    ReturnsInHanded {} Try.checked os 5 .any (Rows.rowsOrderSpec.pre6 enc Try.prog Try.f5 Rows.rowsOrderRow.domain false) (Rows.rowsOrderSpec.post enc Try.prog Try.f5 false true false false) := by
  refine returnsInHanded_of_change_sized (C := Try.checked) own started (by kernel_rfl) Try.func5
    (ChangeSpec.witness6 (enc := enc) (C := Try.checked) false ⟨#[], #[.agg #[.int .i64 0, .int .i64 0], .string ⟨#[]⟩, .string ⟨#[]⟩], []⟩ 8 (by kernel_rfl) (by kernel_rfl) (by kernel_rfl) (by kernel_rfl)) ?_
  intro W base args ds gs before hval0 hW hcnd hsz0 _
  have hsz : (DataW.weightsEach Try.prog (Try.f5.params.toList ++ Rows.rowsOrderSpec.plain.varTypes Try.prog) (ds ++ gs)).all (· ≤ reachBytes) = true := hsz0
  clear hsz0
  have hval : ∀ (j : Nat) t v, Try.f5.params[j]? = some t → args[j]? = some v → Value.okWide Try.prog W .any base t v := hval0
  have hW' := hW
  obtain ⟨p, q, hA0, hV, rfl, hfz, hnd⟩ := hW
  have hA : DataW.TrodAll enc Try.prog W 0 (fun _ => true) true Try.f5.params.toList args.toList ds p := hA0
  rw [Try.params5] at hA hval hsz
  obtain ⟨v0, vs0, d0, ds0, p0, q0, hargs, rfl, rfl, h0, r0⟩ := trodAll_cons hA
  obtain ⟨v1, vs1, d1, ds1, p1, q1, rfl, rfl, rfl, h1, r1⟩ := trodAll_cons r0
  obtain ⟨v2, vs2, d2, ds2, p2, q2, rfl, rfl, rfl, h2, r2⟩ := trodAll_cons r1
  obtain ⟨rfl, rfl, rfl⟩ := trodAll_nil r2
  obtain rfl : args = #[v0, v1, v2] := by cases args; simp_all
  obtain ⟨rfl, rfl⟩ := trodVars_none hV
  have lt0 : ∀ x ∈ p0, x.block < W.heap.size := by obtain ⟨m, hm⟩ := h0; exact DataW.trod_lt m _ _ _ hm
  have lt1 : ∀ x ∈ p1, x.block < W.heap.size := by obtain ⟨m, hm⟩ := h1; exact DataW.trod_lt m _ _ _ hm
  have lt2 : ∀ x ∈ p2, x.block < W.heap.size := by obtain ⟨m, hm⟩ := h2; exact DataW.trod_lt m _ _ _ hm
  have hsz' : (DataW.weightsEach Try.prog [47, 9, 9] [d0, d1, d2]).all (· ≤ reachBytes) = true := hsz
  obtain ⟨x0a, x0b, rfl, f0a, f0b, f0c, f0d⟩ := open_two (hval 0 47 v0 rfl rfl) h0 (fits_of_each hsz' (j := 0) rfl rfl)
  obtain ⟨s1, rfl, rfl, rfl, ws1⟩ := open_string Try.underlying9 (hval 1 9 v1 rfl rfl) h1
  have wt1 : s1.size ≤ 140737488351232 := by have := (fits_of_each hsz' (j := 1) rfl rfl) s1.data.toList.length (by simp [DataW.weights]); simpa using this
  obtain ⟨s2, rfl, rfl, rfl, ws2⟩ := open_string Try.underlying9 (hval 2 9 v2 rfl rfl) h2
  have wt2 : s2.size ≤ 140737488351232 := by have := (fits_of_each hsz' (j := 2) rfl rfl) s2.data.toList.length (by simp [DataW.weights]); simpa using this
  clear hA0 hval0
  refine (walk W x0a x0b f0a f0b f0c f0d s1 ws1 wt1 s2 ws2 wt2).mono fun e W' ⟨he, bel⟩ => ?_
  subst he
  exact ⟨_, rfl, _, _, _, [], _, [], hW', trodAll_mk1 (shut_bool Try.underlying4 _), (trodAll_cons_mk (Below.trod laidOut (by kernel_rfl) (of_decide_eq_true (by kernel_rfl)) h0 bel lt0) (trodAll_cons_mk (Below.trod laidOut (by kernel_rfl) (of_decide_eq_true (by kernel_rfl)) h1 bel lt1) (trodAll_cons_mk (Below.trod laidOut (by kernel_rfl) (of_decide_eq_true (by kernel_rfl)) h2 bel lt2) trodAll_mk0))), rfl, bel.frame _, fun h => by cases h⟩

theorem over : Rows.rowsOrderRow.holds Try.pinned (OpenSpec.ofChange Rows.rowsOrderSpec) :=
  OpenClaim.holds_of_wide 5 Try.f5 rfl rfl rfl rfl rfl rfl rfl ⟨rfl, rfl, rfl, rfl, rfl⟩ rfl rfl rfl rfl rfl (by kernel_rfl) Try.func5 (by kernel_rfl)
    (of_decide_eq_true (by kernel_rfl)) (by unfold Func.isWrapper; first | (rw [if_pos (by decide +kernel)]; kernel_rfl) | (rw [if_neg (by decide +kernel)]; exact ⟨rfl, rfl⟩))
    (fun os started H enc _ => lifted os started H enc)

theorem proved : Rows.RowsOrderSaid := over
#print axioms proved



end RowsOrder

theorem rowsOrder_holds : Rows.RowsOrderSaid := RowsOrder.proved
end Go.Proofs.Ytoclecpedhbokaa
