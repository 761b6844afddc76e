/- play -/
import Derived.Test.YtppemlofjbblfaaBusQ
import Derived.Test.YtppemlofjbblfaaBusL
import Derived.Test.YtppemlofjbblfaaBusRR
import Derived.Test.YtppemlofjbblfaaBusRR
namespace Go.Proofs.Ytppemlofjbblfaa
open Go Go.RowKit

def PlayRel (w0 : World) (F0 : Nat → Prop) (b0 r : Nat) (N : Int) (os : List Opr) (p c : Value) (wr : World) : Prop :=
  ∃ (k b : Nat) (sa : Option Addr) (cap : Nat) (ra : Option Addr) (rcap : Nat) (ls : List Let) (n : Int), k ≤ os.length ∧ c = .int .i64 k ∧ p = .pointer (some ⟨b, 0, none⟩) ∧
    Two w0 F0 wr b sa cap ls n r ra rcap ls n ∧ Fit n ls (N + k) ∧ ((∀ o ∈ os, o.kind ≠ 4) → b = b0)

/-- What play leaves. -/
def PlayAns (w0 : World) (F0 : Nat → Prop) (b0 r : Nat) (N : Int) (os : List Opr) (w' : World) : Prop :=
  ∃ (b : Nat) (sa : Option Addr) (cap : Nat) (ra : Option Addr) (rcap : Nat) (ls : List Let) (n : Int), Two w0 F0 w' b sa cap ls n r ra rcap ls n ∧ Fit n ls (N + os.length) ∧ ((∀ o ∈ os, o.kind ≠ 4) → b = b0)

set_option maxRecDepth 100000 in
set_option maxHeartbeats 4000000 in
theorem play_yes {w0 : World} {F0 : Nat → Prop} {b0 r : Nat} {sa0 ra0 : Option Addr} {cap0 rcap0 : Nat} {ls0 : List Let} {n0 N : Int} {os : List Opr} {xa : Option Addr} {xc : Nat}
    (htwo : Two w0 F0 w0 b0 sa0 cap0 ls0 n0 r ra0 rcap0 ls0 n0) (hfit : Fit n0 ls0 N) (hN : N + os.length < 4611686018427387904)
    (hsrc : Src w0 10 xa os.length (os.flatMap Opr.cs)) (hlit : 0 < os.length → ∀ a, xa = some a → a.spot = none) (hB : 0 < os.length → ∀ k, blk xa k → ¬ F0 k) :
    Calls Try.prog 17 #[.pointer (some ⟨b0, 0, none⟩), .pointer (some ⟨r, 0, none⟩), .slice xa os.length xc] w0 fun e w' => e = .returned (.bool true) ∧ PlayAns w0 F0 b0 r N os w' := by
  have Htwo := hid htwo
  have Hfit := hid hfit
  have Hsrc := hid hsrc
  have HB := hid hB
  have HN := hid hN
  have hol : os.length ≤ 9223372036854775807 := by have := hfit.2.1; have := hfit.2.2.1; omega
  clear htwo hfit hsrc hB hN
  go_enter Try.func17, Try.ntmps17
  go_wp2
  go_loopw [0, 25] (fun p c wr => PlayRel w0 F0 b0 r N os p c wr) (fun _ c _ => os.length - (intOf c).toNat)
  case atStart => exact ⟨0, b0, sa0, cap0, ra0, rcap0, ls0, n0, Nat.zero_le _, rfl, rfl, Htwo.out, by simpa using Hfit.out, fun _ => rfl⟩
  case round =>
    obtain ⟨k, b, sa, cap, ra, rcap, ls, n, hk, rfl, rfl, htwo, hfit, hsame⟩ := hrel
    by_cases hlt : k < os.length
    · obtain ⟨⟨kd, p, a0, a1, a2, a3, a4, a5, a6, s⟩, hx⟩ : ∃ x, os[k]? = some x := ⟨_, List.getElem?_eq_getElem hlt⟩
      obtain ⟨a, rfl⟩ : ∃ a, xa = some a := by
        cases xa with
        | none => have := Hsrc.out.2.1 rfl; omega
        | some a => exact ⟨a, rfl⟩
      obtain ⟨g, off, sp⟩ := a
      have hsp := hlit (by omega) _ rfl
      simp only at hsp
      subst hsp
      obtain ⟨q0, q1, q2, q3, q4, q5, q6, q7, q8, q9⟩ := opr_cells rfl (Hsrc.out.mod htwo.mod (HB.out (by omega))) hx
      have Hx := hid hx
      have Htw := hid htwo
      have Hft := hid hfit
      have Hsm := hid hsame
      have hb1 : (n != n) = false := by simp
      clear hx htwo hfit hsame
      -- the call itself lies in a block of its own
      have HW : Hid (Mod (fun _ => False) wr (wr.alloc (.cells #[.int .i64 kd, .int .i64 p, .int .i64 a0, .int .i64 a1, .int .i64 a2, .int .i64 a3, .int .i64 a4, .int .i64 a5, .int .i64 a6, .string s] 30))) := (Mod.refl _ _).alloc _
      have HO := hid (heap_alloc_new wr (.cells #[.int .i64 kd, .int .i64 p, .int .i64 a0, .int .i64 a1, .int .i64 a2, .int .i64 a3, .int .i64 a4, .int .i64 a5, .int .i64 a6, .string s] 30))
      have HT1 := hid (Htw.out.ext HW.out)
      by_cases h1 : kd = 1
      · have c1 : (kd == 1) = true := by simp [h1]
        clear h1
        go_wp2_with fail
        by_cases hl : ls.length < 4096
        · have hn1 : 0 ≤ n := by have := Hft.out.2.1; omega
          have hn2 : n < 4611686018427387904 := by have := Hft.out.2.2.1; have := HN.out; omega
          refine (send_ok b sa cap n _ ls a0 a1 a2 a3 a4 a5 a6 s HT1.out.bus hl hn1 hn2).mono ?_
          rintro e w1 ⟨rfl, hst⟩
          obtain ⟨sa1, cap1, hT2⟩ := HT1.out.left hst
          obtain ⟨_, _, _, hm1, _⟩ := hst
          have HT2 := hid hT2
          have hO : w1.heap[wr.heap.size]? = _ := (hm1.block wr.heap.size (lt_of_heap HO.out) (fun h => by have := Htw.out.bus.lt _ h; omega)).trans HO.out
          obtain ⟨o0, o1, o2, o3, o4, o5, o6, o7, o8, o9⟩ := cells10 hO
          have HO := hid hO
          clear hO
          clear hT2 hm1 q0 q1 q2 q3 q4 q5 q6 q7 q8 q9
          go_wp2_with (go_at_call 19; refine (ref_any _ _ _ _ _ _ _ _ _).mono ?_; rintro e w2 ⟨rfl, hm2⟩; have M2 := hid hm2; clear hm2)
          have HT3 := hid (HT2.out.ext M2.out)
          refine (rsend_ok r ra rcap n _ ls a0 a1 a2 a3 a4 a5 a6 s HT3.out.ref hl hn1 hn2).mono ?_
          rintro e w3 ⟨rfl, hst⟩
          obtain ⟨ra3, rcap3, hT4⟩ := HT3.out.right hst
          have TT := hid hT4
          have FT : Hid (Fit (n + 1) (ls ++ [⟨n, a1, a2, a3, a4, a5, a6, s⟩]) (N + ((k + 1 : Nat) : Int))) := by
            have ek : N + ((k + 1 : Nat) : Int) = N + (k : Int) + 1 := by omega
            rw [ek]; exact Hft.out.send hl rfl
          clear hst hT4 o0 o1 o2 o3 o4 o5 o6 o7 o8 o9 hn1 hn2
          go_wp2_with (go_at_call 21; refine (alike_yes TT.out.bus TT.out.ref FT.out.2.2.2).mono ?_; rintro e w9 ⟨rfl, hm9⟩; have M9 := hid hm9; clear hm9)
          go_roundw
          case rel => exact ⟨k + 1, b, _, _, _, _, _, _, by omega, by go_num, rfl, TT.out.ext M9.out, FT.out, Hsm.out⟩
          case measure => simp [intOf]; omega
        · have hl' : 4096 ≤ ls.length := by omega
          refine (send_full b sa cap n _ ls a0 a1 a2 a3 a4 a5 a6 s HT1.out.bus hl').mono ?_
          rintro e w1 ⟨rfl, hm1⟩
          have HT2 := hid (HT1.out.ext hm1)
          have hO : w1.heap[wr.heap.size]? = _ := (hm1.block wr.heap.size (lt_of_heap HO.out) (fun h => h)).trans HO.out
          obtain ⟨o0, o1, o2, o3, o4, o5, o6, o7, o8, o9⟩ := cells10 hO
          have HO := hid hO
          clear hO
          clear hm1 q0 q1 q2 q3 q4 q5 q6 q7 q8 q9
          go_wp2_with (go_at_call 19; refine (ref_any _ _ _ _ _ _ _ _ _).mono ?_; rintro e w2 ⟨rfl, hm2⟩; have M2 := hid hm2; clear hm2)
          have HT3 := hid (HT2.out.ext M2.out)
          refine (rsend_full r ra rcap n _ ls a0 a1 a2 a3 a4 a5 a6 s HT3.out.ref hl').mono ?_
          rintro e w3 ⟨rfl, hm3⟩
          have TT := hid (HT3.out.ext hm3)
          have FT : Hid (Fit n ls (N + ((k + 1 : Nat) : Int))) := by
            have ek : N + ((k + 1 : Nat) : Int) = N + (k : Int) + 1 := by omega
            rw [ek]; exact Hft.out.same
          clear hm3 o0 o1 o2 o3 o4 o5 o6 o7 o8 o9
          go_wp2_with (go_at_call 21; refine (alike_yes TT.out.bus TT.out.ref FT.out.2.2.2).mono ?_; rintro e w9 ⟨rfl, hm9⟩; have M9 := hid hm9; clear hm9)
          go_roundw
          case rel => exact ⟨k + 1, b, _, _, _, _, _, _, by omega, by go_num, rfl, TT.out.ext M9.out, FT.out, Hsm.out⟩
          case measure => simp [intOf]; omega
      · have c1 : (kd == 1) = false := by simp [h1]
        by_cases h2 : kd = 2
        · have c2 : (kd == 2) = true := by simp [h2]
          clear h1 h2
          go_wp2_with fail
          by_cases hp : 0 ≤ p ∧ p < ls.length
          · obtain ⟨i, rfl⟩ : ∃ i : Nat, p = i := ⟨p.toNat, by omega⟩
            have hi : i < ls.length := by omega
            obtain ⟨⟨y0, y1, y2, y3, y4, y5, y6, ys⟩, hy⟩ : ∃ x, ls[i]? = some x := ⟨_, List.getElem?_eq_getElem hi⟩
            have Hy := hid hy
            clear hy
            refine (take_ok HT1.out.bus i Hy.out Hft.out.2.2.2).mono ?_
            rintro e w1 ⟨rfl, hst⟩
            obtain ⟨sa1, cap1, hT2⟩ := HT1.out.left hst
            obtain ⟨_, _, _, hm1, _⟩ := hst
            have hO : w1.heap[wr.heap.size]? = _ := (hm1.block wr.heap.size (lt_of_heap HO.out) (fun h => by have := Htw.out.bus.lt _ h; omega)).trans HO.out
            obtain ⟨o0, o1, o2, o3, o4, o5, o6, o7, o8, o9⟩ := cells10 hO
            have HO := hid hO
            clear hO
            have HA := hid (heap_alloc_new w1 (.cells #[.int .i64 y0, .int .i64 y1, .int .i64 y2, .int .i64 y3, .int .i64 y4, .int .i64 y5, .int .i64 y6, .string ys] 28))
            have hmA : Mod (fun _ => False) w1 (w1.alloc (.cells #[.int .i64 y0, .int .i64 y1, .int .i64 y2, .int .i64 y3, .int .i64 y4, .int .i64 y5, .int .i64 y6, .string ys] 28)) := (Mod.refl _ _).alloc _
            have HT2 := hid (hT2.ext hmA)
            have HO := hid ((hmA.block wr.heap.size (lt_of_heap HO.out) (fun h => h)).trans HO.out)
            have hws : wr.heap.size < w1.heap.size := World.block_lt_of_cell? _ _ o0
            have hR := fun h => hT2.ref.lt w1.heap.size h
            clear hT2 hm1 hmA q0 q1 q2 q3 q4 q5 q6 q7 q8 q9
            go_wp2_with fail
            refine (rtake_ok HT2.out.ref i Hy.out Hft.out.2.2.2).mono ?_
            rintro e w2 ⟨rfl, hst⟩
            obtain ⟨ra3, rcap3, hT3⟩ := HT2.out.right hst
            have HT3 := hid hT3
            obtain ⟨_, _, _, hm2, _⟩ := hst
            have HL := hid ((hm2.block w1.heap.size (lt_of_heap HA.out) (fun h => by have := hR h; omega)).trans HA.out)
            clear hT3 hm2 hR
            go_wp2
            have hW3 : Mod (fun _ => False) w2 (w2.alloc (.cells #[.int .i64 y0, .int .i64 y1, .int .i64 y2, .int .i64 y3, .int .i64 y4, .int .i64 y5, .int .i64 y6, .string ys] 50)) := (Mod.refl _ _).alloc _
            have hL1 := (hW3.block w1.heap.size (lt_of_heap HL.out) (fun h => h)).trans HL.out
            have hL2 := heap_alloc_new w2 (.cells #[.int .i64 y0, .int .i64 y1, .int .i64 y2, .int .i64 y3, .int .i64 y4, .int .i64 y5, .int .i64 y6, .string ys] 50)
            have TT3 := hid (HT3.out.ext hW3)
            generalize w2.alloc (.cells #[.int .i64 y0, .int .i64 y1, .int .i64 y2, .int .i64 y3, .int .i64 y4, .int .i64 y5, .int .i64 y6, .string ys] 50) = W3 at *
            have l0 := fun x : Ext W3 => (cells8 (x.heap hL1)).1
            have m0 := fun x : Ext W3 => (cells8 (x.heap hL2)).1
            have l1 := fun x : Ext W3 => (cells8 (x.heap hL1)).2.1
            have m1 := fun x : Ext W3 => (cells8 (x.heap hL2)).2.1
            have l2 := fun x : Ext W3 => (cells8 (x.heap hL1)).2.2.1
            have m2 := fun x : Ext W3 => (cells8 (x.heap hL2)).2.2.1
            have l3 := fun x : Ext W3 => (cells8 (x.heap hL1)).2.2.2.1
            have m3 := fun x : Ext W3 => (cells8 (x.heap hL2)).2.2.2.1
            have l4 := fun x : Ext W3 => (cells8 (x.heap hL1)).2.2.2.2.1
            have m4 := fun x : Ext W3 => (cells8 (x.heap hL2)).2.2.2.2.1
            have l5 := fun x : Ext W3 => (cells8 (x.heap hL1)).2.2.2.2.2.1
            have m5 := fun x : Ext W3 => (cells8 (x.heap hL2)).2.2.2.2.2.1
            have l6 := fun x : Ext W3 => (cells8 (x.heap hL1)).2.2.2.2.2.2.1
            have m6 := fun x : Ext W3 => (cells8 (x.heap hL2)).2.2.2.2.2.2.1
            have l7 := fun x : Ext W3 => (cells8 (x.heap hL1)).2.2.2.2.2.2.2
            have m7 := fun x : Ext W3 => (cells8 (x.heap hL2)).2.2.2.2.2.2.2
            clear hW3 hL1 hL2 o0 o1 o2 o3 o4 o5 o6 o7 o8 o9
            refine wp_region_ext (by kernel_rfl) (by kernel_rfl) ?_
            repeat (go_big_quiet_step ((go_at_call 19; exact ext_call (ref_any _ _ _ _ _ _ _ _ _))))
            refine wpQuiet_nil ?_
            rintro _ ⟨x, rfl⟩
            have TT := hid (TT3.out.ext x.mod)
            clear l0 m0 l1 m1 l2 m2 l3 m3 l4 m4 l5 m5 l6 m6 l7 m7
            have FT : Hid (Fit n (ls.eraseIdx i) (N + ((k + 1 : Nat) : Int))) := by
              have ek : N + ((k + 1 : Nat) : Int) = N + (k : Int) + 1 := by omega
              rw [ek]; exact Hft.out.take i
            go_wp2_with (go_at_call 21; refine (alike_yes TT.out.bus TT.out.ref FT.out.2.2.2).mono ?_; rintro e w9 ⟨rfl, hm9⟩; have M9 := hid hm9; clear hm9)
            go_roundw
            case rel => exact ⟨k + 1, b, _, _, _, _, _, _, by omega, by go_num, rfl, TT.out.ext M9.out, FT.out, Hsm.out⟩
            case measure => simp [intOf]; omega
          · refine (take_bad HT1.out.bus p (by omega)).mono ?_
            rintro e w1 ⟨rfl, hm1⟩
            have hT2 := HT1.out.ext hm1
            have hO : w1.heap[wr.heap.size]? = _ := (hm1.block wr.heap.size (lt_of_heap HO.out) (fun h => h)).trans HO.out
            obtain ⟨o0, o1, o2, o3, o4, o5, o6, o7, o8, o9⟩ := cells10 hO
            have HO := hid hO
            clear hO
            have HA := hid (heap_alloc_new w1 (.cells #[.int .i64 0, .int .i64 0, .int .i64 0, .int .i64 0, .int .i64 0, .int .i64 0, .int .i64 0, .string ByteArray.empty] 28))
            have hmA : Mod (fun _ => False) w1 (w1.alloc (.cells #[.int .i64 0, .int .i64 0, .int .i64 0, .int .i64 0, .int .i64 0, .int .i64 0, .int .i64 0, .string ByteArray.empty] 28)) := (Mod.refl _ _).alloc _
            have HT2 := hid (hT2.ext hmA)
            have hws : wr.heap.size < w1.heap.size := World.block_lt_of_cell? _ _ o0
            clear hT2 hm1 hmA q0 q1 q2 q3 q4 q5 q6 q7 q8 q9
            go_wp2_with fail
            refine (rtake_bad HT2.out.ref p (by omega)).mono ?_
            rintro e w2 ⟨rfl, hm2⟩
            have HT3 := hid (HT2.out.ext hm2)
            have HL := hid ((hm2.block w1.heap.size (lt_of_heap HA.out) (fun h => h)).trans HA.out)
            clear hm2
            go_wp2
            have hW3 : Mod (fun _ => False) w2 (w2.alloc (.cells #[.int .i64 0, .int .i64 0, .int .i64 0, .int .i64 0, .int .i64 0, .int .i64 0, .int .i64 0, .string ByteArray.empty] 50)) := (Mod.refl _ _).alloc _
            have hL1 := (hW3.block w1.heap.size (lt_of_heap HL.out) (fun h => h)).trans HL.out
            have hL2 := heap_alloc_new w2 (.cells #[.int .i64 0, .int .i64 0, .int .i64 0, .int .i64 0, .int .i64 0, .int .i64 0, .int .i64 0, .string ByteArray.empty] 50)
            have TT3 := hid (HT3.out.ext hW3)
            generalize w2.alloc (.cells #[.int .i64 0, .int .i64 0, .int .i64 0, .int .i64 0, .int .i64 0, .int .i64 0, .int .i64 0, .string ByteArray.empty] 50) = W3 at *
            have l0 := fun x : Ext W3 => (cells8 (x.heap hL1)).1
            have m0 := fun x : Ext W3 => (cells8 (x.heap hL2)).1
            have l1 := fun x : Ext W3 => (cells8 (x.heap hL1)).2.1
            have m1 := fun x : Ext W3 => (cells8 (x.heap hL2)).2.1
            have l2 := fun x : Ext W3 => (cells8 (x.heap hL1)).2.2.1
            have m2 := fun x : Ext W3 => (cells8 (x.heap hL2)).2.2.1
            have l3 := fun x : Ext W3 => (cells8 (x.heap hL1)).2.2.2.1
            have m3 := fun x : Ext W3 => (cells8 (x.heap hL2)).2.2.2.1
            have l4 := fun x : Ext W3 => (cells8 (x.heap hL1)).2.2.2.2.1
            have m4 := fun x : Ext W3 => (cells8 (x.heap hL2)).2.2.2.2.1
            have l5 := fun x : Ext W3 => (cells8 (x.heap hL1)).2.2.2.2.2.1
            have m5 := fun x : Ext W3 => (cells8 (x.heap hL2)).2.2.2.2.2.1
            have l6 := fun x : Ext W3 => (cells8 (x.heap hL1)).2.2.2.2.2.2.1
            have m6 := fun x : Ext W3 => (cells8 (x.heap hL2)).2.2.2.2.2.2.1
            have l7 := fun x : Ext W3 => (cells8 (x.heap hL1)).2.2.2.2.2.2.2
            have m7 := fun x : Ext W3 => (cells8 (x.heap hL2)).2.2.2.2.2.2.2
            clear hW3 hL1 hL2 o0 o1 o2 o3 o4 o5 o6 o7 o8 o9
            refine wp_region_ext (by kernel_rfl) (by kernel_rfl) ?_
            repeat (go_big_quiet_step ((go_at_call 19; exact ext_call (ref_any _ _ _ _ _ _ _ _ _))))
            refine wpQuiet_nil ?_
            rintro _ ⟨x, rfl⟩
            have TT := hid (TT3.out.ext x.mod)
            clear l0 m0 l1 m1 l2 m2 l3 m3 l4 m4 l5 m5 l6 m6 l7 m7
            have FT : Hid (Fit n ls (N + ((k + 1 : Nat) : Int))) := by
              have ek : N + ((k + 1 : Nat) : Int) = N + (k : Int) + 1 := by omega
              rw [ek]; exact Hft.out.same
            go_wp2_with (go_at_call 21; refine (alike_yes TT.out.bus TT.out.ref FT.out.2.2.2).mono ?_; rintro e w9 ⟨rfl, hm9⟩; have M9 := hid hm9; clear hm9)
            go_roundw
            case rel => exact ⟨k + 1, b, _, _, _, _, _, _, by omega, by go_num, rfl, TT.out.ext M9.out, FT.out, Hsm.out⟩
            case measure => simp [intOf]; omega
        · have c2 : (kd == 2) = false := by simp [h2]
          by_cases h3 : kd = 3
          · have c3 : (kd == 3) = true := by simp [h3]
            clear h1 h2 h3
            go_wp2_with fail
            by_cases hp : 0 ≤ p ∧ p < ls.length
            · obtain ⟨i, rfl⟩ : ∃ i : Nat, p = i := ⟨p.toNat, by omega⟩
              have hi : i < ls.length := by omega
              obtain ⟨⟨y0, y1, y2, y3, y4, y5, y6, ys⟩, hy⟩ : ∃ x, ls[i]? = some x := ⟨_, List.getElem?_eq_getElem hi⟩
              have Hy := hid hy
              clear hy
              by_cases hl : ls.length < 4096
              · have hn1 : 0 ≤ n := by have := Hft.out.2.1; omega
                have hn2 : n < 4611686018427387904 := by have := Hft.out.2.2.1; have := HN.out; omega
                refine (double_ok HT1.out.bus i Hy.out hl hn1 hn2).mono ?_
                rintro e w1 ⟨rfl, hst⟩
                obtain ⟨sa1, cap1, hT2⟩ := HT1.out.left hst
                obtain ⟨_, _, _, hm1, _⟩ := hst
                have HT2 := hid hT2
                have hO : w1.heap[wr.heap.size]? = _ := (hm1.block wr.heap.size (lt_of_heap HO.out) (fun h => by have := Htw.out.bus.lt _ h; omega)).trans HO.out
                obtain ⟨o0, o1, o2, o3, o4, o5, o6, o7, o8, o9⟩ := cells10 hO
                have HO := hid hO
                clear hO
                clear hT2 hm1 q0 q1 q2 q3 q4 q5 q6 q7 q8 q9
                go_wp2_with fail
                refine (rdouble_ok HT2.out.ref i Hy.out hl hn1 hn2).mono ?_
                rintro e w3 ⟨rfl, hst⟩
                obtain ⟨ra3, rcap3, hT4⟩ := HT2.out.right hst
                have TT := hid hT4
                have FT : Hid (Fit (n + 1) (ls ++ [⟨n, y1, y2, y3, y4, y5, y6, ys⟩]) (N + ((k + 1 : Nat) : Int))) := by
                  have ek : N + ((k + 1 : Nat) : Int) = N + (k : Int) + 1 := by omega
                  rw [ek]; exact Hft.out.send hl rfl
                clear hst hT4 o0 o1 o2 o3 o4 o5 o6 o7 o8 o9 hn1 hn2
                go_wp2_with (go_at_call 21; refine (alike_yes TT.out.bus TT.out.ref FT.out.2.2.2).mono ?_; rintro e w9 ⟨rfl, hm9⟩; have M9 := hid hm9; clear hm9)
                go_roundw
                case rel => exact ⟨k + 1, b, _, _, _, _, _, _, by omega, by go_num, rfl, TT.out.ext M9.out, FT.out, Hsm.out⟩
                case measure => simp [intOf]; omega
              · have hl' : 4096 ≤ ls.length := by omega
                refine (double_full HT1.out.bus i hi hl').mono ?_
                rintro e w1 ⟨rfl, hm1⟩
                have HT2 := hid (HT1.out.ext hm1)
                have hO : w1.heap[wr.heap.size]? = _ := (hm1.block wr.heap.size (lt_of_heap HO.out) (fun h => h)).trans HO.out
                obtain ⟨o0, o1, o2, o3, o4, o5, o6, o7, o8, o9⟩ := cells10 hO
                have HO := hid hO
                clear hO
                clear hm1 q0 q1 q2 q3 q4 q5 q6 q7 q8 q9
                go_wp2_with fail
                refine (rdouble_full HT2.out.ref i hi hl').mono ?_
                rintro e w3 ⟨rfl, hm3⟩
                have TT := hid (HT2.out.ext hm3)
                have FT : Hid (Fit n ls (N + ((k + 1 : Nat) : Int))) := by
                  have ek : N + ((k + 1 : Nat) : Int) = N + (k : Int) + 1 := by omega
                  rw [ek]; exact Hft.out.same
                clear hm3 o0 o1 o2 o3 o4 o5 o6 o7 o8 o9
                go_wp2_with (go_at_call 21; refine (alike_yes TT.out.bus TT.out.ref FT.out.2.2.2).mono ?_; rintro e w9 ⟨rfl, hm9⟩; have M9 := hid hm9; clear hm9)
                go_roundw
                case rel => exact ⟨k + 1, b, _, _, _, _, _, _, by omega, by go_num, rfl, TT.out.ext M9.out, FT.out, Hsm.out⟩
                case measure => simp [intOf]; omega
            · refine (double_bad HT1.out.bus p (by omega)).mono ?_
              rintro e w1 ⟨rfl, rfl⟩
              go_wp2_with fail
              refine (rdouble_bad HT1.out.ref p (by omega)).mono ?_
              rintro e w3 ⟨rfl, rfl⟩
              have TT := HT1
              have FT : Hid (Fit n ls (N + ((k + 1 : Nat) : Int))) := by
                have ek : N + ((k + 1 : Nat) : Int) = N + (k : Int) + 1 := by omega
                rw [ek]; exact Hft.out.same
              clear q0 q1 q2 q3 q4 q5 q6 q7 q8 q9
              go_wp2_with (go_at_call 21; refine (alike_yes TT.out.bus TT.out.ref FT.out.2.2.2).mono ?_; rintro e w9 ⟨rfl, hm9⟩; have M9 := hid hm9; clear hm9)
              go_roundw
              case rel => exact ⟨k + 1, b, _, _, _, _, _, _, by omega, by go_num, rfl, TT.out.ext M9.out, FT.out, Hsm.out⟩
              case measure => simp [intOf]; omega
          · have c3 : (kd == 3) = false := by simp [h3]
            by_cases h4 : kd = 4
            · have c4 : (kd == 4) = true := by simp [h4]
              clear h1 h2 h3
              have hR : Hid (os[k]? = some ⟨4, p, a0, a1, a2, a3, a4, a5, a6, s⟩) := by have := Hx.out; rw [h4] at this; exact this
              clear h4
              have Hnr : Hid (¬ ∀ o ∈ os, o.kind ≠ 4) := fun h => h _ (List.mem_of_getElem? hR.out) rfl
              go_wp2_with (first | (go_at_call 16; refine (next_any HT1.out.bus).mono ?_; rintro e w' ⟨rfl, rfl⟩) | (go_at_call 12; refine (list_any HT1.out.bus (by have := Hft.out.2.2.2; omega)).mono ?_; rintro e w1 ⟨la, lc, rfl, hown1, hm1, hbk1⟩; have Hown1 := hid hown1; have Hm1 := hid hm1; clear hown1 hm1 hbk1))
              have HT2 := hid (HT1.out.ext Hm1.out)
              clear q0 q1 q2 q3 q4 q5 q6 q7 q8 q9
              by_cases hbig : n ≤ 1152921504606846976
              · have c5 : decide (1152921504606846976 < n) = false := by simp; omega
                refine (restore_in Hown1.out n Hft.out.2.1 hbig Hft.out.2.2.2).mono ?_
                rintro e w2 (⟨_, b2, sa2, cap2, rfl, hat2, hm2, hF2⟩ | ⟨hno, _⟩)
                · have TT := hid (HT2.out.anew hat2 hm2 hF2)
                  have FT : Hid (Fit n ls (N + ((k + 1 : Nat) : Int))) := by
                    have ek : N + ((k + 1 : Nat) : Int) = N + (k : Int) + 1 := by omega
                    rw [ek]; exact Hft.out.same
                  have M2 := hid hm2
                  clear hat2 hm2 hF2
                  go_wp2_with (first | (go_at_call 16; refine (next_any (HT2.out.bus.mod M2.out (fun _ _ h => h))).mono ?_; rintro e w' ⟨rfl, rfl⟩) | (go_at_call 21; refine (alike_yes TT.out.bus TT.out.ref FT.out.2.2.2).mono ?_; rintro e w9 ⟨rfl, hm9⟩; have M9 := hid hm9; clear hm9))
                  go_roundw
                  case rel => exact ⟨k + 1, b2, _, _, _, _, _, _, by omega, by go_num, rfl, TT.out.ext M9.out, FT.out, fun h => absurd h Hnr.out⟩
                  case measure => simp [intOf]; omega
                · exact absurd (Hft.out.1.symm.trans hno) (by decide)
              · have c5 : decide (1152921504606846976 < n) = true := by simp; omega
                refine (restore_range n (by omega) (by have := Hft.out.2.2.2; omega)).mono ?_
                rintro e w2 ⟨rfl, rfl⟩
                have TT := HT2
                have FT : Hid (Fit n ls (N + ((k + 1 : Nat) : Int))) := by
                  have ek : N + ((k + 1 : Nat) : Int) = N + (k : Int) + 1 := by omega
                  rw [ek]; exact Hft.out.same
                go_wp2_with (go_at_call 16; refine (next_any HT2.out.bus).mono ?_; rintro e w' ⟨rfl, rfl⟩)
                go_roundw
                case rel => exact ⟨k + 1, b, _, _, _, _, _, _, by omega, by go_num, rfl, TT.out, FT.out, Hsm.out⟩
                case measure => simp [intOf]; omega
            · have c4 : (kd == 4) = false := by simp [h4]
              clear h1 h2 h3 h4
              have TT := HT1
              have FT : Hid (Fit n ls (N + ((k + 1 : Nat) : Int))) := by
                have ek : N + ((k + 1 : Nat) : Int) = N + (k : Int) + 1 := by omega
                rw [ek]; exact Hft.out.same
              go_wp2_with (go_at_call 21; refine (alike_yes TT.out.bus TT.out.ref FT.out.2.2.2).mono ?_; rintro e w9 ⟨rfl, hm9⟩; have M9 := hid hm9; clear hm9)
              go_roundw
              case rel => exact ⟨k + 1, b, _, _, _, _, _, _, by omega, by go_num, rfl, TT.out.ext M9.out, FT.out, Hsm.out⟩
              case measure => simp [intOf]; omega
    · have hkn : k = os.length := by omega
      have Htw := hid htwo
      have Hft := hid hfit
      have Hsm := hid hsame
      clear htwo hfit hsame
      go_wp2
      go_ret
      exact ⟨rfl, b, sa, cap, ra, rcap, ls, n, Htw.out, by rw [← hkn]; exact Hft.out, Hsm.out⟩

end Go.Proofs.Ytppemlofjbblfaa
