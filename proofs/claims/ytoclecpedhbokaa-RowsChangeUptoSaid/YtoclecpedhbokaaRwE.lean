/- Encode -/
import Derived.Test.YtoclecpedhbokaaRwC2
namespace Go.Proofs.Ytoclecpedhbokaa
open Go Go.RowKit

def encV : Option PX → Value
  | some p => .tuple #[.agg #[.string (ba p.k), .string (ba p.v)], .int .i64 0]
  | none => .tuple #[.agg #[.string ⟨#[]⟩, .string ⟨#[]⟩], .int .i64 60]

set_option maxRecDepth 100000 in
set_option maxHeartbeats 2000000 in
theorem encode_any {w : World} {ca ra : Option Addr} {cols : List Int} {r : List Vl} (name keys idx : Int) (cc rc : Nat) (hl : Lies w 1 oneI ca cols) (hr : Lies w 2 Vl.cs ra r) (hn : cols.length ≤ 140737488351232) (hrn : r.length ≤ 140737488351232) (hv : ∀ v ∈ r, v.Ok) (hsz : ∀ k, (keysL cols r k).length ≤ 1152921504606846976) (hsv : ∀ j k, (valL cols r j k).length ≤ 1152921504606846976) :
    Calls Try.prog 7 #[.agg #[.int .u8 name, .slice ca cols.length cc, .int .i64 keys, .int .i64 idx], .slice ra r.length rc] w fun e w' => e = .returned (encV (pairO name cols keys idx r)) ∧ Mod (fun _ => False) w w' := by
  have hma : Mod (fun _ => False) w ((w.alloc (.cells #[.int .u8 name, .slice ca cols.length cc, .int .i64 keys, .int .i64 idx] 24)).alloc (.cells #[.string ⟨#[]⟩, .string ⟨#[]⟩] 28)) := ((Mod.refl _ _).alloc _).alloc _
  have HP := hid (pairs_any name keys idx cc rc (hl.ext hma) (hr.ext hma) hn hrn hv hsz hsv)
  have hsz1 : (w.alloc (.cells #[.int .u8 name, .slice ca cols.length cc, .int .i64 keys, .int .i64 idx] 24)).heap.size = w.heap.size + 1 := by simp
  have ha : ((w.alloc (.cells #[.int .u8 name, .slice ca cols.length cc, .int .i64 keys, .int .i64 idx] 24)).alloc (.cells #[.string ⟨#[]⟩, .string ⟨#[]⟩] 28)).heap[w.heap.size]? = some (.cells #[.int .u8 name, .slice ca cols.length cc, .int .i64 keys, .int .i64 idx] 24 (0, 0)) := by
    rw [Below.heap_alloc _ _ _ (by omega)]
    exact heap_alloc_new _ _
  have hb : ((w.alloc (.cells #[.int .u8 name, .slice ca cols.length cc, .int .i64 keys, .int .i64 idx] 24)).alloc (.cells #[.string ⟨#[]⟩, .string ⟨#[]⟩] 28)).heap[w.heap.size + 1]? = some (.cells #[.string ⟨#[]⟩, .string ⟨#[]⟩] 28 (0, 0)) := by
    rw [← hsz1]
    exact heap_alloc_new _ _
  have HM := hid hma
  have HB := hid hb
  obtain ⟨b0, b1, b2, b3⟩ := row4 ha
  clear hl hr hv hsz hsv hma hsz1 ha hb
  generalize pairO name cols keys idx r = P at *
  cases P with
  | none =>
    have hp : pairV none = .tuple #[.agg #[.string ⟨#[]⟩, .string ⟨#[]⟩], .agg #[.string ⟨#[]⟩, .string ⟨#[]⟩], .bool false] := rfl
    rw [hp] at HP
    clear hp
    go_enter Try.func7, Try.ntmps7
    go_upto_region 2 with (go_at_call 17; refine HP.out.mono ?_; rintro e w1 ⟨rfl, hm⟩; have HM1 := hid hm; clear hm)
    clear b0 b1 b2 b3
    have hm2 : Mod (fun _ => False) w1 ((w1.alloc (.cells #[.string ⟨#[]⟩, .string ⟨#[]⟩] 28)).alloc (.cells #[.string ⟨#[]⟩, .string ⟨#[]⟩] 28)) := ((Mod.refl _ _).alloc _).alloc _
    have hs2 : (w1.alloc (.cells #[.string ⟨#[]⟩, .string ⟨#[]⟩] 28)).heap.size = w1.heap.size + 1 := by simp
    have hp1 : ((w1.alloc (.cells #[.string ⟨#[]⟩, .string ⟨#[]⟩] 28)).alloc (.cells #[.string ⟨#[]⟩, .string ⟨#[]⟩] 28)).heap[w1.heap.size]? = some (.cells #[.string ⟨#[]⟩, .string ⟨#[]⟩] 28 (0, 0)) := by
      rw [Below.heap_alloc _ _ _ (by omega)]
      exact heap_alloc_new _ _
    have HM2 := hid ((HM.out.trans HM1.out).trans hm2)
    have hB2 := ((HM1.out.trans hm2).block _ (lt_of_heap HB.out) (fun h => h)).trans HB.out
    have HB2 := hid hB2
    obtain ⟨c0, c1, _, _⟩ := row2 hp1
    obtain ⟨_, _, f0, f1⟩ := row2 hB2
    clear hm2 hs2 hp1 hB2
    generalize (w1.alloc (.cells #[.string ⟨#[]⟩, .string ⟨#[]⟩] 28)).alloc (.cells #[.string ⟨#[]⟩, .string ⟨#[]⟩] 28) = V at *
    obtain ⟨d0, d1, _, _⟩ := row2 HB2.out
    go_wp2_with fail
    obtain ⟨z0, z1, z2⟩ := val2 HM2.out (Nat.le_succ _) HB2.out (.string ⟨#[]⟩) (.string ⟨#[]⟩)
    clear c0 c1 f0 f1 d0 d1
    generalize (V.setCell ⟨w.heap.size + 1, 0, none⟩ (.string ⟨#[]⟩)).setCell ⟨w.heap.size + 1, 1, none⟩ (.string ⟨#[]⟩) = Z at *
    exact bodyPost_ret (v := encV (none)) (by simp [encV, results, Try.results7, go_sem, z0, z1]) rfl ⟨rfl, z2⟩
  | some p =>
    have hp : pairV (some p) = .tuple #[.agg #[.string (ba p.k), .string (ba p.v)], .agg #[.string (ba p.x), .string ⟨#[]⟩], .bool true] := rfl
    rw [hp] at HP
    clear hp
    go_enter Try.func7, Try.ntmps7
    go_upto_region 2 with (go_at_call 17; refine HP.out.mono ?_; rintro e w1 ⟨rfl, hm⟩; have HM1 := hid hm; clear hm)
    clear b0 b1 b2 b3
    have hm2 : Mod (fun _ => False) w1 ((w1.alloc (.cells #[.string (ba p.k), .string (ba p.v)] 28)).alloc (.cells #[.string (ba p.x), .string ⟨#[]⟩] 28)) := ((Mod.refl _ _).alloc _).alloc _
    have hs2 : (w1.alloc (.cells #[.string (ba p.k), .string (ba p.v)] 28)).heap.size = w1.heap.size + 1 := by simp
    have hp1 : ((w1.alloc (.cells #[.string (ba p.k), .string (ba p.v)] 28)).alloc (.cells #[.string (ba p.x), .string ⟨#[]⟩] 28)).heap[w1.heap.size]? = some (.cells #[.string (ba p.k), .string (ba p.v)] 28 (0, 0)) := by
      rw [Below.heap_alloc _ _ _ (by omega)]
      exact heap_alloc_new _ _
    have HM2 := hid ((HM.out.trans HM1.out).trans hm2)
    have hB2 := ((HM1.out.trans hm2).block _ (lt_of_heap HB.out) (fun h => h)).trans HB.out
    have HB2 := hid hB2
    obtain ⟨c0, c1, _, _⟩ := row2 hp1
    obtain ⟨_, _, f0, f1⟩ := row2 hB2
    clear hm2 hs2 hp1 hB2
    generalize (w1.alloc (.cells #[.string (ba p.k), .string (ba p.v)] 28)).alloc (.cells #[.string (ba p.x), .string ⟨#[]⟩] 28) = V at *
    obtain ⟨d0, d1, _, _⟩ := row2 HB2.out
    go_wp2_with fail
    obtain ⟨z0, z1, z2⟩ := val2 HM2.out (Nat.le_succ _) HB2.out (.string (ba p.k)) (.string (ba p.v))
    clear c0 c1 f0 f1 d0 d1
    generalize (V.setCell ⟨w.heap.size + 1, 0, none⟩ (.string (ba p.k))).setCell ⟨w.heap.size + 1, 1, none⟩ (.string (ba p.v)) = Z at *
    exact bodyPost_ret (v := encV (some p)) (by simp [encV, results, Try.results7, go_sem, z0, z1]) rfl ⟨rfl, z2⟩

end Go.Proofs.Ytoclecpedhbokaa
