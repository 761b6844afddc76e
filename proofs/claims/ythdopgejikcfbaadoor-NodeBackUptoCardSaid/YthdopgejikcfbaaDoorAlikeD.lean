/- alike: a node that has just these entries -/
import Derived.Test.YthdopgejikcfbaaDoorHas
namespace Go.Proofs.YthdopgejikcfbaaDoor
open Go Go.RowKit

set_option maxRecDepth 100000 in
set_option maxHeartbeats 2000000 in
theorem alike_true {w : World} {n : Nd} {es : List Ent} {sa : Option Addr} (cap : Nat) (h : NdAt w n) (hh : Has n true es) (hn : n.ents = es) (hl : Lies w 3 Ent.cs sa es) :
    Calls Tryd.prog 9 #[.agg #[.bool true, .slice n.ka es.length n.kc, .slice n.va es.length n.vc, .slice n.ia 0 n.ic], .agg #[.bool true, .slice sa es.length cap]] w fun e w' => e = .returned (.bool true) ∧ Mod (fun _ => False) w w' := by
  have hb : es.length ≤ 4194304 := by have := h.bk; rw [hh.len_le.1] at this; exact this
  have hrf : ∀ w', Mod (fun _ => False) w w' → Calls Tryd.prog 10 #[.agg #[.bool true, .slice n.ka es.length n.kc, .slice n.va es.length n.vc, .slice n.ia 0 n.ic]] w' fun e w'' => OfAns4 w' true es e w'' := fun w' hm => by
    have := ref_any (h.ext hm)
    rw [hn, hh.l, hh.k, hh.v, hh.i] at this
    simpa using this
  have HRf := hid hrf
  have HL := hid hl
  have hz1 : (w.alloc (.cells #[.bool true, .slice n.ka es.length n.kc, .slice n.va es.length n.vc, .slice n.ia 0 n.ic] 25)).heap.size = w.heap.size + 1 := by simp
  have hm : Mod (fun _ => False) w ((w.alloc (.cells #[.bool true, .slice n.ka es.length n.kc, .slice n.va es.length n.vc, .slice n.ia 0 n.ic] 25)).alloc (.cells #[.bool true, .slice sa es.length cap] 31)) := ((Mod.refl _ _).alloc _).alloc _
  have hbx : ((w.alloc (.cells #[.bool true, .slice n.ka es.length n.kc, .slice n.va es.length n.vc, .slice n.ia 0 n.ic] 25)).alloc (.cells #[.bool true, .slice sa es.length cap] 31)).heap[w.heap.size]? = some (.cells #[.bool true, .slice n.ka es.length n.kc, .slice n.va es.length n.vc, .slice n.ia 0 n.ic] 25 (0, 0)) := (Below.heap_alloc _ _ _ (by rw [hz1]; omega)).trans (heap_alloc_new _ _)
  have hbr := heap_alloc_new (w.alloc (.cells #[.bool true, .slice n.ka es.length n.kc, .slice n.va es.length n.vc, .slice n.ia 0 n.ic] 25)) (.cells #[.bool true, .slice sa es.length cap] 31)
  rw [hz1] at hbr
  have HM := hid hm
  have HBx := hid hbx
  have HBr := hid hbr
  clear hm hbx hbr h hh hn hl hrf hz1
  go_enter Tryd.func9, Tryd.ntmps9
  go_upto_region 1 with fail
  generalize ((w.alloc (.cells #[.bool true, .slice n.ka es.length n.kc, .slice n.va es.length n.vc, .slice n.ia 0 n.ic] 25)).alloc (.cells #[.bool true, .slice sa es.length cap] 31)) = V at *
  obtain ⟨b0, b1, b2, b3⟩ := cells4 HBx.out
  obtain ⟨r0, r1⟩ := cells2 HBr.out
  go_wp2_with fail
  refine (HRf.out V HM.out).mono ?_
  rintro e w1 ⟨sb, cb, rfl, hlb, hnb, hm1⟩
  have HM1 := hid (HM.out.trans hm1)
  have HLb := hid hlb
  have HBr1 := hid ((hm1.block _ (lt_of_heap HBr.out) (fun h => h)).trans HBr.out)
  clear b0 b1 b2 b3 r0 r1 hlb hnb hm1
  go_wp2_with fail
  have HX : Hid ((w1.alloc (.cells #[.bool true, .slice sb es.length cb] 31)).heap[w1.heap.size]? = some (.cells #[.bool true, .slice sb es.length cb] 31 (0, 0))) := heap_alloc_new _ _
  have HM2 := hid (HM1.out.alloc (.cells #[.bool true, .slice sb es.length cb] 31))
  have HBr2 : Hid ((w1.alloc (.cells #[.bool true, .slice sb es.length cb] 31)).heap[w.heap.size + 1]? = some (.cells #[.bool true, .slice sa es.length cap] 31 (0, 0))) := (Below.heap_alloc _ _ _ (lt_of_heap HBr1.out)).trans HBr1.out
  have HLb2 := hid (HLb.out.ext ((Mod.refl _ _).alloc (.cells #[.bool true, .slice sb es.length cb] 31)))
  generalize w1.alloc (.cells #[.bool true, .slice sb es.length cb] 31) = Y at *
  go_loopw [65] (fun c wr => ∃ k : Nat, k ≤ es.length ∧ c = .int .i64 k ∧ Mod (fun _ => False) Y wr) (fun c _ => es.length - (intOf c).toNat)
  case atStart => exact ⟨0, Nat.zero_le _, rfl, Mod.refl _ _⟩
  case round =>
    obtain ⟨k, hk, rfl, hmk⟩ := hrel
    have HMk := hid hmk
    obtain ⟨x0, x1⟩ := cells2 ((hmk.block _ (lt_of_heap HX.out) (fun h => h)).trans HX.out)
    obtain ⟨r0, r1⟩ := cells2 ((hmk.block _ (lt_of_heap HBr2.out) (fun h => h)).trans HBr2.out)
    clear hmk
    by_cases hlt : k < es.length
    · obtain ⟨x, hx⟩ : ∃ x, es[k]? = some x := ⟨_, List.getElem?_eq_getElem hlt⟩
      have hl2 := HL.out.ext (HM2.out.trans HMk.out)
      have hlb2 := HLb2.out.ext HMk.out
      obtain ⟨g, off, rfl⟩ := hl2.some (by omega)
      obtain ⟨g', off', rfl⟩ := hlb2.some (by omega)
      obtain ⟨q0, q1, q2⟩ := rent_cells hl2 hx
      obtain ⟨p0, p1, p2⟩ := rent_cells hlb2 hx
      have i1 : (k : Int) < (es.length : Int) := by omega
      clear hx hl2 hlb2
      go_wp2_with fail
      go_quiet (fail)
      go_wp2_with fail
      go_roundw
      case rel => exact ⟨k + 1, by omega, by go_num, HMk.out.drewN _⟩
      case measure => simp [intOf]; omega
    · have hke : k = es.length := by omega
      subst hke
      go_wp2_with fail
      go_ret
      exact ⟨rfl, HM2.out.trans HMk.out⟩

set_option maxRecDepth 100000 in
set_option maxHeartbeats 2000000 in
theorem alike_false {w : World} {n : Nd} {es : List Ent} {sa : Option Addr} (cap : Nat) (h : NdAt w n) (hh : Has n false es) (hn : n.ents = es) (hl : Lies w 3 Ent.cs sa es) :
    Calls Tryd.prog 9 #[.agg #[.bool false, .slice n.ka es.length n.kc, .slice n.va 0 n.vc, .slice n.ia es.length n.ic], .agg #[.bool false, .slice sa es.length cap]] w fun e w' => e = .returned (.bool true) ∧ Mod (fun _ => False) w w' := by
  have hb : es.length ≤ 4194304 := by have := h.bk; rw [hh.len_le.1] at this; exact this
  have hrf : ∀ w', Mod (fun _ => False) w w' → Calls Tryd.prog 10 #[.agg #[.bool false, .slice n.ka es.length n.kc, .slice n.va 0 n.vc, .slice n.ia es.length n.ic]] w' fun e w'' => OfAns4 w' false es e w'' := fun w' hm => by
    have := ref_any (h.ext hm)
    rw [hn, hh.l, hh.k, hh.v, hh.i] at this
    simpa using this
  have HRf := hid hrf
  have HL := hid hl
  have hz1 : (w.alloc (.cells #[.bool false, .slice n.ka es.length n.kc, .slice n.va 0 n.vc, .slice n.ia es.length n.ic] 25)).heap.size = w.heap.size + 1 := by simp
  have hm : Mod (fun _ => False) w ((w.alloc (.cells #[.bool false, .slice n.ka es.length n.kc, .slice n.va 0 n.vc, .slice n.ia es.length n.ic] 25)).alloc (.cells #[.bool false, .slice sa es.length cap] 31)) := ((Mod.refl _ _).alloc _).alloc _
  have hbx : ((w.alloc (.cells #[.bool false, .slice n.ka es.length n.kc, .slice n.va 0 n.vc, .slice n.ia es.length n.ic] 25)).alloc (.cells #[.bool false, .slice sa es.length cap] 31)).heap[w.heap.size]? = some (.cells #[.bool false, .slice n.ka es.length n.kc, .slice n.va 0 n.vc, .slice n.ia es.length n.ic] 25 (0, 0)) := (Below.heap_alloc _ _ _ (by rw [hz1]; omega)).trans (heap_alloc_new _ _)
  have hbr := heap_alloc_new (w.alloc (.cells #[.bool false, .slice n.ka es.length n.kc, .slice n.va 0 n.vc, .slice n.ia es.length n.ic] 25)) (.cells #[.bool false, .slice sa es.length cap] 31)
  rw [hz1] at hbr
  have HM := hid hm
  have HBx := hid hbx
  have HBr := hid hbr
  clear hm hbx hbr h hh hn hl hrf hz1
  go_enter Tryd.func9, Tryd.ntmps9
  go_upto_region 1 with fail
  generalize ((w.alloc (.cells #[.bool false, .slice n.ka es.length n.kc, .slice n.va 0 n.vc, .slice n.ia es.length n.ic] 25)).alloc (.cells #[.bool false, .slice sa es.length cap] 31)) = V at *
  obtain ⟨b0, b1, b2, b3⟩ := cells4 HBx.out
  obtain ⟨r0, r1⟩ := cells2 HBr.out
  go_wp2_with fail
  refine (HRf.out V HM.out).mono ?_
  rintro e w1 ⟨sb, cb, rfl, hlb, hnb, hm1⟩
  have HM1 := hid (HM.out.trans hm1)
  have HLb := hid hlb
  have HBr1 := hid ((hm1.block _ (lt_of_heap HBr.out) (fun h => h)).trans HBr.out)
  clear b0 b1 b2 b3 r0 r1 hlb hnb hm1
  go_wp2_with fail
  have HX : Hid ((w1.alloc (.cells #[.bool false, .slice sb es.length cb] 31)).heap[w1.heap.size]? = some (.cells #[.bool false, .slice sb es.length cb] 31 (0, 0))) := heap_alloc_new _ _
  have HM2 := hid (HM1.out.alloc (.cells #[.bool false, .slice sb es.length cb] 31))
  have HBr2 : Hid ((w1.alloc (.cells #[.bool false, .slice sb es.length cb] 31)).heap[w.heap.size + 1]? = some (.cells #[.bool false, .slice sa es.length cap] 31 (0, 0))) := (Below.heap_alloc _ _ _ (lt_of_heap HBr1.out)).trans HBr1.out
  have HLb2 := hid (HLb.out.ext ((Mod.refl _ _).alloc (.cells #[.bool false, .slice sb es.length cb] 31)))
  generalize w1.alloc (.cells #[.bool false, .slice sb es.length cb] 31) = Y at *
  go_loopw [65] (fun c wr => ∃ k : Nat, k ≤ es.length ∧ c = .int .i64 k ∧ Mod (fun _ => False) Y wr) (fun c _ => es.length - (intOf c).toNat)
  case atStart => exact ⟨0, Nat.zero_le _, rfl, Mod.refl _ _⟩
  case round =>
    obtain ⟨k, hk, rfl, hmk⟩ := hrel
    have HMk := hid hmk
    obtain ⟨x0, x1⟩ := cells2 ((hmk.block _ (lt_of_heap HX.out) (fun h => h)).trans HX.out)
    obtain ⟨r0, r1⟩ := cells2 ((hmk.block _ (lt_of_heap HBr2.out) (fun h => h)).trans HBr2.out)
    clear hmk
    by_cases hlt : k < es.length
    · obtain ⟨x, hx⟩ : ∃ x, es[k]? = some x := ⟨_, List.getElem?_eq_getElem hlt⟩
      have hl2 := HL.out.ext (HM2.out.trans HMk.out)
      have hlb2 := HLb2.out.ext HMk.out
      obtain ⟨g, off, rfl⟩ := hl2.some (by omega)
      obtain ⟨g', off', rfl⟩ := hlb2.some (by omega)
      obtain ⟨q0, q1, q2⟩ := rent_cells hl2 hx
      obtain ⟨p0, p1, p2⟩ := rent_cells hlb2 hx
      have i1 : (k : Int) < (es.length : Int) := by omega
      clear hx hl2 hlb2
      go_wp2_with fail
      go_quiet (fail)
      go_wp2_with fail
      go_roundw
      case rel => exact ⟨k + 1, by omega, by go_num, HMk.out.drewN _⟩
      case measure => simp [intOf]; omega
    · have hke : k = es.length := by omega
      subst hke
      go_wp2_with fail
      go_ret
      exact ⟨rfl, HM2.out.trans HMk.out⟩

theorem alike_any {w : World} {n : Nd} {leaf : Bool} {es : List Ent} {sa : Option Addr} (cap : Nat) (h : NdAt w n) (hh : Has n leaf es) (hn : n.ents = es) (hl : Lies w 3 Ent.cs sa es) :
    Calls Tryd.prog 9 #[.agg #[.bool n.leaf, .slice n.ka n.keys.length n.kc, .slice n.va n.values.length n.vc, .slice n.ia n.kids.length n.ic], .agg #[.bool leaf, .slice sa es.length cap]] w fun e w' => e = .returned (.bool true) ∧ Mod (fun _ => False) w w' := by
  cases leaf with
  | true => have := alike_true cap h hh hn hl; rw [hh.l, hh.k, hh.v, hh.i]; simpa using this
  | false => have := alike_false cap h hh hn hl; rw [hh.l, hh.k, hh.v, hh.i]; simpa using this

end Go.Proofs.YthdopgejikcfbaaDoor

