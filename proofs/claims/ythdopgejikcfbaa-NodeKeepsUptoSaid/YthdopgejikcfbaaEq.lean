/- equal: nodes that read alike -/
import Derived.Test.YthdopgejikcfbaaGrown
namespace Go.Proofs.Ythdopgejikcfbaa
open Go Go.RowKit

set_option maxRecDepth 100000 in
set_option maxHeartbeats 4000000 in
theorem equal_any {w : World} {l : Bool} {ks vs : List ByteArray} {is : List Int} {ka va ia kb vb ib : Option Addr} {kc vc ic kd vd id : Nat} (ha : NdAt w ⟨l, ks, vs, is, ka, kc, va, vc, ia, ic⟩) (hb : NdAt w ⟨l, ks, vs, is, kb, kd, vb, vd, ib, id⟩) :
    Calls Try.prog 21 #[.agg #[.bool l, .slice ka ks.length kc, .slice va vs.length vc, .slice ia is.length ic], .agg #[.bool l, .slice kb ks.length kd, .slice vb vs.length vd, .slice ib is.length id]] w fun e w' => e = .returned (.bool true) ∧ Mod (fun _ => False) w w' := by
  have n1 := ha.bk
  have n2 := ha.bv
  have n3 := ha.bi
  simp only at n1 n2 n3
  have hz1 : (w.alloc (.cells #[.bool l, .slice ka ks.length kc, .slice va vs.length vc, .slice ia is.length ic] 26)).heap.size = w.heap.size + 1 := by simp
  have hm : Mod (fun _ => False) w ((w.alloc (.cells #[.bool l, .slice ka ks.length kc, .slice va vs.length vc, .slice ia is.length ic] 26)).alloc (.cells #[.bool l, .slice kb ks.length kd, .slice vb vs.length vd, .slice ib is.length id] 26)) := ((Mod.refl _ _).alloc _).alloc _
  have hx : ((w.alloc (.cells #[.bool l, .slice ka ks.length kc, .slice va vs.length vc, .slice ia is.length ic] 26)).alloc (.cells #[.bool l, .slice kb ks.length kd, .slice vb vs.length vd, .slice ib is.length id] 26)).heap[w.heap.size]? = some (.cells #[.bool l, .slice ka ks.length kc, .slice va vs.length vc, .slice ia is.length ic] 26 (0, 0)) := (Below.heap_alloc _ _ _ (by rw [hz1]; omega)).trans (heap_alloc_new _ _)
  have hy := heap_alloc_new (w.alloc (.cells #[.bool l, .slice ka ks.length kc, .slice va vs.length vc, .slice ia is.length ic] 26)) (.cells #[.bool l, .slice kb ks.length kd, .slice vb vs.length vd, .slice ib is.length id] 26)
  rw [hz1] at hy
  have HM := hid hm
  have HA := hid hx
  have HB := hid hy
  have HNa := hid (ha.ext hm)
  have HNb := hid (hb.ext hm)
  have hl : (l != l) = false := by simp
  clear hm hx hy ha hb hz1
  go_enter Try.func21, Try.ntmps21
  go_upto_region 1 with fail
  generalize ((w.alloc (.cells #[.bool l, .slice ka ks.length kc, .slice va vs.length vc, .slice ia is.length ic] 26)).alloc (.cells #[.bool l, .slice kb ks.length kd, .slice vb vs.length vd, .slice ib is.length id] 26)) = V at *
  obtain ⟨a0, a1, a2, a3⟩ := cells4 HA.out
  obtain ⟨b0, b1, b2, b3⟩ := cells4 HB.out
  go_wp2_with fail
  go_loopw [43] (fun c wr => ∃ k : Nat, k ≤ ks.length ∧ c = .int .i64 k ∧ Mod (fun _ => False) V wr) (fun c _ => ks.length - (intOf c).toNat)
  case atStart => exact ⟨0, Nat.zero_le _, rfl, Mod.refl _ _⟩
  case round =>
    obtain ⟨k, hk, rfl, hmk⟩ := hrel
    have HMk := hid hmk
    obtain ⟨a0, a1, a2, a3⟩ := cells4 ((hmk.block _ (lt_of_heap HA.out) (fun h => h)).trans HA.out)
    obtain ⟨b0, b1, b2, b3⟩ := cells4 ((hmk.block _ (lt_of_heap HB.out) (fun h => h)).trans HB.out)
    clear hmk
    by_cases hlt : k < ks.length
    · obtain ⟨x, hx⟩ : ∃ x, ks[k]? = some x := ⟨_, List.getElem?_eq_getElem hlt⟩
      obtain ⟨g, off, e1, p0⟩ := (HNa.out.ext HMk.out).k.one hx
      obtain ⟨g', off', e2, q0⟩ := (HNb.out.ext HMk.out).k.one hx
      have e1 : ka = some ⟨g, off, none⟩ := e1
      have e2 : kb = some ⟨g', off', none⟩ := e2
      subst e1
      subst e2
      have i1 : (k : Int) < (ks.length : Int) := by omega
      clear hx
      go_wp2_with fail
      go_quiet (fail)
      go_wp2_with fail
      go_roundw
      case rel => exact ⟨k + 1, by omega, by go_num, HMk.out.drewN _⟩
      case measure => simp [intOf]; omega
    · have hke : k = ks.length := by omega
      subst hke
      go_wp2_with fail
      go_loopw [61] (fun c wr => ∃ k : Nat, k ≤ vs.length ∧ c = .int .i64 k ∧ Mod (fun _ => False) V wr) (fun c _ => vs.length - (intOf c).toNat)
      case atStart => exact ⟨0, Nat.zero_le _, rfl, HMk.out⟩
      case round =>
        obtain ⟨k, hk, rfl, hmk⟩ := hrel
        have HMk := hid hmk
        obtain ⟨a0, a1, a2, a3⟩ := cells4 ((hmk.block _ (lt_of_heap HA.out) (fun h => h)).trans HA.out)
        obtain ⟨b0, b1, b2, b3⟩ := cells4 ((hmk.block _ (lt_of_heap HB.out) (fun h => h)).trans HB.out)
        clear hmk
        by_cases hlt : k < vs.length
        · obtain ⟨x, hx⟩ : ∃ x, vs[k]? = some x := ⟨_, List.getElem?_eq_getElem hlt⟩
          obtain ⟨g, off, e1, p0⟩ := (HNa.out.ext HMk.out).v.one hx
          obtain ⟨g', off', e2, q0⟩ := (HNb.out.ext HMk.out).v.one hx
          have e1 : va = some ⟨g, off, none⟩ := e1
          have e2 : vb = some ⟨g', off', none⟩ := e2
          subst e1
          subst e2
          have i1 : (k : Int) < (vs.length : Int) := by omega
          clear hx
          go_wp2_with fail
          go_quiet (fail)
          go_wp2_with fail
          go_roundw
          case rel => exact ⟨k + 1, by omega, by go_num, HMk.out.drewN _⟩
          case measure => simp [intOf]; omega
        · have hke : k = vs.length := by omega
          subst hke
          go_wp2_with fail
          go_loopw [79] (fun c wr => ∃ k : Nat, k ≤ is.length ∧ c = .int .i64 k ∧ Mod (fun _ => False) V wr) (fun c _ => is.length - (intOf c).toNat)
          case atStart => exact ⟨0, Nat.zero_le _, rfl, HMk.out⟩
          case round =>
            obtain ⟨k, hk, rfl, hmk⟩ := hrel
            have HMk := hid hmk
            obtain ⟨a0, a1, a2, a3⟩ := cells4 ((hmk.block _ (lt_of_heap HA.out) (fun h => h)).trans HA.out)
            obtain ⟨b0, b1, b2, b3⟩ := cells4 ((hmk.block _ (lt_of_heap HB.out) (fun h => h)).trans HB.out)
            clear hmk
            by_cases hlt : k < is.length
            · obtain ⟨x, hx⟩ : ∃ x, is[k]? = some x := ⟨_, List.getElem?_eq_getElem hlt⟩
              obtain ⟨g, off, e1, p0⟩ := (HNa.out.ext HMk.out).i.one hx
              obtain ⟨g', off', e2, q0⟩ := (HNb.out.ext HMk.out).i.one hx
              have e1 : ia = some ⟨g, off, none⟩ := e1
              have e2 : ib = some ⟨g', off', none⟩ := e2
              subst e1
              subst e2
              have i1 : (k : Int) < (is.length : Int) := by omega
              clear hx
              go_wp2_with fail
              go_quiet (fail)
              go_wp2_with fail
              go_roundw
              case rel => exact ⟨k + 1, by omega, by go_num, HMk.out.drewN _⟩
              case measure => simp [intOf]; omega
            · have hke : k = is.length := by omega
              subst hke
              go_wp2_with fail
              go_ret
              exact ⟨rfl, HM.out.trans HMk.out⟩

end Go.Proofs.Ythdopgejikcfbaa

