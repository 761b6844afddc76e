/- Flow: the law's same: two definitions that lie, of the same content -/
import Derived.Test.YtmkbbclbkpofoaaDoorFlTa
import Derived.Deep.RegionHeld3
import Derived.Deep.DrawnRows
namespace Go.Proofs.YtmkbbclbkpofoaaDoor
open Go Go.RowKit

/-- Two steps, one from each definition, in blocks of their own. -/
def Two (V : World) (x y : SA) (bx b2 : Nat) (w : World) : Prop :=
  w.heap[bx]? = some (.cells x.cs.toArray 53 (0, 0)) ∧ w.heap[b2]? = some (.cells y.cs.toArray 53 (0, 0)) ∧ Mod (fun _ => False) V w

theorem two_xy (V : World) (x y : SA) : Two V x y V.heap.size (V.heap.size + 1) (((V.alloc (.cells x.cs.toArray 53)).alloc (.cells y.cs.toArray 53)).drew) := by
  have h1 := heap_alloc_new (V.alloc (.cells x.cs.toArray 53)) (.cells y.cs.toArray 53)
  rw [World.size_alloc] at h1
  exact ⟨(Below.heap_alloc _ _ _ (by rw [World.size_alloc]; omega)).trans (heap_alloc_new V _), h1, (((Mod.refl _ _).alloc _).alloc _).drew⟩
theorem two_yx (V : World) (x y : SA) : Two V x y (V.heap.size + 1) V.heap.size (((V.alloc (.cells y.cs.toArray 53)).alloc (.cells x.cs.toArray 53)).drew) := by
  have h := two_xy V y x
  exact ⟨h.2.1, h.1, h.2.2⟩

set_option maxRecDepth 100000 in
set_option maxHeartbeats 8000000 in
theorem same_any {V : World} {d : Df} {la lb : Option Addr} {ss ts : List SA} (c c' : Nat) (h : DefLies V d la ss) (h' : DefLies V d lb ts) : Calls Tryd.prog 12 #[.agg #[.string d.name, .slice la d.steps.length c], .agg #[.string d.name, .slice lb d.steps.length c']] V fun e w' => e = .returned (.bool true) ∧ Mod (fun _ => False) V w' := by
  have HL := hid h
  have HR := hid h'
  have hl8 := h.len
  have HSl : Hid (d.steps.length = ss.length) := hid (by rw [← h.map, List.length_map])
  have HSr : Hid (d.steps.length = ts.length) := hid (by rw [← h'.map, List.length_map])
  clear h h'
  go_enter Tryd.func12, Tryd.ntmps12
  go_upto_region 1 with fail
  have HB0 : Hid (((V.alloc (.cells #[.string d.name, .slice la d.steps.length c] 30)).alloc (.cells #[.string d.name, .slice lb d.steps.length c'] 30)).heap[V.heap.size]? = some (.cells #[.string d.name, .slice la d.steps.length c] 30 (0, 0))) := hid (by
    have := heap_alloc_new V (.cells #[.string d.name, .slice la d.steps.length c] 30)
    exact (Below.heap_alloc _ _ _ (by rw [World.size_alloc]; omega)).trans this)
  have HB1 : Hid (((V.alloc (.cells #[.string d.name, .slice la d.steps.length c] 30)).alloc (.cells #[.string d.name, .slice lb d.steps.length c'] 30)).heap[V.heap.size + 1]? = some (.cells #[.string d.name, .slice lb d.steps.length c'] 30 (0, 0))) := hid (by
    have := heap_alloc_new (V.alloc (.cells #[.string d.name, .slice la d.steps.length c] 30)) (.cells #[.string d.name, .slice lb d.steps.length c'] 30)
    rwa [World.size_alloc] at this)
  have HM0 : Hid (Mod (fun _ => False) V ((V.alloc (.cells #[.string d.name, .slice la d.steps.length c] 30)).alloc (.cells #[.string d.name, .slice lb d.steps.length c'] 30))) := hid (((Mod.refl _ _).alloc _).alloc _)
  generalize (V.alloc (.cells #[.string d.name, .slice la d.steps.length c] 30)).alloc (.cells #[.string d.name, .slice lb d.steps.length c'] 30) = V2 at *
  obtain ⟨a0, a1, f0, f1⟩ := row2 HB0.out
  obtain ⟨b0, b1, g0, g1⟩ := row2 HB1.out
  go_upto_region 4 with fail
  go_loopw [26] (fun ck wr => ∃ k : Nat, ck = .int .i64 (k : Int) ∧ k ≤ d.steps.length ∧ Mod (fun _ => False) V2 wr) (fun ck _ => d.steps.length - (intOf ck).toNat)
  case atStart => exact ⟨0, rfl, Nat.zero_le _, Mod.refl _ _⟩
  case round =>
    obtain ⟨k, rfl, hk, hm⟩ := hrel
    have HMk := hid hm
    clear hm a0 a1 f0 f1 b0 b1 g0 g1
    obtain ⟨a0, a1, f0, f1⟩ := row2 ((HMk.out.block _ (lt_of_heap HB0.out) (fun h => h)).trans HB0.out)
    obtain ⟨b0, b1, g0, g1⟩ := row2 ((HMk.out.block _ (lt_of_heap HB1.out) (fun h => h)).trans HB1.out)
    by_cases hlt : k < d.steps.length
    case neg =>
      have hke : k = d.steps.length := by omega
      subst hke
      go_wp2_with fail
      go_ret
      exact ⟨rfl, HM0.out.trans HMk.out⟩
    case pos =>
      have HLo := hid (HL.out.ext (HM0.out.trans HMk.out))
      have HRo := hid (HR.out.ext (HM0.out.trans HMk.out))
      obtain ⟨x, hx⟩ : ∃ x, ss[k]? = some x := ⟨_, List.getElem?_eq_getElem (by have := HSl.out; omega)⟩
      obtain ⟨y, hy⟩ : ∃ y, ts[k]? = some y := ⟨_, List.getElem?_eq_getElem (by have := HSr.out; omega)⟩
      have hxy : x.s = y.s := by
        have h1 : d.steps[k]? = some x.s := by rw [← HLo.out.map, List.getElem?_map, hx]; rfl
        have h2 : d.steps[k]? = some y.s := by rw [← HRo.out.map, List.getElem?_map, hy]; rfl
        rw [h1] at h2
        exact Option.some.inj h2
      obtain ⟨s, xa, xc⟩ := x
      obtain ⟨s', ya, yc⟩ := y
      simp only at hxy
      subst hxy
      obtain ⟨ga, oa, hla⟩ := HLo.out.lies.some (by have := HSl.out; omega)
      obtain ⟨gb, ob, hlb⟩ := HRo.out.lies.some (by have := HSr.out; omega)
      subst hla
      subst hlb
      have q0 := HLo.out.lies.cell SA.len hx (j := 0) rfl
      have q1 := HLo.out.lies.cell SA.len hx (j := 1) rfl
      have q2 := HLo.out.lies.cell SA.len hx (j := 2) rfl
      have q3 := HLo.out.lies.cell SA.len hx (j := 3) rfl
      have q4 := HLo.out.lies.cell SA.len hx (j := 4) rfl
      have q5 := HLo.out.lies.cell SA.len hx (j := 5) rfl
      have q6 := HLo.out.lies.cell SA.len hx (j := 6) rfl
      have q7 := HLo.out.lies.cell SA.len hx (j := 7) rfl
      have q8 := HLo.out.lies.cell SA.len hx (j := 8) rfl
      have p0 := HRo.out.lies.cell SA.len hy (j := 0) rfl
      have p1 := HRo.out.lies.cell SA.len hy (j := 1) rfl
      have p2 := HRo.out.lies.cell SA.len hy (j := 2) rfl
      have p3 := HRo.out.lies.cell SA.len hy (j := 3) rfl
      have p4 := HRo.out.lies.cell SA.len hy (j := 4) rfl
      have p5 := HRo.out.lies.cell SA.len hy (j := 5) rfl
      have p6 := HRo.out.lies.cell SA.len hy (j := 6) rfl
      have p7 := HRo.out.lies.cell SA.len hy (j := 7) rfl
      have p8 := HRo.out.lies.cell SA.len hy (j := 8) rfl
      simp only [Nat.add_zero] at q0 p0
      have i1 : (k : Int) < (d.steps.length : Int) := by omega
      have HXa := hid (HLo.out.all _ (List.mem_of_getElem? hx))
      have HYa := hid (HRo.out.all _ (List.mem_of_getElem? hy))
      clear hx hy
      go_upto_region 6 with fail
      go_cut [6, 7] (fun vx vy wx => ∃ bx b2 : Nat, vx = .pointer (some ⟨bx, 0, none⟩) ∧ vy = .pointer (some ⟨b2, 0, none⟩) ∧ Two wr ⟨s, xa, xc⟩ ⟨s, ya, yc⟩ bx b2 wx)
      case first =>
        go_region_held3 (fun w' => w'.cell? ⟨V.heap.size, 1, none⟩ = some (.slice (some ⟨ga, oa, none⟩) d.steps.length c) ∧ w'.cell? ⟨V.heap.size + 1, 1, none⟩ = some (.slice (some ⟨gb, ob, none⟩) d.steps.length c') ∧ w'.cell? ⟨ga, oa + k * 9, none⟩ = some (.string s.name) ∧ w'.cell? ⟨ga, oa + k * 9 + 1, none⟩ = some (.string s.verb) ∧ w'.cell? ⟨ga, oa + k * 9 + 2, none⟩ = some (.string s.undo) ∧ w'.cell? ⟨ga, oa + k * 9 + 3, none⟩ = some (.string s.event) ∧ w'.cell? ⟨ga, oa + k * 9 + 4, none⟩ = some (.bool s.final) ∧ w'.cell? ⟨ga, oa + k * 9 + 5, none⟩ = some (.int .i64 s.retry) ∧ w'.cell? ⟨ga, oa + k * 9 + 6, none⟩ = some (.int .i64 s.every) ∧ w'.cell? ⟨ga, oa + k * 9 + 7, none⟩ = some (.int .i64 s.within) ∧ w'.cell? ⟨ga, oa + k * 9 + 8, none⟩ = some (.slice xa s.after.length xc) ∧ w'.cell? ⟨gb, ob + k * 9, none⟩ = some (.string s.name) ∧ w'.cell? ⟨gb, ob + k * 9 + 1, none⟩ = some (.string s.verb) ∧ w'.cell? ⟨gb, ob + k * 9 + 2, none⟩ = some (.string s.undo) ∧ w'.cell? ⟨gb, ob + k * 9 + 3, none⟩ = some (.string s.event) ∧ w'.cell? ⟨gb, ob + k * 9 + 4, none⟩ = some (.bool s.final) ∧ w'.cell? ⟨gb, ob + k * 9 + 5, none⟩ = some (.int .i64 s.retry) ∧ w'.cell? ⟨gb, ob + k * 9 + 6, none⟩ = some (.int .i64 s.every) ∧ w'.cell? ⟨gb, ob + k * 9 + 7, none⟩ = some (.int .i64 s.within) ∧ w'.cell? ⟨gb, ob + k * 9 + 8, none⟩ = some (.slice ya s.after.length yc)) (first | exact ⟨a1, b1, q0, q1, q2, q3, q4, q5, q6, q7, q8, p0, p1, p2, p3, p4, p5, p6, p7, p8⟩ | go_keep) (fail)
        all_goals
          go_wp2_with fail
          go_meet
          case rel => first | exact ⟨_, _, rfl, rfl, two_xy wr ⟨s, xa, xc⟩ ⟨s, ya, yc⟩⟩ | exact ⟨_, _, rfl, rfl, two_yx wr ⟨s, xa, xc⟩ ⟨s, ya, yc⟩⟩
      case rest =>
        obtain ⟨bx, b2, rfl, rfl, hTw⟩ := hcut
        have HT := hid hTw
        clear hTw q0 q1 q2 q3 q4 q5 q6 q7 q8 p0 p1 p2 p3 p4 p5 p6 p7 p8 a0 a1 f0 f1 b0 b1 g0 g1 i1
        obtain ⟨⟨q0, q1, q2, q3, q4, q5, q6, q7, q8⟩, _⟩ := row9 HT.out.1
        obtain ⟨⟨p0, p1, p2, p3, p4, p5, p6, p7, p8⟩, _⟩ := row9 HT.out.2.1
        go_upto_region 9 with fail
        clear q0 q1 q2 q3 q4 q5 q6 q7 p0 p1 p2 p3 p4 p5 p6 p7
        obtain ⟨W1, rfl⟩ : ∃ y, y = wc := ⟨wc, rfl⟩
        go_upto_region 10 with fail
        go_loopw [105] (fun cj w2 => ∃ j : Nat, cj = .int .i64 (j : Int) ∧ j ≤ s.after.length ∧ Mod (fun _ => False) W1 w2) (fun cj _ => s.after.length - (intOf cj).toNat)
        case atStart => exact ⟨0, rfl, Nat.zero_le _, Mod.refl _ _⟩
        case round =>
          obtain ⟨j, rfl, hj, hm⟩ := hrel
          have HMj := hid hm
          clear hm q8 p8
          obtain ⟨⟨_, _, _, _, _, _, _, _, q8⟩, _⟩ := row9 ((HMj.out.block _ (lt_of_heap HT.out.1) (fun h => h)).trans HT.out.1)
          obtain ⟨⟨_, _, _, _, _, _, _, _, p8⟩, _⟩ := row9 ((HMj.out.block _ (lt_of_heap HT.out.2.1) (fun h => h)).trans HT.out.2.1)
          by_cases hjl : j < s.after.length
          case neg =>
            have hje : j = s.after.length := by omega
            subst hje
            go_wp2_with fail
            go_roundw
            case rel => exact ⟨k + 1, by go_num, by omega, HMk.out.trans (HT.out.2.2.trans HMj.out)⟩
            case measure => simp [intOf]; omega
          case pos =>
            have hxl := HXa.out.1.ext (HT.out.2.2.trans HMj.out)
            have hyl := HYa.out.1.ext (HT.out.2.2.trans HMj.out)
            obtain ⟨ca, oca, hxa⟩ := hxl.some (by omega)
            obtain ⟨cb, ocb, hya⟩ := hyl.some (by omega)
            subst hxa
            subst hya
            obtain ⟨z, hz⟩ : ∃ z, s.after[j]? = some z := ⟨_, List.getElem?_eq_getElem hjl⟩
            have n0 := hxl.cell strI_len hz (j := 0) rfl
            have m0 := hyl.cell strI_len hz (j := 0) rfl
            simp only [Nat.add_zero, Nat.mul_one] at n0 m0
            have i1 : (j : Int) < (s.after.length : Int) := by omega
            have hal4 : s.after.length ≤ 4096 := HXa.out.2
            clear hxl hyl hz
            go_wp2_with fail
            go_quiet (fail)
            go_wp2_with fail
            go_roundw
            case rel => exact ⟨j + 1, by go_num, by omega, HMj.out.drewN _⟩
            case measure => simp [intOf]; omega

end Go.Proofs.YtmkbbclbkpofoaaDoor
