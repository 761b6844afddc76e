/- Restore of package bus -/
import Derived.Test.YtppemlofjbblfaaBusT
namespace Go.Proofs.Ytppemlofjbblfaa
open Go Go.RowKit

/-- The numbers rise, from above last, below next. -/
def okList (next : Int) : Int → List Let → Bool
  | _, [] => true
  | last, l :: r => decide (last < l.id) && (decide (l.id < next) && okList next l.id r)

def okAll (next : Int) (ls : List Let) : Bool := decide (1 ≤ next) && (decide (next ≤ 1152921504606846976) && (decide (ls.length ≤ 4096) && okList next 0 ls))

theorem okList_step {next last : Int} {ls : List Let} {k : Nat} {x : Let} (hx : ls[k]? = some x) : okList next last (ls.drop k) = (decide (last < x.id) && (decide (x.id < next) && okList next x.id (ls.drop (k + 1)))) := by
  have hk : k < ls.length := (List.getElem?_eq_some_iff.1 hx).1
  have e : ls.drop k = x :: ls.drop (k + 1) := by
    rw [List.drop_eq_getElem_cons hk]
    congr 1
    exact (List.getElem?_eq_some_iff.1 hx).2
  rw [e]
  rfl

/-- What Restore answers where the list is fit. -/
def Restored (T E : TypeId) (w : World) (ls : List Let) (next : Int) (e : Ending) (w' : World) : Prop :=
  ∃ b sa cap, e = .returned (.tuple #[.pointer (some ⟨b, 0, none⟩), .int .i64 0]) ∧ BusAt T E w' b sa cap ls next ∧ Mod (fun _ => False) w w' ∧ (∀ k, busF b sa k → w.heap.size ≤ k)

def RestRel (w : World) (next : Int) (ls : List Let) (v c : Value) (wr : World) : Prop :=
  ∃ (k : Nat) (last : Int), k ≤ ls.length ∧ c = .int .i64 k ∧ v = .int .i64 last ∧ okList next 0 ls = okList next last (ls.drop k) ∧ Mod (fun _ => False) w wr

theorem restore_range {w : World} {sa : Option Addr} {cap n : Nat} (next : Int) (h : next < 1 ∨ 1152921504606846976 < next ∨ 4096 < n) (hn : n * 72 ≤ 140737488355328) :
    Calls Try.prog 18 #[.int .i64 next, .slice sa n cap] w fun e w' => e = .returned (.tuple #[.pointer none, .int .i64 2]) ∧ w = w' := by
  by_cases h1 : next < 1
  · have d1 : decide (next < 1) = true := by simpa using h1
    go_enter Try.func18, Try.ntmps18
    go_wp2
    go_ret2
    exact ⟨rfl, rfl⟩
  · have d1 : decide (next < 1) = false := by simpa using h1
    by_cases h2 : 1152921504606846976 < next
    · have d2 : decide (1152921504606846976 < next) = true := by simpa using h2
      go_enter Try.func18, Try.ntmps18
      go_wp2
      go_ret2
      exact ⟨rfl, rfl⟩
    · have d2 : decide (1152921504606846976 < next) = false := by simpa using h2
      have d3 : (4096 : Int) < (n : Int) := by omega
      go_enter Try.func18, Try.ntmps18
      go_wp2
      go_ret2
      exact ⟨rfl, rfl⟩

set_option maxRecDepth 100000 in
set_option maxHeartbeats 400000 in
theorem restore_in {w : World} {sa : Option Addr} {cap : Nat} {ls : List Let} (hown : Own w 28 8 sa ls.length cap (ls.flatMap Let.cs)) (next : Int) (h1 : 1 ≤ next) (h2 : next ≤ 1152921504606846976) (h3 : ls.length ≤ 4096) :
    Calls Try.prog 18 #[.int .i64 next, .slice sa ls.length cap] w fun e w' =>
      (okList next 0 ls = true ∧ Restored 58 28 w ls next e w') ∨ (okList next 0 ls = false ∧ e = .returned (.tuple #[.pointer none, .int .i64 2]) ∧ Mod (fun _ => False) w w') := by
  have d1 : decide (next < 1) = false := by simp; omega
  have d2 : decide (1152921504606846976 < next) = false := by simp; omega
  have d3 : decide (4096 < (ls.length : Int)) = false := by simp; omega
  have d4 : decide (4096 < ls.length) = false := by simp; omega
  have Hown := hid hown
  clear hown
  go_enter Try.func18, Try.ntmps18
  go_wp2
  go_loopw [6, 22] (fun v c wr => RestRel w next ls v c wr) (fun _ c _ => ls.length - (intOf c).toNat)
  case atStart => exact ⟨0, 0, Nat.zero_le _, rfl, rfl, rfl, Mod.refl _ _⟩
  case round =>
    obtain ⟨k, last, hk, rfl, rfl, hok, hm⟩ := hrel
    have Hok := hid hok
    have Hm := hid hm
    have hown := Hown.out.mod hm (fun _ _ h => h)
    clear hok hm
    by_cases hlt : k < ls.length
    · obtain ⟨⟨x0, x1, x2, x3, x4, x5, x6, xs⟩, hx⟩ : ∃ x, ls[k]? = some x := ⟨_, List.getElem?_eq_getElem hlt⟩
      obtain ⟨g, off, rfl⟩ := own_some hown (by omega)
      obtain ⟨q0, q1, q2, q3, q4, q5, q6, q7⟩ := let_cells hown hx
      have Hs := hid (okList_step (next := next) (last := last) hx)
      clear hown hx
      by_cases hc1 : x0 ≤ last
      · have b1 : decide (x0 ≤ last) = true := by simpa using hc1
        go_wp2
        go_ret2
        refine Or.inr ⟨?_, rfl, Hm.out.alloc _⟩
        rw [Hok.out, Hs.out]
        simp; intro h; omega
      · have b1 : decide (x0 ≤ last) = false := by simpa using hc1
        by_cases hc2 : next ≤ x0
        · go_wp2
          go_ret2
          refine Or.inr ⟨?_, rfl, Hm.out.alloc _⟩
          rw [Hok.out, Hs.out]
          simp; intro _ h; omega
        · have b2 : decide (next ≤ x0) = false := by simpa using hc2
          go_wp2
          go_roundw
          case rel =>
            refine ⟨k + 1, x0, by omega, by go_num, rfl, ?_, Hm.out.alloc _⟩
            rw [Hok.out, Hs.out]
            have e1 : decide (last < x0) = true := by simp; omega
            have e2 : decide (x0 < next) = true := by simp; omega
            simp [e1, e2]
          case measure => simp [intOf]; omega
    · have hkn : k = ls.length := by omega
      have Hc := hid (clone_any hown (by omega))
      clear hown
      go_wp2_with (go_at_call 22; refine Hc.out.mono ?_; rintro e w1 ⟨sa', cap', rfl, ho, hm1, hb1⟩; have Ho := hid ho; have Hm1 := hid hm1; have Hb1 := hid hb1; clear ho hm1 hb1)
      go_ret2
      have hsz := Hm.out.size
      have hsz1 := Hm1.out.size
      refine Or.inl ⟨?_, w1.heap.size, sa', cap', rfl, ⟨heap_alloc_new _ _, Ho.out.mod (S := fun _ => False) ((Mod.refl _ _).alloc _) (fun _ _ h => h), fun h => ?_⟩, (Hm.out.trans Hm1.out).alloc _, ?_⟩
      · rw [Hok.out, hkn, List.drop_length]; rfl
      · have := Ho.out.lt _ h; omega
      · rintro j (rfl | h)
        · omega
        · have := Hb1.out j h; omega

end Go.Proofs.Ytppemlofjbblfaa
