/- The leaf that the document fixes -/
import Derived.Test.YthdopgejikcfbaaPlace
namespace Go.Proofs.Ythdopgejikcfbaa
open Go Go.RowKit

theorem lies_nil {α : Type} (w : World) (size : Nat) (f : α → List Value) (a : Option Addr) : Lies w size f a ([] : List α) :=
  ⟨⟨by simp, fun _ => rfl, fun a _ j u hu => by simp at hu⟩, fun h => by simp at h, fun _ h => by simp at h⟩

theorem lies_new {α : Type} {w : World} {b size : Nat} {t : TypeId} {f : α → List Value} {ls : List α} (hf : ∀ x, (f x).length = size) (h : w.heap[b]? = some (.cells (ls.flatMap f).toArray t (0, 0))) : Lies w size f (some ⟨b, 0, none⟩) ls :=
  ⟨src_new h (flat_length hf ls), fun _ x hx => by cases hx; rfl, fun k _ hk => by rw [blk_some] at hk; subst hk; exact lt_of_heap h⟩

def n0 (a b : Nat) : Nd := ⟨true, [⟨#[97]⟩], [⟨#[120]⟩], [], some ⟨a, 0, none⟩, 1, some ⟨b, 0, none⟩, 1, none, 0⟩
def n1 (a : Nat) : Nd := ⟨true, [⟨#[98]⟩, ⟨#[100]⟩], [], [], some ⟨a, 0, none⟩, 2, none, 0, none, 0⟩

theorem n0_at {w : World} {a b : Nat} {t : TypeId} (h1 : w.heap[a]? = some (.cells #[.string ⟨#[97]⟩] t (0, 0))) (h2 : w.heap[b]? = some (.cells #[.string ⟨#[120]⟩] t (0, 0))) : NdAt w (n0 a b) := by
  refine ⟨lies_new (fun _ => rfl) h1, lies_new (fun _ => rfl) h2, lies_nil _ _ _ _, by simp [n0], by simp [n0], by simp [n0], ?_, ?_, ?_⟩
  · intro x hx; simp [n0] at hx; subst hx; decide
  · intro x hx; simp [n0] at hx; subst hx; decide
  · intro x hx; simp [n0] at hx

theorem n1_at {w : World} {a : Nat} {t : TypeId} (h1 : w.heap[a]? = some (.cells #[.string ⟨#[98]⟩, .string ⟨#[100]⟩] t (0, 0))) : NdAt w (n1 a) := by
  refine ⟨lies_new (fun _ => rfl) h1, lies_nil _ _ _ _, lies_nil _ _ _ _, by simp [n1], by simp [n1], by simp [n1], ?_, ?_, ?_⟩
  · intro x hx; simp [n1] at hx; rcases hx with rfl | rfl <;> decide
  · intro x hx; simp [n1] at hx
  · intro x hx; simp [n1] at hx

theorem lit_toList (l : Array UInt8) : (⟨l⟩ : ByteArray).toList = l.toList := ByteArray.toList_eq _

theorem n0_bytes (a b : Nat) : bytesL (n0 a b).leaf (n0 a b).ents = [1, 1, 1, 97, 1, 120] := by
  have e : (n0 a b).ents = [⟨⟨#[97]⟩, ⟨#[120]⟩, 0⟩] := rfl
  rw [e]
  have u1 : uvar 1 = [1] := uvar_small (by decide)
  have t1 : textL ⟨#[97]⟩ = [1, 97] := by unfold textL; rw [show (⟨#[97]⟩ : ByteArray).size = 1 from rfl, u1]; rfl
  have t2 : textL ⟨#[120]⟩ = [1, 120] := by unfold textL; rw [show (⟨#[120]⟩ : ByteArray).size = 1 from rfl, u1]; rfl
  simp [bytesL, n0, entL, u1, t1, t2]

theorem n0_enc (a b : Nat) : encOk (n0 a b) = true := by
  unfold encOk
  rw [n0_bytes, fitB_true]
  · rfl
  · refine ⟨fun i hi => ?_, ?_⟩
    · have : i = 0 := by simp [n0] at hi; omega
      subst this
      exact ⟨⟨#[97]⟩, rfl, by rw [lit_toList]; decide, by decide, fun h => by omega⟩
    · simp [restB, n0, longB]; decide

theorem n1_rises (a : Nat) : Rises (n1 a).keys := rises_of (fun i x y hx hy => by
  match i with
  | 0 =>
    simp [n1] at hx hy
    subst hx hy
    rw [lit_toList, lit_toList]
    decide
  | i + 1 => simp [n1] at hy)

theorem n1_place {a : Nat} {e : Ending} (h : PlaceAns (n1 a).keys ⟨#[101]⟩ e) : e = .returned (.tuple #[.int .i64 1, .bool false]) := by
  obtain ⟨i, ok, hat, hok, rfl⟩ := h
  have hle : i ≤ 2 := hat.le
  have h2 : i = 2 := by
    rcases Nat.lt_or_ge i 2 with h | h
    · have := hat.hi 1 ⟨#[100]⟩ (by omega) rfl
      rw [lit_toList, lit_toList] at this
      exact absurd this (by decide)
    · omega
  subst h2
  have : ok = false := by
    cases ok
    · rfl
    · have := hok.1 rfl
      simp [n1] at this
  subst this
  rfl

set_option maxRecDepth 100000 in
set_option maxHeartbeats 1000000 in
theorem wakes_yes (w : World) : Calls Try.prog 9 #[] w fun e w' => e = .returned (.bool true) ∧ Mod (fun _ => False) w w' := by
  have hm : Mod (fun _ => False) w ((w.alloc (.cells #[.string ⟨#[97]⟩] 9)).alloc (.cells #[.string ⟨#[120]⟩] 9)) := ((Mod.refl _ _).alloc _).alloc _
  have h1 : ((w.alloc (.cells #[.string ⟨#[97]⟩] 9)).alloc (.cells #[.string ⟨#[120]⟩] 9)).heap[w.heap.size]? = some (.cells #[.string ⟨#[97]⟩] 9 (0, 0)) := (Below.heap_alloc _ _ _ (by simp)).trans (heap_alloc_new _ _)
  have h2 : ((w.alloc (.cells #[.string ⟨#[97]⟩] 9)).alloc (.cells #[.string ⟨#[120]⟩] 9)).heap[w.heap.size + 1]? = some (.cells #[.string ⟨#[120]⟩] 9 (0, 0)) := by have := heap_alloc_new (w.alloc (.cells #[.string ⟨#[97]⟩] 9)) (.cells #[.string ⟨#[120]⟩] 9); simpa using this
  have hE := encode_any (n0_at h1 h2)
  rw [n0_enc, n0_bytes] at hE
  have HE := hid hE
  have HM := hid hm
  clear hm h1 h2 hE
  go_enter Try.func9, Try.ntmps9
  go_wp2_with fail
  generalize (w.alloc (.cells #[.string ⟨#[97]⟩] 9)).alloc (.cells #[.string ⟨#[120]⟩] 9) = W at *
  refine HE.out.mono ?_
  rintro e w1 ⟨rfl, hm1⟩
  have HM1 := hid (HM.out.trans hm1)
  have hp : ∀ e', PlaceAns (n1 w1.heap.size).keys ⟨#[101]⟩ e' → e' = .returned (.tuple #[.int .i64 1, .bool false]) := fun e' h => n1_place h
  have HPl := hid (place_any ⟨#[101]⟩ (n1_at (heap_alloc_new w1 (.cells #[.string ⟨#[98]⟩, .string ⟨#[100]⟩] 9))) (n1_rises _))
  have HP := hid hp
  have ev : encV true [1, 1, 1, 97, 1, 120] = .tuple #[.string (ba [1, 1, 1, 97, 1, 120]), .int .i64 0] := rfl
  rw [ev]
  have e6 : ((ba [1, 1, 1, 97, 1, 120]).toList == [1, 1, 1, 97, 1, 120]) = true := by rw [ba_toList]; simp
  clear hm1 hp ev
  go_wp2_with fail
  refine HPl.out.mono ?_
  rintro e w2 ⟨ha, hm2⟩
  rw [HP.out e ha]
  have HM2 := hid ((HM1.out.alloc _).trans hm2)
  clear ha hm2
  go_wp2_with fail
  go_ret
  exact ⟨rfl, HM2.out⟩

end Go.Proofs.Ythdopgejikcfbaa
