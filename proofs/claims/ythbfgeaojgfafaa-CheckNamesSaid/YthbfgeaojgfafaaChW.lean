/- The definitions that the document fixes -/
import Derived.Test.YthbfgeaojgfafaaChK
namespace Go.Proofs.Ythbfgeaojgfafaa
open Go Go.RowKit
open Relation (TransGen)

def bHold : ByteArray := ⟨#[104, 111, 108, 100]⟩
def sHold : Stp := { name := ⟨#[104, 111, 108, 100]⟩, verb := ⟨#[99, 114, 101, 100, 105, 116, 46, 104, 111, 108, 100]⟩, undo := ⟨#[99, 114, 101, 100, 105, 116, 46, 114, 101, 108, 101, 97, 115, 101]⟩, event := ⟨#[]⟩, final := false, retry := 0, every := 0, within := 0, after := [], aa := none, ac := 0 }
def sPay (b : Nat) : Stp := { name := ⟨#[112, 97, 121]⟩, verb := ⟨#[]⟩, undo := ⟨#[]⟩, event := ⟨#[112, 97, 105, 100]⟩, final := false, retry := 0, every := 0, within := 0, after := [⟨#[104, 111, 108, 100]⟩], aa := some ⟨b, 0, none⟩, ac := 1 }
def sLast (b : Nat) : Stp := { name := ⟨#[99, 108, 111, 115, 101]⟩, verb := ⟨#[99, 114, 101, 100, 105, 116, 46, 99, 108, 101, 97, 114]⟩, undo := ⟨#[]⟩, event := ⟨#[]⟩, final := true, retry := 0, every := 0, within := 0, after := [⟨#[104, 111, 108, 100]⟩], aa := some ⟨b, 0, none⟩, ac := 1 }

theorem ba_ne {a b : ByteArray} (h : a.data.toList ≠ b.data.toList) : a ≠ b := fun e => h (by rw [e])

theorem step_hold : stepF sHold = 0 := by
  have e : ∀ l : Array UInt8, (⟨l⟩ : ByteArray).toList = l.toList := fun l => ByteArray.toList_eq _
  simp [stepF, sHold, e, undoF]
theorem step_pay (b : Nat) : stepF (sPay b) = 0 := by
  have e : ∀ l : Array UInt8, (⟨l⟩ : ByteArray).toList = l.toList := fun l => ByteArray.toList_eq _
  simp [stepF, sPay, e]
theorem step_last (b : Nat) : stepF (sLast b) = 0 := by
  have e : ∀ l : Array UInt8, (⟨l⟩ : ByteArray).toList = l.toList := fun l => ByteArray.toList_eq _
  simp [stepF, sLast, e, undoF]

theorem en_hold {ss : List Stp} (h : ∀ s ∈ ss, s = sHold ∨ (∃ b, s = sPay b) ∨ ∃ b, s = sLast b) {x y : ByteArray} (hy : TransGen (En ss) x y) : y = bHold ∧ x ≠ bHold := by
  have one : ∀ {x y}, En ss x y → y = bHold ∧ x ≠ bHold := by
    rintro x y ⟨s, hs, rfl, hy⟩
    rcases h s hs with rfl | ⟨b, rfl⟩ | ⟨b, rfl⟩
    · simp [sHold] at hy
    · exact ⟨by simpa [sPay, bHold] using hy, ba_ne (by simp [sPay, bHold])⟩
    · exact ⟨by simpa [sLast, bHold] using hy, ba_ne (by simp [sLast, bHold])⟩
  induction hy with
  | single h => exact one h
  | tail _ h2 ih => exact ⟨(one h2).1, ih.2⟩

theorem wk1 (b : Nat) : checkF [sHold, sPay b] = 0 := by
  have hall : ∀ s ∈ [sHold, sPay b], s = sHold ∨ (∃ b, s = sPay b) ∨ ∃ b, s = sLast b := by
    intro s hs
    simp at hs
    rcases hs with rfl | rfl
    · exact .inl rfl
    · exact .inr (.inl ⟨b, rfl⟩)
  rw [checkF_zero]
  refine ⟨⟨?_, ?_⟩, ?_, fun ⟨x, hx⟩ => (en_hold hall hx).2 (en_hold hall hx).1, ?_⟩
  · simp [sHold, sPay]
  · intro s hs a ha
    simp at hs
    rcases hs with rfl | rfl
    · simp [sHold] at ha
    · simp [sPay] at ha
      simp [sHold, ha]
  · intro s hs
    simp at hs
    rcases hs with rfl | rfl
    · exact step_hold
    · exact step_pay b
  · rintro ⟨s, hs, hf, _⟩
    simp at hs
    rcases hs with rfl | rfl
    · exact absurd hf.2 (by decide)
    · exact absurd hf.2 (by simp [sPay])

theorem wk2 (b c : Nat) : checkF [sHold, sPay b, sLast c] = 114 := by
  have hall : ∀ s ∈ [sHold, sPay b, sLast c], s = sHold ∨ (∃ b, s = sPay b) ∨ ∃ b, s = sLast b := by
    intro s hs
    simp at hs
    rcases hs with rfl | rfl | rfl
    · exact .inl rfl
    · exact .inr (.inl ⟨b, rfl⟩)
    · exact .inr (.inr ⟨c, rfl⟩)
  refine checkF_fin ⟨?_, ?_⟩ (firstF_zero.2 ?_) (fun ⟨x, hx⟩ => (en_hold hall hx).2 (en_hold hall hx).1) ?_
  · simp [sHold, sPay, sLast]
  · intro s hs a ha
    simp at hs
    rcases hs with rfl | rfl | rfl
    · simp [sHold] at ha
    · simp [sPay] at ha
      simp [sHold, ha]
    · simp [sLast] at ha
      simp [sHold, ha]
  · intro s hs
    simp at hs
    rcases hs with rfl | rfl | rfl
    · exact step_hold
    · exact step_pay b
    · exact step_last c
  · have e : ∀ l : Array UInt8, (⟨l⟩ : ByteArray).toList = l.toList := fun l => ByteArray.toList_eq _
    refine ⟨sLast c, by simp, ⟨by simp [sLast, e], rfl⟩, sPay b, by simp, fun h => ?_, fun h => ?_⟩
    · have := h.1
      simp [sPay, e] at this
    · exact absurd (en_hold hall h).1 (ba_ne (by simp [sPay, bHold]))

theorem stpOk_nil (w : World) {s : Stp} (h : s.after = []) : StpOk w s := by
  refine ⟨?_, ?_, ?_, ?_⟩ <;> simp [h]
  exact ⟨by simp, fun _ => rfl, fun a _ j u hu => by simp at hu⟩

theorem stpOk_one {w : World} {b : Nat} {x : ByteArray} {t : TypeId} {s : Stp} (h : w.heap[b]? = some (.cells #[.string x] t (0, 0))) (h1 : s.after = [x]) (h2 : s.aa = some ⟨b, 0, none⟩) : StpOk w s := by
  refine ⟨?_, ?_, ?_, ?_⟩
  · rw [h1, h2]
    exact src_new (cs := [.string x]) h rfl
  · intro _ a ha; rw [h2] at ha; cases ha; rfl
  · rintro k _ ⟨a, ha, rfl⟩; rw [h2] at ha; cases ha; exact lt_of_heap h
  · rw [h1]; simp

theorem defAt_new {w : World} {b : Nat} {t : TypeId} {ss : List Stp} (h : w.heap[b]? = some (.cells (ss.flatMap Stp.cs).toArray t (0, 0))) (ho : ∀ s ∈ ss, StpOk w s) (hb : ss.length ≤ 2199023255552) : DefAt w (some ⟨b, 0, none⟩) ss :=
  ⟨src_new h (flat_length (f := Stp.cs) (n := 9) (fun _ => rfl) ss), fun _ x hx => by cases hx; rfl, fun k _ hk => by rw [blk_some] at hk; subst hk; exact lt_of_heap h, ho, hb⟩

theorem heap6 (w : World) (A B C D E G : Obj) : let W := ((((((w.alloc A).alloc B).alloc C).alloc D).alloc E).alloc G)
    W.heap[w.heap.size]? = some A ∧ W.heap[w.heap.size + 1]? = some B ∧ W.heap[w.heap.size + 1 + 1]? = some C ∧ W.heap[w.heap.size + 1 + 1 + 1]? = some D ∧ W.heap[w.heap.size + 1 + 1 + 1 + 1]? = some E ∧ W.heap[w.heap.size + 1 + 1 + 1 + 1 + 1]? = some G ∧ Mod (fun _ => False) w W := by
  intro W
  have hW : W.heap = ((((((w.heap.push A).push B).push C).push D).push E).push G) := rfl
  rw [hW]
  refine ⟨?_, ?_, ?_, ?_, ?_, ?_, ((((((Mod.refl _ _).alloc _).alloc _).alloc _).alloc _).alloc _).alloc _⟩ <;> (simp only [Array.getElem?_push, Array.size_push]; repeat (first | rfl | (exfalso; omega) | split))

set_option maxRecDepth 100000 in
set_option maxHeartbeats 1000000 in
theorem wakes_yes (w : World) : Calls Try.prog 10 #[] w fun e w' => e = .returned (.bool true) ∧ Mod (fun _ => False) w w' := by
  obtain ⟨z0, z1, z2, z3, z4, z5, zm⟩ := heap6 w (.cells #[.string ⟨#[104, 111, 108, 100]⟩, .string ⟨#[99, 114, 101, 100, 105, 116, 46, 104, 111, 108, 100]⟩, .string ⟨#[99, 114, 101, 100, 105, 116, 46, 114, 101, 108, 101, 97, 115, 101]⟩, .string ⟨#[]⟩, .bool false, .int .i64 0, .int .i64 0, .int .i64 0, .slice none 0 0] 31) (.cells #[.string ⟨#[104, 111, 108, 100]⟩] 9) (.cells #[.string ⟨#[112, 97, 121]⟩, .string ⟨#[]⟩, .string ⟨#[]⟩, .string ⟨#[112, 97, 105, 100]⟩, .bool false, .int .i64 0, .int .i64 0, .int .i64 0, .slice (some ⟨w.heap.size + 1, 0, none⟩) 1 1] 31) (.cells #[.string ⟨#[104, 111, 108, 100]⟩] 9) (.cells #[.string ⟨#[99, 108, 111, 115, 101]⟩, .string ⟨#[99, 114, 101, 100, 105, 116, 46, 99, 108, 101, 97, 114]⟩, .string ⟨#[]⟩, .string ⟨#[]⟩, .bool true, .int .i64 0, .int .i64 0, .int .i64 0, .slice (some ⟨w.heap.size + 1 + 1 + 1, 0, none⟩) 1 1] 31) (.cells #[.string ⟨#[104, 111, 108, 100]⟩, .string ⟨#[99, 114, 101, 100, 105, 116, 46, 104, 111, 108, 100]⟩, .string ⟨#[99, 114, 101, 100, 105, 116, 46, 114, 101, 108, 101, 97, 115, 101]⟩, .string ⟨#[]⟩, .bool false, .int .i64 0, .int .i64 0, .int .i64 0, .slice none 0 0, .string ⟨#[112, 97, 121]⟩, .string ⟨#[]⟩, .string ⟨#[]⟩, .string ⟨#[112, 97, 105, 100]⟩, .bool false, .int .i64 0, .int .i64 0, .int .i64 0, .slice (some ⟨w.heap.size + 1, 0, none⟩) 1 1] 31)
  have HZ := hid (And.intro z0 (And.intro z1 (And.intro z2 (And.intro z3 (And.intro z4 (And.intro z5 zm))))))
  clear z0 z1 z2 z3 z4 z5 zm
  go_enter Try.func10, Try.ntmps10
  go_wp2_with fail
  generalize ((((((w.alloc (.cells #[.string ⟨#[104, 111, 108, 100]⟩, .string ⟨#[99, 114, 101, 100, 105, 116, 46, 104, 111, 108, 100]⟩, .string ⟨#[99, 114, 101, 100, 105, 116, 46, 114, 101, 108, 101, 97, 115, 101]⟩, .string ⟨#[]⟩, .bool false, .int .i64 0, .int .i64 0, .int .i64 0, .slice none 0 0] 31)).alloc (.cells #[.string ⟨#[104, 111, 108, 100]⟩] 9)).alloc (.cells #[.string ⟨#[112, 97, 121]⟩, .string ⟨#[]⟩, .string ⟨#[]⟩, .string ⟨#[112, 97, 105, 100]⟩, .bool false, .int .i64 0, .int .i64 0, .int .i64 0, .slice (some ⟨w.heap.size + 1, 0, none⟩) 1 1] 31)).alloc (.cells #[.string ⟨#[104, 111, 108, 100]⟩] 9)).alloc (.cells #[.string ⟨#[99, 108, 111, 115, 101]⟩, .string ⟨#[99, 114, 101, 100, 105, 116, 46, 99, 108, 101, 97, 114]⟩, .string ⟨#[]⟩, .string ⟨#[]⟩, .bool true, .int .i64 0, .int .i64 0, .int .i64 0, .slice (some ⟨w.heap.size + 1 + 1 + 1, 0, none⟩) 1 1] 31)).alloc (.cells #[.string ⟨#[104, 111, 108, 100]⟩, .string ⟨#[99, 114, 101, 100, 105, 116, 46, 104, 111, 108, 100]⟩, .string ⟨#[99, 114, 101, 100, 105, 116, 46, 114, 101, 108, 101, 97, 115, 101]⟩, .string ⟨#[]⟩, .bool false, .int .i64 0, .int .i64 0, .int .i64 0, .slice none 0 0, .string ⟨#[112, 97, 121]⟩, .string ⟨#[]⟩, .string ⟨#[]⟩, .string ⟨#[112, 97, 105, 100]⟩, .bool false, .int .i64 0, .int .i64 0, .int .i64 0, .slice (some ⟨w.heap.size + 1, 0, none⟩) 1 1] 31)) = W1 at *
  have hD1 : DefAt W1 (some ⟨w.heap.size + 1 + 1 + 1 + 1 + 1, 0, none⟩) [sHold, sPay (w.heap.size + 1)] := defAt_new HZ.out.2.2.2.2.2.1 (fun s hs => by
    simp only [List.mem_cons, List.not_mem_nil, or_false] at hs
    rcases hs with rfl | rfl
    · exact stpOk_nil _ rfl
    · exact stpOk_one HZ.out.2.1 rfl rfl) (by simp)
  have HC := check_any ⟨#[]⟩ 2 hD1
  rw [wk1] at HC
  refine HC.mono ?_
  clear HC hD1
  rintro e w2 ⟨rfl, hm2⟩
  have up : ∀ {b : Nat} {o : Obj}, W1.heap[b]? = some o → w2.heap[b]? = some o := fun h => (hm2.block _ (lt_of_heap h) (fun h => h)).trans h
  obtain ⟨a0, a1, a2, a3, a4, a5, a6, a7, a8⟩ := own_step (s := sHold) (up HZ.out.1)
  obtain ⟨b0, b1, b2, b3, b4, b5, b6, b7, b8⟩ := own_step (s := sPay (w.heap.size + 1)) (up HZ.out.2.2.1)
  obtain ⟨c0, c1, c2, c3, c4, c5, c6, c7, c8⟩ := own_step (s := sLast (w.heap.size + 1 + 1 + 1)) (up HZ.out.2.2.2.2.1)
  have k1 := hid (up HZ.out.2.1)
  have k3 := hid (up HZ.out.2.2.2.1)
  have Hm2 := hid hm2
  clear up hm2
  simp only [sHold, sPay, sLast, List.length_nil, List.length_cons, Nat.zero_add] at a0 a1 a2 a3 a4 a5 a6 a7 a8 b0 b1 b2 b3 b4 b5 b6 b7 b8 c0 c1 c2 c3 c4 c5 c6 c7 c8
  go_wp2_with fail
  have hm3 : Mod (fun _ => False) w2 (w2.alloc (.cells #[.string ⟨#[104, 111, 108, 100]⟩, .string ⟨#[99, 114, 101, 100, 105, 116, 46, 104, 111, 108, 100]⟩, .string ⟨#[99, 114, 101, 100, 105, 116, 46, 114, 101, 108, 101, 97, 115, 101]⟩, .string ⟨#[]⟩, .bool false, .int .i64 0, .int .i64 0, .int .i64 0, .slice none 0 0, .string ⟨#[112, 97, 121]⟩, .string ⟨#[]⟩, .string ⟨#[]⟩, .string ⟨#[112, 97, 105, 100]⟩, .bool false, .int .i64 0, .int .i64 0, .int .i64 0, .slice (some ⟨w.heap.size + 1, 0, none⟩) 1 1, .string ⟨#[99, 108, 111, 115, 101]⟩, .string ⟨#[99, 114, 101, 100, 105, 116, 46, 99, 108, 101, 97, 114]⟩, .string ⟨#[]⟩, .string ⟨#[]⟩, .bool true, .int .i64 0, .int .i64 0, .int .i64 0, .slice (some ⟨w.heap.size + 1 + 1 + 1, 0, none⟩) 1 1] 31)) := (Mod.refl _ _).alloc _
  have h3 := heap_alloc_new w2 (.cells #[.string ⟨#[104, 111, 108, 100]⟩, .string ⟨#[99, 114, 101, 100, 105, 116, 46, 104, 111, 108, 100]⟩, .string ⟨#[99, 114, 101, 100, 105, 116, 46, 114, 101, 108, 101, 97, 115, 101]⟩, .string ⟨#[]⟩, .bool false, .int .i64 0, .int .i64 0, .int .i64 0, .slice none 0 0, .string ⟨#[112, 97, 121]⟩, .string ⟨#[]⟩, .string ⟨#[]⟩, .string ⟨#[112, 97, 105, 100]⟩, .bool false, .int .i64 0, .int .i64 0, .int .i64 0, .slice (some ⟨w.heap.size + 1, 0, none⟩) 1 1, .string ⟨#[99, 108, 111, 115, 101]⟩, .string ⟨#[99, 114, 101, 100, 105, 116, 46, 99, 108, 101, 97, 114]⟩, .string ⟨#[]⟩, .string ⟨#[]⟩, .bool true, .int .i64 0, .int .i64 0, .int .i64 0, .slice (some ⟨w.heap.size + 1 + 1 + 1, 0, none⟩) 1 1] 31)
  have hD2 : DefAt (w2.alloc (.cells #[.string ⟨#[104, 111, 108, 100]⟩, .string ⟨#[99, 114, 101, 100, 105, 116, 46, 104, 111, 108, 100]⟩, .string ⟨#[99, 114, 101, 100, 105, 116, 46, 114, 101, 108, 101, 97, 115, 101]⟩, .string ⟨#[]⟩, .bool false, .int .i64 0, .int .i64 0, .int .i64 0, .slice none 0 0, .string ⟨#[112, 97, 121]⟩, .string ⟨#[]⟩, .string ⟨#[]⟩, .string ⟨#[112, 97, 105, 100]⟩, .bool false, .int .i64 0, .int .i64 0, .int .i64 0, .slice (some ⟨w.heap.size + 1, 0, none⟩) 1 1, .string ⟨#[99, 108, 111, 115, 101]⟩, .string ⟨#[99, 114, 101, 100, 105, 116, 46, 99, 108, 101, 97, 114]⟩, .string ⟨#[]⟩, .string ⟨#[]⟩, .bool true, .int .i64 0, .int .i64 0, .int .i64 0, .slice (some ⟨w.heap.size + 1 + 1 + 1, 0, none⟩) 1 1] 31)) (some ⟨w2.heap.size, 0, none⟩) [sHold, sPay (w.heap.size + 1), sLast (w.heap.size + 1 + 1 + 1)] := defAt_new h3 (fun s hs => by
    simp only [List.mem_cons, List.not_mem_nil, or_false] at hs
    rcases hs with rfl | rfl | rfl
    · exact stpOk_nil _ rfl
    · exact (stpOk_one k1.out rfl rfl).mod hm3 (fun _ _ h => h)
    · exact (stpOk_one k3.out rfl rfl).mod hm3 (fun _ _ h => h)) (by simp)
  have HC := check_any ⟨#[]⟩ 3 hD2
  rw [wk2] at HC
  refine HC.mono ?_
  clear HC hD2 h3
  rintro e w4 ⟨rfl, hm4⟩
  have Hm4 := hid ((Hm2.out.trans hm3).trans hm4)
  clear hm3 hm4
  go_wp2_with fail
  go_ret
  exact ⟨rfl, HZ.out.2.2.2.2.2.2.trans Hm4.out⟩

end Go.Proofs.Ythbfgeaojgfafaa
