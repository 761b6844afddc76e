/- Undoing, and the document's -/
import Derived.Test.YthbfgeaojgfafaaProg
import Derived.Test.YthbfgeaojgfafaaMem
namespace Go.Proofs.Ythbfgeaojgfafaa
open Go Go.RowKit

/-- What undoes a verb; whether it is known; whether it is final. -/
def undoF (l : List UInt8) : ByteArray × Bool × Bool :=
  if (l == [99, 114, 101, 100, 105, 116, 46, 104, 111, 108, 100]) = true then (⟨#[99, 114, 101, 100, 105, 116, 46, 114, 101, 108, 101, 97, 115, 101]⟩, true, false) else
  if (l == [115, 116, 111, 99, 107, 46, 97, 108, 108, 111, 99, 97, 116, 101]) = true then (⟨#[115, 116, 111, 99, 107, 46, 102, 114, 101, 101]⟩, true, false) else
  if (l == [115, 116, 111, 99, 107, 46, 115, 104, 105, 112]) = true then (⟨#[115, 116, 111, 99, 107, 46, 114, 101, 115, 116, 111, 99, 107]⟩, true, false) else
  if (l == [98, 105, 108, 108, 46, 105, 110, 118, 111, 105, 99, 101]) = true then (⟨#[98, 105, 108, 108, 46, 99, 114, 101, 100, 105, 116]⟩, true, false) else
  if (l == [99, 114, 101, 100, 105, 116, 46, 99, 108, 101, 97, 114]) = true then (⟨#[]⟩, true, true) else
  if (l == [115, 116, 111, 99, 107, 46, 116, 97, 107, 101, 98, 97, 99, 107]) = true then (⟨#[]⟩, true, true) else
  if (l == [98, 105, 108, 108, 46, 109, 101, 109, 111]) = true then (⟨#[]⟩, true, true) else
  if (l == [99, 97, 115, 104, 46, 114, 101, 102, 117, 110, 100]) = true then (⟨#[]⟩, true, true) else
  (⟨#[]⟩, false, false)

set_option maxRecDepth 100000 in
theorem undoing_any (s : ByteArray) (w : World) : Calls Try.prog 8 #[.string s] w fun e w' => e = .returned (.tuple #[.string (undoF s.toList).1, .bool (undoF s.toList).2.1, .bool (undoF s.toList).2.2]) ∧ w = w' := by
  generalize hF : undoF s.toList = F
  have HF := hid hF
  clear hF
  go_enter Try.func8, Try.ntmps8
  go_wp2
  all_goals
    go_ret3
    refine ⟨?_, rfl⟩
    rw [← HF.out]
    first | (simp [undoF, *]; done) | (exfalso; simp_all)

set_option maxRecDepth 100000 in
theorem rundoing_any (s : ByteArray) (w : World) : Calls Try.prog 9 #[.string s] w fun e w' => e = .returned (.tuple #[.string (undoF s.toList).1, .bool (undoF s.toList).2.1, .bool (undoF s.toList).2.2]) ∧ w = w' := by
  generalize hF : undoF s.toList = F
  have HF := hid hF
  clear hF
  cases c0 : (s.toList == [99, 114, 101, 100, 105, 116, 46, 104, 111, 108, 100]) with
  | true =>
    go_enter Try.func9, Try.ntmps9
    go_wp2
    go_ret3
    refine ⟨?_, rfl⟩
    rw [← HF.out]
    simp [undoF, c0]
  | false =>
    cases c1 : (s.toList == [115, 116, 111, 99, 107, 46, 97, 108, 108, 111, 99, 97, 116, 101]) with
    | true =>
      go_enter Try.func9, Try.ntmps9
      go_wp2
      go_ret3
      refine ⟨?_, rfl⟩
      rw [← HF.out]
      simp [undoF, c0, c1]
    | false =>
      cases c2 : (s.toList == [115, 116, 111, 99, 107, 46, 115, 104, 105, 112]) with
      | true =>
        go_enter Try.func9, Try.ntmps9
        go_wp2
        go_ret3
        refine ⟨?_, rfl⟩
        rw [← HF.out]
        simp [undoF, c0, c1, c2]
      | false =>
        cases c3 : (s.toList == [98, 105, 108, 108, 46, 105, 110, 118, 111, 105, 99, 101]) with
        | true =>
          go_enter Try.func9, Try.ntmps9
          go_wp2
          go_ret3
          refine ⟨?_, rfl⟩
          rw [← HF.out]
          simp [undoF, c0, c1, c2, c3]
        | false =>
          cases c4 : (s.toList == [99, 114, 101, 100, 105, 116, 46, 99, 108, 101, 97, 114]) with
          | true =>
            go_enter Try.func9, Try.ntmps9
            go_wp2
            go_ret3
            refine ⟨?_, rfl⟩
            rw [← HF.out]
            simp [undoF, c0, c1, c2, c3, c4]
          | false =>
            cases c5 : (s.toList == [115, 116, 111, 99, 107, 46, 116, 97, 107, 101, 98, 97, 99, 107]) with
            | true =>
              go_enter Try.func9, Try.ntmps9
              go_wp2
              go_ret3
              refine ⟨?_, rfl⟩
              rw [← HF.out]
              simp [undoF, c0, c1, c2, c3, c4, c5]
            | false =>
              cases c6 : (s.toList == [98, 105, 108, 108, 46, 109, 101, 109, 111]) with
              | true =>
                go_enter Try.func9, Try.ntmps9
                go_wp2
                go_ret3
                refine ⟨?_, rfl⟩
                rw [← HF.out]
                simp [undoF, c0, c1, c2, c3, c4, c5, c6]
              | false =>
                cases c7 : (s.toList == [99, 97, 115, 104, 46, 114, 101, 102, 117, 110, 100]) with
                | true =>
                  go_enter Try.func9, Try.ntmps9
                  go_wp2
                  go_ret3
                  refine ⟨?_, rfl⟩
                  rw [← HF.out]
                  simp [undoF, c0, c1, c2, c3, c4, c5, c6, c7]
                | false =>
                  go_enter Try.func9, Try.ntmps9
                  go_wp2
                  go_ret3
                  refine ⟨?_, rfl⟩
                  rw [← HF.out]
                  simp [undoF, c0, c1, c2, c3, c4, c5, c6, c7]

end Go.Proofs.Ythbfgeaojgfafaa
