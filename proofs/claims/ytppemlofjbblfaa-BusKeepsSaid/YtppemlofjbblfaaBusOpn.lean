/- Opening a script, and a list of letters -/
import Derived.Test.YtppemlofjbblfaaProg
import Derived.Test.YtppemlofjbblfaaBusQ
import Derived.Test.YtppemlofjbblfaaOpen
namespace Go.Proofs.Ytppemlofjbblfaa
open Go Go.RowKit

theorem cellsInt : Try.prog.cellsOf 3 = 1 := by kernel_rfl
theorem cellsStr : Try.prog.cellsOf 9 = 1 := by kernel_rfl
theorem cellsLet : Try.prog.cellsOf 28 = 8 := by kernel_rfl
theorem cellsOp : Try.prog.cellsOf 30 = 10 := by kernel_rfl

section
variable {H : Type} {enc : TypeId × Value → H} {w : World} {base : Nat} {spare : Nat → Bool} {held : Bool}

theorem list8 {cs : List Value} {v0 v1 v2 v3 v4 v5 v6 v7 : Value} (hl : cs.length = 8) (h0 : cs[0]? = some v0) (h1 : cs[1]? = some v1) (h2 : cs[2]? = some v2) (h3 : cs[3]? = some v3) (h4 : cs[4]? = some v4) (h5 : cs[5]? = some v5) (h6 : cs[6]? = some v6) (h7 : cs[7]? = some v7) : cs = [v0, v1, v2, v3, v4, v5, v6, v7] := by
  match cs, hl with
  | [_, _, _, _, _, _, _, _], _ => simp at h0 h1 h2 h3 h4 h5 h6 h7; simp [*]

theorem letter_of {n : Nat} {cs : List Value} {y : DataW H × List MemPlace} (h : DataW.trod enc Try.prog w base spare held n 28 cs = some y) : ∃ l : Let, cs = l.cs := by
  obtain ⟨a0, h0, _⟩ := field_int Try.underlying28 h 0 _ rfl Try.underlying3 cellsInt
  obtain ⟨a1, h1, _⟩ := field_int Try.underlying28 h 1 _ rfl Try.underlying3 cellsInt
  obtain ⟨a2, h2, _⟩ := field_int Try.underlying28 h 2 _ rfl Try.underlying3 cellsInt
  obtain ⟨a3, h3, _⟩ := field_int Try.underlying28 h 3 _ rfl Try.underlying3 cellsInt
  obtain ⟨a4, h4, _⟩ := field_int Try.underlying28 h 4 _ rfl Try.underlying3 cellsInt
  obtain ⟨a5, h5, _⟩ := field_int Try.underlying28 h 5 _ rfl Try.underlying3 cellsInt
  obtain ⟨a6, h6, _⟩ := field_int Try.underlying28 h 6 _ rfl Try.underlying3 cellsInt
  obtain ⟨s, h7, _⟩ := field_string Try.underlying28 h 7 _ rfl Try.underlying9 cellsStr
  have hl := len_of_struct Try.underlying28 h
  rw [cellsLet] at hl
  exact ⟨⟨a0, a1, a2, a3, a4, a5, a6, s⟩, list8 hl h0 h1 h2 h3 h4 h5 h6 h7⟩

theorem opr_of {n : Nat} {cs : List Value} {y : DataW H × List MemPlace} (h : DataW.trod enc Try.prog w base spare held n 30 cs = some y) : ∃ o : Opr, cs = o.cs := by
  obtain ⟨k, h0, _⟩ := field_int Try.underlying30 h 0 _ rfl Try.underlying3 cellsInt
  obtain ⟨p, h1, _⟩ := field_int Try.underlying30 h 1 _ rfl Try.underlying3 cellsInt
  obtain ⟨m, z, h2⟩ := field_of Try.underlying30 h 2 _ rfl
  obtain ⟨l, hl⟩ := letter_of h2
  have hn := len_of_struct Try.underlying30 h
  rw [cellsOp] at hn
  have hl : (cs.drop 2).take (Try.prog.cellsOf 28) = l.cs := hl
  rw [cellsLet] at hl
  have h0 : cs[0]? = some (.int .i64 k) := h0
  have h1 : cs[1]? = some (.int .i64 p) := h1
  refine ⟨⟨k, p, l⟩, ?_⟩
  match cs, hn with
  | [_, _, _, _, _, _, _, _, _, _], _ =>
    simp only [Opr.cs]
    simp at h0 h1
    subst h0 h1
    rw [← hl]
    rfl

theorem open_ops {a : Option Addr} {len cap : Nat} {d : DataW H} {ps : List MemPlace} (h : DataW.Trod enc Try.prog w base spare held 22 (.slice a len cap) d ps) :
    ∃ os : List Opr, os.length = len ∧ Src w 10 a len (os.flatMap Opr.cs) ∧ (0 < len → ∀ x, a = some x → x.spot = none) ∧ (∀ k, 0 < len → blk a k → k < w.heap.size) ∧ len ≤ cap ∧ cap ≤ maxLen := by
  obtain ⟨os, h1, h2, h3, h4, h5⟩ := open_elems Try.underlying22 cellsOp Opr.len (fun _ _ _ hy => opr_of hy) h
  exact ⟨os, h1, h2, fun hl => h3 hl (by decide), fun k hl => h4 k hl (by decide), h5⟩

theorem open_lets {a : Option Addr} {len cap : Nat} {d : DataW H} {ps : List MemPlace} (h : DataW.Trod enc Try.prog w base spare held 35 (.slice a len cap) d ps) :
    ∃ ls : List Let, ls.length = len ∧ Src w 8 a len (ls.flatMap Let.cs) ∧ (0 < len → ∀ x, a = some x → x.spot = none) ∧ (∀ k, 0 < len → blk a k → k < w.heap.size) ∧ len ≤ cap ∧ cap ≤ maxLen := by
  obtain ⟨os, h1, h2, h3, h4, h5⟩ := open_elems Try.underlying35 cellsLet Let.len (fun _ _ _ hy => letter_of hy) h
  exact ⟨os, h1, h2, fun hl => h3 hl (by decide), fun k hl => h4 k hl (by decide), h5⟩
end

end Go.Proofs.Ytppemlofjbblfaa
