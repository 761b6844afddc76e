/- Opening a script of calls -/
import Derived.Test.YtnbcihakabchgaaOpen1
namespace Go.Proofs.Ytnbcihakabchgaa
open Go Go.RowKit

/-- A call of the script. -/
structure Sop where
  kind : Int
  place : Int
  data : ByteArray
  k1 : place ≤ 9223372036854775807
  k2 : data.size ≤ maxLen

def Sop.cs (o : Sop) : List Value := [.int .i64 o.kind, .int .i64 o.place, .string o.data]
theorem Sop.len (o : Sop) : o.cs.length = 3 := rfl
theorem cellsSop : Try.prog.cellsOf 43 = 3 := by kernel_rfl

section
variable {H : Type} {enc : TypeId × Value → H} {w : World} {base : Nat} {spare : Nat → Bool} {held : Bool}

theorem sop_of {n : Nat} {cs : List Value} {y : DataW H × List MemPlace} (h : DataW.trod enc Try.prog w base spare held n 43 cs = some y) : ∃ o : Sop, cs = o.cs := by
  obtain ⟨a0, h0, _⟩ := field_int Try.underlying43 h 0 _ rfl Try.underlying3 cellsInt
  obtain ⟨a1, h1, wf⟩ := field_int Try.underlying43 h 1 _ rfl Try.underlying3 cellsInt
  obtain ⟨s, h2, hs⟩ := field_string Try.underlying43 h 2 _ rfl Try.underlying9 cellsStr
  have hn := len_of_struct Try.underlying43 h
  rw [cellsSop] at hn
  have h0 : cs[0]? = some (.int .i64 a0) := h0
  have h1 : cs[1]? = some (.int .i64 a1) := h1
  have h2 : cs[2]? = some (.string s) := h2
  refine ⟨⟨a0, a1, s, (wf_i64 wf).2, hs⟩, ?_⟩
  match cs, hn with
  | [_, _, _], _ =>
    simp only [Sop.cs]
    simp at h0 h1 h2
    simp [h0, h1, h2]

theorem open_sops {a : Option Addr} {len cap : Nat} {d : DataW H} {ps : List MemPlace} (h : DataW.Trod enc Try.prog w base spare held 38 (.slice a len cap) d ps) :
    ∃ os : List Sop, os.length = len ∧ Src w 3 a len (os.flatMap Sop.cs) ∧ (0 < len → ∀ x, a = some x → x.spot = none) ∧ (∀ k, 0 < len → blk a k → k < w.heap.size) ∧ len ≤ cap ∧ cap ≤ maxLen := by
  obtain ⟨os, h1, h2, h3, h4, h5⟩ := open_elems Try.underlying38 cellsSop Sop.len (fun _ _ _ hy => sop_of hy) h
  exact ⟨os, h1, h2, fun hl => h3 hl (by decide), fun k hl => h4 k hl (by decide), h5⟩
end

/-- The three cells of call k. -/
theorem sop_cells {w : World} {g off n : Nat} {os : List Sop} (h : Src w 3 (some ⟨g, off, none⟩) n (os.flatMap Sop.cs)) {k : Nat} {o : Sop} (hx : os[k]? = some o) :
    w.cell? ⟨g, off + k * 3, none⟩ = some (.int .i64 o.kind) ∧ w.cell? ⟨g, off + k * 3 + 1, none⟩ = some (.int .i64 o.place) ∧ w.cell? ⟨g, off + k * 3 + 2, none⟩ = some (.string o.data) := by
  have key : ∀ j u, j < 3 → o.cs[j]? = some u → w.cell? ⟨g, off + (k * 3 + j), none⟩ = some u := fun j u hj hu => by
    have := h.2.2 _ rfl (k * 3 + j) u (by rw [flat_get Sop.len os k j hj, hx]; exact hu)
    rwa [Addr.add_lit] at this
  have k0 := key 0 _ (by decide) rfl
  have k1 := key 1 _ (by decide) rfl
  have k2 := key 2 _ (by decide) rfl
  rw [Nat.add_zero] at k0
  rw [← Nat.add_assoc] at k1 k2
  exact ⟨k0, k1, k2⟩

end Go.Proofs.Ytnbcihakabchgaa
