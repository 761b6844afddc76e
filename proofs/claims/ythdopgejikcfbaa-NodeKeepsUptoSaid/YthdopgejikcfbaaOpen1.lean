/- Opening slices of integers and of texts -/
import Derived.Test.YthdopgejikcfbaaProg
import Derived.Test.YthdopgejikcfbaaOpen
namespace Go.Proofs.Ythdopgejikcfbaa
open Go Go.RowKit

theorem cellsInt : Try.prog.cellsOf 3 = 1 := by kernel_rfl
theorem cellsStr : Try.prog.cellsOf 9 = 1 := by kernel_rfl

/-- A text of a length that may be. -/
def Txt : Type := { s : ByteArray // s.size ≤ maxLen }
/-- A number that may be. -/
def Num : Type := { n : Int // -9223372036854775808 ≤ n ∧ n ≤ 9223372036854775807 }

theorem wf_i64 {n : Int} (h : (Lit.int .i64 n).wf = true) : -9223372036854775808 ≤ n ∧ n ≤ 9223372036854775807 := by
  simp only [Lit.wf, Bool.and_eq_true, decide_eq_true_eq] at h
  have a1 : IntKind.min .i64 = -9223372036854775808 := rfl
  have a2 : IntKind.max .i64 = 9223372036854775807 := rfl
  rw [a1, a2] at h
  exact h

section
variable {H : Type} {enc : TypeId × Value → H} {w : World} {base : Nat} {spare : Nat → Bool} {held : Bool}
theorem open_nums {a : Option Addr} {len cap : Nat} {d : DataW H} {ps : List MemPlace} (h : DataW.Trod enc Try.prog w base spare held 24 (.slice a len cap) d ps) :
    ∃ ns : List Num, ns.length = len ∧ Src w 1 a len (ns.flatMap fun n => [.int .i64 n.1]) ∧ (0 < len → ∀ x, a = some x → x.spot = none) ∧ (∀ k, 0 < len → blk a k → k < w.heap.size) ∧ len ≤ cap ∧ cap ≤ maxLen := by
  obtain ⟨os, h1, h2, h3, h4, h5⟩ := open_elems (α := Num) (f := fun n => [.int .i64 n.1]) Try.underlying24 cellsInt (fun _ => rfl) (fun n cs y hy => by
    obtain ⟨m, rfl, _, hwf⟩ := DataW.trod_int Try.underlying3 hy
    exact ⟨⟨m, wf_i64 hwf⟩, rfl⟩) h
  exact ⟨os, h1, h2, fun hl => h3 hl (by decide), fun k hl => h4 k hl (by decide), h5⟩
theorem open_txts {a : Option Addr} {len cap : Nat} {d : DataW H} {ps : List MemPlace} (h : DataW.Trod enc Try.prog w base spare held 22 (.slice a len cap) d ps) :
    ∃ ns : List Txt, ns.length = len ∧ Src w 1 a len (ns.flatMap fun n => [.string n.1]) ∧ (0 < len → ∀ x, a = some x → x.spot = none) ∧ (∀ k, 0 < len → blk a k → k < w.heap.size) ∧ len ≤ cap ∧ cap ≤ maxLen := by
  obtain ⟨os, h1, h2, h3, h4, h5⟩ := open_elems (α := Txt) (f := fun n => [.string n.1]) Try.underlying22 cellsStr (fun _ => rfl) (fun n cs y hy => by
    obtain ⟨m, rfl, _, hwf⟩ := DataW.trod_string Try.underlying9 hy
    exact ⟨⟨m, hwf⟩, rfl⟩) h
  exact ⟨os, h1, h2, fun hl => h3 hl (by decide), fun k hl => h4 k hl (by decide), h5⟩
end

/-- A cell of a slice that was read. -/
theorem Src.one {w : World} {g off n : Nat} {α : Type} {f : α → Value} {ls : List α} (h : Src w 1 (some ⟨g, off, none⟩) n (ls.flatMap fun x => [f x])) {i : Nat} {x : α} (hx : ls[i]? = some x) : w.cell? ⟨g, off + i, none⟩ = some (f x) := by
  have := h.2.2 _ rfl i (f x) (by
    have := flat_get (f := fun x : α => [f x]) (n := 1) (fun _ => rfl) ls i 0 (by decide)
    rw [Nat.mul_one, Nat.add_zero, hx] at this
    simpa using this)
  rw [Addr.add_lit] at this
  exact this

end Go.Proofs.Ythdopgejikcfbaa
