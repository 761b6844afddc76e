/- Opening a definition -/
import Derived.Test.YthbfgeaojgfafaaChK
import Derived.Test.YthbfgeaojgfafaaOpen1
import Derived.Test.YthbfgeaojgfafaaOpen2
namespace Go.Proofs.Ythbfgeaojgfafaa
open Go Go.RowKit

theorem cellsBool : Try.prog.cellsOf 4 = 1 := by kernel_rfl
theorem cellsSstr : Try.prog.cellsOf 29 = 1 := by kernel_rfl
theorem cellsSstp : Try.prog.cellsOf 26 = 1 := by kernel_rfl
theorem cellsStp : Try.prog.cellsOf 31 = 9 := by kernel_rfl
theorem cellsDef : Try.prog.cellsOf 28 = 2 := by kernel_rfl
theorem bytesStp : Try.prog.bytesOf 31 = 120 := by kernel_rfl
theorem bytesStr : Try.prog.bytesOf 9 = 16 := by kernel_rfl

/-- A step whose texts are within the reach. -/
def Near (s : Stp) : Prop := s.name.size ≤ 140737488351232 ∧ ∀ x ∈ s.after, x.size ≤ 140737488351232

theorem list9 {cs : List Value} {v0 v1 v2 v3 v4 v5 v6 v7 v8 : Value} (hl : cs.length = 9) (h0 : cs[0]? = some v0) (h1 : cs[1]? = some v1) (h2 : cs[2]? = some v2) (h3 : cs[3]? = some v3) (h4 : cs[4]? = some v4) (h5 : cs[5]? = some v5) (h6 : cs[6]? = some v6) (h7 : cs[7]? = some v7) (h8 : cs[8]? = some v8) : cs = [v0, v1, v2, v3, v4, v5, v6, v7, v8] := by
  match cs, hl with
  | [_, _, _, _, _, _, _, _, _], _ => simp at h0 h1 h2 h3 h4 h5 h6 h7 h8; simp [*]

theorem list2 {cs : List Value} {v0 v1 : Value} (hl : cs.length = 2) (h0 : cs[0]? = some v0) (h1 : cs[1]? = some v1) : cs = [v0, v1] := by
  match cs, hl with
  | [_, _], _ => simp at h0 h1; simp [*]

section
variable {H : Type} {enc : TypeId × Value → H} {w : World} {base : Nat} {spare : Nat → Bool} {held : Bool}

theorem stp_of {n : Nat} {cs : List Value} {y : DataW H × List MemPlace} (h : DataW.trod enc Try.prog w base spare held n 31 cs = some y) (hf : Fits Try.prog 31 y.1) : ∃ s : Stp, cs = s.cs ∧ (StpOk w s ∧ Near s) := by
  obtain ⟨n0, h0, b0⟩ := field_text Try.underlying31 h hf 0 _ rfl Try.underlying9 cellsStr
  obtain ⟨n1, h1, _⟩ := field_text Try.underlying31 h hf 1 _ rfl Try.underlying9 cellsStr
  obtain ⟨n2, h2, _⟩ := field_text Try.underlying31 h hf 2 _ rfl Try.underlying9 cellsStr
  obtain ⟨n3, h3, _⟩ := field_text Try.underlying31 h hf 3 _ rfl Try.underlying9 cellsStr
  obtain ⟨n4, h4⟩ := field_bool Try.underlying31 h 4 _ rfl Try.underlying4 cellsBool
  obtain ⟨n5, h5, _⟩ := field_int Try.underlying31 h 5 _ rfl Try.underlying3 cellsInt
  obtain ⟨n6, h6, _⟩ := field_int Try.underlying31 h 6 _ rfl Try.underlying3 cellsInt
  obtain ⟨n7, h7, _⟩ := field_int Try.underlying31 h 7 _ rfl Try.underlying3 cellsInt
  obtain ⟨m, z, hz, hfz⟩ := field_fit Try.underlying31 h hf 8 _ rfl
  obtain ⟨a, cap, ls, e, hlies, hq, hcap, hmax, hby⟩ := open_deep (f := fun x : ByteArray => [.string x]) (Q := fun x => x.size ≤ 140737488351232) Try.underlying29 cellsStr (by decide) (fun _ => rfl) (fun n cs y h hf => text_fit Try.underlying9 h hf) hz hfz
  have hl := len_of_struct Try.underlying31 h
  rw [cellsStp] at hl
  have e' : (cs.drop 8).take (Try.prog.cellsOf 29) = [.slice a ls.length cap] := e
  rw [cellsSstr] at e'
  rw [bytesStr] at hby
  exact ⟨⟨n0, n1, n2, n3, n4, n5, n6, n7, ls, a, cap⟩, list9 hl h0 h1 h2 h3 h4 h5 h6 h7 (get_of_take1 e'), ⟨hlies.src, hlies.spot, hlies.lt, by simp only; omega⟩, b0, hq⟩

theorem def_of {r : Reach} {b0 : Nat} {v : Value} {d : DataW H} {ps : List MemPlace} (hval : Value.okWide Try.prog w r b0 28 v) (h : DataW.Trod enc Try.prog w base spare held 28 v d ps) (hf : Fits Try.prog 28 d) :
    ∃ (nm : ByteArray) (a : Option Addr) (cap : Nat) (ss : List Stp), v = .agg #[.string nm, .slice a ss.length cap] ∧ DefAt w a ss ∧ (∀ s ∈ ss, Near s) ∧ ss.length ≤ cap ∧ cap ≤ maxLen := by
  obtain ⟨cs, n, rfl, ht⟩ := open_agg Try.underlying28 hval h
  obtain ⟨nm, h0, _⟩ := field_text Try.underlying28 ht hf 0 _ rfl Try.underlying9 cellsStr
  obtain ⟨m, z, hz, hfz⟩ := field_fit Try.underlying28 ht hf 1 _ rfl
  obtain ⟨a, cap, ls, e, hlies, hq, hcap, hmax, hby⟩ := open_deep (f := Stp.cs) Try.underlying26 cellsStp (by decide) (fun _ => rfl) (fun n cs y h hf => stp_of h hf) hz hfz
  have hl := len_of_struct Try.underlying28 ht
  rw [cellsDef] at hl
  have e' : (cs.drop 1).take (Try.prog.cellsOf 26) = [.slice a ls.length cap] := e
  rw [cellsSstp] at e'
  rw [bytesStp] at hby
  refine ⟨nm, a, cap, ls, ?_, ⟨hlies.src, hlies.spot, hlies.lt, fun s hs => (hq s hs).1, by omega⟩, fun s hs => (hq s hs).2, hcap, hmax⟩
  rw [list2 hl h0 (get_of_take1 e')]
end

end Go.Proofs.Ythbfgeaojgfafaa
