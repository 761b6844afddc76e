/- Opening tables, rows and pairs of a small bulk -/
import Derived.Test.YtoclecpedhbokaaUpG
import Derived.Test.YtoclecpedhbokaaRwX
namespace Go.Proofs.Ytoclecpedhbokaa
open Go Go.RowKit

section
variable {H : Type} {enc : TypeId × Value → H} {w : World} {base : Nat} {spare : Nat → Bool} {held : Bool}

theorem cellsU8 : Try.prog.cellsOf 5 = 1 := by kernel_rfl
theorem cellsI64 : Try.prog.cellsOf 2 = 1 := by kernel_rfl
theorem cellsKind : Try.prog.cellsOf 48 = 1 := by kernel_rfl
theorem cellsKinds : Try.prog.cellsOf 22 = 1 := by kernel_rfl
theorem cellsTab : Try.prog.cellsOf 24 = 4 := by kernel_rfl
theorem cellsVal : Try.prog.cellsOf 50 = 2 := by kernel_rfl
theorem cellsPair : Try.prog.cellsOf 28 = 2 := by kernel_rfl
theorem tab_fields : ∃ f0 f1 f2 f3 : Field, Try.prog.underlying 24 = some (.struct #[f0, f1, f2, f3]) ∧ f0.offset = 0 ∧ f0.type = 5 ∧ f1.offset = 1 ∧ f1.type = 22 ∧ f2.offset = 2 ∧ f2.type = 3 ∧ f3.offset = 3 ∧ f3.type = 3 :=
  ⟨_, _, _, _, Try.underlying24, rfl, rfl, rfl, rfl, rfl, rfl, rfl, rfl⟩
theorem val_fields : ∃ f0 f1 : Field, Try.prog.underlying 50 = some (.struct #[f0, f1]) ∧ f0.offset = 0 ∧ f0.type = 2 ∧ f1.offset = 1 ∧ f1.type = 9 :=
  ⟨_, _, Try.underlying50, rfl, rfl, rfl, rfl⟩
theorem pair_fields : ∃ f0 f1 : Field, Try.prog.underlying 28 = some (.struct #[f0, f1]) ∧ f0.offset = 0 ∧ f0.type = 9 ∧ f1.offset = 1 ∧ f1.type = 9 :=
  ⟨_, _, Try.underlying28, rfl, rfl, rfl, rfl⟩

set_option maxRecDepth 100000 in
theorem small_kinds {fuel : Nat} {cs : List Value} {y : DataW H × List MemPlace} (h : DataW.trod enc Try.prog w base spare held fuel 22 cs = some y) (hfit : Rows.uptoBulk y.1 ≤ 1048576) :
    ∃ (a : Option Addr) (cap : Nat) (ls : List Int), cs = [.slice a ls.length cap] ∧ Lies w 1 oneI a ls ∧ (∀ x ∈ ls, True) ∧ ls.length ≤ 1048576 :=
  open_small (f := oneI) (Q := fun _ => True) Try.underlying22 cellsKind (by decide) oneI_len (fun n cs y hy _ => by
    obtain ⟨m, rfl, _, _⟩ := DataW.trod_int Try.underlying48 hy
    exact ⟨m, rfl, trivial⟩) h hfit

set_option maxRecDepth 100000 in
theorem small_val {fuel : Nat} {cs : List Value} {y : DataW H × List MemPlace} (h : DataW.trod enc Try.prog w base spare held fuel 50 cs = some y) (hfit : Rows.uptoBulk y.1 ≤ 1048576) :
    ∃ v : Vl, cs = v.cs ∧ v.Ok ∧ v.s.size ≤ 1048576 := by
  obtain ⟨f0, f1, hu, o0, t0, o1, t1⟩ := val_fields
  have hl := len_of_struct hu h
  rw [cellsVal] at hl
  obtain ⟨n, g0, hwf⟩ := field_int hu h 0 f0 rfl (by rw [t0]; exact Try.underlying2) (by rw [t0]; exact cellsI64)
  obtain ⟨n1, y1, h1, s1⟩ := field_small hu h hfit 1 f1 rfl
  rw [t1] at h1
  obtain ⟨s, e1, z1⟩ := small_text h1 s1
  rw [cellsStr] at e1
  have g1 := get_of_take1 e1
  rw [o0] at g0
  rw [o1] at g1
  have hw := wf_i64 hwf
  refine ⟨⟨n, s⟩, ?_, ⟨hw.1, hw.2, by simp only; omega⟩, z1⟩
  apply List.ext_getElem?
  intro j
  match j with
  | 0 => exact g0
  | 1 => exact g1
  | j + 2 => rw [List.getElem?_eq_none (by omega), List.getElem?_eq_none (by simp [Vl.cs])]

set_option maxRecDepth 100000 in
theorem open_row {r : Reach} {b0 : Nat} {v : Value} {d : DataW H} {ps : List MemPlace} (hval : Value.okWide Try.prog w r b0 26 v) (hd : DataW.Trod enc Try.prog w base spare held 26 v d ps) (hb : Rows.uptoBulk d ≤ 1048576) :
    ∃ (a : Option Addr) (cap : Nat) (ls : List Vl), v = .slice a ls.length cap ∧ Lies w 2 Vl.cs a ls ∧ (∀ x ∈ ls, x.Ok ∧ x.s.size ≤ 1048576) ∧ ls.length ≤ 1048576 := by
  obtain ⟨a, len, cap, rfl⟩ := WideShapes.okWide_slice Try.underlying26 hval
  obtain ⟨fuel, hf⟩ := hd
  obtain ⟨a', cap', ls, e, l, q, z⟩ := open_small (f := Vl.cs) (Q := fun x => x.Ok ∧ x.s.size ≤ 1048576) Try.underlying26 cellsVal (by decide) vl_len (fun n cs y hy hb => small_val hy hb) hf hb
  simp only [Value.cells] at e
  cases e
  exact ⟨a, cap, ls, rfl, l, q, z⟩

set_option maxRecDepth 100000 in
theorem open_table {r : Reach} {b0 : Nat} {v : Value} {d : DataW H} {ps : List MemPlace} (hval : Value.okWide Try.prog w r b0 24 v) (hd : DataW.Trod enc Try.prog w base spare held 24 v d ps) (hb : Rows.uptoBulk d ≤ 1048576) :
    ∃ (name keys idx : Int) (ca : Option Addr) (cc : Nat) (cols : List Int), v = .agg #[.int .u8 name, .slice ca cols.length cc, .int .i64 keys, .int .i64 idx] ∧ Lies w 1 oneI ca cols ∧ cols.length ≤ 1048576 := by
  obtain ⟨f0, f1, f2, f3, hu, o0, t0, o1, t1, o2, t2, o3, t3⟩ := tab_fields
  obtain ⟨cs, n, rfl, h⟩ := open_agg hu hval hd
  have hl := len_of_struct hu h
  rw [cellsTab] at hl
  obtain ⟨name, g0, _⟩ := field_int hu h 0 f0 rfl (by rw [t0]; exact Try.underlying5) (by rw [t0]; exact cellsU8)
  obtain ⟨keys, g2, _⟩ := field_int hu h 2 f2 rfl (by rw [t2]; exact Try.underlying3) (by rw [t2]; exact cellsInt)
  obtain ⟨idx, g3, _⟩ := field_int hu h 3 f3 rfl (by rw [t3]; exact Try.underlying3) (by rw [t3]; exact cellsInt)
  obtain ⟨n1, y1, h1, s1⟩ := field_small hu h hb 1 f1 rfl
  rw [t1] at h1
  obtain ⟨ca, cc, cols, e1, l1, _, z1⟩ := small_kinds h1 s1
  rw [cellsKinds] at e1
  have g1 := get_of_take1 e1
  rw [o0] at g0
  rw [o1] at g1
  rw [o2] at g2
  rw [o3] at g3
  refine ⟨name, keys, idx, ca, cc, cols, ?_, l1, z1⟩
  have : cs = [.int .u8 name, .slice ca cols.length cc, .int .i64 keys, .int .i64 idx] := by
    apply List.ext_getElem?
    intro j
    match j with
    | 0 => exact g0
    | 1 => exact g1
    | 2 => exact g2
    | 3 => exact g3
    | j + 4 => rw [List.getElem?_eq_none (by omega), List.getElem?_eq_none (by simp)]
  rw [this]

set_option maxRecDepth 100000 in
theorem open_pair {r : Reach} {b0 : Nat} {v : Value} {d : DataW H} {ps : List MemPlace} (hval : Value.okWide Try.prog w r b0 28 v) (hd : DataW.Trod enc Try.prog w base spare held 28 v d ps) (hb : Rows.uptoBulk d ≤ 1048576) :
    ∃ ks vs : ByteArray, v = .agg #[.string ks, .string vs] ∧ ks.size ≤ 1048576 ∧ vs.size ≤ 1048576 := by
  obtain ⟨f0, f1, hu, o0, t0, o1, t1⟩ := pair_fields
  obtain ⟨cs, n, rfl, h⟩ := open_agg hu hval hd
  have hl := len_of_struct hu h
  rw [cellsPair] at hl
  obtain ⟨n0, y0, h0, s0⟩ := field_small hu h hb 0 f0 rfl
  obtain ⟨n1, y1, h1, s1⟩ := field_small hu h hb 1 f1 rfl
  rw [t0] at h0
  rw [t1] at h1
  obtain ⟨ks, e0, z0⟩ := small_text h0 s0
  obtain ⟨vs, e1, z1⟩ := small_text h1 s1
  rw [cellsStr] at e0 e1
  have g0 := get_of_take1 e0
  have g1 := get_of_take1 e1
  rw [o0] at g0
  rw [o1] at g1
  refine ⟨ks, vs, ?_, z0, z1⟩
  have : cs = [.string ks, .string vs] := by
    apply List.ext_getElem?
    intro j
    match j with
    | 0 => exact g0
    | 1 => exact g1
    | j + 2 => rw [List.getElem?_eq_none (by omega), List.getElem?_eq_none (by simp)]
  rw [this]

end
end Go.Proofs.Ytoclecpedhbokaa
