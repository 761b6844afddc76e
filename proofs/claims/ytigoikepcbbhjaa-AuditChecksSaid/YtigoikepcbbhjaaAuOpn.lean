/- Opening what is told (printed by genopn23.py) -/
import Derived.Test.YtigoikepcbbhjaaProg
import Derived.Test.YtigoikepcbbhjaaOpen1
import Derived.Test.YtigoikepcbbhjaaAuK
namespace Go.Proofs.Ytigoikepcbbhjaa
open Go Go.RowKit

section
variable {H : Type} {enc : TypeId × Value → H} {w : World} {base : Nat} {spare : Nat → Bool} {held : Bool}

theorem slice_shape {P : Program} {t e : TypeId} {fuel : Nat} {cs : List Value} {y : DataW H × List MemPlace} (ht : P.underlying t = some (.slice e)) (h : DataW.trod enc P w base spare held fuel t cs = some y) : ∃ a n c, cs = [.slice a n c] := by
  rcases Deep.open_slice ht h with ⟨rfl, _⟩ | ⟨a', len, cap, m, n, D, Pl, rfl, _⟩
  · exact ⟨none, 0, 0, rfl⟩
  · exact ⟨some a', len, cap, rfl⟩

/-- A field that is a slice, by its shape alone. -/
theorem field_slice {P : Program} {fs : Array Field} {t e : TypeId} {fuel : Nat} {cs : List Value} {x : DataW H × List MemPlace} (ht : P.underlying t = some (.struct fs)) (h : DataW.trod enc P w base spare held fuel t cs = some x)
    (i : Nat) (f : Field) (hf : fs[i]? = some f) (hu : P.underlying f.type = some (.slice e)) (hc : P.cellsOf f.type = 1) : ∃ a n c, cs[f.offset]? = some (.slice a n c) := by
  obtain ⟨m, y, hy⟩ := field_of ht h i f hf
  obtain ⟨a, n, c, hcs⟩ := slice_shape hu hy
  rw [hc] at hcs
  exact ⟨a, n, c, get_of_take1 hcs⟩

theorem cellsI64 : Try.prog.cellsOf 2 = 1 := by kernel_rfl
theorem cellsGSTATE : Try.prog.cellsOf 60 = 1 := by kernel_rfl
theorem cellsCSTATE : Try.prog.cellsOf 68 = 1 := by kernel_rfl
theorem cellsESTATE : Try.prog.cellsOf 80 = 1 := by kernel_rfl
theorem cellsBOOL : Try.prog.cellsOf 4 = 1 := by kernel_rfl
theorem cellsLINES : Try.prog.cellsOf 61 = 1 := by kernel_rfl
theorem cellsMARKS : Try.prog.cellsOf 81 = 1 := by kernel_rfl
theorem cellsSINT : Try.prog.cellsOf 48 = 1 := by kernel_rfl
theorem cellsHELDS : Try.prog.cellsOf 24 = 1 := by kernel_rfl
theorem cellsLEVELS : Try.prog.cellsOf 25 = 1 := by kernel_rfl
theorem cellsGOODSS : Try.prog.cellsOf 26 = 1 := by kernel_rfl
theorem cellsACCS : Try.prog.cellsOf 27 = 1 := by kernel_rfl
theorem cellsORDS : Try.prog.cellsOf 29 = 1 := by kernel_rfl
theorem cellsLETTERS : Try.prog.cellsOf 31 = 1 := by kernel_rfl
theorem cellsINSTS : Try.prog.cellsOf 33 = 1 := by kernel_rfl
theorem cellsHELD : Try.prog.cellsOf 55 = 3 := by kernel_rfl
theorem cellsLEVEL : Try.prog.cellsOf 58 = 6 := by kernel_rfl
theorem cellsGOODS : Try.prog.cellsOf 63 = 3 := by kernel_rfl
theorem cellsACC : Try.prog.cellsOf 70 = 9 := by kernel_rfl
theorem cellsORD : Try.prog.cellsOf 74 = 6 := by kernel_rfl
theorem cellsLETTER : Try.prog.cellsOf 78 = 8 := by kernel_rfl
theorem cellsINST : Try.prog.cellsOf 85 = 6 := by kernel_rfl
theorem cellsSAVED : Try.prog.cellsOf 83 = 5 := by kernel_rfl
theorem cellsLINE : Try.prog.cellsOf 95 = 2 := by kernel_rfl
theorem cellsTOLD : Try.prog.cellsOf 35 = 15 := by kernel_rfl

theorem Ln_fields : ∃ f0 f1 : Field, Try.prog.underlying 95 = some (.struct #[f0, f1]) ∧ f0.offset = 0 ∧ f0.type = 3 ∧ f1.offset = 1 ∧ f1.type = 3 :=
  ⟨_, _, Try.underlying95, rfl, rfl, rfl, rfl⟩

set_option maxRecDepth 100000 in
theorem el_Ln {n : Nat} {cs : List Value} {y : DataW H × List MemPlace} (h : DataW.trod enc Try.prog w base spare held n 95 cs = some y) (_hfit : Fits Try.prog 95 y.1) : ∃ x : Ln, cs = x.cs ∧ (True) := by
  obtain ⟨f0, f1, hu, o0, t0, o1, t1⟩ := Ln_fields
  have hl := len_of_struct hu h
  rw [cellsLINE] at hl
  obtain ⟨x0, g0, _⟩ := field_int hu h 0 f0 rfl (by rw [t0]; exact Try.underlying3) (by rw [t0]; exact cellsInt)
  obtain ⟨x1, g1, _⟩ := field_int hu h 1 f1 rfl (by rw [t1]; exact Try.underlying3) (by rw [t1]; exact cellsInt)
  rw [o0] at g0
  rw [o1] at g1
  refine ⟨⟨x0, x1⟩, ?_, trivial⟩
  apply List.ext_getElem?
  intro j
  match j with
  | 0 => exact g0
  | 1 => exact g1
  | j + 2 => rw [List.getElem?_eq_none (by omega), List.getElem?_eq_none (by simp [Ln.cs])]

theorem Hl_fields : ∃ f0 f1 f2 : Field, Try.prog.underlying 55 = some (.struct #[f0, f1, f2]) ∧ f0.offset = 0 ∧ f0.type = 3 ∧ f1.offset = 1 ∧ f1.type = 3 ∧ f2.offset = 2 ∧ f2.type = 2 :=
  ⟨_, _, _, Try.underlying55, rfl, rfl, rfl, rfl, rfl, rfl⟩

set_option maxRecDepth 100000 in
theorem el_Hl {n : Nat} {cs : List Value} {y : DataW H × List MemPlace} (h : DataW.trod enc Try.prog w base spare held n 55 cs = some y) (_hfit : Fits Try.prog 55 y.1) : ∃ x : Hl, cs = x.cs ∧ (True) := by
  obtain ⟨f0, f1, f2, hu, o0, t0, o1, t1, o2, t2⟩ := Hl_fields
  have hl := len_of_struct hu h
  rw [cellsHELD] at hl
  obtain ⟨x0, g0, _⟩ := field_int hu h 0 f0 rfl (by rw [t0]; exact Try.underlying3) (by rw [t0]; exact cellsInt)
  obtain ⟨x1, g1, _⟩ := field_int hu h 1 f1 rfl (by rw [t1]; exact Try.underlying3) (by rw [t1]; exact cellsInt)
  obtain ⟨x2, g2, _⟩ := field_int hu h 2 f2 rfl (by rw [t2]; exact Try.underlying2) (by rw [t2]; exact cellsI64)
  rw [o0] at g0
  rw [o1] at g1
  rw [o2] at g2
  refine ⟨⟨x0, x1, x2⟩, ?_, trivial⟩
  apply List.ext_getElem?
  intro j
  match j with
  | 0 => exact g0
  | 1 => exact g1
  | 2 => exact g2
  | j + 3 => rw [List.getElem?_eq_none (by omega), List.getElem?_eq_none (by simp [Hl.cs])]

theorem Lv_fields : ∃ f0 f1 f2 f3 f4 f5 : Field, Try.prog.underlying 58 = some (.struct #[f0, f1, f2, f3, f4, f5]) ∧ f0.offset = 0 ∧ f0.type = 3 ∧ f1.offset = 1 ∧ f1.type = 3 ∧ f2.offset = 2 ∧ f2.type = 3 ∧ f3.offset = 3 ∧ f3.type = 3 ∧ f4.offset = 4 ∧ f4.type = 3 ∧ f5.offset = 5 ∧ f5.type = 3 :=
  ⟨_, _, _, _, _, _, Try.underlying58, rfl, rfl, rfl, rfl, rfl, rfl, rfl, rfl, rfl, rfl, rfl, rfl⟩

set_option maxRecDepth 100000 in
theorem el_Lv {n : Nat} {cs : List Value} {y : DataW H × List MemPlace} (h : DataW.trod enc Try.prog w base spare held n 58 cs = some y) (_hfit : Fits Try.prog 58 y.1) : ∃ x : Lv, cs = x.cs ∧ (True) := by
  obtain ⟨f0, f1, f2, f3, f4, f5, hu, o0, t0, o1, t1, o2, t2, o3, t3, o4, t4, o5, t5⟩ := Lv_fields
  have hl := len_of_struct hu h
  rw [cellsLEVEL] at hl
  obtain ⟨x0, g0, _⟩ := field_int hu h 0 f0 rfl (by rw [t0]; exact Try.underlying3) (by rw [t0]; exact cellsInt)
  obtain ⟨x1, g1, _⟩ := field_int hu h 1 f1 rfl (by rw [t1]; exact Try.underlying3) (by rw [t1]; exact cellsInt)
  obtain ⟨x2, g2, _⟩ := field_int hu h 2 f2 rfl (by rw [t2]; exact Try.underlying3) (by rw [t2]; exact cellsInt)
  obtain ⟨x3, g3, _⟩ := field_int hu h 3 f3 rfl (by rw [t3]; exact Try.underlying3) (by rw [t3]; exact cellsInt)
  obtain ⟨x4, g4, _⟩ := field_int hu h 4 f4 rfl (by rw [t4]; exact Try.underlying3) (by rw [t4]; exact cellsInt)
  obtain ⟨x5, g5, _⟩ := field_int hu h 5 f5 rfl (by rw [t5]; exact Try.underlying3) (by rw [t5]; exact cellsInt)
  rw [o0] at g0
  rw [o1] at g1
  rw [o2] at g2
  rw [o3] at g3
  rw [o4] at g4
  rw [o5] at g5
  refine ⟨⟨x0, x1, x2, x3, x4, x5⟩, ?_, trivial⟩
  apply List.ext_getElem?
  intro j
  match j with
  | 0 => exact g0
  | 1 => exact g1
  | 2 => exact g2
  | 3 => exact g3
  | 4 => exact g4
  | 5 => exact g5
  | j + 6 => rw [List.getElem?_eq_none (by omega), List.getElem?_eq_none (by simp [Lv.cs])]

theorem Gd_fields : ∃ f0 f1 f2 : Field, Try.prog.underlying 63 = some (.struct #[f0, f1, f2]) ∧ f0.offset = 0 ∧ f0.type = 3 ∧ f1.offset = 1 ∧ f1.type = 60 ∧ f2.offset = 2 ∧ f2.type = 61 :=
  ⟨_, _, _, Try.underlying63, rfl, rfl, rfl, rfl, rfl, rfl⟩

set_option maxRecDepth 100000 in
theorem el_Gd {n : Nat} {cs : List Value} {y : DataW H × List MemPlace} (h : DataW.trod enc Try.prog w base spare held n 63 cs = some y) (hfit : Fits Try.prog 63 y.1) : ∃ x : Gd, cs = x.cs ∧ (Lies w 2 Ln.cs x.la x.ls ∧ x.ls.length * 16 ≤ 140737488351232) := by
  obtain ⟨f0, f1, f2, hu, o0, t0, o1, t1, o2, t2⟩ := Gd_fields
  have hl := len_of_struct hu h
  rw [cellsGOODS] at hl
  obtain ⟨x0, g0, _⟩ := field_int hu h 0 f0 rfl (by rw [t0]; exact Try.underlying3) (by rw [t0]; exact cellsInt)
  obtain ⟨x1, g1, _⟩ := field_int hu h 1 f1 rfl (by rw [t1]; exact Try.underlying60) (by rw [t1]; exact cellsGSTATE)
  obtain ⟨m2, y2, h2, s2⟩ := field_fit hu h hfit 2 f2 rfl
  rw [t2] at h2 s2
  obtain ⟨a2, c2, l2, e2, l2l, _, _, _, l2z⟩ := open_deep (f := Ln.cs) (Q := fun _ => True) Try.underlying61 cellsLINE (by decide) Ln.len (fun n cs y hy hf => el_Ln hy hf) h2 s2
  rw [cellsLINES] at e2
  have g2 := get_of_take1 e2
  rw [o0] at g0
  rw [o1] at g1
  rw [o2] at g2
  have hb : Try.prog.bytesOf 95 = 16 := by kernel_rfl
  rw [hb] at l2z
  refine ⟨⟨x0, x1, a2, c2, l2⟩, ?_, ⟨l2l, l2z⟩⟩
  apply List.ext_getElem?
  intro j
  match j with
  | 0 => exact g0
  | 1 => exact g1
  | 2 => exact g2
  | j + 3 => rw [List.getElem?_eq_none (by omega), List.getElem?_eq_none (by simp [Gd.cs])]

theorem Ac_fields : ∃ f0 f1 f2 f3 f4 f5 f6 f7 f8 : Field, Try.prog.underlying 70 = some (.struct #[f0, f1, f2, f3, f4, f5, f6, f7, f8]) ∧ f0.offset = 0 ∧ f0.type = 3 ∧ f1.offset = 1 ∧ f1.type = 3 ∧ f2.offset = 2 ∧ f2.type = 68 ∧ f3.offset = 3 ∧ f3.type = 3 ∧ f4.offset = 4 ∧ f4.type = 2 ∧ f5.offset = 5 ∧ f5.type = 2 ∧ f6.offset = 6 ∧ f6.type = 2 ∧ f7.offset = 7 ∧ f7.type = 2 ∧ f8.offset = 8 ∧ f8.type = 2 :=
  ⟨_, _, _, _, _, _, _, _, _, Try.underlying70, rfl, rfl, rfl, rfl, rfl, rfl, rfl, rfl, rfl, rfl, rfl, rfl, rfl, rfl, rfl, rfl, rfl, rfl⟩

set_option maxRecDepth 100000 in
theorem el_Ac {n : Nat} {cs : List Value} {y : DataW H × List MemPlace} (h : DataW.trod enc Try.prog w base spare held n 70 cs = some y) (_hfit : Fits Try.prog 70 y.1) : ∃ x : Ac, cs = x.cs ∧ (True) := by
  obtain ⟨f0, f1, f2, f3, f4, f5, f6, f7, f8, hu, o0, t0, o1, t1, o2, t2, o3, t3, o4, t4, o5, t5, o6, t6, o7, t7, o8, t8⟩ := Ac_fields
  have hl := len_of_struct hu h
  rw [cellsACC] at hl
  obtain ⟨x0, g0, _⟩ := field_int hu h 0 f0 rfl (by rw [t0]; exact Try.underlying3) (by rw [t0]; exact cellsInt)
  obtain ⟨x1, g1, _⟩ := field_int hu h 1 f1 rfl (by rw [t1]; exact Try.underlying3) (by rw [t1]; exact cellsInt)
  obtain ⟨x2, g2, _⟩ := field_int hu h 2 f2 rfl (by rw [t2]; exact Try.underlying68) (by rw [t2]; exact cellsCSTATE)
  obtain ⟨x3, g3, _⟩ := field_int hu h 3 f3 rfl (by rw [t3]; exact Try.underlying3) (by rw [t3]; exact cellsInt)
  obtain ⟨x4, g4, _⟩ := field_int hu h 4 f4 rfl (by rw [t4]; exact Try.underlying2) (by rw [t4]; exact cellsI64)
  obtain ⟨x5, g5, _⟩ := field_int hu h 5 f5 rfl (by rw [t5]; exact Try.underlying2) (by rw [t5]; exact cellsI64)
  obtain ⟨x6, g6, _⟩ := field_int hu h 6 f6 rfl (by rw [t6]; exact Try.underlying2) (by rw [t6]; exact cellsI64)
  obtain ⟨x7, g7, _⟩ := field_int hu h 7 f7 rfl (by rw [t7]; exact Try.underlying2) (by rw [t7]; exact cellsI64)
  obtain ⟨x8, g8, _⟩ := field_int hu h 8 f8 rfl (by rw [t8]; exact Try.underlying2) (by rw [t8]; exact cellsI64)
  rw [o0] at g0
  rw [o1] at g1
  rw [o2] at g2
  rw [o3] at g3
  rw [o4] at g4
  rw [o5] at g5
  rw [o6] at g6
  rw [o7] at g7
  rw [o8] at g8
  refine ⟨⟨x0, x1, x2, x3, x4, x5, x6, x7, x8⟩, ?_, trivial⟩
  apply List.ext_getElem?
  intro j
  match j with
  | 0 => exact g0
  | 1 => exact g1
  | 2 => exact g2
  | 3 => exact g3
  | 4 => exact g4
  | 5 => exact g5
  | 6 => exact g6
  | 7 => exact g7
  | 8 => exact g8
  | j + 9 => rw [List.getElem?_eq_none (by omega), List.getElem?_eq_none (by simp [Ac.cs])]

theorem Od_fields : ∃ f0 f1 f2 f3 f4 f5 : Field, Try.prog.underlying 74 = some (.struct #[f0, f1, f2, f3, f4, f5]) ∧ f0.offset = 0 ∧ f0.type = 3 ∧ f1.offset = 1 ∧ f1.type = 3 ∧ f2.offset = 2 ∧ f2.type = 9 ∧ f3.offset = 3 ∧ f3.type = 61 ∧ f4.offset = 4 ∧ f4.type = 2 ∧ f5.offset = 5 ∧ f5.type = 2 :=
  ⟨_, _, _, _, _, _, Try.underlying74, rfl, rfl, rfl, rfl, rfl, rfl, rfl, rfl, rfl, rfl, rfl, rfl⟩

set_option maxRecDepth 100000 in
theorem el_Od {n : Nat} {cs : List Value} {y : DataW H × List MemPlace} (h : DataW.trod enc Try.prog w base spare held n 74 cs = some y) (_hfit : Fits Try.prog 74 y.1) : ∃ x : Od, cs = x.cs ∧ (True) := by
  obtain ⟨f0, f1, f2, f3, f4, f5, hu, o0, t0, o1, t1, o2, t2, o3, t3, o4, t4, o5, t5⟩ := Od_fields
  have hl := len_of_struct hu h
  rw [cellsORD] at hl
  obtain ⟨x0, g0, _⟩ := field_int hu h 0 f0 rfl (by rw [t0]; exact Try.underlying3) (by rw [t0]; exact cellsInt)
  obtain ⟨x1, g1, _⟩ := field_int hu h 1 f1 rfl (by rw [t1]; exact Try.underlying3) (by rw [t1]; exact cellsInt)
  obtain ⟨x2, g2, _⟩ := field_string hu h 2 f2 rfl (by rw [t2]; exact Try.underlying9) (by rw [t2]; exact cellsStr)
  obtain ⟨a3, n3, c3, g3⟩ := field_slice hu h 3 f3 rfl (by rw [t3]; exact Try.underlying61) (by rw [t3]; exact cellsLINES)
  obtain ⟨x4, g4, _⟩ := field_int hu h 4 f4 rfl (by rw [t4]; exact Try.underlying2) (by rw [t4]; exact cellsI64)
  obtain ⟨x5, g5, _⟩ := field_int hu h 5 f5 rfl (by rw [t5]; exact Try.underlying2) (by rw [t5]; exact cellsI64)
  rw [o0] at g0
  rw [o1] at g1
  rw [o2] at g2
  rw [o3] at g3
  rw [o4] at g4
  rw [o5] at g5
  refine ⟨⟨x0, x1, x2, a3, n3, c3, x4, x5⟩, ?_, trivial⟩
  apply List.ext_getElem?
  intro j
  match j with
  | 0 => exact g0
  | 1 => exact g1
  | 2 => exact g2
  | 3 => exact g3
  | 4 => exact g4
  | 5 => exact g5
  | j + 6 => rw [List.getElem?_eq_none (by omega), List.getElem?_eq_none (by simp [Od.cs])]

theorem Lt_fields : ∃ f0 f1 f2 f3 f4 f5 f6 f7 : Field, Try.prog.underlying 78 = some (.struct #[f0, f1, f2, f3, f4, f5, f6, f7]) ∧ f0.offset = 0 ∧ f0.type = 3 ∧ f1.offset = 1 ∧ f1.type = 3 ∧ f2.offset = 2 ∧ f2.type = 3 ∧ f3.offset = 3 ∧ f3.type = 3 ∧ f4.offset = 4 ∧ f4.type = 3 ∧ f5.offset = 5 ∧ f5.type = 3 ∧ f6.offset = 6 ∧ f6.type = 3 ∧ f7.offset = 7 ∧ f7.type = 9 :=
  ⟨_, _, _, _, _, _, _, _, Try.underlying78, rfl, rfl, rfl, rfl, rfl, rfl, rfl, rfl, rfl, rfl, rfl, rfl, rfl, rfl, rfl, rfl⟩

set_option maxRecDepth 100000 in
theorem el_Lt {n : Nat} {cs : List Value} {y : DataW H × List MemPlace} (h : DataW.trod enc Try.prog w base spare held n 78 cs = some y) (_hfit : Fits Try.prog 78 y.1) : ∃ x : Lt, cs = x.cs ∧ (True) := by
  obtain ⟨f0, f1, f2, f3, f4, f5, f6, f7, hu, o0, t0, o1, t1, o2, t2, o3, t3, o4, t4, o5, t5, o6, t6, o7, t7⟩ := Lt_fields
  have hl := len_of_struct hu h
  rw [cellsLETTER] at hl
  obtain ⟨x0, g0, _⟩ := field_int hu h 0 f0 rfl (by rw [t0]; exact Try.underlying3) (by rw [t0]; exact cellsInt)
  obtain ⟨x1, g1, _⟩ := field_int hu h 1 f1 rfl (by rw [t1]; exact Try.underlying3) (by rw [t1]; exact cellsInt)
  obtain ⟨x2, g2, _⟩ := field_int hu h 2 f2 rfl (by rw [t2]; exact Try.underlying3) (by rw [t2]; exact cellsInt)
  obtain ⟨x3, g3, _⟩ := field_int hu h 3 f3 rfl (by rw [t3]; exact Try.underlying3) (by rw [t3]; exact cellsInt)
  obtain ⟨x4, g4, _⟩ := field_int hu h 4 f4 rfl (by rw [t4]; exact Try.underlying3) (by rw [t4]; exact cellsInt)
  obtain ⟨x5, g5, _⟩ := field_int hu h 5 f5 rfl (by rw [t5]; exact Try.underlying3) (by rw [t5]; exact cellsInt)
  obtain ⟨x6, g6, _⟩ := field_int hu h 6 f6 rfl (by rw [t6]; exact Try.underlying3) (by rw [t6]; exact cellsInt)
  obtain ⟨x7, g7, _⟩ := field_string hu h 7 f7 rfl (by rw [t7]; exact Try.underlying9) (by rw [t7]; exact cellsStr)
  rw [o0] at g0
  rw [o1] at g1
  rw [o2] at g2
  rw [o3] at g3
  rw [o4] at g4
  rw [o5] at g5
  rw [o6] at g6
  rw [o7] at g7
  refine ⟨⟨x0, x1, x2, x3, x4, x5, x6, x7⟩, ?_, trivial⟩
  apply List.ext_getElem?
  intro j
  match j with
  | 0 => exact g0
  | 1 => exact g1
  | 2 => exact g2
  | 3 => exact g3
  | 4 => exact g4
  | 5 => exact g5
  | 6 => exact g6
  | 7 => exact g7
  | j + 8 => rw [List.getElem?_eq_none (by omega), List.getElem?_eq_none (by simp [Lt.cs])]

theorem Sv_fields : ∃ f0 f1 f2 f3 f4 : Field, Try.prog.underlying 83 = some (.struct #[f0, f1, f2, f3, f4]) ∧ f0.offset = 0 ∧ f0.type = 3 ∧ f1.offset = 1 ∧ f1.type = 80 ∧ f2.offset = 2 ∧ f2.type = 4 ∧ f3.offset = 3 ∧ f3.type = 81 ∧ f4.offset = 4 ∧ f4.type = 48 :=
  ⟨_, _, _, _, _, Try.underlying83, rfl, rfl, rfl, rfl, rfl, rfl, rfl, rfl, rfl, rfl⟩
theorem In_fields : ∃ f0 f1 : Field, Try.prog.underlying 85 = some (.struct #[f0, f1]) ∧ f0.offset = 0 ∧ f0.type = 83 ∧ f1.offset = 5 ∧ f1.type = 9 :=
  ⟨_, _, Try.underlying85, rfl, rfl, rfl, rfl⟩

set_option maxRecDepth 100000 in
theorem el_In {n : Nat} {cs : List Value} {y : DataW H × List MemPlace} (h : DataW.trod enc Try.prog w base spare held n 85 cs = some y) (_hfit : Fits Try.prog 85 y.1) : ∃ x : In, cs = x.cs ∧ True := by
  obtain ⟨f0, f1, hu, o0, t0, o1, t1⟩ := In_fields
  have hl := len_of_struct hu h
  rw [cellsINST] at hl
  obtain ⟨x5, g5, _⟩ := field_string hu h 1 f1 rfl (by rw [t1]; exact Try.underlying9) (by rw [t1]; exact cellsStr)
  obtain ⟨m, z, hz⟩ := field_of hu h 0 f0 rfl
  rw [t0, o0, cellsSAVED, List.drop_zero] at hz
  rw [o1] at g5
  obtain ⟨e0, e1, e2, e3, e4, hv, p0, q0, p1, q1, p2, q2, p3, q3, p4, q4⟩ := Sv_fields
  obtain ⟨x0, g0, _⟩ := field_int hv hz 0 e0 rfl (by rw [q0]; exact Try.underlying3) (by rw [q0]; exact cellsInt)
  obtain ⟨x1, g1, _⟩ := field_int hv hz 1 e1 rfl (by rw [q1]; exact Try.underlying80) (by rw [q1]; exact cellsESTATE)
  obtain ⟨x2, g2⟩ := field_bool hv hz 2 e2 rfl (by rw [q2]; exact Try.underlying4) (by rw [q2]; exact cellsBOOL)
  obtain ⟨a3, n3, c3, g3⟩ := field_slice hv hz 3 e3 rfl (by rw [q3]; exact Try.underlying81) (by rw [q3]; exact cellsMARKS)
  obtain ⟨a4, n4, c4, g4⟩ := field_slice hv hz 4 e4 rfl (by rw [q4]; exact Try.underlying48) (by rw [q4]; exact cellsSINT)
  rw [p0] at g0
  rw [p1] at g1
  rw [p2] at g2
  rw [p3] at g3
  rw [p4] at g4
  rw [List.getElem?_take] at g0 g1 g2 g3 g4
  refine ⟨⟨x0, x1, x2, a3, n3, c3, a4, n4, c4, x5⟩, ?_, trivial⟩
  apply List.ext_getElem?
  intro j
  match j with
  | 0 => exact (by simpa using g0 : cs[0]? = some (.int .i64 x0))
  | 1 => exact (by simpa using g1 : cs[1]? = some (.int .i64 x1))
  | 2 => exact (by simpa using g2 : cs[2]? = some (.bool x2))
  | 3 => exact (by simpa using g3 : cs[3]? = some (.slice a3 n3 c3))
  | 4 => exact (by simpa using g4 : cs[4]? = some (.slice a4 n4 c4))
  | 5 => exact g5
  | j + 6 => rw [List.getElem?_eq_none (by omega), List.getElem?_eq_none (by simp [In.cs])]

/-- What is told, as it came in. -/
structure TR where
  v0 : Value
  v1 : Value
  v2 : Value
  v7 : Value
  v8 : Value
  v10 : Value
  v13 : Value
  next : Int
  ha : Option Addr
  hc : Nat
  hx : List Hl
  la : Option Addr
  lc : Nat
  lx : List Lv
  ga : Option Addr
  gc : Nat
  gx : List Gd
  aa : Option Addr
  ac : Nat
  ax : List Ac
  oa : Option Addr
  oc : Nat
  ox : List Od
  ta : Option Addr
  tc : Nat
  tx : List Lt
  ia : Option Addr
  ic : Nat
  ix : List In
def TR.vals (x : TR) : Array Value := #[x.v0, x.v1, x.v2, .slice x.ha x.hx.length x.hc, .slice x.la x.lx.length x.lc, .slice x.ga x.gx.length x.gc, .slice x.aa x.ax.length x.ac, x.v7, x.v8, .slice x.oa x.ox.length x.oc, x.v10, .int .i64 x.next, .slice x.ta x.tx.length x.tc, x.v13, .slice x.ia x.ix.length x.ic]
def TR.ok (w : World) (x : TR) : Prop := TL w x.ha x.la x.ga x.aa x.oa x.ta x.ia x.hx x.lx x.gx x.ax x.ox x.tx x.ix

theorem told_fields : ∃ f0 f1 f2 f3 f4 f5 f6 f7 f8 f9 f10 f11 f12 f13 f14 : Field, Try.prog.underlying 35 = some (.struct #[f0, f1, f2, f3, f4, f5, f6, f7, f8, f9, f10, f11, f12, f13, f14]) ∧ f3.offset = 3 ∧ f3.type = 24 ∧ f4.offset = 4 ∧ f4.type = 25 ∧ f5.offset = 5 ∧ f5.type = 26 ∧ f6.offset = 6 ∧ f6.type = 27 ∧ f9.offset = 9 ∧ f9.type = 29 ∧ f12.offset = 12 ∧ f12.type = 31 ∧ f14.offset = 14 ∧ f14.type = 33 ∧ f11.offset = 11 ∧ f11.type = 3 :=
  ⟨_, _, _, _, _, _, _, _, _, _, _, _, _, _, _, Try.underlying35, rfl, rfl, rfl, rfl, rfl, rfl, rfl, rfl, rfl, rfl, rfl, rfl, rfl, rfl, rfl, rfl⟩

set_option maxRecDepth 100000 in
set_option maxHeartbeats 1000000 in
theorem open_told {r : Reach} {b0 : Nat} {v : Value} {d : DataW H} {ps : List MemPlace} (hval : Value.okWide Try.prog w r b0 35 v) (hd : DataW.Trod enc Try.prog w base spare held 35 v d ps) (hfit : Fits Try.prog 35 d) :
    ∃ x : TR, v = .agg x.vals ∧ x.ok w := by
  obtain ⟨f0, f1, f2, f3, f4, f5, f6, f7, f8, f9, f10, f11, f12, f13, f14, hu, o3, t3, o4, t4, o5, t5, o6, t6, o9, t9, o12, t12, o14, t14, o11, t11⟩ := told_fields
  obtain ⟨cs, n, rfl, h⟩ := open_agg hu hval hd
  have hl := len_of_struct hu h
  rw [cellsTOLD] at hl
  obtain ⟨next, g11, _⟩ := field_int hu h 11 f11 rfl (by rw [t11]; exact Try.underlying3) (by rw [t11]; exact cellsInt)
  rw [o11] at g11
  obtain ⟨m3, y3, h3, s3⟩ := field_fit hu h hfit 3 f3 rfl
  rw [t3] at h3 s3
  obtain ⟨ha, hc, hx, e3, hl', hq, _, _, hz⟩ := open_deep (f := Hl.cs) (Q := fun _ => True) Try.underlying24 cellsHELD (by decide) Hl.len (fun n cs y hy hf => el_Hl hy hf) h3 s3
  rw [cellsHELDS, o3] at e3
  have g3 := get_of_take1 e3
  have w3 : Try.prog.bytesOf 55 = 24 := by kernel_rfl
  rw [w3] at hz
  obtain ⟨m4, y4, h4, s4⟩ := field_fit hu h hfit 4 f4 rfl
  rw [t4] at h4 s4
  obtain ⟨la, lc, lx, e4, ll, lq, _, _, lz⟩ := open_deep (f := Lv.cs) (Q := fun _ => True) Try.underlying25 cellsLEVEL (by decide) Lv.len (fun n cs y hy hf => el_Lv hy hf) h4 s4
  rw [cellsLEVELS, o4] at e4
  have g4 := get_of_take1 e4
  have w4 : Try.prog.bytesOf 58 = 48 := by kernel_rfl
  rw [w4] at lz
  obtain ⟨m5, y5, h5, s5⟩ := field_fit hu h hfit 5 f5 rfl
  rw [t5] at h5 s5
  obtain ⟨ga, gc, gx, e5, gl, gq, _, _, gz⟩ := open_deep (f := Gd.cs) (Q := fun x => Lies w 2 Ln.cs x.la x.ls ∧ x.ls.length * 16 ≤ 140737488351232) Try.underlying26 cellsGOODS (by decide) Gd.len (fun n cs y hy hf => el_Gd hy hf) h5 s5
  rw [cellsGOODSS, o5] at e5
  have g5 := get_of_take1 e5
  have w5 : Try.prog.bytesOf 63 = 40 := by kernel_rfl
  rw [w5] at gz
  obtain ⟨m6, y6, h6, s6⟩ := field_fit hu h hfit 6 f6 rfl
  rw [t6] at h6 s6
  obtain ⟨aa, ac, ax, e6, al, aq, _, _, az⟩ := open_deep (f := Ac.cs) (Q := fun _ => True) Try.underlying27 cellsACC (by decide) Ac.len (fun n cs y hy hf => el_Ac hy hf) h6 s6
  rw [cellsACCS, o6] at e6
  have g6 := get_of_take1 e6
  have w6 : Try.prog.bytesOf 70 = 72 := by kernel_rfl
  rw [w6] at az
  obtain ⟨m9, y9, h9, s9⟩ := field_fit hu h hfit 9 f9 rfl
  rw [t9] at h9 s9
  obtain ⟨oa, oc, ox, e9, ol, oq, _, _, oz⟩ := open_deep (f := Od.cs) (Q := fun _ => True) Try.underlying29 cellsORD (by decide) Od.len (fun n cs y hy hf => el_Od hy hf) h9 s9
  rw [cellsORDS, o9] at e9
  have g9 := get_of_take1 e9
  have w9 : Try.prog.bytesOf 74 = 72 := by kernel_rfl
  rw [w9] at oz
  obtain ⟨m12, y12, h12, s12⟩ := field_fit hu h hfit 12 f12 rfl
  rw [t12] at h12 s12
  obtain ⟨ta, tc, tx, e12, tl, tq, _, _, tz⟩ := open_deep (f := Lt.cs) (Q := fun _ => True) Try.underlying31 cellsLETTER (by decide) Lt.len (fun n cs y hy hf => el_Lt hy hf) h12 s12
  rw [cellsLETTERS, o12] at e12
  have g12 := get_of_take1 e12
  have w12 : Try.prog.bytesOf 78 = 72 := by kernel_rfl
  rw [w12] at tz
  obtain ⟨m14, y14, h14, s14⟩ := field_fit hu h hfit 14 f14 rfl
  rw [t14] at h14 s14
  obtain ⟨ia, ic, ix, e14, il, iq, _, _, iz⟩ := open_deep (f := In.cs) (Q := fun _ => True) Try.underlying33 cellsINST (by decide) In.len (fun n cs y hy hf => el_In hy hf) h14 s14
  rw [cellsINSTS, o14] at e14
  have g14 := get_of_take1 e14
  have w14 : Try.prog.bytesOf 85 = 88 := by kernel_rfl
  rw [w14] at iz
  obtain ⟨z0, g0⟩ : ∃ z, cs[0]? = some z := ⟨_, List.getElem?_eq_getElem (by omega)⟩
  obtain ⟨z1, g1⟩ : ∃ z, cs[1]? = some z := ⟨_, List.getElem?_eq_getElem (by omega)⟩
  obtain ⟨z2, g2⟩ : ∃ z, cs[2]? = some z := ⟨_, List.getElem?_eq_getElem (by omega)⟩
  obtain ⟨z7, g7⟩ : ∃ z, cs[7]? = some z := ⟨_, List.getElem?_eq_getElem (by omega)⟩
  obtain ⟨z8, g8⟩ : ∃ z, cs[8]? = some z := ⟨_, List.getElem?_eq_getElem (by omega)⟩
  obtain ⟨z10, g10⟩ : ∃ z, cs[10]? = some z := ⟨_, List.getElem?_eq_getElem (by omega)⟩
  obtain ⟨z13, g13⟩ : ∃ z, cs[13]? = some z := ⟨_, List.getElem?_eq_getElem (by omega)⟩
  refine ⟨⟨z0, z1, z2, z7, z8, z10, z13, next, ha, hc, hx, la, lc, lx, ga, gc, gx, aa, ac, ax, oa, oc, ox, ta, tc, tx, ia, ic, ix⟩, ?_, ⟨hl', ll, ⟨gl, fun x hx => ⟨(gq x hx).1, by have := (gq x hx).2; omega⟩⟩, al, ol, tl, il, hz, lz, gz, az, oz, tz, by show ix.length * 80 ≤ _; omega, fun x hx => (gq x hx).2⟩⟩
  have : cs = [z0, z1, z2, .slice ha hx.length hc, .slice la lx.length lc, .slice ga gx.length gc, .slice aa ax.length ac, z7, z8, .slice oa ox.length oc, z10, .int .i64 next, .slice ta tx.length tc, z13, .slice ia ix.length ic] := by
    apply List.ext_getElem?
    intro j
    match j with
    | 0 => exact g0
    | 1 => exact g1
    | 2 => exact g2
    | 3 => exact g3
    | 4 => exact g4
    | 5 => exact g5
    | 6 => exact g6
    | 7 => exact g7
    | 8 => exact g8
    | 9 => exact g9
    | 10 => exact g10
    | 11 => exact g11
    | 12 => exact g12
    | 13 => exact g13
    | 14 => exact g14
    | j + 15 => rw [List.getElem?_eq_none (by omega), List.getElem?_eq_none (by simp)]
  rw [this]
  rfl

end
end Go.Proofs.Ytigoikepcbbhjaa
