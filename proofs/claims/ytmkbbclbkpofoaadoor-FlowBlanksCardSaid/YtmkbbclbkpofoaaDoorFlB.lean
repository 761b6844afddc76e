/- Flow: what a row says of the library's variables -/
import Derived.Test.YtmkbbclbkpofoaaDoorRows
import Derived.Test.YtmkbbclbkpofoaaDoorFlG
import Derived.Stop.LaidErr
import Derived.LaidSub
import Derived.Lib.LaidTab
import Derived.Shelf.Vars
namespace Go.Proofs.YtmkbbclbkpofoaaDoor
open Go Go.RowKit

theorem at_ES : Tryd.prog.globalNamed "strconv.ErrSyntax" = some 3 := by kernel_rfl
theorem at_ER : Tryd.prog.globalNamed "strconv.ErrRange" = some 4 := by kernel_rfl
theorem ty_ES : (Tryd.prog.globals[3]?).map (·.type) = some 73 := by kernel_rfl
theorem ty_ER : (Tryd.prog.globals[4]?).map (·.type) = some 73 := by kernel_rfl
theorem ty_pow : (Tryd.prog.globals[5]?).map (·.type) = some 115 := by kernel_rfl
theorem cells_es : Tryd.prog.cellsOf 113 = 1 := by kernel_rfl
theorem cells_str : Tryd.prog.cellsOf 9 = 1 := by kernel_rfl
theorem cells_u64 : Tryd.prog.cellsOf 97 = 1 := by kernel_rfl
theorem cells_tab : Tryd.prog.cellsOf 115 = 20 := by kernel_rfl
theorem star_name : "*" ++ "errors.errorString" = "*errors.errorString" := by decide
theorem row_es (u : TypeId) (h : Tryd.prog.typeName? 3 u = some "*errors.errorString") : u = 111 :=
  typeName_ptr_named (nm := "errors.errorString") (by rw [star_name]; kernel_rfl) (by kernel_rfl) (by decide) u (by rw [star_name]; exact h)

theorem laid_one {n : String} {d : DataW Unit} {W : World} {l : List (String × DataW Unit)} (h : laidMetH Tryd.prog l W) (he : (l.filter fun x => x.1 == n) = [(n, d)]) (hd : d.handleName?.isNone = true) : laidMet Tryd.prog [(n, d)] W := by
  have h1 := h.filter (fun x => x.1 == n)
  rw [he] at h1
  have h2 := (laidMetH_iff.1 h1).1
  have : ([(n, d)].filter fun x : String × DataW Unit => x.2.handleName?.isNone) = [(n, d)] := by simp [hd]
  rw [this] at h2
  exact h2

theorem glob_of {W : World} (h : laidMetH Tryd.prog Rows.flowWordsRow.laid W) (hs : W.ShapedOpen Tryd.prog) : Glob W := by
  obtain ⟨a1, s1, v1, _, _, _⟩ := laid_sentinel (laid_one (n := "strconv.ErrSyntax") (d := Rows.laid_strconv_ErrSyntax) h (by kernel_rfl) (by kernel_rfl)) at_ES ty_ES Tryd.underlying73 row_es Tryd.underlying111 Tryd.underlying113 rfl rfl Tryd.underlying9 cells_es cells_str
  obtain ⟨a2, s2, v2, _, _, _⟩ := laid_sentinel (laid_one (n := "strconv.ErrRange") (d := Rows.laid_strconv_ErrRange) h (by kernel_rfl) (by kernel_rfl)) at_ER ty_ER Tryd.underlying73 row_es Tryd.underlying111 Tryd.underlying113 rfl rfl Tryd.underlying9 cells_es cells_str
  have ht := laid_one (n := "internal/strconv.uint64pow10") (d := Rows.laid_internal_strconv_uint64pow10) h (by kernel_rfl) (by kernel_rfl)
  have hT : Lib.TabIs Tryd.prog W "internal/strconv.uint64pow10" .u64 Lib.pow10Tab := Lib.tabIs_of_head (rest := []) pow_at ty_pow Tryd.underlying115 Tryd.underlying97 cells_u64 cells_tab ht
  have hml := Go.Proofs.cell_of_shapedOpen_int (g := 0) (zero := #[.int .i64 0]) (t := 3) hs (of_decide_eq_true (by kernel_rfl)) (by kernel_rfl) rfl (by kernel_rfl) (by kernel_rfl) Tryd.underlying3
  refine ⟨hml, ⟨_, by have h0 := World.var?_cell at_ES v1 0; simpa using h0, .inr ⟨_, _, rfl⟩⟩, ⟨_, by have h0 := World.var?_cell at_ER v2 0; simpa using h0, .inr ⟨_, _, rfl⟩⟩, hT, ?_⟩
  have h7 : (((begin Tryd.prog (fun _ _ => 0) default).world.heap[7]?).bind Obj.row?).isSome = true := by kernel_rfl
  obtain ⟨⟨z, t⟩, hz⟩ := Option.isSome_iff_exists.1 h7
  obtain ⟨cs, hc, _, _⟩ := hs.1 7 z t (of_decide_eq_true (by kernel_rfl)) hz
  exact lt_of_heap hc

end Go.Proofs.YtmkbbclbkpofoaaDoor
