/- merged: Sync Shelf Once Disk -/
import Derived.Test.YtgbcibdfeeiilaaGreatDoorProg
import Derived.Test.YtgbcibdfeeiilaaGreatDoorMe01
import Derived.Defers
import Derived.Laws.Pointers
import Derived.Laws.LoneSync
import Derived.RegionTactic
import Derived.RegionCalls
import Derived.Shelf.Strings.Builder1
import Derived.Shelf.Strings.Builder2
import Derived.Shelf.Strings.Trim
import Derived.Shelf.Small.Utf8
import Derived.Shelf.Small.Bits
import Derived.Shelf.Small.Strs
import Derived.Shelf.Strings.BuilderF
import Derived.Shelf.Strings.BuilderK
import Derived.Shelf.Strings.Builder2Cap
import Derived.Shelf.Strconv.Itoa0
import Derived.Shelf.Strings.Search1
import Derived.Shelf.Strings.Prefix
import Derived.Shelf.Unicode.Decode
import Derived.Shelf.Strings.Runes
import Derived.Shelf.Strings.AsciiSet
import Derived.Shelf.Bits.Mul64
import Derived.Shelf.Strings.Repeat
import Derived.Shelf.Unicode.DecodeSlow
import Derived.Shelf.Unicode.DecodeAny
import Derived.Shelf.Unicode.DecodeLast
import Derived.Shelf.Strings.BuilderCap
import Derived.Ground.Names2Prog
import Derived.Shelf.Slices.ReverseS
import Derived.Shelf.Slices.Clone
import Derived.Shelf.Slices.Delete
import Derived.Shelf.Slices.Cells
import Derived.Shelf.Slices.Empties
import Derived.Ground.SlgnProg
import Derived.Shelf.SlicesE.Reverse
import Derived.Shelf.SlicesE.Delete
import Derived.Shelf.SlicesE.Clone
import Derived.Deep.RegionWith
namespace Go.Proofs.YtgbcibdfeeiilaaGreatDoor
section
open Go Go.RowKit
theorem qJg {w : World} {b o : Nat} {v : Int} (h : w.cell? ⟨b, o, none⟩ = some (.int .i64 v)) : Calls Tryz.prog 52 #[.pointer (some ⟨b, o, none⟩)] w fun e w' => e = .returned (.int .i64 v) /\ w = w' := by
 have hl := run_call_load (P := Tryz.prog) Tryz.func82 (by kernel_rfl) (by kernel_rfl) (by kernel_rfl) .i64 (by kernel_rfl) h
 go_enter Tryz.func52, Tryz.ntmps52
 go_wp2
 go_ret; exact ⟨rfl, rfl⟩
theorem qMm {w : World} {b o : Nat} {u : Value} (v : Int) (h : w.cell? ⟨b, o, none⟩ = some u) (hz : w.frozen? ⟨b, o, none⟩ = false) : Calls Tryz.prog 37 #[.pointer (some ⟨b, o, none⟩), .int .i64 v] w fun e w' => e = .returned (.tuple #[]) /\ w' = w.setCell ⟨b, o, none⟩ (.int .i64 v) := by
 have hst := run_call_store (P := Tryz.prog) Tryz.func68 (by kernel_rfl) (by kernel_rfl) (by kernel_rfl) (by kernel_rfl) (k := .i64) (y := v) h hz
 go_enter Tryz.func37, Tryz.ntmps37
 go_wp2
 go_end0; exact ⟨rfl, rfl⟩
theorem jAr {w : World} {b o : Nat} {v : Int} (y : Int) (h : w.cell? ⟨b, o, none⟩ = some (.int .i64 v)) (hz : w.frozen? ⟨b, o, none⟩ = false) (h1 : -9223372036854775808 <= v + y) (h2 : v + y <= 9223372036854775807) : Calls Tryz.prog 54 #[.pointer (some ⟨b, o, none⟩), .int .i64 y] w fun e w' => e = .returned (.int .i64 (v + y)) /\ w' = w.setCell ⟨b, o, none⟩ (.int .i64 (v + y)) := by
 have e : IntKind.i64.wrap (v + y) = v + y := IntWalk.i64_in _ (by omega)
 have hadd := run_call_add (P := Tryz.prog) Tryz.func86 (by kernel_rfl) (by kernel_rfl) (by kernel_rfl) .i64 (by kernel_rfl) (y := y) (s := v + y) h hz (by show Result.ok (Value.int .i64 (IntKind.i64.wrap (v + y))) w = _; rw [e])
 clear e; go_enter Tryz.func54, Tryz.ntmps54
 go_wp2
 go_ret; exact ⟨rfl, rfl⟩
theorem qNa {w : World} {b o : Nat} (h : w.cell? ⟨b, o, none⟩ = some (.int .u32 1)) : Calls Tryz.prog 43 #[.pointer (some ⟨b, o, none⟩)] w fun e w' => e = .returned (.bool true) /\ w = w' := by
 have hl := run_call_load (P := Tryz.prog) Tryz.func78 (by kernel_rfl) (by kernel_rfl) (by kernel_rfl) .u32 (by kernel_rfl) h
 go_enter Tryz.func43, Tryz.ntmps43
 go_wp2
 go_ret; exact ⟨rfl, rfl⟩
theorem qIl {w : World} {b o : Nat} (h : w.cell? ⟨b, o, none⟩ = some (.int .u32 0)) : Calls Tryz.prog 43 #[.pointer (some ⟨b, o, none⟩)] w fun e w' => e = .returned (.bool false) /\ w = w' := by
 have hl := run_call_load (P := Tryz.prog) Tryz.func78 (by kernel_rfl) (by kernel_rfl) (by kernel_rfl) .u32 (by kernel_rfl) h
 go_enter Tryz.func43, Tryz.ntmps43
 go_wp2
 go_ret; exact ⟨rfl, rfl⟩
def u32 (b : Bool) : Int := if b then 1 else 0
theorem jCj {w : World} {b o : Nat} (v : Bool) (h : w.cell? ⟨b, o, none⟩ = some (.int .u32 (u32 v))) : Calls Tryz.prog 43 #[.pointer (some ⟨b, o, none⟩)] w fun e w' => e = .returned (.bool v) /\ w = w' := by
 cases v
 ·exact qIl h
 ·exact qNa h
theorem qXt {w : World} {b o : Nat} {u : Value} (v : Bool) (h : w.cell? ⟨b, o, none⟩ = some u) (hz : w.frozen? ⟨b, o, none⟩ = false) : Calls Tryz.prog 44 #[.pointer (some ⟨b, o, none⟩), .bool v] w fun e w' => e = .returned (.tuple #[]) /\ w' = (w.setCell ⟨b, o, none⟩ (.int .u32 (u32 v))).drew := by
 have hc' : w.drew.cell? ⟨b, o, none⟩ = some u := h; have hz' : w.drew.frozen? ⟨b, o, none⟩ = false := hz; have hst := run_call_store (P := Tryz.prog) Tryz.func79 (by kernel_rfl) (by kernel_rfl) (by kernel_rfl) (by kernel_rfl) (k := .u32) (y := u32 v) hc' hz'
 cases v
 ·simp only [u32, Bool.false_eq_true, if_false] at hst ⊢; go_enter Tryz.func44, Tryz.ntmps44
  go_wp2
  go_region_calls
  all_goals (go_end0; exact ⟨rfl, rfl⟩)
 ·simp only [u32, if_true] at hst ⊢; go_enter Tryz.func44, Tryz.ntmps44
  go_wp2
  go_region_calls
  all_goals (go_end0; exact ⟨rfl, rfl⟩)
theorem qRf (w : World) : (callFunc 170 #[]).run Tryz.prog w = .ok (.value (.tuple #[])) w := run_call_mark0 Tryz.func170 (by kernel_rfl) (by kernel_rfl) (by kernel_rfl) .disable (by kernel_rfl) w
theorem qVc (w : World) : (callFunc 172 #[]).run Tryz.prog w = .ok (.value (.tuple #[])) w := run_call_mark0 Tryz.func172 (by kernel_rfl) (by kernel_rfl) (by kernel_rfl) .enable (by kernel_rfl) w
theorem qZk (a : Addr) (w : World) : (callFunc 173 #[.pointer (some a)]).run Tryz.prog w = .ok (.value (.tuple #[])) w := run_call_marked Tryz.func173 (by kernel_rfl) (by kernel_rfl) (by kernel_rfl) .acquire (by kernel_rfl) a w
theorem jIz (a : Addr) (w : World) : (callFunc 175 #[.pointer (some a)]).run Tryz.prog w = .ok (.value (.tuple #[])) w := run_call_marked Tryz.func175 (by kernel_rfl) (by kernel_rfl) (by kernel_rfl) .releaseMerge (by kernel_rfl) a w
theorem qNk (a : Addr) (x : Value) (u : FrameMode) (w : World) (hc : w.cell? a = some x) (hz : w.frozen? a = false) :
  CallsD Tryz.prog 44 #[.pointer (some a), .bool true] u w fun e u' w' => u' = u /\ (e = .returned (.tuple #[]) /\ w' = w.drew.setCell a (.int .u32 1)) := by
 have hc' : w.drew.cell? a = some x := by go_simp
 have hz' : w.drew.frozen? a = false := by go_simp
 have hst := run_call_store (P := Tryz.prog) Tryz.func79 (by kernel_rfl) (by kernel_rfl) (by kernel_rfl) (by kernel_rfl) (k := .u32) (y := 1) hc' hz'
 go_enter_d Tryz.func44, Tryz.ntmps44
 go_wp2
 go_region_calls
 all_goals (go_end0; exact ⟨rfl, rfl⟩)
end
end Go.Proofs.YtgbcibdfeeiilaaGreatDoor
namespace Go.Proofs
open Go.Shelf
def Tryz.lays99_ren : Go.Shelf.Ren := ⟨fun | 99 => 65 | 206 => 91 | n => n, fun | 9 => 9 | 4 => 4 | 3 => 3 | n => n, fun | n => n⟩
theorem Tryz.lays99 : Go.Proofs.Lays.n99 Tryz.prog Tryz.lays99_ren := {
 mixed := by kernel_rfl
 f99 := Tryz.func65.trans (congrArg some (by kernel_rfl))
 f206 := Tryz.func91.trans (congrArg some (by kernel_rfl))
 t3 := Tryz.underlying3
 a3 := Tryz.isAgg3
 z3 := Tryz.sizeOf3
 v3 := Tryz.zeroValue3
 t4 := Tryz.underlying4
 a4 := Tryz.isAgg4
 z4 := Tryz.sizeOf4
 v4 := Tryz.zeroValue4
 t9 := Tryz.underlying9
 a9 := Tryz.isAgg9
 z9 := Tryz.sizeOf9
 v9 := Tryz.zeroValue9 }
open Go.RowKit Go.Lib in
theorem Tryz.strings_HasPrefix (s p : ByteArray) (w : World) :
  Calls Tryz.prog 65 #[.string s, .string p] w fun e w' => e = .returned (.bool (Lib.hasPrefix s.data.toList p.data.toList)) /\ w' = w := Any.strings_HasPrefix Tryz.lays99 s p w
def Tryz.lays105_ren : Go.Shelf.Ren := ⟨fun | 105 => 85 | 212 => 113 | 99 => 65 | 165 => 114 | 166 => 109 | 170 => 115 | 169 => 106 | 263 => 147 | 264 => 148 | 206 => 91 | 240 => 133 | 241 => 149 | 276 => 158 | 277 => 166 | n => n, fun | 9 => 9 | 3 => 3 | 4 => 4 | 20 => 20 | 0 => 0 | 46 => 196 | 109 => 206 | 5 => 5 | 72 => 195 | 76 => 202 | 51 => 86 | 146 => 230 | 53 => 143 | 148 => 232 | 70 => 192 | 37 => 193 | 75 => 198 | 127 => 220 | 164 => 244 | 80 => 130 | n => n, fun | n => n⟩
theorem Tryz.lays105 : Go.Proofs.Lays.n105 Tryz.prog Tryz.lays105_ren := {
 mixed := by kernel_rfl
 f99 := Tryz.func65.trans (congrArg some (by kernel_rfl))
 f105 := Tryz.func85.trans (congrArg some (by kernel_rfl))
 f165 := Tryz.func114.trans (congrArg some (by kernel_rfl))
 f166 := Tryz.func109.trans (congrArg some (by kernel_rfl))
 f169 := Tryz.func106.trans (congrArg some (by kernel_rfl))
 f170 := Tryz.func115.trans (congrArg some (by kernel_rfl))
 f206 := Tryz.func91.trans (congrArg some (by kernel_rfl))
 f212 := Tryz.func113.trans (congrArg some (by kernel_rfl))
 f240 := Tryz.func133.trans (congrArg some (by kernel_rfl))
 f241 := Tryz.func149.trans (congrArg some (by kernel_rfl))
 f263 := Tryz.func147.trans (congrArg some (by kernel_rfl))
 f264 := Tryz.func148.trans (congrArg some (by kernel_rfl))
 f276 := Tryz.func158.trans (congrArg some (by kernel_rfl))
 f277 := Tryz.func166.trans (congrArg some (by kernel_rfl))
 t0 := Tryz.underlying0
 a0 := Tryz.isAgg0
 z0 := Tryz.sizeOf0
 v0 := Tryz.zeroValue0
 t3 := Tryz.underlying3
 a3 := Tryz.isAgg3
 z3 := Tryz.sizeOf3
 v3 := Tryz.zeroValue3
 t4 := Tryz.underlying4
 a4 := Tryz.isAgg4
 z4 := Tryz.sizeOf4
 v4 := Tryz.zeroValue4
 t5 := Tryz.underlying5
 a5 := Tryz.isAgg5
 z5 := Tryz.sizeOf5
 v5 := Tryz.zeroValue5
 t9 := Tryz.underlying9
 a9 := Tryz.isAgg9
 z9 := Tryz.sizeOf9
 v9 := Tryz.zeroValue9
 t20 := Tryz.underlying20
 a20 := Tryz.isAgg20
 z20 := Tryz.sizeOf20
 v20 := Tryz.zeroValue20
 t37 := Tryz.underlying193
 a37 := Tryz.isAgg193
 z37 := Tryz.sizeOf193
 v37 := Tryz.zeroValue193
 t46 := Tryz.underlying196
 a46 := Tryz.isAgg196
 z46 := Tryz.sizeOf196
 v46 := Tryz.zeroValue196
 t51 := Tryz.underlying86
 a51 := Tryz.isAgg86
 z51 := Tryz.sizeOf86
 v51 := Tryz.zeroValue86
 t53 := Tryz.underlying143
 a53 := Tryz.isAgg143
 z53 := Tryz.sizeOf143
 v53 := Tryz.zeroValue143
 t70 := Tryz.underlying192
 a70 := Tryz.isAgg192
 z70 := Tryz.sizeOf192
 v70 := Tryz.zeroValue192
 t72 := Tryz.underlying195
 a72 := Tryz.isAgg195
 z72 := Tryz.sizeOf195
 v72 := Tryz.zeroValue195
 t75 := Tryz.underlying198
 a75 := Tryz.isAgg198
 z75 := Tryz.sizeOf198
 v75 := Tryz.zeroValue198
 t76 := Tryz.underlying202
 a76 := Tryz.isAgg202
 z76 := Tryz.sizeOf202
 v76 := Tryz.zeroValue202
 t109 := Tryz.underlying206
 a109 := Tryz.isAgg206
 z109 := Tryz.sizeOf206
 v109 := Tryz.zeroValue206
 t127 := Tryz.underlying220
 a127 := Tryz.isAgg220
 z127 := Tryz.sizeOf220
 v127 := Tryz.zeroValue220
 t146 := Tryz.underlying230
 a146 := Tryz.isAgg230
 z146 := Tryz.sizeOf230
 v146 := Tryz.zeroValue230
 t148 := Tryz.underlying232
 a148 := Tryz.isAgg232
 z148 := Tryz.sizeOf232
 v148 := Tryz.zeroValue232
 t164 := Tryz.underlying244
 a164 := Tryz.isAgg244
 z164 := Tryz.sizeOf244
 v164 := Tryz.zeroValue244 }
theorem Tryz.Builder_Extra_105 : Builder.Extra Tryz.prog Tryz.lays105_ren := {
 sizeBuilder := by kernel_rfl
 liesBuilder := by kernel_rfl
 t5 := Tryz.underlying5
 a5 := Tryz.isAgg5
 z5 := Tryz.sizeOf5
 v5 := Tryz.zeroValue5
 infoByte := by kernel_rfl
 cellsByte := by kernel_rfl
 sizeByte := by kernel_rfl
 neB5 := by decide }
open Go.RowKit Go.Lib in
theorem Tryz.strings_Repeat (s : ByteArray) (c : Nat) (w : World) (hc : c <= 9223372036854775807) (hlen : s.size * c <= 140737488355328) :
  Calls Tryz.prog 85 #[.string s, .int .i64 c] w fun e w' => e = .returned (.string ⟨(Lib.repeatL s.data.toList c).toArray⟩) /\ Below w.heap.size w w' := Any.strings_Repeat Tryz.lays105 Tryz.Builder_Extra_105 s c w hc hlen
def Tryz.laysNm215_ren : Go.Shelf.Ren := ⟨fun | 15 => 120 | n => n, fun | 22 => 35 | 3 => 3 | 4 => 4 | n => n, fun | n => n⟩
theorem Tryz.laysNm215 : Go.Proofs.Lays2.n15 Tryz.prog Tryz.laysNm215_ren := {
 mixed := by kernel_rfl
 f15 := Tryz.func120.trans (congrArg some (by kernel_rfl))
 t3 := Tryz.underlying3
 a3 := Tryz.isAgg3
 z3 := Tryz.sizeOf3
 v3 := Tryz.zeroValue3
 t4 := Tryz.underlying4
 a4 := Tryz.isAgg4
 z4 := Tryz.sizeOf4
 v4 := Tryz.zeroValue4
 t22 := Tryz.underlying35
 a22 := Tryz.isAgg35
 z22 := Tryz.sizeOf35
 v22 := Tryz.zeroValue35
 i3 := by kernel_rfl }
open Go.RowKit Go.Lib in
theorem Tryz.slices_Clone_int (b off n c : Nat) (zs : List Int) (w : World) (hz : n <= zs.length) (hbig : n * 8 <= 140737488355328) (hc : ∀ j, j < zs.length -> w.cell? ⟨b, off + j, none⟩ = some (.int .i64 (zs.getD j 0))) :
  Calls Tryz.prog 120 #[.slice (some ⟨b, off, none⟩) n c] w fun e w' => ∃ v', e = .returned v' /\ w'.ownsRow w.heap.size 3 1 v' n ((zs.take n).map (Value.int .i64)) /\ v' ≠ .slice none 0 0 /\ Below w.heap.size w w' := Any.slices_Clone_int Tryz.laysNm215 b off n c zs w hz hbig hc
open Go.RowKit Go.Lib in
theorem Tryz.slices_Clone_int_nil (n c : Nat) (w : World) :
  Calls Tryz.prog 120 #[.slice none n c] w fun e w' => e = .returned (.slice none 0 0) /\ w' = w := Any.slices_Clone_int_nil Tryz.laysNm215 n c w
def Tryz.laysNm216_ren : Go.Shelf.Ren := ⟨fun | 16 => 96 | n => n, fun | 24 => 69 | 9 => 9 | 4 => 4 | n => n, fun | n => n⟩
theorem Tryz.laysNm216 : Go.Proofs.Lays2.n16 Tryz.prog Tryz.laysNm216_ren := {
 mixed := by kernel_rfl
 f16 := Tryz.func96.trans (congrArg some (by kernel_rfl))
 t4 := Tryz.underlying4
 a4 := Tryz.isAgg4
 z4 := Tryz.sizeOf4
 v4 := Tryz.zeroValue4
 t9 := Tryz.underlying9
 a9 := Tryz.isAgg9
 z9 := Tryz.sizeOf9
 v9 := Tryz.zeroValue9
 t24 := Tryz.underlying69
 a24 := Tryz.isAgg69
 z24 := Tryz.sizeOf69
 v24 := Tryz.zeroValue69
 i9 := by kernel_rfl }
open Go.RowKit Go.Lib in
theorem Tryz.slices_Clone_string (b off n c : Nat) (zs : List ByteArray) (w : World) (hz : n <= zs.length) (hbig : n * 16 <= 140737488355328) (hc : ∀ j, j < zs.length -> w.cell? ⟨b, off + j, none⟩ = some (.string (zs.getD j ByteArray.empty))) :
  Calls Tryz.prog 96 #[.slice (some ⟨b, off, none⟩) n c] w fun e w' => ∃ v', e = .returned v' /\ w'.ownsRow w.heap.size 9 1 v' n ((zs.take n).map (Value.string)) /\ v' ≠ .slice none 0 0 /\ Below w.heap.size w w' := Any.slices_Clone_string Tryz.laysNm216 b off n c zs w hz hbig hc
open Go.RowKit Go.Lib in
theorem Tryz.slices_Clone_string_nil (n c : Nat) (w : World) :
  Calls Tryz.prog 96 #[.slice none n c] w fun e w' => e = .returned (.slice none 0 0) /\ w' = w := Any.slices_Clone_string_nil Tryz.laysNm216 n c w
open Go.RowKit Go.Lib in
theorem Tryz.slices_Clone_int_zero (a : Addr) (c : Nat) (w : World) :
  Calls Tryz.prog 120 #[.slice (some a) 0 c] w fun e w' => ∃ v', e = .returned v' /\ w'.ownsRow w.heap.size 3 1 v' 0 [] /\ v' ≠ .slice none 0 0 /\ Below w.heap.size w w' := Any.slices_Clone_int_zero Tryz.laysNm215 a c w
open Go.RowKit Go.Lib in
theorem Tryz.slices_Clone_string_zero (a : Addr) (c : Nat) (w : World) :
  Calls Tryz.prog 96 #[.slice (some a) 0 c] w fun e w' => ∃ v', e = .returned v' /\ w'.ownsRow w.heap.size 9 1 v' 0 [] /\ v' ≠ .slice none 0 0 /\ Below w.heap.size w w' := Any.slices_Clone_string_zero Tryz.laysNm216 a c w
def Tryz.laysNm224_ren : Go.Shelf.Ren := ⟨fun | 24 => 97 | n => n, fun | 24 => 69 | 9 => 9 | 3 => 3 | 4 => 4 | 0 => 0 | n => n, fun | n => n⟩
theorem Tryz.laysNm224 : Go.Proofs.Lays2.n24 Tryz.prog Tryz.laysNm224_ren := {
 mixed := by kernel_rfl
 f24 := Tryz.func97.trans (congrArg some (by kernel_rfl))
 t0 := Tryz.underlying0
 a0 := Tryz.isAgg0
 z0 := Tryz.sizeOf0
 v0 := Tryz.zeroValue0
 t3 := Tryz.underlying3
 a3 := Tryz.isAgg3
 z3 := Tryz.sizeOf3
 v3 := Tryz.zeroValue3
 t4 := Tryz.underlying4
 a4 := Tryz.isAgg4
 z4 := Tryz.sizeOf4
 v4 := Tryz.zeroValue4
 t9 := Tryz.underlying9
 a9 := Tryz.isAgg9
 z9 := Tryz.sizeOf9
 v9 := Tryz.zeroValue9
 t24 := Tryz.underlying69
 a24 := Tryz.isAgg69
 z24 := Tryz.sizeOf69
 v24 := Tryz.zeroValue69
 i9 := by kernel_rfl }
open Go.RowKit Go.Lib Go.Sort in
theorem Tryz.slices_Delete_string_cells (b off n c i j : Nat) (Sx : Nat -> ByteArray) (w : World) (hcap : n <= c) (hm : c <= 9223372036854775807) (hij : i <= j) (hj : j <= n) (hc : ∀ i, i < n -> w.cell? ⟨b, off + i, none⟩ = some (.string (Sx i))) (hf : ∀ j, j < n -> w.frozen? ⟨b, off + j, none⟩ = false) :
  Calls Tryz.prog 97 #[.slice (some ⟨b, off, none⟩) n c, .int .i64 i, .int .i64 j] w fun e w' => e = .returned (.slice (some ⟨b, off, none⟩) (n - (j - i)) c) /\ ∃ q, w' = (w.drewN q).setCells b off (((Lib.strsOf Sx n).take i ++ (Lib.strsOf Sx n).drop j ++ List.replicate (j - i) []).map encStr) := Any.slices_Delete_string_cells Tryz.laysNm224 b off n c i j Sx w hcap hm hij hj hc hf
end Go.Proofs
namespace Go.Proofs.YtgbcibdfeeiilaaGreatDoor
section
open Go Go.RowKit
def qCq : ByteArray := ⟨(Lib.repeatL [0] 1024).toArray⟩
set_option maxRecDepth 100000
set_option maxHeartbeats 1600000 in
theorem qLu (a : Addr) (u : FrameMode) (w : World) (hc : w.cell? a = some (.int .i32 1)) (hz : w.frozen? a = false) :
  CallsD Tryz.prog 146 #[.pointer (some a)] u w fun e u' w' => u' = u /\ (e = .returned (.tuple #[]) /\ w' = w.setCell a (.int .i32 0)) := by
 have hd := qRf; have he := qVc; have hr := jIz; have hadd := run_call_add (P := Tryz.prog) Tryz.func176 (by kernel_rfl) (by kernel_rfl) (by kernel_rfl) .i32 (by kernel_rfl) (y := -1) (s := 0) hc hz (by simp [go_sem]; rfl)
 have hcv := run_convert_to_unsafe (P := Tryz.prog) (src := 258) (dst := 244) Tryz.underlying258 Tryz.underlying244 (by kernel_rfl) hc
 go_enter_d Tryz.func146, Tryz.ntmps146
 go_wp2
 go_end0; go_wp2
 go_end0; exact ⟨rfl, rfl⟩
set_option maxHeartbeats 1600000 in
theorem jAb (a : Addr) (w : World) (hc : w.cell? a = some (.int .i32 0)) (hz : w.frozen? a = false) :
  Calls Tryz.prog 145 #[.pointer (some a)] w fun e w' => e = .returned (.tuple #[]) /\ w' = w.setCell a (.int .i32 1) := by
 have hd := qRf; have he := qVc; have ha := qZk; have hcas := run_call_cas_hit (P := Tryz.prog) Tryz.func171 (by kernel_rfl) (by kernel_rfl) (by kernel_rfl) .i32 (by kernel_rfl) (y := 1) hc hz
 have hc' : (w.setCell a (.int .i32 1)).cell? a = some (.int .i32 1) := World.cell?_setCell_same w a _ hc; have hcv := run_convert_to_unsafe (P := Tryz.prog) (src := 258) (dst := 244) Tryz.underlying258 Tryz.underlying244 (by kernel_rfl) hc'
 go_enter Tryz.func145, Tryz.ntmps145
 go_wp2
 first | go_end0 | (simp only [Exit.inBlock, Exit.then]; refine bodyPost_ret (results_none rfl _ _ _) rfl ?_) | refine bodyPost_ret (results_none rfl _ _ _) rfl ?_
 go_wp2
 go_end0; exact ⟨rfl, rfl⟩
theorem jCt {w : World} {p b : Nat} {u : Value} (hp : w.cell? ⟨p, 0, none⟩ = some (.pointer (some ⟨b, 0, none⟩))) (h1 : w.cell? ⟨b, 1, none⟩ = some u) (f1 : w.frozen? ⟨b, 1, none⟩ = false) :
  Calls Tryz.prog 84 #[.pointer (some ⟨p, 0, none⟩)] w fun e w' => e = .returned (.tuple #[]) /\ ∃ w1, Mod (fun _ => False) w w1 /\ w' = w1.setCell ⟨b, 1, none⟩ (.string qCq) := by
 have Hl : Hid (∀ w1, Below w.drew.heap.size w.drew w1 -> w1.cell? ⟨p, 0, none⟩ = some (.pointer (some ⟨b, 0, none⟩)) /\ w1.cell? ⟨b, 1, none⟩ = some u /\ w1.frozen? ⟨b, 1, none⟩ = false) := fun w1 hb =>
  ⟨(hb.cell (p := ⟨p, 0, none⟩) (World.block_lt_of_cell? _ _ hp)).trans hp, (hb.cell (p := ⟨b, 1, none⟩) (World.block_lt_of_cell? _ _ h1)).trans h1, (hb.frozen (p := ⟨b, 1, none⟩) (World.block_lt_of_cell? _ _ h1)).trans f1⟩
 go_enter Tryz.func84, Tryz.ntmps84
 go_wp2
 go_region_with ((go_at_call 85; refine (Tryz.strings_Repeat ⟨#[0]⟩ 1024 _ (by decide) (by decide)).mono ?_; rintro e w1 ⟨rfl, hb⟩; have Hb := hid hb; obtain ⟨k0, k1, k2⟩ := Hl.out w1 hb; clear hb))
 all_goals
  go_end0; refine ⟨rfl, w1, ?_, rfl⟩; have hb := Hb.out; exact ⟨hb.os, hb.tape, hb.output, hb.size, fun k hk _ => hb.block k hk⟩
def qWh (w : World) (b : Nat) (done : Bool) (blank : ByteArray) : Prop :=
 w.cell? ⟨b, 1, none⟩ = some (.string blank) /\ w.cell? ⟨b, 2, none⟩ = some (.int .u32 (u32 done)) /\ w.cell? ⟨b, 3, none⟩ = some (.int .i32 0) /\ ∀ o, w.frozen? ⟨b, o, none⟩ = false
set_option maxHeartbeats 1600000 in
theorem jDo {w : World} {p b : Nat} {blank : ByteArray} (hp : w.cell? ⟨p, 0, none⟩ = some (.pointer (some ⟨b, 0, none⟩))) (ho : qWh w b false blank) :
  Calls Tryz.prog 112 #[.pointer (some ⟨b, 2, none⟩), .func (.func 84) #[] #[.pointer (some ⟨p, 0, none⟩)]] w fun e w' => e = .returned (.tuple #[]) ∧
   ∃ w1, Mod (fun _ => False) (w.setCell ⟨b, 3, none⟩ (.int .i32 1)) w1 /\ w' = ((w1.setCell ⟨b, 1, none⟩ (.string qCq)).drew.setCell ⟨b, 2, none⟩ (.int .u32 1)).setCell ⟨b, 3, none⟩ (.int .i32 0) := by
 obtain ⟨h1, h2, h3, fz⟩ := ho; have hl := qIl (w := w.setCell ⟨b, 3, none⟩ (.int .i32 1)) (b := b) (o := 2) ((World.cell?_setCell_other _ ⟨b, 3, none⟩ ⟨b, 2, none⟩ _ (by simp)).trans h2)
 have hp1 : (w.setCell ⟨b, 3, none⟩ (.int .i32 1)).cell? ⟨p, 0, none⟩ = some (.pointer (some ⟨b, 0, none⟩)) := (World.cell?_setCell_other _ ⟨b, 3, none⟩ ⟨p, 0, none⟩ _ (by simp)).trans hp
 have h11 : (w.setCell ⟨b, 3, none⟩ (.int .i32 1)).cell? ⟨b, 1, none⟩ = some (.string blank) := (World.cell?_setCell_other _ ⟨b, 3, none⟩ ⟨b, 1, none⟩ _ (by simp)).trans h1
 have h21 : (w.setCell ⟨b, 3, none⟩ (.int .i32 1)).cell? ⟨b, 2, none⟩ = some (.int .u32 0) := (World.cell?_setCell_other _ ⟨b, 3, none⟩ ⟨b, 2, none⟩ _ (by simp)).trans h2
 have h31 : (w.setCell ⟨b, 3, none⟩ (.int .i32 1)).cell? ⟨b, 3, none⟩ = some (.int .i32 1) := World.cell?_setCell_same w _ _ h3; have fz1 : ∀ o, (w.setCell ⟨b, 3, none⟩ (.int .i32 1)).frozen? ⟨b, o, none⟩ = false := fun o => by rw [World.frozen?_setCell]; exact fz o
 have HL := hid hl; have HZ := hid (jCt hp1 h11 (fz1 1)); have HK := hid (jAb ⟨b, 3, none⟩ w h3 (fz 3)); have H2 := hid h21; have H3 := hid h31; have F1 := hid fz1; clear hl hp1 h11 h21 h31 fz1 hp h1 h2 h3 fz; go_enter_defers Tryz.func112, Tryz.ntmps112
 go_wp2_with (first | (go_at_call 145; refine HK.out.mono ?_; rintro e w' ⟨rfl, rfl⟩) | (go_at_call 43; refine HL.out.mono ?_; rintro e w' ⟨rfl, rfl⟩) | (go_at_call 84; refine HZ.out.mono ?_; rintro e w' ⟨rfl, w1, hm1, rfl⟩; have M1 := hid hm1; clear hm1))
 have hlt : b < (w.setCell ⟨b, 3, none⟩ (.int .i32 1)).heap.size := World.block_lt_of_cell? _ _ H2.out; have e2 : w1.cell? ⟨b, 2, none⟩ = some (.int .u32 0) := (M1.out.cell (p := ⟨b, 2, none⟩) hlt (fun h => h)).trans H2.out
 have e3 : w1.cell? ⟨b, 3, none⟩ = some (.int .i32 1) := (M1.out.cell (p := ⟨b, 3, none⟩) hlt (fun h => h)).trans H3.out
 have ef : ∀ o, w1.frozen? ⟨b, o, none⟩ = false := fun o => (M1.out.frozen (p := ⟨b, o, none⟩) hlt (fun h => h)).trans (F1.out o)
 refine leaves_cons (f := 44) (args := #[.pointer (some ⟨b, 2, none⟩), .bool true]) (by simp) (by simp [go_sem]) ?_
 refine (qNk ⟨b, 2, none⟩ (.int .u32 0) .returning _ ?_ (by simp [ef])).mono ?_
 ·exact (World.cell?_setCell_other _ ⟨b, 1, none⟩ ⟨b, 2, none⟩ _ (by simp)).trans e2
 rintro e u' w'' ⟨rfl, rfl, rfl⟩; refine leaves_cons (f := 146) (args := #[.pointer (some ⟨b, 3, none⟩)]) (by simp [settle]) (by simp [go_sem]) ?_
 refine (qLu ⟨b, 3, none⟩ _ _ ?_ (by simp [ef])).mono ?_
 ·refine (World.cell?_setCell_other _ ⟨b, 2, none⟩ ⟨b, 3, none⟩ _ (by simp)).trans ?_
  rw [World.cell?_drew]; exact (World.cell?_setCell_other _ ⟨b, 1, none⟩ ⟨b, 3, none⟩ _ (by simp)).trans e3
 rintro e u' w'' ⟨rfl, rfl, rfl⟩; simp only [Leaves, settle]; exact ⟨_, results_none rfl _ _ _, rfl, w1, M1.out, rfl⟩
theorem jHy {w : World} {b : Nat} {blank : ByteArray} {fv : Value} (ho : qWh w b true blank) : Calls Tryz.prog 83 #[.pointer (some ⟨b, 2, none⟩), fv] w fun e w' => e = .returned (.tuple #[]) /\ w = w' := by
 have HL := hid (qNa ho.2.1); clear ho; go_enter Tryz.func83, Tryz.ntmps83
 go_wp2_with (go_at_call 43; refine HL.out.mono ?_; rintro e w' ⟨rfl, rfl⟩)
 go_end0; exact ⟨rfl, rfl⟩
theorem jFo {w : World} {p b : Nat} {blank : ByteArray} (hp : w.cell? ⟨p, 0, none⟩ = some (.pointer (some ⟨b, 0, none⟩))) (ho : qWh w b false blank) :
  Calls Tryz.prog 83 #[.pointer (some ⟨b, 2, none⟩), .func (.func 84) #[] #[.pointer (some ⟨p, 0, none⟩)]] w fun e w' => e = .returned (.tuple #[]) ∧
   ∃ w1, Mod (fun _ => False) (w.setCell ⟨b, 3, none⟩ (.int .i32 1)) w1 /\ w' = ((w1.setCell ⟨b, 1, none⟩ (.string qCq)).drew.setCell ⟨b, 2, none⟩ (.int .u32 1)).setCell ⟨b, 3, none⟩ (.int .i32 0) := by
 have HL := hid (qIl ho.2.1); have HS := hid (jDo hp ho); clear ho hp; go_enter Tryz.func83, Tryz.ntmps83
 go_wp2_with (first | (go_at_call 43; refine HL.out.mono ?_; rintro e w' ⟨rfl, rfl⟩) | (go_at_call 112; refine HS.out.mono ?_; rintro e w' ⟨rfl, hq⟩; have Hq := hid hq; clear hq))
 go_end0; exact ⟨rfl, Hq.out⟩
def qCn (w : World) (b : Nat) (sa : Option Addr) (n cap : Nat) (blank : ByteArray) (done : Bool) (writes high left : Int) (off : Bool) : Prop :=
 w.heap[b]? = some (.cells #[.slice sa n cap, .string blank, .int .u32 (u32 done), .int .i32 0, .int .u32 0, .int .i64 writes, .int .i64 high, .int .i64 left, .int .u32 (u32 off)] 99 (0, 0)) /\ (done = true -> blank = qCq)
theorem qCn.once {w : World} {b : Nat} {sa : Option Addr} {n cap : Nat} {blank : ByteArray} {done : Bool} {writes high left : Int} {off : Bool} (h : qCn w b sa n cap blank done writes high left off) : qWh w b done blank :=
 ⟨by rw [cell_of_row _ _ _ _ _ _ h.1]; rfl, by rw [cell_of_row _ _ _ _ _ _ h.1]; rfl, by rw [cell_of_row _ _ _ _ _ _ h.1]; rfl, fun o => frozen_of_row _ _ _ _ _ h.1⟩
theorem jHz {w : World} {p b : Nat} {sa : Option Addr} {n cap : Nat} {blank : ByteArray} {done : Bool} {writes high left : Int} {off : Bool} (hp : w.cell? ⟨p, 0, none⟩ = some (.pointer (some ⟨b, 0, none⟩))) (h : qCn w b sa n cap blank done writes high left off) :
  Calls Tryz.prog 83 #[.pointer (some ⟨b, 2, none⟩), .func (.func 84) #[] #[.pointer (some ⟨p, 0, none⟩)]] w fun e w' => e = .returned (.tuple #[]) /\ qCn w' b sa n cap qCq true writes high left off /\ Mod (fun k => k = b) w w' := by
 cases done with
 | true =>
  obtain rfl := h.2 rfl; refine (jHy h.once).mono ?_; rintro e w' ⟨rfl, rfl⟩; exact ⟨rfl, h, Mod.refl _ _⟩
 | false =>
  refine (jFo hp h.once).mono ?_; rintro e w' ⟨rfl, w1, hm1, rfl⟩; have h0 := heap_setCell_same w b 3 _ 99 (.int .i32 1) h.1; have h1 := (hm1.block b (lth h0) (fun h => h)).trans h0
  have h2 := heap_setCell_same w1 b 1 _ 99 (.string qCq) h1; have h3 := heap_setCell_same (w1.setCell ⟨b, 1, none⟩ (.string qCq)).drew b 2 _ 99 (.int .u32 1) h2; have h4 := heap_setCell_same _ b 3 _ 99 (.int .i32 0) h3; refine ⟨rfl, ⟨h4, fun _ => rfl⟩, ?_⟩
  have m0 : Mod (fun k => k = b) w (w.setCell ⟨b, 3, none⟩ (.int .i32 1)) := Mod.setCell (S := fun k => k = b) (Mod.refl _ _) (fun _ => rfl) _
  have m1 : Mod (fun k => k = b) w w1 := m0.then hm1 (fun _ _ h => h.elim)
  exact Mod.setCell (S := fun k => k = b) (Mod.setCell (S := fun k => k = b) (Mod.setCell (S := fun k => k = b) m1 (fun _ => rfl) _).drew (fun _ => rfl) _) (fun _ => rfl) _
theorem qLq {w : World} {b : Nat} {sa : Option Addr} {n cap : Nat} {blank : ByteArray} {done : Bool} {writes high left : Int} {off : Bool} (h : qCn w b sa n cap blank done writes high left off) :
  Calls Tryz.prog 53 #[.pointer (some ⟨b, 0, none⟩)] w fun e w' => e = .returned (.string qCq) /\ qCn w' b sa n cap qCq true writes high left off /\ Mod (fun k => k = b) w w' := by
 have hbl := lth h.1; have hW : Mod (fun _ => False) w (w.alloc (.cells #[.pointer (some ⟨b, 0, none⟩)] 23)) := (Mod.refl _ _).alloc _
 have hmf : ∀ (fn : Fn) (first cap : Array Value) (w : World), (Instr.makeFunc fn first cap).run Tryz.prog w = .ok (.func fn first cap) w := fun _ _ _ _ => rfl
 have hN := heap_alloc_new w (.cells #[.pointer (some ⟨b, 0, none⟩)] 23); have hp : (w.alloc (.cells #[.pointer (some ⟨b, 0, none⟩)] 23)).cell? ⟨w.heap.size, 0, none⟩ = some (.pointer (some ⟨b, 0, none⟩)) := by rw [cell_of_row _ _ _ _ _ _ hN]; rfl
 have Hdo := hid (jHz (p := w.heap.size) (b := b) hp ⟨(hW.block b hbl (fun h => h)).trans h.1, h.2⟩)
 have HN := hid hN; have HW := hid hW; clear hN hp hW h; go_enter Tryz.func53, Tryz.ntmps53
 go_wp2_with fail
 refine Hdo.out.mono ?_; rintro e w1 ⟨rfl, hd, hm⟩; have k0 : w1.cell? ⟨w.heap.size, 0, none⟩ = some (.pointer (some ⟨b, 0, none⟩)) := by rw [cell_of_row _ _ _ _ _ _ ((hm.block w.heap.size (lth HN.out) (by omega)).trans HN.out)]; rfl
 have k1 := hd.once.1; have HD := hid hd; have HM := hid hm; clear hd hm; go_wp2
 go_ret; exact ⟨rfl, HD.out, (HW.out.mono fun _ _ h => h.elim).then HM.out (fun _ _ h => h)⟩
end
section
open Go Go.RowKit
structure Dsk where
 secs : List ByteArray
 writes : Int
 high : Int
 left : Int
 off : Bool
def qAn (w : World) (b : Nat) (sa : Option Addr) (D : Dsk) : Prop :=
 ∃ cap blank done, qCn w b sa D.secs.length cap blank done D.writes D.high D.left D.off /\ Own w 9 1 sa D.secs.length cap (D.secs.map .string) /\ ¬ blk sa b
def qBe (b : Nat) (sa : Option Addr) (k : Nat) : Prop := k = b \/ blk sa k
theorem qAn.lt {w : World} {b : Nat} {sa : Option Addr} {D : Dsk} (h : qAn w b sa D) : ∀ k, qBe b sa k -> k < w.heap.size := by
 obtain ⟨cap, blank, done, h1, h2, h3⟩ := h; rintro k (rfl | hk)
 ·exact lth h1.1
 ·exact h2.lt k hk
theorem qAn.mod {S : Nat -> Prop} {w w' : World} {b : Nat} {sa : Option Addr} {D : Dsk} (h : qAn w b sa D) (hm : Mod S w w') (hs : ∀ k, qBe b sa k -> ¬ S k) : qAn w' b sa D := by
 obtain ⟨cap, blank, done, h1, h2, h3⟩ := h; exact ⟨cap, blank, done, ⟨(hm.block b (lth h1.1) (hs b (Or.inl rfl))).trans h1.1, h1.2⟩, h2.mod hm (fun k hk => hs k (Or.inr hk)), h3⟩
theorem qAn.cells {w : World} {b : Nat} {sa : Option Addr} {D : Dsk} (h : qAn w b sa D) : ∃ cap, w.cell? ⟨b, 0, none⟩ = some (.slice sa D.secs.length cap) /\ w.cell? ⟨b, 5, none⟩ = some (.int .i64 D.writes) /\ w.cell? ⟨b, 6, none⟩ = some (.int .i64 D.high) /\ w.cell? ⟨b, 7, none⟩ = some (.int .i64 D.left) /\ w.cell? ⟨b, 8, none⟩ = some (.int .u32 (u32 D.off)) /\ (∀ o, w.frozen? ⟨b, o, none⟩ = false) /\ Own w 9 1 sa D.secs.length cap (D.secs.map .string) := by
 obtain ⟨cap, blank, done, h1, h2, h3⟩ := h; exact ⟨cap, by rw [cell_of_row _ _ _ _ _ _ h1.1]; rfl, by rw [cell_of_row _ _ _ _ _ _ h1.1]; rfl, by rw [cell_of_row _ _ _ _ _ _ h1.1]; rfl, by rw [cell_of_row _ _ _ _ _ _ h1.1]; rfl, by rw [cell_of_row _ _ _ _ _ _ h1.1]; rfl, fun o => frozen_of_row _ _ _ _ _ h1.1, h2⟩
theorem jHn {w : World} {b : Nat} {sa : Option Addr} {D : Dsk} (h : qAn w b sa D) : Calls Tryz.prog 23 #[.pointer (some ⟨b, 0, none⟩)] w fun e w' => e = .returned (.int .i64 D.secs.length) /\ w = w' := by
 obtain ⟨cap, h0, h5, h6, h7, h8, fz, _⟩ := h.cells; clear h; go_enter Tryz.func23, Tryz.ntmps23
 go_wp2
 go_ret; exact ⟨rfl, rfl⟩
def qBc (D : Dsk) (i : Int) : Int := if D.off then 12 else if i < 0 \/ D.secs.length <= i then 10 else 0
theorem qEh {w : World} {b : Nat} {sa : Option Addr} {D : Dsk} (h : qAn w b sa D) (i : Int) : Calls Tryz.prog 51 #[.pointer (some ⟨b, 0, none⟩), .int .i64 i] w fun e w' => e = .returned (.int .i64 (qBc D i)) /\ w = w' := by
 obtain ⟨cap, h0, h5, h6, h7, h8, fz, _⟩ := h.cells; have HL := hid (jCj D.off h8); clear h h5 h6 h7 h8 fz; cases ho : D.off with
 | true =>
  have e1 : qBc D i = 12 := by simp [qBc, ho]
  rw [e1]; rw [ho] at HL; clear ho; go_enter Tryz.func51, Tryz.ntmps51
  go_wp2_with (go_at_call 43; refine HL.out.mono ?_; rintro e w' ⟨rfl, rfl⟩)
  go_ret; exact ⟨rfl, rfl⟩
 | false =>
  rw [ho] at HL; by_cases hneg : i < 0
  ·have e1 : qBc D i = 10 := by simp [qBc, ho, hneg]
   have d1 : decide (i < 0) = true := by simpa using hneg
   rw [e1]; clear ho; go_enter Tryz.func51, Tryz.ntmps51
   go_wp2_with (go_at_call 43; refine HL.out.mono ?_; rintro e w' ⟨rfl, rfl⟩)
   go_ret; exact ⟨rfl, rfl⟩
  ·have d1 : decide (i < 0) = false := by simpa using hneg
   by_cases hbig : (D.secs.length : Int) <= i
   ·have e1 : qBc D i = 10 := by simp [qBc, ho, hbig]
    have d2 : decide ((D.secs.length : Int) <= i) = true := by simpa using hbig
    rw [e1]; clear ho; go_enter Tryz.func51, Tryz.ntmps51
    go_wp2_with (go_at_call 43; refine HL.out.mono ?_; rintro e w' ⟨rfl, rfl⟩)
    go_ret; exact ⟨rfl, rfl⟩
   ·have e1 : qBc D i = 0 := by simp [qBc, ho, hneg, hbig]
    have d2 : decide ((D.secs.length : Int) <= i) = false := by simpa using hbig
    rw [e1]; clear ho; go_enter Tryz.func51, Tryz.ntmps51
    go_wp2_with (go_at_call 43; refine HL.out.mono ?_; rintro e w' ⟨rfl, rfl⟩)
    go_ret; exact ⟨rfl, rfl⟩
end
end Go.Proofs.YtgbcibdfeeiilaaGreatDoor
