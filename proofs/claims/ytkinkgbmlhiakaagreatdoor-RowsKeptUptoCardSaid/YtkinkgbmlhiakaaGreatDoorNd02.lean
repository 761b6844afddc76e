/- merged: Sync Shelf Once Disk -/
import Derived.Test.YtkinkgbmlhiakaaGreatDoorProg
import Derived.Test.YtkinkgbmlhiakaaGreatDoorNd01
import Derived.Defers
import Derived.Laws.Pointers
import Derived.Laws.LoneSync
import Derived.RegionTactic
import Derived.RegionCalls
import Derived.Shelf.Strings.Builder1
import Derived.Shelf.Strings.Builder2
import Derived.Shelf.Strings.Trim
import Derived.Shelf.Small.Utf8
import Derived.Shelf.Small.Bits
import Derived.Shelf.Small.Strs
import Derived.Shelf.Strings.BuilderF
import Derived.Shelf.Strings.BuilderK
import Derived.Shelf.Strings.Builder2Cap
import Derived.Shelf.Strconv.Itoa0
import Derived.Shelf.Strings.Search1
import Derived.Shelf.Strings.Search2
import Derived.Shelf.Strings.Search3
import Derived.Shelf.LaysM
import Derived.Shelf.Strings.Shaped
import Derived.Shelf.Strings.Prefix
import Derived.Shelf.Unicode.Decode
import Derived.Shelf.Strings.Runes
import Derived.Shelf.Strings.AsciiSet
import Derived.Shelf.Bits.Mul64
import Derived.Shelf.Strings.Repeat
import Derived.Shelf.Unicode.DecodeSlow
import Derived.Shelf.Unicode.DecodeAny
import Derived.Shelf.Unicode.DecodeLast
import Derived.Shelf.Strings.BuilderCap
import Derived.Ground.Names2Prog
import Derived.Shelf.Slices.ReverseS
import Derived.Shelf.Slices.Clone
import Derived.Shelf.Slices.Delete
import Derived.Shelf.Slices.Cells
import Derived.Shelf.Slices.Empties
import Derived.Ground.SlgnProg
import Derived.Shelf.SlicesE.Reverse
import Derived.Shelf.SlicesE.Delete
import Derived.Shelf.SlicesE.Clone
import Derived.Deep.RegionWith
namespace Go.Proofs.YtkinkgbmlhiakaaGreatDoor
section
open Go Go.RowKit
theorem qJh {w : World} {b o : Nat} {v : Int} (h : w.cell? ⟨b, o, none⟩ = some (.int .i64 v)) : Calls Tryz.prog 111 #[.pointer (some ⟨b, o, none⟩)] w fun e w' => e = .returned (.int .i64 v) /\ w = w' := by
 have hl := run_call_load (P := Tryz.prog) Tryz.func152 (by kernel_rfl) (by kernel_rfl) (by kernel_rfl) .i64 (by kernel_rfl) h
 go_enter Tryz.func111, Tryz.ntmps111
 go_wp2
 go_ret; exact ⟨rfl, rfl⟩
theorem qMm {w : World} {b o : Nat} {u : Value} (v : Int) (h : w.cell? ⟨b, o, none⟩ = some u) (hz : w.frozen? ⟨b, o, none⟩ = false) : Calls Tryz.prog 113 #[.pointer (some ⟨b, o, none⟩), .int .i64 v] w fun e w' => e = .returned (.tuple #[]) /\ w' = w.setCell ⟨b, o, none⟩ (.int .i64 v) := by
 have hst := run_call_store (P := Tryz.prog) Tryz.func155 (by kernel_rfl) (by kernel_rfl) (by kernel_rfl) (by kernel_rfl) (k := .i64) (y := v) h hz
 go_enter Tryz.func113, Tryz.ntmps113
 go_wp2
 go_end0; exact ⟨rfl, rfl⟩
theorem jCh {w : World} {b o : Nat} {v : Int} (y : Int) (h : w.cell? ⟨b, o, none⟩ = some (.int .i64 v)) (hz : w.frozen? ⟨b, o, none⟩ = false) (h1 : -9223372036854775808 <= v + y) (h2 : v + y <= 9223372036854775807) : Calls Tryz.prog 114 #[.pointer (some ⟨b, o, none⟩), .int .i64 y] w fun e w' => e = .returned (.int .i64 (v + y)) /\ w' = w.setCell ⟨b, o, none⟩ (.int .i64 (v + y)) := by
 have e : IntKind.i64.wrap (v + y) = v + y := IntWalk.i64_in _ (by omega)
 have hadd := run_call_add (P := Tryz.prog) Tryz.func156 (by kernel_rfl) (by kernel_rfl) (by kernel_rfl) .i64 (by kernel_rfl) (y := y) (s := v + y) h hz (by show Result.ok (Value.int .i64 (IntKind.i64.wrap (v + y))) w = _; rw [e])
 clear e; go_enter Tryz.func114, Tryz.ntmps114
 go_wp2
 go_ret; exact ⟨rfl, rfl⟩
theorem qMu {w : World} {b o : Nat} (h : w.cell? ⟨b, o, none⟩ = some (.int .u32 1)) : Calls Tryz.prog 120 #[.pointer (some ⟨b, o, none⟩)] w fun e w' => e = .returned (.bool true) /\ w = w' := by
 have hl := run_call_load (P := Tryz.prog) Tryz.func159 (by kernel_rfl) (by kernel_rfl) (by kernel_rfl) .u32 (by kernel_rfl) h
 go_enter Tryz.func120, Tryz.ntmps120
 go_wp2
 go_ret; exact ⟨rfl, rfl⟩
theorem qIn {w : World} {b o : Nat} (h : w.cell? ⟨b, o, none⟩ = some (.int .u32 0)) : Calls Tryz.prog 120 #[.pointer (some ⟨b, o, none⟩)] w fun e w' => e = .returned (.bool false) /\ w = w' := by
 have hl := run_call_load (P := Tryz.prog) Tryz.func159 (by kernel_rfl) (by kernel_rfl) (by kernel_rfl) .u32 (by kernel_rfl) h
 go_enter Tryz.func120, Tryz.ntmps120
 go_wp2
 go_ret; exact ⟨rfl, rfl⟩
def u32 (b : Bool) : Int := if b then 1 else 0
theorem jDr {w : World} {b o : Nat} (v : Bool) (h : w.cell? ⟨b, o, none⟩ = some (.int .u32 (u32 v))) : Calls Tryz.prog 120 #[.pointer (some ⟨b, o, none⟩)] w fun e w' => e = .returned (.bool v) /\ w = w' := by
 cases v
 ·exact qIn h
 ·exact qMu h
theorem qYv {w : World} {b o : Nat} {u : Value} (v : Bool) (h : w.cell? ⟨b, o, none⟩ = some u) (hz : w.frozen? ⟨b, o, none⟩ = false) : Calls Tryz.prog 112 #[.pointer (some ⟨b, o, none⟩), .bool v] w fun e w' => e = .returned (.tuple #[]) /\ w' = (w.setCell ⟨b, o, none⟩ (.int .u32 (u32 v))).drew := by
 have hc' : w.drew.cell? ⟨b, o, none⟩ = some u := h; have hz' : w.drew.frozen? ⟨b, o, none⟩ = false := hz; have hst := run_call_store (P := Tryz.prog) Tryz.func153 (by kernel_rfl) (by kernel_rfl) (by kernel_rfl) (by kernel_rfl) (k := .u32) (y := u32 v) hc' hz'
 cases v
 ·simp only [u32, Bool.false_eq_true, if_false] at hst ⊢; go_enter Tryz.func112, Tryz.ntmps112
  go_wp2
  go_region_calls
  all_goals (go_end0; exact ⟨rfl, rfl⟩)
 ·simp only [u32, if_true] at hst ⊢; go_enter Tryz.func112, Tryz.ntmps112
  go_wp2
  go_region_calls
  all_goals (go_end0; exact ⟨rfl, rfl⟩)
theorem qRk (w : World) : (callFunc 189 #[]).run Tryz.prog w = .ok (.value (.tuple #[])) w := run_call_mark0 Tryz.func189 (by kernel_rfl) (by kernel_rfl) (by kernel_rfl) .disable (by kernel_rfl) w
theorem qVh (w : World) : (callFunc 191 #[]).run Tryz.prog w = .ok (.value (.tuple #[])) w := run_call_mark0 Tryz.func191 (by kernel_rfl) (by kernel_rfl) (by kernel_rfl) .enable (by kernel_rfl) w
theorem jBa (a : Addr) (w : World) : (callFunc 192 #[.pointer (some a)]).run Tryz.prog w = .ok (.value (.tuple #[])) w := run_call_marked Tryz.func192 (by kernel_rfl) (by kernel_rfl) (by kernel_rfl) .acquire (by kernel_rfl) a w
theorem jLn (a : Addr) (w : World) : (callFunc 194 #[.pointer (some a)]).run Tryz.prog w = .ok (.value (.tuple #[])) w := run_call_marked Tryz.func194 (by kernel_rfl) (by kernel_rfl) (by kernel_rfl) .releaseMerge (by kernel_rfl) a w
theorem qNi (a : Addr) (x : Value) (u : FrameMode) (w : World) (hc : w.cell? a = some x) (hz : w.frozen? a = false) :
  CallsD Tryz.prog 112 #[.pointer (some a), .bool true] u w fun e u' w' => u' = u /\ (e = .returned (.tuple #[]) /\ w' = w.drew.setCell a (.int .u32 1)) := by
 have hc' : w.drew.cell? a = some x := by go_simp
 have hz' : w.drew.frozen? a = false := by go_simp
 have hst := run_call_store (P := Tryz.prog) Tryz.func153 (by kernel_rfl) (by kernel_rfl) (by kernel_rfl) (by kernel_rfl) (k := .u32) (y := 1) hc' hz'
 go_enter_d Tryz.func112, Tryz.ntmps112
 go_wp2
 go_region_calls
 all_goals (go_end0; exact ⟨rfl, rfl⟩)
end
end Go.Proofs.YtkinkgbmlhiakaaGreatDoor
namespace Go.Proofs
open Go.Shelf
def Tryz.lays137_ren : Go.Shelf.Ren := ⟨fun | 137 => 92 | 217 => 127 | 266 => 167 | n => n, fun | 9 => 9 | 5 => 5 | 3 => 3 | n => n, fun | n => n⟩
theorem Tryz.lays137 : Go.Proofs.Lays.n137 Tryz.prog Tryz.lays137_ren := {
 mixed := by kernel_rfl
 f137 := Tryz.func92.trans (congrArg some (by kernel_rfl))
 f217 := Tryz.func127.trans (congrArg some (by kernel_rfl))
 f266 := Tryz.func167.trans (congrArg some (by kernel_rfl))
 t3 := Tryz.underlying3
 a3 := Tryz.isAgg3
 z3 := Tryz.sizeOf3
 v3 := Tryz.zeroValue3
 t5 := Tryz.underlying5
 a5 := Tryz.isAgg5
 z5 := Tryz.sizeOf5
 v5 := Tryz.zeroValue5
 t9 := Tryz.underlying9
 a9 := Tryz.isAgg9
 z9 := Tryz.sizeOf9
 v9 := Tryz.zeroValue9 }
open Go.RowKit in
theorem Tryz.strings_IndexByte (s : ByteArray) (c : Int) (w : World) :
  Calls Tryz.prog 92 #[.string s, .int .u8 c] w fun e w' => e = .returned (.int .i64 (Lib.indexByte s.data.toList c.toNat.toUInt8)) /\ w' = w := Any.strings_IndexByte Tryz.lays137 s c w
def Tryz.lays144_ren : Go.Shelf.Ren := ⟨fun | 144 => 81 | 143 => 117 | 219 => 157 | 217 => 127 | 225 => 166 | 224 => 165 | 267 => 177 | 266 => 167 | 314 => 185 | n => n, fun | 9 => 9 | 4 => 4 | 3 => 3 | 5 => 5 | 46 => 193 | 146 => 273 | 51 => 93 | n => n, fun | 1 => 2 | n => n⟩
theorem Tryz.lays144 : Go.Proofs.Lays.n144 Tryz.prog Tryz.lays144_ren := {
 mixed := by kernel_rfl
 f143 := Tryz.func117.trans (congrArg some (by kernel_rfl))
 f144 := Tryz.func81.trans (congrArg some (by kernel_rfl))
 f217 := Tryz.func127.trans (congrArg some (by kernel_rfl))
 f219 := Tryz.func157.trans (congrArg some (by kernel_rfl))
 f224 := Tryz.func165.trans (congrArg some (by kernel_rfl))
 f225 := Tryz.func166.trans (congrArg some (by kernel_rfl))
 f266 := Tryz.func167.trans (congrArg some (by kernel_rfl))
 f267 := Tryz.func177.trans (congrArg some (by kernel_rfl))
 f314 := Tryz.func185.trans (congrArg some (by kernel_rfl))
 t3 := Tryz.underlying3
 a3 := Tryz.isAgg3
 z3 := Tryz.sizeOf3
 v3 := Tryz.zeroValue3
 t4 := Tryz.underlying4
 a4 := Tryz.isAgg4
 z4 := Tryz.sizeOf4
 v4 := Tryz.zeroValue4
 t5 := Tryz.underlying5
 a5 := Tryz.isAgg5
 z5 := Tryz.sizeOf5
 v5 := Tryz.zeroValue5
 t9 := Tryz.underlying9
 a9 := Tryz.isAgg9
 z9 := Tryz.sizeOf9
 v9 := Tryz.zeroValue9
 t46 := Tryz.underlying193
 a46 := Tryz.isAgg193
 z46 := Tryz.sizeOf193
 v46 := Tryz.zeroValue193
 t51 := Tryz.underlying93
 a51 := Tryz.isAgg93
 z51 := Tryz.sizeOf93
 v51 := Tryz.zeroValue93
 t146 := Tryz.underlying273
 a146 := Tryz.isAgg273
 z146 := Tryz.sizeOf273
 v146 := Tryz.zeroValue273
 g1 := by kernel_rfl }
open Go.RowKit Go.Lib in
theorem Tryz.strings_Contains_one (s : ByteArray) (c : UInt8) (w : World) :
  Calls Tryz.prog 81 #[.string s, .string ⟨#[c]⟩] w fun e w' => e = .returned (.bool (decide (0 <= Lib.indexByte s.data.toList c))) /\ w' = w := Any.strings_Contains_one Tryz.lays144 s c w
def Tryz.lays99_ren : Go.Shelf.Ren := ⟨fun | 99 => 54 | 206 => 89 | n => n, fun | 9 => 9 | 4 => 4 | 3 => 3 | n => n, fun | n => n⟩
theorem Tryz.lays99 : Go.Proofs.Lays.n99 Tryz.prog Tryz.lays99_ren := {
 mixed := by kernel_rfl
 f99 := Tryz.func54.trans (congrArg some (by kernel_rfl))
 f206 := Tryz.func89.trans (congrArg some (by kernel_rfl))
 t3 := Tryz.underlying3
 a3 := Tryz.isAgg3
 z3 := Tryz.sizeOf3
 v3 := Tryz.zeroValue3
 t4 := Tryz.underlying4
 a4 := Tryz.isAgg4
 z4 := Tryz.sizeOf4
 v4 := Tryz.zeroValue4
 t9 := Tryz.underlying9
 a9 := Tryz.isAgg9
 z9 := Tryz.sizeOf9
 v9 := Tryz.zeroValue9 }
open Go.RowKit Go.Lib in
theorem Tryz.strings_HasPrefix (s p : ByteArray) (w : World) :
  Calls Tryz.prog 54 #[.string s, .string p] w fun e w' => e = .returned (.bool (Lib.hasPrefix s.data.toList p.data.toList)) /\ w' = w := Any.strings_HasPrefix Tryz.lays99 s p w
def Tryz.lays105_ren : Go.Shelf.Ren := ⟨fun | 105 => 123 | 212 => 161 | 99 => 54 | 165 => 162 | 166 => 115 | 170 => 163 | 169 => 108 | 263 => 180 | 264 => 181 | 206 => 89 | 240 => 141 | 241 => 182 | 276 => 171 | 277 => 188 | n => n, fun | 9 => 9 | 3 => 3 | 4 => 4 | 20 => 20 | 0 => 0 | 46 => 193 | 109 => 256 | 5 => 5 | 72 => 208 | 76 => 218 | 51 => 93 | 146 => 273 | 53 => 148 | 148 => 275 | 70 => 206 | 37 => 128 | 75 => 210 | 127 => 235 | 164 => 265 | 80 => 169 | n => n, fun | n => n⟩
theorem Tryz.lays105 : Go.Proofs.Lays.n105 Tryz.prog Tryz.lays105_ren := {
 mixed := by kernel_rfl
 f99 := Tryz.func54.trans (congrArg some (by kernel_rfl))
 f105 := Tryz.func123.trans (congrArg some (by kernel_rfl))
 f165 := Tryz.func162.trans (congrArg some (by kernel_rfl))
 f166 := Tryz.func115.trans (congrArg some (by kernel_rfl))
 f169 := Tryz.func108.trans (congrArg some (by kernel_rfl))
 f170 := Tryz.func163.trans (congrArg some (by kernel_rfl))
 f206 := Tryz.func89.trans (congrArg some (by kernel_rfl))
 f212 := Tryz.func161.trans (congrArg some (by kernel_rfl))
 f240 := Tryz.func141.trans (congrArg some (by kernel_rfl))
 f241 := Tryz.func182.trans (congrArg some (by kernel_rfl))
 f263 := Tryz.func180.trans (congrArg some (by kernel_rfl))
 f264 := Tryz.func181.trans (congrArg some (by kernel_rfl))
 f276 := Tryz.func171.trans (congrArg some (by kernel_rfl))
 f277 := Tryz.func188.trans (congrArg some (by kernel_rfl))
 t0 := Tryz.underlying0
 a0 := Tryz.isAgg0
 z0 := Tryz.sizeOf0
 v0 := Tryz.zeroValue0
 t3 := Tryz.underlying3
 a3 := Tryz.isAgg3
 z3 := Tryz.sizeOf3
 v3 := Tryz.zeroValue3
 t4 := Tryz.underlying4
 a4 := Tryz.isAgg4
 z4 := Tryz.sizeOf4
 v4 := Tryz.zeroValue4
 t5 := Tryz.underlying5
 a5 := Tryz.isAgg5
 z5 := Tryz.sizeOf5
 v5 := Tryz.zeroValue5
 t9 := Tryz.underlying9
 a9 := Tryz.isAgg9
 z9 := Tryz.sizeOf9
 v9 := Tryz.zeroValue9
 t20 := Tryz.underlying20
 a20 := Tryz.isAgg20
 z20 := Tryz.sizeOf20
 v20 := Tryz.zeroValue20
 t37 := Tryz.underlying128
 a37 := Tryz.isAgg128
 z37 := Tryz.sizeOf128
 v37 := Tryz.zeroValue128
 t46 := Tryz.underlying193
 a46 := Tryz.isAgg193
 z46 := Tryz.sizeOf193
 v46 := Tryz.zeroValue193
 t51 := Tryz.underlying93
 a51 := Tryz.isAgg93
 z51 := Tryz.sizeOf93
 v51 := Tryz.zeroValue93
 t53 := Tryz.underlying148
 a53 := Tryz.isAgg148
 z53 := Tryz.sizeOf148
 v53 := Tryz.zeroValue148
 t70 := Tryz.underlying206
 a70 := Tryz.isAgg206
 z70 := Tryz.sizeOf206
 v70 := Tryz.zeroValue206
 t72 := Tryz.underlying208
 a72 := Tryz.isAgg208
 z72 := Tryz.sizeOf208
 v72 := Tryz.zeroValue208
 t75 := Tryz.underlying210
 a75 := Tryz.isAgg210
 z75 := Tryz.sizeOf210
 v75 := Tryz.zeroValue210
 t76 := Tryz.underlying218
 a76 := Tryz.isAgg218
 z76 := Tryz.sizeOf218
 v76 := Tryz.zeroValue218
 t109 := Tryz.underlying256
 a109 := Tryz.isAgg256
 z109 := Tryz.sizeOf256
 v109 := Tryz.zeroValue256
 t127 := Tryz.underlying235
 a127 := Tryz.isAgg235
 z127 := Tryz.sizeOf235
 v127 := Tryz.zeroValue235
 t146 := Tryz.underlying273
 a146 := Tryz.isAgg273
 z146 := Tryz.sizeOf273
 v146 := Tryz.zeroValue273
 t148 := Tryz.underlying275
 a148 := Tryz.isAgg275
 z148 := Tryz.sizeOf275
 v148 := Tryz.zeroValue275
 t164 := Tryz.underlying265
 a164 := Tryz.isAgg265
 z164 := Tryz.sizeOf265
 v164 := Tryz.zeroValue265 }
theorem Tryz.Builder_Extra_105 : Builder.Extra Tryz.prog Tryz.lays105_ren := {
 sizeBuilder := by kernel_rfl
 liesBuilder := by kernel_rfl
 t5 := Tryz.underlying5
 a5 := Tryz.isAgg5
 z5 := Tryz.sizeOf5
 v5 := Tryz.zeroValue5
 infoByte := by kernel_rfl
 cellsByte := by kernel_rfl
 sizeByte := by kernel_rfl
 neB5 := by decide }
open Go.RowKit Go.Lib in
theorem Tryz.strings_Repeat (s : ByteArray) (c : Nat) (w : World) (hc : c <= 9223372036854775807) (hlen : s.size * c <= 140737488355328) :
  Calls Tryz.prog 123 #[.string s, .int .i64 c] w fun e w' => e = .returned (.string ⟨(Lib.repeatL s.data.toList c).toArray⟩) /\ Below w.heap.size w w' := Any.strings_Repeat Tryz.lays105 Tryz.Builder_Extra_105 s c w hc hlen
def Tryz.laysNm215_ren : Go.Shelf.Ren := ⟨fun | 15 => 128 | n => n, fun | 22 => 56 | 3 => 3 | 4 => 4 | n => n, fun | n => n⟩
theorem Tryz.laysNm215 : Go.Proofs.Lays2.n15 Tryz.prog Tryz.laysNm215_ren := {
 mixed := by kernel_rfl
 f15 := Tryz.func128.trans (congrArg some (by kernel_rfl))
 t3 := Tryz.underlying3
 a3 := Tryz.isAgg3
 z3 := Tryz.sizeOf3
 v3 := Tryz.zeroValue3
 t4 := Tryz.underlying4
 a4 := Tryz.isAgg4
 z4 := Tryz.sizeOf4
 v4 := Tryz.zeroValue4
 t22 := Tryz.underlying56
 a22 := Tryz.isAgg56
 z22 := Tryz.sizeOf56
 v22 := Tryz.zeroValue56
 i3 := by kernel_rfl }
open Go.RowKit Go.Lib in
theorem Tryz.slices_Clone_int (b off n c : Nat) (zs : List Int) (w : World) (hz : n <= zs.length) (hbig : n * 8 <= 140737488355328) (hc : ∀ j, j < zs.length -> w.cell? ⟨b, off + j, none⟩ = some (.int .i64 (zs.getD j 0))) :
  Calls Tryz.prog 128 #[.slice (some ⟨b, off, none⟩) n c] w fun e w' => ∃ v', e = .returned v' /\ w'.ownsRow w.heap.size 3 1 v' n ((zs.take n).map (Value.int .i64)) /\ v' ≠ .slice none 0 0 /\ Below w.heap.size w w' := Any.slices_Clone_int Tryz.laysNm215 b off n c zs w hz hbig hc
open Go.RowKit Go.Lib in
theorem Tryz.slices_Clone_int_nil (n c : Nat) (w : World) :
  Calls Tryz.prog 128 #[.slice none n c] w fun e w' => e = .returned (.slice none 0 0) /\ w' = w := Any.slices_Clone_int_nil Tryz.laysNm215 n c w
def Tryz.laysNm216_ren : Go.Shelf.Ren := ⟨fun | 16 => 98 | n => n, fun | 24 => 68 | 9 => 9 | 4 => 4 | n => n, fun | n => n⟩
theorem Tryz.laysNm216 : Go.Proofs.Lays2.n16 Tryz.prog Tryz.laysNm216_ren := {
 mixed := by kernel_rfl
 f16 := Tryz.func98.trans (congrArg some (by kernel_rfl))
 t4 := Tryz.underlying4
 a4 := Tryz.isAgg4
 z4 := Tryz.sizeOf4
 v4 := Tryz.zeroValue4
 t9 := Tryz.underlying9
 a9 := Tryz.isAgg9
 z9 := Tryz.sizeOf9
 v9 := Tryz.zeroValue9
 t24 := Tryz.underlying68
 a24 := Tryz.isAgg68
 z24 := Tryz.sizeOf68
 v24 := Tryz.zeroValue68
 i9 := by kernel_rfl }
open Go.RowKit Go.Lib in
theorem Tryz.slices_Clone_string (b off n c : Nat) (zs : List ByteArray) (w : World) (hz : n <= zs.length) (hbig : n * 16 <= 140737488355328) (hc : ∀ j, j < zs.length -> w.cell? ⟨b, off + j, none⟩ = some (.string (zs.getD j ByteArray.empty))) :
  Calls Tryz.prog 98 #[.slice (some ⟨b, off, none⟩) n c] w fun e w' => ∃ v', e = .returned v' /\ w'.ownsRow w.heap.size 9 1 v' n ((zs.take n).map (Value.string)) /\ v' ≠ .slice none 0 0 /\ Below w.heap.size w w' := Any.slices_Clone_string Tryz.laysNm216 b off n c zs w hz hbig hc
open Go.RowKit Go.Lib in
theorem Tryz.slices_Clone_string_nil (n c : Nat) (w : World) :
  Calls Tryz.prog 98 #[.slice none n c] w fun e w' => e = .returned (.slice none 0 0) /\ w' = w := Any.slices_Clone_string_nil Tryz.laysNm216 n c w
open Go.RowKit Go.Lib in
theorem Tryz.slices_Clone_int_zero (a : Addr) (c : Nat) (w : World) :
  Calls Tryz.prog 128 #[.slice (some a) 0 c] w fun e w' => ∃ v', e = .returned v' /\ w'.ownsRow w.heap.size 3 1 v' 0 [] /\ v' ≠ .slice none 0 0 /\ Below w.heap.size w w' := Any.slices_Clone_int_zero Tryz.laysNm215 a c w
open Go.RowKit Go.Lib in
theorem Tryz.slices_Clone_string_zero (a : Addr) (c : Nat) (w : World) :
  Calls Tryz.prog 98 #[.slice (some a) 0 c] w fun e w' => ∃ v', e = .returned v' /\ w'.ownsRow w.heap.size 9 1 v' 0 [] /\ v' ≠ .slice none 0 0 /\ Below w.heap.size w w' := Any.slices_Clone_string_zero Tryz.laysNm216 a c w
def Tryz.laysNm224_ren : Go.Shelf.Ren := ⟨fun | 24 => 99 | n => n, fun | 24 => 68 | 9 => 9 | 3 => 3 | 4 => 4 | 0 => 0 | n => n, fun | n => n⟩
theorem Tryz.laysNm224 : Go.Proofs.Lays2.n24 Tryz.prog Tryz.laysNm224_ren := {
 mixed := by kernel_rfl
 f24 := Tryz.func99.trans (congrArg some (by kernel_rfl))
 t0 := Tryz.underlying0
 a0 := Tryz.isAgg0
 z0 := Tryz.sizeOf0
 v0 := Tryz.zeroValue0
 t3 := Tryz.underlying3
 a3 := Tryz.isAgg3
 z3 := Tryz.sizeOf3
 v3 := Tryz.zeroValue3
 t4 := Tryz.underlying4
 a4 := Tryz.isAgg4
 z4 := Tryz.sizeOf4
 v4 := Tryz.zeroValue4
 t9 := Tryz.underlying9
 a9 := Tryz.isAgg9
 z9 := Tryz.sizeOf9
 v9 := Tryz.zeroValue9
 t24 := Tryz.underlying68
 a24 := Tryz.isAgg68
 z24 := Tryz.sizeOf68
 v24 := Tryz.zeroValue68
 i9 := by kernel_rfl }
open Go.RowKit Go.Lib Go.Sort in
theorem Tryz.slices_Delete_string_cells (b off n c i j : Nat) (Sx : Nat -> ByteArray) (w : World) (hcap : n <= c) (hm : c <= 9223372036854775807) (hij : i <= j) (hj : j <= n) (hc : ∀ i, i < n -> w.cell? ⟨b, off + i, none⟩ = some (.string (Sx i))) (hf : ∀ j, j < n -> w.frozen? ⟨b, off + j, none⟩ = false) :
  Calls Tryz.prog 99 #[.slice (some ⟨b, off, none⟩) n c, .int .i64 i, .int .i64 j] w fun e w' => e = .returned (.slice (some ⟨b, off, none⟩) (n - (j - i)) c) /\ ∃ q, w' = (w.drewN q).setCells b off (((Lib.strsOf Sx n).take i ++ (Lib.strsOf Sx n).drop j ++ List.replicate (j - i) []).map encStr) := Any.slices_Delete_string_cells Tryz.laysNm224 b off n c i j Sx w hcap hm hij hj hc hf
end Go.Proofs
namespace Go.Proofs.YtkinkgbmlhiakaaGreatDoor
section
open Go Go.RowKit
def qCl : ByteArray := ⟨(Lib.repeatL [0] 1024).toArray⟩
set_option maxRecDepth 100000
set_option maxHeartbeats 1600000 in
theorem qLw (a : Addr) (u : FrameMode) (w : World) (hc : w.cell? a = some (.int .i32 1)) (hz : w.frozen? a = false) :
  CallsD Tryz.prog 179 #[.pointer (some a)] u w fun e u' w' => u' = u /\ (e = .returned (.tuple #[]) /\ w' = w.setCell a (.int .i32 0)) := by
 have hd := qRk; have he := qVh; have hr := jLn; have hadd := run_call_add (P := Tryz.prog) Tryz.func195 (by kernel_rfl) (by kernel_rfl) (by kernel_rfl) .i32 (by kernel_rfl) (y := -1) (s := 0) hc hz (by simp [go_sem]; rfl)
 have hcv := run_convert_to_unsafe (P := Tryz.prog) (src := 284) (dst := 265) Tryz.underlying284 Tryz.underlying265 (by kernel_rfl) hc
 go_enter_d Tryz.func179, Tryz.ntmps179
 go_wp2
 go_end0; go_wp2
 go_end0; exact ⟨rfl, rfl⟩
set_option maxHeartbeats 1600000 in
theorem jBo (a : Addr) (w : World) (hc : w.cell? a = some (.int .i32 0)) (hz : w.frozen? a = false) :
  Calls Tryz.prog 178 #[.pointer (some a)] w fun e w' => e = .returned (.tuple #[]) /\ w' = w.setCell a (.int .i32 1) := by
 have hd := qRk; have he := qVh; have ha := jBa; have hcas := run_call_cas_hit (P := Tryz.prog) Tryz.func190 (by kernel_rfl) (by kernel_rfl) (by kernel_rfl) .i32 (by kernel_rfl) (y := 1) hc hz
 have hc' : (w.setCell a (.int .i32 1)).cell? a = some (.int .i32 1) := World.cell?_setCell_same w a _ hc; have hcv := run_convert_to_unsafe (P := Tryz.prog) (src := 284) (dst := 265) Tryz.underlying284 Tryz.underlying265 (by kernel_rfl) hc'
 go_enter Tryz.func178, Tryz.ntmps178
 go_wp2
 first | go_end0 | (simp only [Exit.inBlock, Exit.then]; refine bodyPost_ret (results_none rfl _ _ _) rfl ?_) | refine bodyPost_ret (results_none rfl _ _ _) rfl ?_
 go_wp2
 go_end0; exact ⟨rfl, rfl⟩
theorem jEe {w : World} {p b : Nat} {u : Value} (hp : w.cell? ⟨p, 0, none⟩ = some (.pointer (some ⟨b, 0, none⟩))) (h1 : w.cell? ⟨b, 1, none⟩ = some u) (f1 : w.frozen? ⟨b, 1, none⟩ = false) :
  Calls Tryz.prog 122 #[.pointer (some ⟨p, 0, none⟩)] w fun e w' => e = .returned (.tuple #[]) /\ ∃ w1, Mod (fun _ => False) w w1 /\ w' = w1.setCell ⟨b, 1, none⟩ (.string qCl) := by
 have Hl : Hid (∀ w1, Below w.drew.heap.size w.drew w1 -> w1.cell? ⟨p, 0, none⟩ = some (.pointer (some ⟨b, 0, none⟩)) /\ w1.cell? ⟨b, 1, none⟩ = some u /\ w1.frozen? ⟨b, 1, none⟩ = false) := fun w1 hb =>
  ⟨(hb.cell (p := ⟨p, 0, none⟩) (World.block_lt_of_cell? _ _ hp)).trans hp, (hb.cell (p := ⟨b, 1, none⟩) (World.block_lt_of_cell? _ _ h1)).trans h1, (hb.frozen (p := ⟨b, 1, none⟩) (World.block_lt_of_cell? _ _ h1)).trans f1⟩
 go_enter Tryz.func122, Tryz.ntmps122
 go_wp2
 go_region_with ((go_at_call 123; refine (Tryz.strings_Repeat ⟨#[0]⟩ 1024 _ (by decide) (by decide)).mono ?_; rintro e w1 ⟨rfl, hb⟩; have Hb := hid hb; obtain ⟨k0, k1, k2⟩ := Hl.out w1 hb; clear hb))
 all_goals
  go_end0; refine ⟨rfl, w1, ?_, rfl⟩; have hb := Hb.out; exact ⟨hb.os, hb.tape, hb.output, hb.size, fun k hk _ => hb.block k hk⟩
def qWy (w : World) (b : Nat) (done : Bool) (blank : ByteArray) : Prop :=
 w.cell? ⟨b, 1, none⟩ = some (.string blank) /\ w.cell? ⟨b, 2, none⟩ = some (.int .u32 (u32 done)) /\ w.cell? ⟨b, 3, none⟩ = some (.int .i32 0) /\ ∀ o, w.frozen? ⟨b, o, none⟩ = false
set_option maxHeartbeats 1600000 in
theorem jFa {w : World} {p b : Nat} {blank : ByteArray} (hp : w.cell? ⟨p, 0, none⟩ = some (.pointer (some ⟨b, 0, none⟩))) (ho : qWy w b false blank) :
  Calls Tryz.prog 160 #[.pointer (some ⟨b, 2, none⟩), .func (.func 122) #[] #[.pointer (some ⟨p, 0, none⟩)]] w fun e w' => e = .returned (.tuple #[]) ∧
   ∃ w1, Mod (fun _ => False) (w.setCell ⟨b, 3, none⟩ (.int .i32 1)) w1 /\ w' = ((w1.setCell ⟨b, 1, none⟩ (.string qCl)).drew.setCell ⟨b, 2, none⟩ (.int .u32 1)).setCell ⟨b, 3, none⟩ (.int .i32 0) := by
 obtain ⟨h1, h2, h3, fz⟩ := ho; have hl := qIn (w := w.setCell ⟨b, 3, none⟩ (.int .i32 1)) (b := b) (o := 2) ((World.cell?_setCell_other _ ⟨b, 3, none⟩ ⟨b, 2, none⟩ _ (by simp)).trans h2)
 have hp1 : (w.setCell ⟨b, 3, none⟩ (.int .i32 1)).cell? ⟨p, 0, none⟩ = some (.pointer (some ⟨b, 0, none⟩)) := (World.cell?_setCell_other _ ⟨b, 3, none⟩ ⟨p, 0, none⟩ _ (by simp)).trans hp
 have h11 : (w.setCell ⟨b, 3, none⟩ (.int .i32 1)).cell? ⟨b, 1, none⟩ = some (.string blank) := (World.cell?_setCell_other _ ⟨b, 3, none⟩ ⟨b, 1, none⟩ _ (by simp)).trans h1
 have h21 : (w.setCell ⟨b, 3, none⟩ (.int .i32 1)).cell? ⟨b, 2, none⟩ = some (.int .u32 0) := (World.cell?_setCell_other _ ⟨b, 3, none⟩ ⟨b, 2, none⟩ _ (by simp)).trans h2
 have h31 : (w.setCell ⟨b, 3, none⟩ (.int .i32 1)).cell? ⟨b, 3, none⟩ = some (.int .i32 1) := World.cell?_setCell_same w _ _ h3; have fz1 : ∀ o, (w.setCell ⟨b, 3, none⟩ (.int .i32 1)).frozen? ⟨b, o, none⟩ = false := fun o => by rw [World.frozen?_setCell]; exact fz o
 have HL := hid hl; have HZ := hid (jEe hp1 h11 (fz1 1)); have HK := hid (jBo ⟨b, 3, none⟩ w h3 (fz 3)); have H2 := hid h21; have H3 := hid h31; have F1 := hid fz1; clear hl hp1 h11 h21 h31 fz1 hp h1 h2 h3 fz; go_enter_defers Tryz.func160, Tryz.ntmps160
 go_wp2_with (first | (go_at_call 178; refine HK.out.mono ?_; rintro e w' ⟨rfl, rfl⟩) | (go_at_call 120; refine HL.out.mono ?_; rintro e w' ⟨rfl, rfl⟩) | (go_at_call 122; refine HZ.out.mono ?_; rintro e w' ⟨rfl, w1, hm1, rfl⟩; have M1 := hid hm1; clear hm1))
 have hlt : b < (w.setCell ⟨b, 3, none⟩ (.int .i32 1)).heap.size := World.block_lt_of_cell? _ _ H2.out; have e2 : w1.cell? ⟨b, 2, none⟩ = some (.int .u32 0) := (M1.out.cell (p := ⟨b, 2, none⟩) hlt (fun h => h)).trans H2.out
 have e3 : w1.cell? ⟨b, 3, none⟩ = some (.int .i32 1) := (M1.out.cell (p := ⟨b, 3, none⟩) hlt (fun h => h)).trans H3.out
 have ef : ∀ o, w1.frozen? ⟨b, o, none⟩ = false := fun o => (M1.out.frozen (p := ⟨b, o, none⟩) hlt (fun h => h)).trans (F1.out o)
 refine leaves_cons (f := 112) (args := #[.pointer (some ⟨b, 2, none⟩), .bool true]) (by simp) (by simp [go_sem]) ?_
 refine (qNi ⟨b, 2, none⟩ (.int .u32 0) .returning _ ?_ (by simp [ef])).mono ?_
 ·exact (World.cell?_setCell_other _ ⟨b, 1, none⟩ ⟨b, 2, none⟩ _ (by simp)).trans e2
 rintro e u' w'' ⟨rfl, rfl, rfl⟩; refine leaves_cons (f := 179) (args := #[.pointer (some ⟨b, 3, none⟩)]) (by simp [settle]) (by simp [go_sem]) ?_
 refine (qLw ⟨b, 3, none⟩ _ _ ?_ (by simp [ef])).mono ?_
 ·refine (World.cell?_setCell_other _ ⟨b, 2, none⟩ ⟨b, 3, none⟩ _ (by simp)).trans ?_
  rw [World.cell?_drew]; exact (World.cell?_setCell_other _ ⟨b, 1, none⟩ ⟨b, 3, none⟩ _ (by simp)).trans e3
 rintro e u' w'' ⟨rfl, rfl, rfl⟩; simp only [Leaves, settle]; exact ⟨_, results_none rfl _ _ _, rfl, w1, M1.out, rfl⟩
theorem jKd {w : World} {b : Nat} {blank : ByteArray} {fv : Value} (ho : qWy w b true blank) : Calls Tryz.prog 121 #[.pointer (some ⟨b, 2, none⟩), fv] w fun e w' => e = .returned (.tuple #[]) /\ w = w' := by
 have HL := hid (qMu ho.2.1); clear ho; go_enter Tryz.func121, Tryz.ntmps121
 go_wp2_with (go_at_call 120; refine HL.out.mono ?_; rintro e w' ⟨rfl, rfl⟩)
 go_end0; exact ⟨rfl, rfl⟩
theorem jHo {w : World} {p b : Nat} {blank : ByteArray} (hp : w.cell? ⟨p, 0, none⟩ = some (.pointer (some ⟨b, 0, none⟩))) (ho : qWy w b false blank) :
  Calls Tryz.prog 121 #[.pointer (some ⟨b, 2, none⟩), .func (.func 122) #[] #[.pointer (some ⟨p, 0, none⟩)]] w fun e w' => e = .returned (.tuple #[]) ∧
   ∃ w1, Mod (fun _ => False) (w.setCell ⟨b, 3, none⟩ (.int .i32 1)) w1 /\ w' = ((w1.setCell ⟨b, 1, none⟩ (.string qCl)).drew.setCell ⟨b, 2, none⟩ (.int .u32 1)).setCell ⟨b, 3, none⟩ (.int .i32 0) := by
 have HL := hid (qIn ho.2.1); have HS := hid (jFa hp ho); clear ho hp; go_enter Tryz.func121, Tryz.ntmps121
 go_wp2_with (first | (go_at_call 120; refine HL.out.mono ?_; rintro e w' ⟨rfl, rfl⟩) | (go_at_call 160; refine HS.out.mono ?_; rintro e w' ⟨rfl, hq⟩; have Hq := hid hq; clear hq))
 go_end0; exact ⟨rfl, Hq.out⟩
def qCm (w : World) (b : Nat) (sa : Option Addr) (n cap : Nat) (blank : ByteArray) (done : Bool) (writes high left : Int) (off : Bool) : Prop :=
 w.heap[b]? = some (.cells #[.slice sa n cap, .string blank, .int .u32 (u32 done), .int .i32 0, .int .u32 0, .int .i64 writes, .int .i64 high, .int .i64 left, .int .u32 (u32 off)] 106 (0, 0)) /\ (done = true -> blank = qCl)
theorem qCm.once {w : World} {b : Nat} {sa : Option Addr} {n cap : Nat} {blank : ByteArray} {done : Bool} {writes high left : Int} {off : Bool} (h : qCm w b sa n cap blank done writes high left off) : qWy w b done blank :=
 ⟨by rw [cell_of_row _ _ _ _ _ _ h.1]; rfl, by rw [cell_of_row _ _ _ _ _ _ h.1]; rfl, by rw [cell_of_row _ _ _ _ _ _ h.1]; rfl, fun o => frozen_of_row _ _ _ _ _ h.1⟩
theorem jKe {w : World} {p b : Nat} {sa : Option Addr} {n cap : Nat} {blank : ByteArray} {done : Bool} {writes high left : Int} {off : Bool} (hp : w.cell? ⟨p, 0, none⟩ = some (.pointer (some ⟨b, 0, none⟩))) (h : qCm w b sa n cap blank done writes high left off) :
  Calls Tryz.prog 121 #[.pointer (some ⟨b, 2, none⟩), .func (.func 122) #[] #[.pointer (some ⟨p, 0, none⟩)]] w fun e w' => e = .returned (.tuple #[]) /\ qCm w' b sa n cap qCl true writes high left off /\ Mod (fun k => k = b) w w' := by
 cases done with
 | true =>
  obtain rfl := h.2 rfl; refine (jKd h.once).mono ?_; rintro e w' ⟨rfl, rfl⟩; exact ⟨rfl, h, Mod.refl _ _⟩
 | false =>
  refine (jHo hp h.once).mono ?_; rintro e w' ⟨rfl, w1, hm1, rfl⟩; have h0 := heap_setCell_same w b 3 _ 106 (.int .i32 1) h.1; have h1 := (hm1.block b (lth h0) (fun h => h)).trans h0
  have h2 := heap_setCell_same w1 b 1 _ 106 (.string qCl) h1; have h3 := heap_setCell_same (w1.setCell ⟨b, 1, none⟩ (.string qCl)).drew b 2 _ 106 (.int .u32 1) h2; have h4 := heap_setCell_same _ b 3 _ 106 (.int .i32 0) h3; refine ⟨rfl, ⟨h4, fun _ => rfl⟩, ?_⟩
  have m0 : Mod (fun k => k = b) w (w.setCell ⟨b, 3, none⟩ (.int .i32 1)) := Mod.setCell (S := fun k => k = b) (Mod.refl _ _) (fun _ => rfl) _
  have m1 : Mod (fun k => k = b) w w1 := m0.then hm1 (fun _ _ h => h.elim)
  exact Mod.setCell (S := fun k => k = b) (Mod.setCell (S := fun k => k = b) (Mod.setCell (S := fun k => k = b) m1 (fun _ => rfl) _).drew (fun _ => rfl) _) (fun _ => rfl) _
theorem qLt {w : World} {b : Nat} {sa : Option Addr} {n cap : Nat} {blank : ByteArray} {done : Bool} {writes high left : Int} {off : Bool} (h : qCm w b sa n cap blank done writes high left off) :
  Calls Tryz.prog 84 #[.pointer (some ⟨b, 0, none⟩)] w fun e w' => e = .returned (.string qCl) /\ qCm w' b sa n cap qCl true writes high left off /\ Mod (fun k => k = b) w w' := by
 have hbl := lth h.1; have hW : Mod (fun _ => False) w (w.alloc (.cells #[.pointer (some ⟨b, 0, none⟩)] 31)) := (Mod.refl _ _).alloc _
 have hmf : ∀ (fn : Fn) (first cap : Array Value) (w : World), (Instr.makeFunc fn first cap).run Tryz.prog w = .ok (.func fn first cap) w := fun _ _ _ _ => rfl
 have hN := heap_alloc_new w (.cells #[.pointer (some ⟨b, 0, none⟩)] 31); have hp : (w.alloc (.cells #[.pointer (some ⟨b, 0, none⟩)] 31)).cell? ⟨w.heap.size, 0, none⟩ = some (.pointer (some ⟨b, 0, none⟩)) := by rw [cell_of_row _ _ _ _ _ _ hN]; rfl
 have Hdo := hid (jKe (p := w.heap.size) (b := b) hp ⟨(hW.block b hbl (fun h => h)).trans h.1, h.2⟩)
 have HN := hid hN; have HW := hid hW; clear hN hp hW h; go_enter Tryz.func84, Tryz.ntmps84
 go_wp2_with fail
 refine Hdo.out.mono ?_; rintro e w1 ⟨rfl, hd, hm⟩; have k0 : w1.cell? ⟨w.heap.size, 0, none⟩ = some (.pointer (some ⟨b, 0, none⟩)) := by rw [cell_of_row _ _ _ _ _ _ ((hm.block w.heap.size (lth HN.out) (by omega)).trans HN.out)]; rfl
 have k1 := hd.once.1; have HD := hid hd; have HM := hid hm; clear hd hm; go_wp2
 go_ret; exact ⟨rfl, HD.out, (HW.out.mono fun _ _ h => h.elim).then HM.out (fun _ _ h => h)⟩
end
section
open Go Go.RowKit
structure Dsk where
 secs : List ByteArray
 writes : Int
 high : Int
 left : Int
 off : Bool
def qAp (w : World) (b : Nat) (sa : Option Addr) (D : Dsk) : Prop :=
 ∃ cap blank done, qCm w b sa D.secs.length cap blank done D.writes D.high D.left D.off /\ Own w 9 1 sa D.secs.length cap (D.secs.map .string) /\ ¬ blk sa b
def qBj (b : Nat) (sa : Option Addr) (k : Nat) : Prop := k = b \/ blk sa k
theorem qAp.lt {w : World} {b : Nat} {sa : Option Addr} {D : Dsk} (h : qAp w b sa D) : ∀ k, qBj b sa k -> k < w.heap.size := by
 obtain ⟨cap, blank, done, h1, h2, h3⟩ := h; rintro k (rfl | hk)
 ·exact lth h1.1
 ·exact h2.lt k hk
theorem qAp.mod {S : Nat -> Prop} {w w' : World} {b : Nat} {sa : Option Addr} {D : Dsk} (h : qAp w b sa D) (hm : Mod S w w') (hs : ∀ k, qBj b sa k -> ¬ S k) : qAp w' b sa D := by
 obtain ⟨cap, blank, done, h1, h2, h3⟩ := h; exact ⟨cap, blank, done, ⟨(hm.block b (lth h1.1) (hs b (Or.inl rfl))).trans h1.1, h1.2⟩, h2.mod hm (fun k hk => hs k (Or.inr hk)), h3⟩
theorem qAp.cells {w : World} {b : Nat} {sa : Option Addr} {D : Dsk} (h : qAp w b sa D) : ∃ cap, w.cell? ⟨b, 0, none⟩ = some (.slice sa D.secs.length cap) /\ w.cell? ⟨b, 5, none⟩ = some (.int .i64 D.writes) /\ w.cell? ⟨b, 6, none⟩ = some (.int .i64 D.high) /\ w.cell? ⟨b, 7, none⟩ = some (.int .i64 D.left) /\ w.cell? ⟨b, 8, none⟩ = some (.int .u32 (u32 D.off)) /\ (∀ o, w.frozen? ⟨b, o, none⟩ = false) /\ Own w 9 1 sa D.secs.length cap (D.secs.map .string) := by
 obtain ⟨cap, blank, done, h1, h2, h3⟩ := h; exact ⟨cap, by rw [cell_of_row _ _ _ _ _ _ h1.1]; rfl, by rw [cell_of_row _ _ _ _ _ _ h1.1]; rfl, by rw [cell_of_row _ _ _ _ _ _ h1.1]; rfl, by rw [cell_of_row _ _ _ _ _ _ h1.1]; rfl, by rw [cell_of_row _ _ _ _ _ _ h1.1]; rfl, fun o => frozen_of_row _ _ _ _ _ h1.1, h2⟩
theorem jJj {w : World} {b : Nat} {sa : Option Addr} {D : Dsk} (h : qAp w b sa D) : Calls Tryz.prog 56 #[.pointer (some ⟨b, 0, none⟩)] w fun e w' => e = .returned (.int .i64 D.secs.length) /\ w = w' := by
 obtain ⟨cap, h0, h5, h6, h7, h8, fz, _⟩ := h.cells; clear h; go_enter Tryz.func56, Tryz.ntmps56
 go_wp2
 go_ret; exact ⟨rfl, rfl⟩
def qBd (D : Dsk) (i : Int) : Int := if D.off then 12 else if i < 0 \/ D.secs.length <= i then 10 else 0
theorem qEk {w : World} {b : Nat} {sa : Option Addr} {D : Dsk} (h : qAp w b sa D) (i : Int) : Calls Tryz.prog 83 #[.pointer (some ⟨b, 0, none⟩), .int .i64 i] w fun e w' => e = .returned (.int .i64 (qBd D i)) /\ w = w' := by
 obtain ⟨cap, h0, h5, h6, h7, h8, fz, _⟩ := h.cells; have HL := hid (jDr D.off h8); clear h h5 h6 h7 h8 fz; cases ho : D.off with
 | true =>
  have e1 : qBd D i = 12 := by simp [qBd, ho]
  rw [e1]; rw [ho] at HL; clear ho; go_enter Tryz.func83, Tryz.ntmps83
  go_wp2_with (go_at_call 120; refine HL.out.mono ?_; rintro e w' ⟨rfl, rfl⟩)
  go_ret; exact ⟨rfl, rfl⟩
 | false =>
  rw [ho] at HL; by_cases hneg : i < 0
  ·have e1 : qBd D i = 10 := by simp [qBd, ho, hneg]
   have d1 : decide (i < 0) = true := by simpa using hneg
   rw [e1]; clear ho; go_enter Tryz.func83, Tryz.ntmps83
   go_wp2_with (go_at_call 120; refine HL.out.mono ?_; rintro e w' ⟨rfl, rfl⟩)
   go_ret; exact ⟨rfl, rfl⟩
  ·have d1 : decide (i < 0) = false := by simpa using hneg
   by_cases hbig : (D.secs.length : Int) <= i
   ·have e1 : qBd D i = 10 := by simp [qBd, ho, hbig]
    have d2 : decide ((D.secs.length : Int) <= i) = true := by simpa using hbig
    rw [e1]; clear ho; go_enter Tryz.func83, Tryz.ntmps83
    go_wp2_with (go_at_call 120; refine HL.out.mono ?_; rintro e w' ⟨rfl, rfl⟩)
    go_ret; exact ⟨rfl, rfl⟩
   ·have e1 : qBd D i = 0 := by simp [qBd, ho, hneg, hbig]
    have d2 : decide ((D.secs.length : Int) <= i) = false := by simpa using hbig
    rw [e1]; clear ho; go_enter Tryz.func83, Tryz.ntmps83
    go_wp2_with (go_at_call 120; refine HL.out.mono ?_; rintro e w' ⟨rfl, rfl⟩)
    go_ret; exact ⟨rfl, rfl⟩
end
end Go.Proofs.YtkinkgbmlhiakaaGreatDoor
