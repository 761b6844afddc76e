/- merged: Shelf Once Disk DiskW -/
import Derived.Shelf.Strings.Builder1
import Derived.Shelf.Strings.Builder2
import Derived.Shelf.Strings.Trim
import Derived.Shelf.Small.Utf8
import Derived.Shelf.Small.Bits
import Derived.Shelf.Small.Strs
import Derived.Shelf.Strings.BuilderF
import Derived.Shelf.Strings.BuilderK
import Derived.Shelf.Strings.Builder2Cap
import Derived.Shelf.Strconv.Itoa0
import Derived.Shelf.Strings.Search1
import Derived.Shelf.Strings.Search2
import Derived.Shelf.Strings.Search3
import Derived.Shelf.LaysM
import Derived.Shelf.Strings.Shaped
import Derived.Shelf.Strings.Prefix
import Derived.Shelf.Unicode.Decode
import Derived.Shelf.Strings.Runes
import Derived.Shelf.Strings.AsciiSet
import Derived.Shelf.Bits.Mul64
import Derived.Shelf.Strings.Repeat
import Derived.Shelf.Unicode.DecodeSlow
import Derived.Shelf.Unicode.DecodeAny
import Derived.Shelf.Unicode.DecodeLast
import Derived.Shelf.Strings.BuilderCap
import Derived.Ground.Names2Prog
import Derived.Shelf.Slices.ReverseS
import Derived.Shelf.Slices.Clone
import Derived.Shelf.Slices.Delete
import Derived.Shelf.Slices.Cells
import Derived.Shelf.Slices.Empties
import Derived.Ground.SlgnProg
import Derived.Shelf.SlicesE.Reverse
import Derived.Shelf.SlicesE.Delete
import Derived.Shelf.SlicesE.Clone
import Derived.Test.YtkinkgbmlhiakaaGreatDoorProg
import Derived.Test.YtkinkgbmlhiakaaGreatDoorNb01
import Derived.Deep.RegionWith
namespace Go.Proofs
open Go.Shelf
def Tryz.lays137_ren : Go.Shelf.Ren := ⟨fun | 137 => 92 | 217 => 127 | 266 => 167 | n => n, fun | 9 => 9 | 5 => 5 | 3 => 3 | n => n, fun | n => n⟩
theorem Tryz.lays137 : Go.Proofs.Lays.n137 Tryz.prog Tryz.lays137_ren := {
 mixed := by kernel_rfl
 f137 := Tryz.func92.trans (congrArg some (by kernel_rfl))
 f217 := Tryz.func127.trans (congrArg some (by kernel_rfl))
 f266 := Tryz.func167.trans (congrArg some (by kernel_rfl))
 t3 := Tryz.underlying3
 a3 := Tryz.isAgg3
 z3 := Tryz.sizeOf3
 v3 := Tryz.zeroValue3
 t5 := Tryz.underlying5
 a5 := Tryz.isAgg5
 z5 := Tryz.sizeOf5
 v5 := Tryz.zeroValue5
 t9 := Tryz.underlying9
 a9 := Tryz.isAgg9
 z9 := Tryz.sizeOf9
 v9 := Tryz.zeroValue9 }
open Go.RowKit in
theorem Tryz.strings_IndexByte (s : ByteArray) (c : Int) (w : World) :
  Calls Tryz.prog 92 #[.string s, .int .u8 c] w fun e w' => e = .returned (.int .i64 (Lib.indexByte s.data.toList c.toNat.toUInt8)) /\ w' = w := Any.strings_IndexByte Tryz.lays137 s c w
def Tryz.lays144_ren : Go.Shelf.Ren := ⟨fun | 144 => 81 | 143 => 117 | 219 => 157 | 217 => 127 | 225 => 166 | 224 => 165 | 267 => 177 | 266 => 167 | 314 => 185 | n => n, fun | 9 => 9 | 4 => 4 | 3 => 3 | 5 => 5 | 46 => 193 | 146 => 273 | 51 => 93 | n => n, fun | 1 => 2 | n => n⟩
theorem Tryz.lays144 : Go.Proofs.Lays.n144 Tryz.prog Tryz.lays144_ren := {
 mixed := by kernel_rfl
 f143 := Tryz.func117.trans (congrArg some (by kernel_rfl))
 f144 := Tryz.func81.trans (congrArg some (by kernel_rfl))
 f217 := Tryz.func127.trans (congrArg some (by kernel_rfl))
 f219 := Tryz.func157.trans (congrArg some (by kernel_rfl))
 f224 := Tryz.func165.trans (congrArg some (by kernel_rfl))
 f225 := Tryz.func166.trans (congrArg some (by kernel_rfl))
 f266 := Tryz.func167.trans (congrArg some (by kernel_rfl))
 f267 := Tryz.func177.trans (congrArg some (by kernel_rfl))
 f314 := Tryz.func185.trans (congrArg some (by kernel_rfl))
 t3 := Tryz.underlying3
 a3 := Tryz.isAgg3
 z3 := Tryz.sizeOf3
 v3 := Tryz.zeroValue3
 t4 := Tryz.underlying4
 a4 := Tryz.isAgg4
 z4 := Tryz.sizeOf4
 v4 := Tryz.zeroValue4
 t5 := Tryz.underlying5
 a5 := Tryz.isAgg5
 z5 := Tryz.sizeOf5
 v5 := Tryz.zeroValue5
 t9 := Tryz.underlying9
 a9 := Tryz.isAgg9
 z9 := Tryz.sizeOf9
 v9 := Tryz.zeroValue9
 t46 := Tryz.underlying193
 a46 := Tryz.isAgg193
 z46 := Tryz.sizeOf193
 v46 := Tryz.zeroValue193
 t51 := Tryz.underlying93
 a51 := Tryz.isAgg93
 z51 := Tryz.sizeOf93
 v51 := Tryz.zeroValue93
 t146 := Tryz.underlying273
 a146 := Tryz.isAgg273
 z146 := Tryz.sizeOf273
 v146 := Tryz.zeroValue273
 g1 := by kernel_rfl }
open Go.RowKit Go.Lib in
theorem Tryz.strings_Contains_one (s : ByteArray) (c : UInt8) (w : World) :
  Calls Tryz.prog 81 #[.string s, .string ⟨#[c]⟩] w fun e w' => e = .returned (.bool (decide (0 <= Lib.indexByte s.data.toList c))) /\ w' = w := Any.strings_Contains_one Tryz.lays144 s c w
def Tryz.lays99_ren : Go.Shelf.Ren := ⟨fun | 99 => 54 | 206 => 89 | n => n, fun | 9 => 9 | 4 => 4 | 3 => 3 | n => n, fun | n => n⟩
theorem Tryz.lays99 : Go.Proofs.Lays.n99 Tryz.prog Tryz.lays99_ren := {
 mixed := by kernel_rfl
 f99 := Tryz.func54.trans (congrArg some (by kernel_rfl))
 f206 := Tryz.func89.trans (congrArg some (by kernel_rfl))
 t3 := Tryz.underlying3
 a3 := Tryz.isAgg3
 z3 := Tryz.sizeOf3
 v3 := Tryz.zeroValue3
 t4 := Tryz.underlying4
 a4 := Tryz.isAgg4
 z4 := Tryz.sizeOf4
 v4 := Tryz.zeroValue4
 t9 := Tryz.underlying9
 a9 := Tryz.isAgg9
 z9 := Tryz.sizeOf9
 v9 := Tryz.zeroValue9 }
open Go.RowKit Go.Lib in
theorem Tryz.strings_HasPrefix (s p : ByteArray) (w : World) :
  Calls Tryz.prog 54 #[.string s, .string p] w fun e w' => e = .returned (.bool (Lib.hasPrefix s.data.toList p.data.toList)) /\ w' = w := Any.strings_HasPrefix Tryz.lays99 s p w
def Tryz.lays105_ren : Go.Shelf.Ren := ⟨fun | 105 => 123 | 212 => 161 | 99 => 54 | 165 => 162 | 166 => 115 | 170 => 163 | 169 => 108 | 263 => 180 | 264 => 181 | 206 => 89 | 240 => 141 | 241 => 182 | 276 => 171 | 277 => 188 | n => n, fun | 9 => 9 | 3 => 3 | 4 => 4 | 20 => 20 | 0 => 0 | 46 => 193 | 109 => 256 | 5 => 5 | 72 => 208 | 76 => 218 | 51 => 93 | 146 => 273 | 53 => 148 | 148 => 275 | 70 => 206 | 37 => 128 | 75 => 210 | 127 => 235 | 164 => 265 | 80 => 169 | n => n, fun | n => n⟩
theorem Tryz.lays105 : Go.Proofs.Lays.n105 Tryz.prog Tryz.lays105_ren := {
 mixed := by kernel_rfl
 f99 := Tryz.func54.trans (congrArg some (by kernel_rfl))
 f105 := Tryz.func123.trans (congrArg some (by kernel_rfl))
 f165 := Tryz.func162.trans (congrArg some (by kernel_rfl))
 f166 := Tryz.func115.trans (congrArg some (by kernel_rfl))
 f169 := Tryz.func108.trans (congrArg some (by kernel_rfl))
 f170 := Tryz.func163.trans (congrArg some (by kernel_rfl))
 f206 := Tryz.func89.trans (congrArg some (by kernel_rfl))
 f212 := Tryz.func161.trans (congrArg some (by kernel_rfl))
 f240 := Tryz.func141.trans (congrArg some (by kernel_rfl))
 f241 := Tryz.func182.trans (congrArg some (by kernel_rfl))
 f263 := Tryz.func180.trans (congrArg some (by kernel_rfl))
 f264 := Tryz.func181.trans (congrArg some (by kernel_rfl))
 f276 := Tryz.func171.trans (congrArg some (by kernel_rfl))
 f277 := Tryz.func188.trans (congrArg some (by kernel_rfl))
 t0 := Tryz.underlying0
 a0 := Tryz.isAgg0
 z0 := Tryz.sizeOf0
 v0 := Tryz.zeroValue0
 t3 := Tryz.underlying3
 a3 := Tryz.isAgg3
 z3 := Tryz.sizeOf3
 v3 := Tryz.zeroValue3
 t4 := Tryz.underlying4
 a4 := Tryz.isAgg4
 z4 := Tryz.sizeOf4
 v4 := Tryz.zeroValue4
 t5 := Tryz.underlying5
 a5 := Tryz.isAgg5
 z5 := Tryz.sizeOf5
 v5 := Tryz.zeroValue5
 t9 := Tryz.underlying9
 a9 := Tryz.isAgg9
 z9 := Tryz.sizeOf9
 v9 := Tryz.zeroValue9
 t20 := Tryz.underlying20
 a20 := Tryz.isAgg20
 z20 := Tryz.sizeOf20
 v20 := Tryz.zeroValue20
 t37 := Tryz.underlying128
 a37 := Tryz.isAgg128
 z37 := Tryz.sizeOf128
 v37 := Tryz.zeroValue128
 t46 := Tryz.underlying193
 a46 := Tryz.isAgg193
 z46 := Tryz.sizeOf193
 v46 := Tryz.zeroValue193
 t51 := Tryz.underlying93
 a51 := Tryz.isAgg93
 z51 := Tryz.sizeOf93
 v51 := Tryz.zeroValue93
 t53 := Tryz.underlying148
 a53 := Tryz.isAgg148
 z53 := Tryz.sizeOf148
 v53 := Tryz.zeroValue148
 t70 := Tryz.underlying206
 a70 := Tryz.isAgg206
 z70 := Tryz.sizeOf206
 v70 := Tryz.zeroValue206
 t72 := Tryz.underlying208
 a72 := Tryz.isAgg208
 z72 := Tryz.sizeOf208
 v72 := Tryz.zeroValue208
 t75 := Tryz.underlying210
 a75 := Tryz.isAgg210
 z75 := Tryz.sizeOf210
 v75 := Tryz.zeroValue210
 t76 := Tryz.underlying218
 a76 := Tryz.isAgg218
 z76 := Tryz.sizeOf218
 v76 := Tryz.zeroValue218
 t109 := Tryz.underlying256
 a109 := Tryz.isAgg256
 z109 := Tryz.sizeOf256
 v109 := Tryz.zeroValue256
 t127 := Tryz.underlying235
 a127 := Tryz.isAgg235
 z127 := Tryz.sizeOf235
 v127 := Tryz.zeroValue235
 t146 := Tryz.underlying273
 a146 := Tryz.isAgg273
 z146 := Tryz.sizeOf273
 v146 := Tryz.zeroValue273
 t148 := Tryz.underlying275
 a148 := Tryz.isAgg275
 z148 := Tryz.sizeOf275
 v148 := Tryz.zeroValue275
 t164 := Tryz.underlying265
 a164 := Tryz.isAgg265
 z164 := Tryz.sizeOf265
 v164 := Tryz.zeroValue265 }
theorem Tryz.Builder_Extra_105 : Builder.Extra Tryz.prog Tryz.lays105_ren := {
 sizeBuilder := by kernel_rfl
 liesBuilder := by kernel_rfl
 t5 := Tryz.underlying5
 a5 := Tryz.isAgg5
 z5 := Tryz.sizeOf5
 v5 := Tryz.zeroValue5
 infoByte := by kernel_rfl
 cellsByte := by kernel_rfl
 sizeByte := by kernel_rfl
 neB5 := by decide }
open Go.RowKit Go.Lib in
theorem Tryz.strings_Repeat (s : ByteArray) (c : Nat) (w : World) (hc : c <= 9223372036854775807) (hlen : s.size * c <= 140737488355328) :
  Calls Tryz.prog 123 #[.string s, .int .i64 c] w fun e w' => e = .returned (.string ⟨(Lib.repeatL s.data.toList c).toArray⟩) /\ Below w.heap.size w w' := Any.strings_Repeat Tryz.lays105 Tryz.Builder_Extra_105 s c w hc hlen
def Tryz.laysNm215_ren : Go.Shelf.Ren := ⟨fun | 15 => 128 | n => n, fun | 22 => 56 | 3 => 3 | 4 => 4 | n => n, fun | n => n⟩
theorem Tryz.laysNm215 : Go.Proofs.Lays2.n15 Tryz.prog Tryz.laysNm215_ren := {
 mixed := by kernel_rfl
 f15 := Tryz.func128.trans (congrArg some (by kernel_rfl))
 t3 := Tryz.underlying3
 a3 := Tryz.isAgg3
 z3 := Tryz.sizeOf3
 v3 := Tryz.zeroValue3
 t4 := Tryz.underlying4
 a4 := Tryz.isAgg4
 z4 := Tryz.sizeOf4
 v4 := Tryz.zeroValue4
 t22 := Tryz.underlying56
 a22 := Tryz.isAgg56
 z22 := Tryz.sizeOf56
 v22 := Tryz.zeroValue56
 i3 := by kernel_rfl }
open Go.RowKit Go.Lib in
theorem Tryz.slices_Clone_int (b off n c : Nat) (zs : List Int) (w : World) (hz : n <= zs.length) (hbig : n * 8 <= 140737488355328) (hc : ∀ j, j < zs.length -> w.cell? ⟨b, off + j, none⟩ = some (.int .i64 (zs.getD j 0))) :
  Calls Tryz.prog 128 #[.slice (some ⟨b, off, none⟩) n c] w fun e w' => ∃ v', e = .returned v' /\ w'.ownsRow w.heap.size 3 1 v' n ((zs.take n).map (Value.int .i64)) /\ v' ≠ .slice none 0 0 /\ Below w.heap.size w w' := Any.slices_Clone_int Tryz.laysNm215 b off n c zs w hz hbig hc
open Go.RowKit Go.Lib in
theorem Tryz.slices_Clone_int_nil (n c : Nat) (w : World) :
  Calls Tryz.prog 128 #[.slice none n c] w fun e w' => e = .returned (.slice none 0 0) /\ w' = w := Any.slices_Clone_int_nil Tryz.laysNm215 n c w
def Tryz.laysNm216_ren : Go.Shelf.Ren := ⟨fun | 16 => 98 | n => n, fun | 24 => 68 | 9 => 9 | 4 => 4 | n => n, fun | n => n⟩
theorem Tryz.laysNm216 : Go.Proofs.Lays2.n16 Tryz.prog Tryz.laysNm216_ren := {
 mixed := by kernel_rfl
 f16 := Tryz.func98.trans (congrArg some (by kernel_rfl))
 t4 := Tryz.underlying4
 a4 := Tryz.isAgg4
 z4 := Tryz.sizeOf4
 v4 := Tryz.zeroValue4
 t9 := Tryz.underlying9
 a9 := Tryz.isAgg9
 z9 := Tryz.sizeOf9
 v9 := Tryz.zeroValue9
 t24 := Tryz.underlying68
 a24 := Tryz.isAgg68
 z24 := Tryz.sizeOf68
 v24 := Tryz.zeroValue68
 i9 := by kernel_rfl }
open Go.RowKit Go.Lib in
theorem Tryz.slices_Clone_string (b off n c : Nat) (zs : List ByteArray) (w : World) (hz : n <= zs.length) (hbig : n * 16 <= 140737488355328) (hc : ∀ j, j < zs.length -> w.cell? ⟨b, off + j, none⟩ = some (.string (zs.getD j ByteArray.empty))) :
  Calls Tryz.prog 98 #[.slice (some ⟨b, off, none⟩) n c] w fun e w' => ∃ v', e = .returned v' /\ w'.ownsRow w.heap.size 9 1 v' n ((zs.take n).map (Value.string)) /\ v' ≠ .slice none 0 0 /\ Below w.heap.size w w' := Any.slices_Clone_string Tryz.laysNm216 b off n c zs w hz hbig hc
open Go.RowKit Go.Lib in
theorem Tryz.slices_Clone_string_nil (n c : Nat) (w : World) :
  Calls Tryz.prog 98 #[.slice none n c] w fun e w' => e = .returned (.slice none 0 0) /\ w' = w := Any.slices_Clone_string_nil Tryz.laysNm216 n c w
open Go.RowKit Go.Lib in
theorem Tryz.slices_Clone_int_zero (a : Addr) (c : Nat) (w : World) :
  Calls Tryz.prog 128 #[.slice (some a) 0 c] w fun e w' => ∃ v', e = .returned v' /\ w'.ownsRow w.heap.size 3 1 v' 0 [] /\ v' ≠ .slice none 0 0 /\ Below w.heap.size w w' := Any.slices_Clone_int_zero Tryz.laysNm215 a c w
open Go.RowKit Go.Lib in
theorem Tryz.slices_Clone_string_zero (a : Addr) (c : Nat) (w : World) :
  Calls Tryz.prog 98 #[.slice (some a) 0 c] w fun e w' => ∃ v', e = .returned v' /\ w'.ownsRow w.heap.size 9 1 v' 0 [] /\ v' ≠ .slice none 0 0 /\ Below w.heap.size w w' := Any.slices_Clone_string_zero Tryz.laysNm216 a c w
def Tryz.laysNm224_ren : Go.Shelf.Ren := ⟨fun | 24 => 99 | n => n, fun | 24 => 68 | 9 => 9 | 3 => 3 | 4 => 4 | 0 => 0 | n => n, fun | n => n⟩
theorem Tryz.laysNm224 : Go.Proofs.Lays2.n24 Tryz.prog Tryz.laysNm224_ren := {
 mixed := by kernel_rfl
 f24 := Tryz.func99.trans (congrArg some (by kernel_rfl))
 t0 := Tryz.underlying0
 a0 := Tryz.isAgg0
 z0 := Tryz.sizeOf0
 v0 := Tryz.zeroValue0
 t3 := Tryz.underlying3
 a3 := Tryz.isAgg3
 z3 := Tryz.sizeOf3
 v3 := Tryz.zeroValue3
 t4 := Tryz.underlying4
 a4 := Tryz.isAgg4
 z4 := Tryz.sizeOf4
 v4 := Tryz.zeroValue4
 t9 := Tryz.underlying9
 a9 := Tryz.isAgg9
 z9 := Tryz.sizeOf9
 v9 := Tryz.zeroValue9
 t24 := Tryz.underlying68
 a24 := Tryz.isAgg68
 z24 := Tryz.sizeOf68
 v24 := Tryz.zeroValue68
 i9 := by kernel_rfl }
open Go.RowKit Go.Lib Go.Sort in
theorem Tryz.slices_Delete_string_cells (b off n c i j : Nat) (Sx : Nat -> ByteArray) (w : World) (hcap : n <= c) (hm : c <= 9223372036854775807) (hij : i <= j) (hj : j <= n) (hc : ∀ i, i < n -> w.cell? ⟨b, off + i, none⟩ = some (.string (Sx i))) (hf : ∀ j, j < n -> w.frozen? ⟨b, off + j, none⟩ = false) :
  Calls Tryz.prog 99 #[.slice (some ⟨b, off, none⟩) n c, .int .i64 i, .int .i64 j] w fun e w' => e = .returned (.slice (some ⟨b, off, none⟩) (n - (j - i)) c) /\ ∃ q, w' = (w.drewN q).setCells b off (((Lib.strsOf Sx n).take i ++ (Lib.strsOf Sx n).drop j ++ List.replicate (j - i) []).map encStr) := Any.slices_Delete_string_cells Tryz.laysNm224 b off n c i j Sx w hcap hm hij hj hc hf
end Go.Proofs
namespace Go.Proofs.YtkinkgbmlhiakaaGreatDoor
section
open Go Go.RowKit
def qBz : ByteArray := ⟨(Lib.repeatL [0] 1024).toArray⟩
set_option maxRecDepth 100000
set_option maxHeartbeats 1600000 in
theorem qKa (a : Addr) (u : FrameMode) (w : World) (hc : w.cell? a = some (.int .i32 1)) (hz : w.frozen? a = false) :
  CallsD Tryz.prog 179 #[.pointer (some a)] u w fun e u' w' => u' = u /\ (e = .returned (.tuple #[]) /\ w' = w.setCell a (.int .i32 0)) := by
 have hd := qPh; have he := qSx; have hr := jHw; have hadd := run_call_add (P := Tryz.prog) Tryz.func195 (by kernel_rfl) (by kernel_rfl) (by kernel_rfl) .i32 (by kernel_rfl) (y := -1) (s := 0) hc hz (by simp [go_sem]; rfl)
 have hcv := run_convert_to_unsafe (P := Tryz.prog) (src := 284) (dst := 265) Tryz.underlying284 Tryz.underlying265 (by kernel_rfl) hc
 go_enter_d Tryz.func179, Tryz.ntmps179
 go_wp2
 go_end0; go_wp2
 go_end0; exact ⟨rfl, rfl⟩
set_option maxHeartbeats 1600000 in
theorem qYo (a : Addr) (w : World) (hc : w.cell? a = some (.int .i32 0)) (hz : w.frozen? a = false) :
  Calls Tryz.prog 178 #[.pointer (some a)] w fun e w' => e = .returned (.tuple #[]) /\ w' = w.setCell a (.int .i32 1) := by
 have hd := qPh; have he := qSx; have ha := qYa; have hcas := run_call_cas_hit (P := Tryz.prog) Tryz.func190 (by kernel_rfl) (by kernel_rfl) (by kernel_rfl) .i32 (by kernel_rfl) (y := 1) hc hz
 have hc' : (w.setCell a (.int .i32 1)).cell? a = some (.int .i32 1) := World.cell?_setCell_same w a _ hc; have hcv := run_convert_to_unsafe (P := Tryz.prog) (src := 284) (dst := 265) Tryz.underlying284 Tryz.underlying265 (by kernel_rfl) hc'
 go_enter Tryz.func178, Tryz.ntmps178
 go_wp2
 first | go_end0 | (simp only [Exit.inBlock, Exit.then]; refine bodyPost_ret (results_none rfl _ _ _) rfl ?_) | refine bodyPost_ret (results_none rfl _ _ _) rfl ?_
 go_wp2
 go_end0; exact ⟨rfl, rfl⟩
theorem jAy {w : World} {p b : Nat} {u : Value} (hp : w.cell? ⟨p, 0, none⟩ = some (.pointer (some ⟨b, 0, none⟩))) (h1 : w.cell? ⟨b, 1, none⟩ = some u) (f1 : w.frozen? ⟨b, 1, none⟩ = false) :
  Calls Tryz.prog 122 #[.pointer (some ⟨p, 0, none⟩)] w fun e w' => e = .returned (.tuple #[]) /\ ∃ w1, Mod (fun _ => False) w w1 /\ w' = w1.setCell ⟨b, 1, none⟩ (.string qBz) := by
 have Hl : Hid (∀ w1, Below w.drew.heap.size w.drew w1 -> w1.cell? ⟨p, 0, none⟩ = some (.pointer (some ⟨b, 0, none⟩)) /\ w1.cell? ⟨b, 1, none⟩ = some u /\ w1.frozen? ⟨b, 1, none⟩ = false) := fun w1 hb =>
  ⟨(hb.cell (p := ⟨p, 0, none⟩) (World.block_lt_of_cell? _ _ hp)).trans hp, (hb.cell (p := ⟨b, 1, none⟩) (World.block_lt_of_cell? _ _ h1)).trans h1, (hb.frozen (p := ⟨b, 1, none⟩) (World.block_lt_of_cell? _ _ h1)).trans f1⟩
 go_enter Tryz.func122, Tryz.ntmps122
 go_wp2
 go_region_with ((go_at_call 123; refine (Tryz.strings_Repeat ⟨#[0]⟩ 1024 _ (by decide) (by decide)).mono ?_; rintro e w1 ⟨rfl, hb⟩; have Hb := hid hb; obtain ⟨k0, k1, k2⟩ := Hl.out w1 hb; clear hb))
 all_goals
  go_end0; refine ⟨rfl, w1, ?_, rfl⟩; have hb := Hb.out; exact ⟨hb.os, hb.tape, hb.output, hb.size, fun k hk _ => hb.block k hk⟩
def jAx (w : World) (b : Nat) (done : Bool) (blank : ByteArray) : Prop :=
 w.cell? ⟨b, 1, none⟩ = some (.string blank) /\ w.cell? ⟨b, 2, none⟩ = some (.int .u32 (u32 done)) /\ w.cell? ⟨b, 3, none⟩ = some (.int .i32 0) /\ ∀ o, w.frozen? ⟨b, o, none⟩ = false
set_option maxHeartbeats 1600000 in
theorem jBs {w : World} {p b : Nat} {blank : ByteArray} (hp : w.cell? ⟨p, 0, none⟩ = some (.pointer (some ⟨b, 0, none⟩))) (ho : jAx w b false blank) :
  Calls Tryz.prog 160 #[.pointer (some ⟨b, 2, none⟩), .func (.func 122) #[] #[.pointer (some ⟨p, 0, none⟩)]] w fun e w' => e = .returned (.tuple #[]) ∧
   ∃ w1, Mod (fun _ => False) (w.setCell ⟨b, 3, none⟩ (.int .i32 1)) w1 /\ w' = ((w1.setCell ⟨b, 1, none⟩ (.string qBz)).drew.setCell ⟨b, 2, none⟩ (.int .u32 1)).setCell ⟨b, 3, none⟩ (.int .i32 0) := by
 obtain ⟨h1, h2, h3, fz⟩ := ho; have hl := qHf (w := w.setCell ⟨b, 3, none⟩ (.int .i32 1)) (b := b) (o := 2) ((World.cell?_setCell_other _ ⟨b, 3, none⟩ ⟨b, 2, none⟩ _ (by simp)).trans h2)
 have hp1 : (w.setCell ⟨b, 3, none⟩ (.int .i32 1)).cell? ⟨p, 0, none⟩ = some (.pointer (some ⟨b, 0, none⟩)) := (World.cell?_setCell_other _ ⟨b, 3, none⟩ ⟨p, 0, none⟩ _ (by simp)).trans hp
 have h11 : (w.setCell ⟨b, 3, none⟩ (.int .i32 1)).cell? ⟨b, 1, none⟩ = some (.string blank) := (World.cell?_setCell_other _ ⟨b, 3, none⟩ ⟨b, 1, none⟩ _ (by simp)).trans h1
 have h21 : (w.setCell ⟨b, 3, none⟩ (.int .i32 1)).cell? ⟨b, 2, none⟩ = some (.int .u32 0) := (World.cell?_setCell_other _ ⟨b, 3, none⟩ ⟨b, 2, none⟩ _ (by simp)).trans h2
 have h31 : (w.setCell ⟨b, 3, none⟩ (.int .i32 1)).cell? ⟨b, 3, none⟩ = some (.int .i32 1) := World.cell?_setCell_same w _ _ h3; have fz1 : ∀ o, (w.setCell ⟨b, 3, none⟩ (.int .i32 1)).frozen? ⟨b, o, none⟩ = false := fun o => by rw [World.frozen?_setCell]; exact fz o
 have HL := hid hl; have HZ := hid (jAy hp1 h11 (fz1 1)); have HK := hid (qYo ⟨b, 3, none⟩ w h3 (fz 3)); have H2 := hid h21; have H3 := hid h31; have F1 := hid fz1; clear hl hp1 h11 h21 h31 fz1 hp h1 h2 h3 fz; go_enter_defers Tryz.func160, Tryz.ntmps160
 go_wp2_with (first | (go_at_call 178; refine HK.out.mono ?_; rintro e w' ⟨rfl, rfl⟩) | (go_at_call 120; refine HL.out.mono ?_; rintro e w' ⟨rfl, rfl⟩) | (go_at_call 122; refine HZ.out.mono ?_; rintro e w' ⟨rfl, w1, hm1, rfl⟩; have M1 := hid hm1; clear hm1))
 have hlt : b < (w.setCell ⟨b, 3, none⟩ (.int .i32 1)).heap.size := World.block_lt_of_cell? _ _ H2.out; have e2 : w1.cell? ⟨b, 2, none⟩ = some (.int .u32 0) := (M1.out.cell (p := ⟨b, 2, none⟩) hlt (fun h => h)).trans H2.out
 have e3 : w1.cell? ⟨b, 3, none⟩ = some (.int .i32 1) := (M1.out.cell (p := ⟨b, 3, none⟩) hlt (fun h => h)).trans H3.out
 have ef : ∀ o, w1.frozen? ⟨b, o, none⟩ = false := fun o => (M1.out.frozen (p := ⟨b, o, none⟩) hlt (fun h => h)).trans (F1.out o)
 refine leaves_cons (f := 112) (args := #[.pointer (some ⟨b, 2, none⟩), .bool true]) (by simp) (by simp [go_sem]) ?_
 refine (qLm ⟨b, 2, none⟩ (.int .u32 0) .returning _ ?_ (by simp [ef])).mono ?_
 ·exact (World.cell?_setCell_other _ ⟨b, 1, none⟩ ⟨b, 2, none⟩ _ (by simp)).trans e2
 rintro e u' w'' ⟨rfl, rfl, rfl⟩; refine leaves_cons (f := 179) (args := #[.pointer (some ⟨b, 3, none⟩)]) (by simp [settle]) (by simp [go_sem]) ?_
 refine (qKa ⟨b, 3, none⟩ _ _ ?_ (by simp [ef])).mono ?_
 ·refine (World.cell?_setCell_other _ ⟨b, 2, none⟩ ⟨b, 3, none⟩ _ (by simp)).trans ?_
  rw [World.cell?_drew]; exact (World.cell?_setCell_other _ ⟨b, 1, none⟩ ⟨b, 3, none⟩ _ (by simp)).trans e3
 rintro e u' w'' ⟨rfl, rfl, rfl⟩; simp only [Leaves, settle]; exact ⟨_, results_none rfl _ _ _, rfl, w1, M1.out, rfl⟩
theorem jGl {w : World} {b : Nat} {blank : ByteArray} {fv : Value} (ho : jAx w b true blank) : Calls Tryz.prog 121 #[.pointer (some ⟨b, 2, none⟩), fv] w fun e w' => e = .returned (.tuple #[]) /\ w = w' := by
 have HL := hid (qLc ho.2.1); clear ho; go_enter Tryz.func121, Tryz.ntmps121
 go_wp2_with (go_at_call 120; refine HL.out.mono ?_; rintro e w' ⟨rfl, rfl⟩)
 go_end0; exact ⟨rfl, rfl⟩
theorem jDy {w : World} {p b : Nat} {blank : ByteArray} (hp : w.cell? ⟨p, 0, none⟩ = some (.pointer (some ⟨b, 0, none⟩))) (ho : jAx w b false blank) :
  Calls Tryz.prog 121 #[.pointer (some ⟨b, 2, none⟩), .func (.func 122) #[] #[.pointer (some ⟨p, 0, none⟩)]] w fun e w' => e = .returned (.tuple #[]) ∧
   ∃ w1, Mod (fun _ => False) (w.setCell ⟨b, 3, none⟩ (.int .i32 1)) w1 /\ w' = ((w1.setCell ⟨b, 1, none⟩ (.string qBz)).drew.setCell ⟨b, 2, none⟩ (.int .u32 1)).setCell ⟨b, 3, none⟩ (.int .i32 0) := by
 have HL := hid (qHf ho.2.1); have HS := hid (jBs hp ho); clear ho hp; go_enter Tryz.func121, Tryz.ntmps121
 go_wp2_with (first | (go_at_call 120; refine HL.out.mono ?_; rintro e w' ⟨rfl, rfl⟩) | (go_at_call 160; refine HS.out.mono ?_; rintro e w' ⟨rfl, hq⟩; have Hq := hid hq; clear hq))
 go_end0; exact ⟨rfl, Hq.out⟩
def qCq (w : World) (b : Nat) (sa : Option Addr) (n cap : Nat) (blank : ByteArray) (done : Bool) (writes high left : Int) (off : Bool) : Prop :=
 w.heap[b]? = some (.cells #[.slice sa n cap, .string blank, .int .u32 (u32 done), .int .i32 0, .int .u32 0, .int .i64 writes, .int .i64 high, .int .i64 left, .int .u32 (u32 off)] 106 (0, 0)) /\ (done = true -> blank = qBz)
theorem jGm {w : World} {p b : Nat} {sa : Option Addr} {n cap : Nat} {blank : ByteArray} {done : Bool} {writes high left : Int} {off : Bool} (hp : w.cell? ⟨p, 0, none⟩ = some (.pointer (some ⟨b, 0, none⟩))) (h : qCq w b sa n cap blank done writes high left off) :
  Calls Tryz.prog 121 #[.pointer (some ⟨b, 2, none⟩), .func (.func 122) #[] #[.pointer (some ⟨p, 0, none⟩)]] w fun e w' => e = .returned (.tuple #[]) /\ qCq w' b sa n cap qBz true writes high left off /\ Mod (fun k => k = b) w w' := by
 cases done with
 | true =>
  obtain rfl := h.2 rfl; refine (jGl h.once).mono ?_; rintro e w' ⟨rfl, rfl⟩; exact ⟨rfl, h, Mod.refl _ _⟩
 | false =>
  refine (jDy hp h.once).mono ?_; rintro e w' ⟨rfl, w1, hm1, rfl⟩; have h0 := heap_setCell_same w b 3 _ 106 (.int .i32 1) h.1; have h1 := (hm1.block b (lth h0) (fun h => h)).trans h0
  have h2 := heap_setCell_same w1 b 1 _ 106 (.string qBz) h1; have h3 := heap_setCell_same (w1.setCell ⟨b, 1, none⟩ (.string qBz)).drew b 2 _ 106 (.int .u32 1) h2; have h4 := heap_setCell_same _ b 3 _ 106 (.int .i32 0) h3; refine ⟨rfl, ⟨h4, fun _ => rfl⟩, ?_⟩
  have m0 : Mod (fun k => k = b) w (w.setCell ⟨b, 3, none⟩ (.int .i32 1)) := Mod.setCell (S := fun k => k = b) (Mod.refl _ _) (fun _ => rfl) _
  have m1 : Mod (fun k => k = b) w w1 := m0.then hm1 (fun _ _ h => h.elim)
  exact Mod.setCell (S := fun k => k = b) (Mod.setCell (S := fun k => k = b) (Mod.setCell (S := fun k => k = b) m1 (fun _ => rfl) _).drew (fun _ => rfl) _) (fun _ => rfl) _
theorem qJx {w : World} {b : Nat} {sa : Option Addr} {n cap : Nat} {blank : ByteArray} {done : Bool} {writes high left : Int} {off : Bool} (h : qCq w b sa n cap blank done writes high left off) :
  Calls Tryz.prog 84 #[.pointer (some ⟨b, 0, none⟩)] w fun e w' => e = .returned (.string qBz) /\ qCq w' b sa n cap qBz true writes high left off /\ Mod (fun k => k = b) w w' := by
 have hbl := lth h.1; have hW : Mod (fun _ => False) w (w.alloc (.cells #[.pointer (some ⟨b, 0, none⟩)] 31)) := (Mod.refl _ _).alloc _
 have hmf : ∀ (fn : Fn) (first cap : Array Value) (w : World), (Instr.makeFunc fn first cap).run Tryz.prog w = .ok (.func fn first cap) w := fun _ _ _ _ => rfl
 have hN := heap_alloc_new w (.cells #[.pointer (some ⟨b, 0, none⟩)] 31); have hp : (w.alloc (.cells #[.pointer (some ⟨b, 0, none⟩)] 31)).cell? ⟨w.heap.size, 0, none⟩ = some (.pointer (some ⟨b, 0, none⟩)) := by rw [cell_of_row _ _ _ _ _ _ hN]; rfl
 have Hdo := hid (jGm (p := w.heap.size) (b := b) hp ⟨(hW.block b hbl (fun h => h)).trans h.1, h.2⟩)
 have HN := hid hN; have HW := hid hW; clear hN hp hW h; go_enter Tryz.func84, Tryz.ntmps84
 go_wp2_with fail
 refine Hdo.out.mono ?_; rintro e w1 ⟨rfl, hd, hm⟩; have k0 : w1.cell? ⟨w.heap.size, 0, none⟩ = some (.pointer (some ⟨b, 0, none⟩)) := by rw [cell_of_row _ _ _ _ _ _ ((hm.block w.heap.size (lth HN.out) (by omega)).trans HN.out)]; rfl
 have k1 := hd.once.1; have HD := hid hd; have HM := hid hm; clear hd hm; go_wp2
 go_ret; exact ⟨rfl, HD.out, (HW.out.mono fun _ _ h => h.elim).then HM.out (fun _ _ h => h)⟩
end
section
open Go Go.RowKit
structure Dsk where
 secs : List ByteArray
 writes : Int
 high : Int
 left : Int
 off : Bool
def qAr (w : World) (b : Nat) (sa : Option Addr) (D : Dsk) : Prop :=
 ∃ cap blank done, qCq w b sa D.secs.length cap blank done D.writes D.high D.left D.off /\ Own w 9 1 sa D.secs.length cap (D.secs.map .string) /\ ¬ blk sa b
def qBg (b : Nat) (sa : Option Addr) (k : Nat) : Prop := k = b \/ blk sa k
theorem jFv {w : World} {b : Nat} {sa : Option Addr} {D : Dsk} (h : qAr w b sa D) : Calls Tryz.prog 56 #[.pointer (some ⟨b, 0, none⟩)] w fun e w' => e = .returned (.int .i64 D.secs.length) /\ w = w' := by
 obtain ⟨cap, h0, h5, h6, h7, h8, fz, _⟩ := h.cells; clear h; go_enter Tryz.func56, Tryz.ntmps56
 go_wp2
 go_ret; exact ⟨rfl, rfl⟩
def qBc (D : Dsk) (i : Int) : Int := if D.off then 12 else if i < 0 \/ D.secs.length <= i then 10 else 0
theorem qDo {w : World} {b : Nat} {sa : Option Addr} {D : Dsk} (h : qAr w b sa D) (i : Int) : Calls Tryz.prog 83 #[.pointer (some ⟨b, 0, none⟩), .int .i64 i] w fun e w' => e = .returned (.int .i64 (qBc D i)) /\ w = w' := by
 obtain ⟨cap, h0, h5, h6, h7, h8, fz, _⟩ := h.cells; have HL := hid (jAl D.off h8); clear h h5 h6 h7 h8 fz; cases ho : D.off with
 | true =>
  have e1 : qBc D i = 12 := by simp [qBc, ho]
  rw [e1]; rw [ho] at HL; clear ho; go_enter Tryz.func83, Tryz.ntmps83
  go_wp2_with (go_at_call 120; refine HL.out.mono ?_; rintro e w' ⟨rfl, rfl⟩)
  go_ret; exact ⟨rfl, rfl⟩
 | false =>
  rw [ho] at HL; by_cases hneg : i < 0
  ·have e1 : qBc D i = 10 := by simp [qBc, ho, hneg]
   have d1 : decide (i < 0) = true := by simpa using hneg
   rw [e1]; clear ho; go_enter Tryz.func83, Tryz.ntmps83
   go_wp2_with (go_at_call 120; refine HL.out.mono ?_; rintro e w' ⟨rfl, rfl⟩)
   go_ret; exact ⟨rfl, rfl⟩
  ·have d1 : decide (i < 0) = false := by simpa using hneg
   by_cases hbig : (D.secs.length : Int) <= i
   ·have e1 : qBc D i = 10 := by simp [qBc, ho, hbig]
    have d2 : decide ((D.secs.length : Int) <= i) = true := by simpa using hbig
    rw [e1]; clear ho; go_enter Tryz.func83, Tryz.ntmps83
    go_wp2_with (go_at_call 120; refine HL.out.mono ?_; rintro e w' ⟨rfl, rfl⟩)
    go_ret; exact ⟨rfl, rfl⟩
   ·have e1 : qBc D i = 0 := by simp [qBc, ho, hneg, hbig]
    have d2 : decide ((D.secs.length : Int) <= i) = false := by simpa using hbig
    rw [e1]; clear ho; go_enter Tryz.func83, Tryz.ntmps83
    go_wp2_with (go_at_call 120; refine HL.out.mono ?_; rintro e w' ⟨rfl, rfl⟩)
    go_ret; exact ⟨rfl, rfl⟩
end
section
open Go Go.RowKit
theorem qQl {w : World} {b : Nat} {sa : Option Addr} {D : Dsk} (h : qAr w b sa D) (i : Int) (s : ByteArray) (hr : qBc D i ≠ 0) : Calls Tryz.prog 71 #[.pointer (some ⟨b, 0, none⟩), .int .i64 i, .string s] w fun e w' => e = .returned (.int .i64 (qBc D i)) /\ w = w' := by
 have HR := hid (qDo h i); generalize qBc D i = r at *; have e1 : (r != 0) = true := by simpa using hr
 clear h hr; go_enter Tryz.func71, Tryz.ntmps71
 go_wp2_with (go_at_call 83; refine HR.out.mono ?_; rintro e w' ⟨rfl, rfl⟩)
 go_ret; exact ⟨rfl, rfl⟩
theorem qUi {w : World} {b : Nat} {sa : Option Addr} {D : Dsk} (h : qAr w b sa D) (i : Int) (s : ByteArray) (hr : qBc D i = 0) (hs : 1024 < s.size) (hm : s.size <= maxLen) : Calls Tryz.prog 71 #[.pointer (some ⟨b, 0, none⟩), .int .i64 i, .string s] w fun e w' => e = .returned (.int .i64 11) /\ w = w' := by
 have HR := hid (qDo h i); rw [hr] at HR; unfold maxLen at hm; clear h hr; go_enter Tryz.func71, Tryz.ntmps71
 go_wp2_with (go_at_call 83; refine HR.out.mono ?_; rintro e w' ⟨rfl, rfl⟩)
 go_ret; exact ⟨rfl, rfl⟩
set_option maxRecDepth 100000
theorem qWr {w : World} {b : Nat} {sa : Option Addr} {D : Dsk} (h : qAr w b sa D) (i : Int) (s : ByteArray) (hr : qBc D i = 0) (hs : s.size <= 1024) (hl : D.left = 1) : Calls Tryz.prog 71 #[.pointer (some ⟨b, 0, none⟩), .int .i64 i, .string s] w fun e w' => e = .returned (.int .i64 12) /\ qAr w' b sa { D with off := true } /\ Mod (qBg b sa) w w' := by
 have HR := hid (qDo h i); rw [hr] at HR; obtain ⟨cap, blank, done, h1, h2, h3⟩ := h; have c7 : w.cell? ⟨b, 7, none⟩ = some (.int .i64 D.left) := by rw [cell_of_row _ _ _ _ _ _ h1.1]; rfl
 have c8 : w.cell? ⟨b, 8, none⟩ = some (.int .u32 (u32 D.off)) := by rw [cell_of_row _ _ _ _ _ _ h1.1]; rfl
 rw [hl] at c7; have HL := hid (qHt c7); have HS := hid (qVy true c8 (frozen_of_row _ _ _ _ _ h1.1)); have H1 := hid h1; have H2 := hid h2; have H3 := hid h3; clear h1 h2 h3 hr hl c7 c8; go_enter Tryz.func71, Tryz.ntmps71
 go_wp2_with (first | (go_at_call 83; refine HR.out.mono ?_; rintro e w' ⟨rfl, rfl⟩) | (go_at_call 111; refine HL.out.mono ?_; rintro e w' ⟨rfl, rfl⟩) | (go_at_call 112; refine HS.out.mono ?_; rintro e w' ⟨rfl, rfl⟩))
 go_ret; have hm : Mod (fun k => k = b) w (w.setCell ⟨b, 8, none⟩ (.int .u32 (u32 true))).drew := (Mod.setCell (S := fun k => k = b) (Mod.refl _ _) (fun _ => rfl) _).drew
 refine ⟨rfl, ⟨cap, blank, done, ⟨heap_setCell_same w b 8 _ 106 _ H1.out.1, H1.out.2⟩, H2.out.mod hm (fun k hk h => H3.out (h ▸ hk)), H3.out⟩, hm.mono fun k _ h => Or.inl h⟩
theorem qFf : qBz.size = 1024 := by
 unfold qBz; show (Lib.repeatL [0] 1024).toArray.size = 1024; rw [List.size_toArray]; decide +kernel
theorem Own.some_lit {w : World} {e : TypeId} {size : Nat} {sa : Option Addr} {n cap : Nat} {xs : List Value} (h : Own w e size sa n cap xs) (hn : 0 < n) : ∃ g off, sa = some ⟨g, off, none⟩ := by
 rcases h.2.2.2 with ⟨_, hc⟩ | ⟨g, off, cur, rfl, _⟩
 ·have := h.2.1; omega
 ·exact ⟨g, off, rfl⟩
theorem Own.one {w : World} {e : TypeId} {g off n cap : Nat} {ss : List ByteArray} (h : Own w e 1 (some ⟨g, off, none⟩) n cap (ss.map .string)) {i : Nat} (hi : i < ss.length) : w.cell? ⟨g, off + i, none⟩ = some (.string ss[i]) := by
 have := h.src.2.2 _ rfl i (.string ss[i]) (by simp [hi])
 rw [Addr.add_lit] at this; exact this
def pad (s : ByteArray) : ByteArray := s ++ qBz.extract s.size qBz.size
def Dsk.put (D : Dsk) (i : Nat) (s : ByteArray) : Dsk := { secs := D.secs.set i (pad s), writes := D.writes + 1, high := if D.high <= i then (i : Int) + 1 else D.high, left := if D.left = 0 then 0 else D.left - 1, off := D.off }
theorem qOq {W2 w1 : World} {b g off cap : Nat} {D : Dsk} {L : Int} (hd : qCq w1 b (some ⟨g, off, none⟩) D.secs.length cap qBz true D.writes D.high L D.off) (hm : Mod (fun k => k = b) W2 w1) (hO : Own W2 9 1 (some ⟨g, off, none⟩) D.secs.length cap (D.secs.map .string)) (h3 : ¬ blk (some ⟨g, off, none⟩) b) (i : Nat) (hi : i < D.secs.length) (s : ByteArray) (hL : L = if D.left = 0 then 0 else D.left - 1) :
  let W3 := w1.setCell ⟨g, off + i, none⟩ (.string (s ++ qBz.extract s.size qBz.size))
  let W4 := W3.setCell ⟨b, 5, none⟩ (.int .i64 (D.writes + 1))
  W3.cell? ⟨b, 5, none⟩ = some (.int .i64 D.writes) /\ W3.frozen? ⟨b, 5, none⟩ = false /\ W4.cell? ⟨b, 6, none⟩ = some (.int .i64 D.high) /\ W4.frozen? ⟨b, 6, none⟩ = false /\ (D.high <= i -> qAr (W4.setCell ⟨b, 6, none⟩ (.int .i64 ((i : Int) + 1))) b (some ⟨g, off, none⟩) (D.put i s) /\ Mod (qBg b (some ⟨g, off, none⟩)) W2 (W4.setCell ⟨b, 6, none⟩ (.int .i64 ((i : Int) + 1)))) /\ (¬ D.high <= i -> qAr W4 b (some ⟨g, off, none⟩) (D.put i s) /\ Mod (qBg b (some ⟨g, off, none⟩)) W2 W4) := by
 intro W3 W4; have hgb : b ≠ g := fun h => h3 ⟨_, rfl, h.symm⟩
 have hO1 := hO.mod hm (fun k hk h => h3 (h ▸ hk))
 have hO3 : Own W3 9 1 (some ⟨g, off, none⟩) D.secs.length cap ((D.secs.set i (pad s)).map .string) := by
  rw [List.map_set]; exact hO1.set i (by omega) (.string (pad s))
 have hb3 : W3.heap[b]? = w1.heap[b]? := heap_setCell_other _ _ _ _ hgb; have r3 := hb3.trans hd.1; have r4 := heap_setCell_same W3 b 5 _ 106 (.int .i64 (D.writes + 1)) r3; have hlen : (D.secs.set i (pad s)).length = D.secs.length := List.length_set; have hm3 : Mod (qBg b (some ⟨g, off, none⟩)) W2 W3 := Mod.setCell (S := qBg b (some ⟨g, off, none⟩)) (p := ⟨g, off + i, none⟩) (hm.mono fun k _ h => Or.inl h) (fun _ => Or.inr ⟨_, rfl, rfl⟩) _
 have hm4 : Mod (qBg b (some ⟨g, off, none⟩)) W2 W4 := Mod.setCell (S := qBg b (some ⟨g, off, none⟩)) hm3 (fun _ => Or.inl rfl) _
 have mb : ∀ (w : World) (o : Nat) (v : Value), Mod (fun k => k = b) w (w.setCell ⟨b, o, none⟩ v) := fun w o v => Mod.setCell (S := fun k => k = b) (Mod.refl _ _) (fun _ => rfl) _
 have hO4 : Own W4 9 1 (some ⟨g, off, none⟩) D.secs.length cap ((D.secs.set i (pad s)).map .string) := hO3.mod (mb W3 5 _) (fun k hk h => h3 (h ▸ hk))
 refine ⟨by rw [cell_of_row _ _ _ _ _ _ r3]; rfl, frozen_of_row _ _ _ _ _ r3, by rw [cell_of_row _ _ _ _ _ _ r4]; rfl, frozen_of_row _ _ _ _ _ r4, fun hh => ⟨?_, Mod.setCell (S := qBg b (some ⟨g, off, none⟩)) hm4 (fun _ => Or.inl rfl) _⟩, fun hh => ⟨?_, hm4⟩⟩
 ·refine ⟨cap, qBz, true, ⟨?_, fun _ => rfl⟩, ?_, h3⟩
  ·have r5 := heap_setCell_same W4 b 6 _ 106 (.int .i64 ((i : Int) + 1)) r4; simp only [Dsk.put, hlen, if_pos hh]; rw [hL] at r5; exact r5
  ·simp only [Dsk.put, hlen]; exact hO4.mod (mb W4 6 _) (fun k hk h => h3 (h ▸ hk))
 ·refine ⟨cap, qBz, true, ⟨?_, fun _ => rfl⟩, ?_, h3⟩
  ·simp only [Dsk.put, hlen, if_neg hh]; rw [hL] at r4; exact r4
  ·simp only [Dsk.put, hlen]; exact hO4
set_option maxHeartbeats 1000000 in
theorem qWq {w : World} {b : Nat} {sa : Option Addr} {D : Dsk} (h : qAr w b sa D) (i : Nat) (hi : i < D.secs.length) (s : ByteArray) (hr : qBc D i = 0) (hs : s.size <= 1024) (hn : D.secs.length <= 4611686018427387904) (hw0 : 0 <= D.writes) (hw1 : D.writes <= 4611686018427387904) (hl0 : D.left = 0) (_hl1 : D.left <= 4611686018427387904) : Calls Tryz.prog 71 #[.pointer (some ⟨b, 0, none⟩), .int .i64 i, .string s] w fun e w' => e = .returned (.int .i64 0) /\ qAr w' b sa (D.put i s) /\ Mod (qBg b sa) w w' := by
 have HR := hid (qDo h i); rw [hr] at HR; obtain ⟨cap, blank, done, h1, h2, h3⟩ := h; have c7 : w.cell? ⟨b, 7, none⟩ = some (.int .i64 D.left) := by rw [cell_of_row _ _ _ _ _ _ h1.1]; rfl
 have HL := hid (qHt c7); have H1 := hid h1; have H2 := hid h2; have H3 := hid h3; have e1 : (D.left == 1) = false := by simp [hl0]
 have e2 : (D.left == 0) = true := by simp [hl0]
 obtain ⟨hh, hhh⟩ : ∃ hh, decide (D.high <= (i : Int)) = hh := ⟨_, rfl⟩; cases hh
 all_goals (
  clear h1 h2 h3 hr c7; go_enter Tryz.func71, Tryz.ntmps71
  go_wp2_with (first | (go_at_call 83; refine HR.out.mono ?_; rintro e w' ⟨rfl, rfl⟩) | (go_at_call 111; refine HL.out.mono ?_; rintro e w' ⟨rfl, rfl⟩))
  obtain ⟨L, hLe⟩ : ∃ L, L = D.left := ⟨_, rfl⟩; have hL : L = if D.left = 0 then 0 else D.left - 1 := by rw [hLe, if_pos hl0, hl0]
  have hD2 : qCq w b sa D.secs.length cap blank done D.writes D.high L D.off := hLe ▸ H1.out; have hO2 := H2.out; have hmw : Mod (qBg b sa) w w := Mod.refl _ _; obtain ⟨W2, rfl⟩ : ∃ W2 : World, W2 = w := ⟨_, rfl⟩; obtain ⟨g, off, rfl⟩ := Own.some_lit hO2 (by omega)
  have t0 : W2.cell? ⟨b, 0, none⟩ = some (.slice (some ⟨g, off, none⟩) D.secs.length cap) := by rw [cell_of_row _ _ _ _ _ _ hD2.1]; rfl
  have t1 := Own.one hO2 hi; have t2 := hO2.frozen (off + i); have HO2 := hid hO2; have Hlate : Hid (∀ w1, qCq w1 b (some ⟨g, off, none⟩) D.secs.length cap qBz true D.writes D.high L D.off -> Mod (fun k => k = b) W2.drew w1 -> w1.cell? ⟨b, 0, none⟩ = some (.slice (some ⟨g, off, none⟩) D.secs.length cap) /\ (∃ u, w1.cell? ⟨g, off + i, none⟩ = some u) /\ w1.frozen? ⟨g, off + i, none⟩ = false) := by
   intro w1 hd hm; have hO2d : Own W2.drew 9 1 (some ⟨g, off, none⟩) D.secs.length cap (D.secs.map .string) := hO2; have hown1 := hO2d.mod hm (fun k hk h => H3.out (h ▸ hk))
   exact ⟨by rw [cell_of_row _ _ _ _ _ _ hd.1]; rfl, ⟨_, Own.one hown1 hi⟩, hown1.frozen _⟩
  have HZ := hid (qJx (w := W2.drew) hD2); have i1 : (i : Int) < (D.secs.length : Int) := by omega
  have z1 : s.size <= qBz.size := by rw [qFf]; exact hs
  clear hD2 hO2; go_region_with ((go_at_call 84; refine HZ.out.mono ?_; rintro e w1 ⟨rfl, hd, hm⟩; obtain ⟨k0, ⟨u1, k1⟩, k2⟩ := Hlate.out w1 hd hm; have Hd := hid hd; have Hm := hid hm; clear hd hm))
  all_goals (
   have hm' : Mod (fun k => k = b) W2 w1 := ⟨Hm.out.os, Hm.out.tape, Hm.out.output, Hm.out.size, Hm.out.block⟩
   obtain ⟨c5, f5, c6, f6, fin1, fin2⟩ := qOq Hd.out hm' HO2.out H3.out i hi s hL; have HA := hid (qZd 1 c5 f5 (by omega) (by omega))
   have HL6 := hid (qHt c6); have HS6 := hid (qKu ((i : Int) + 1) c6 f6); have F1 := hid fin1; have F2 := hid fin2; clear c5 f5 c6 f6 fin1 fin2 hm'; generalize w1.setCell ⟨g, off + i, none⟩ (.string (s ++ qBz.extract s.size qBz.size)) = W3 at *; go_wp2_with (first | (go_at_call 114; refine HA.out.mono ?_; rintro e w' ⟨rfl, rfl⟩) | (go_at_call 111; refine HL6.out.mono ?_; rintro e w' ⟨rfl, rfl⟩) | (go_at_call 113; refine HS6.out.mono ?_; rintro e w' ⟨rfl, rfl⟩))
   go_ret
   first
    | exact ⟨rfl, (F1.out (of_decide_eq_true hhh)).1, hmw.trans (F1.out (of_decide_eq_true hhh)).2⟩
    | exact ⟨rfl, (F2.out (by have := of_decide_eq_false hhh; omega)).1, hmw.trans (F2.out (by have := of_decide_eq_false hhh; omega)).2⟩))
set_option maxHeartbeats 1000000 in
theorem qWp {w : World} {b : Nat} {sa : Option Addr} {D : Dsk} (h : qAr w b sa D) (i : Nat) (hi : i < D.secs.length) (s : ByteArray) (hr : qBc D i = 0) (hs : s.size <= 1024) (hn : D.secs.length <= 4611686018427387904) (hw0 : 0 <= D.writes) (hw1 : D.writes <= 4611686018427387904) (hl0 : 1 < D.left) (hl1 : D.left <= 4611686018427387904) : Calls Tryz.prog 71 #[.pointer (some ⟨b, 0, none⟩), .int .i64 i, .string s] w fun e w' => e = .returned (.int .i64 0) /\ qAr w' b sa (D.put i s) /\ Mod (qBg b sa) w w' := by
 have HR := hid (qDo h i); rw [hr] at HR; obtain ⟨cap, blank, done, h1, h2, h3⟩ := h; have c7 : w.cell? ⟨b, 7, none⟩ = some (.int .i64 D.left) := by rw [cell_of_row _ _ _ _ _ _ h1.1]; rfl
 have HL := hid (qHt c7); have H1 := hid h1; have H2 := hid h2; have H3 := hid h3; have e1 : (D.left == 1) = false := by simp; omega
 have e2 : (D.left == 0) = false := by simp; omega
 have HS7 := hid (qKu (D.left - 1) c7 (frozen_of_row _ _ _ _ _ h1.1)); obtain ⟨hh, hhh⟩ : ∃ hh, decide (D.high <= (i : Int)) = hh := ⟨_, rfl⟩; cases hh
 all_goals (
  clear h1 h2 h3 hr c7; go_enter Tryz.func71, Tryz.ntmps71
  go_wp2_with (first | (go_at_call 83; refine HR.out.mono ?_; rintro e w' ⟨rfl, rfl⟩) | (go_at_call 111; refine HL.out.mono ?_; rintro e w' ⟨rfl, rfl⟩) | (go_at_call 113; refine HS7.out.mono ?_; rintro e w' ⟨rfl, rfl⟩))
  obtain ⟨L, hLe⟩ : ∃ L, L = D.left - 1 := ⟨_, rfl⟩; have hL : L = if D.left = 0 then 0 else D.left - 1 := by rw [hLe, if_neg (by omega)]
  have hD2 : qCq (w.setCell ⟨b, 7, none⟩ (.int .i64 (D.left - 1))) b sa D.secs.length cap blank done D.writes D.high L D.off := ⟨hLe ▸ heap_setCell_same w b 7 _ 106 _ H1.out.1, H1.out.2⟩; have hO2 := H2.out.mod (Mod.setCell (S := fun k => k = b) (p := ⟨b, 7, none⟩) (Mod.refl _ _) (fun _ => rfl) (.int .i64 (D.left - 1))) (fun k hk h => H3.out (h ▸ hk))
  have hmw : Mod (qBg b sa) w (w.setCell ⟨b, 7, none⟩ (.int .i64 (D.left - 1))) := Mod.setCell (S := qBg b sa) (p := ⟨b, 7, none⟩) (Mod.refl _ _) (fun _ => Or.inl rfl) (.int .i64 (D.left - 1))
  generalize hW : w.setCell ⟨b, 7, none⟩ (.int .i64 (D.left - 1)) = W2 at hD2 hO2 hmw ⊢; clear hW; obtain ⟨g, off, rfl⟩ := Own.some_lit hO2 (by omega)
  have t0 : W2.cell? ⟨b, 0, none⟩ = some (.slice (some ⟨g, off, none⟩) D.secs.length cap) := by rw [cell_of_row _ _ _ _ _ _ hD2.1]; rfl
  have t1 := Own.one hO2 hi; have t2 := hO2.frozen (off + i); have HO2 := hid hO2; have Hlate : Hid (∀ w1, qCq w1 b (some ⟨g, off, none⟩) D.secs.length cap qBz true D.writes D.high L D.off -> Mod (fun k => k = b) W2.drew w1 -> w1.cell? ⟨b, 0, none⟩ = some (.slice (some ⟨g, off, none⟩) D.secs.length cap) /\ (∃ u, w1.cell? ⟨g, off + i, none⟩ = some u) /\ w1.frozen? ⟨g, off + i, none⟩ = false) := by
   intro w1 hd hm; have hO2d : Own W2.drew 9 1 (some ⟨g, off, none⟩) D.secs.length cap (D.secs.map .string) := hO2; have hown1 := hO2d.mod hm (fun k hk h => H3.out (h ▸ hk))
   exact ⟨by rw [cell_of_row _ _ _ _ _ _ hd.1]; rfl, ⟨_, Own.one hown1 hi⟩, hown1.frozen _⟩
  have HZ := hid (qJx (w := W2.drew) hD2); have i1 : (i : Int) < (D.secs.length : Int) := by omega
  have z1 : s.size <= qBz.size := by rw [qFf]; exact hs
  clear hD2 hO2; go_region_with ((go_at_call 84; refine HZ.out.mono ?_; rintro e w1 ⟨rfl, hd, hm⟩; obtain ⟨k0, ⟨u1, k1⟩, k2⟩ := Hlate.out w1 hd hm; have Hd := hid hd; have Hm := hid hm; clear hd hm))
  all_goals (
   have hm' : Mod (fun k => k = b) W2 w1 := ⟨Hm.out.os, Hm.out.tape, Hm.out.output, Hm.out.size, Hm.out.block⟩
   obtain ⟨c5, f5, c6, f6, fin1, fin2⟩ := qOq Hd.out hm' HO2.out H3.out i hi s hL; have HA := hid (qZd 1 c5 f5 (by omega) (by omega))
   have HL6 := hid (qHt c6); have HS6 := hid (qKu ((i : Int) + 1) c6 f6); have F1 := hid fin1; have F2 := hid fin2; clear c5 f5 c6 f6 fin1 fin2 hm'; generalize w1.setCell ⟨g, off + i, none⟩ (.string (s ++ qBz.extract s.size qBz.size)) = W3 at *; go_wp2_with (first | (go_at_call 114; refine HA.out.mono ?_; rintro e w' ⟨rfl, rfl⟩) | (go_at_call 111; refine HL6.out.mono ?_; rintro e w' ⟨rfl, rfl⟩) | (go_at_call 113; refine HS6.out.mono ?_; rintro e w' ⟨rfl, rfl⟩))
   go_ret
   first
    | exact ⟨rfl, (F1.out (of_decide_eq_true hhh)).1, hmw.trans (F1.out (of_decide_eq_true hhh)).2⟩
    | exact ⟨rfl, (F2.out (by have := of_decide_eq_false hhh; omega)).1, hmw.trans (F2.out (by have := of_decide_eq_false hhh; omega)).2⟩))
def qBf (D : Dsk) (i : Int) (s : ByteArray) : Int × Dsk :=
 if qBc D i ≠ 0 then (qBc D i, D) else if 1024 < s.size then (11, D) else if D.left = 1 then (12, { D with off := true }) else (0, D.put i.toNat s)
theorem qKg {D : Dsk} {i : Int} (h : qBc D i = 0) : D.off = false /\ 0 <= i /\ i < D.secs.length := by
 unfold qBc at h; split at h
 ·cases h
 ·split at h
  ·cases h
  ·rename_i h1 h2
   exact ⟨by simpa using h1, by omega, by omega⟩
theorem qHg {w : World} {b : Nat} {sa : Option Addr} {D : Dsk} (h : qAr w b sa D) (ok : D.Ok) (i : Int) (s : ByteArray) (hm : s.size <= maxLen) : Calls Tryz.prog 71 #[.pointer (some ⟨b, 0, none⟩), .int .i64 i, .string s] w fun e w' => e = .returned (.int .i64 (qBf D i s).1) /\ qAr w' b sa (qBf D i s).2 /\ Mod (qBg b sa) w w' := by
 unfold qBf; by_cases hr : qBc D i = 0
 ·rw [if_neg (by simp [hr])]
  by_cases hs : 1024 < s.size
  ·rw [if_pos hs]; refine (qUi h i s hr hs hm).mono ?_; rintro e w' ⟨rfl, rfl⟩; exact ⟨rfl, h, Mod.refl _ _⟩
  ·rw [if_neg hs]; by_cases hl : D.left = 1
   ·rw [if_pos hl]; exact qWr h i s hr (by omega) hl
   ·rw [if_neg hl]; obtain ⟨_, i0, i1⟩ := qKg hr; obtain ⟨j, rfl⟩ := Int.eq_ofNat_of_zero_le i0; by_cases hz : D.left = 0
    ·exact qWq h j (by omega) s hr (by omega) ok.n ok.w0 ok.w1 hz ok.l1
    ·exact qWp h j (by omega) s hr (by omega) ok.n ok.w0 ok.w1 (by have := ok.l0; omega) ok.l1
 ·rw [if_pos hr]; refine (qQl h i s hr).mono ?_; rintro e w' ⟨rfl, rfl⟩; exact ⟨rfl, h, Mod.refl _ _⟩
end
end Go.Proofs.YtkinkgbmlhiakaaGreatDoor
