/- The document's bus: Take and Double; the letter of a letter -/
import Derived.Test.YtppemlofjbblfaaBusT
namespace Go.Proofs.Ytppemlofjbblfaa
open Go Go.RowKit

set_option maxRecDepth 100000 in
theorem ref_any (w : World) (a0 a1 a2 a3 a4 a5 a6 : Int) (s : ByteArray) :
    Calls Try.prog 19 #[.agg #[.int .i64 a0, .int .i64 a1, .int .i64 a2, .int .i64 a3, .int .i64 a4, .int .i64 a5, .int .i64 a6, .string s]] w fun e w' => e = .returned (.agg #[.int .i64 a0, .int .i64 a1, .int .i64 a2, .int .i64 a3, .int .i64 a4, .int .i64 a5, .int .i64 a6, .string s]) ∧ Mod (fun _ => False) w w' := by
  go_enter Try.func19, Try.ntmps19
  go_wp2
  refine bodyPost_ret (v := .agg #[.int .i64 a0, .int .i64 a1, .int .i64 a2, .int .i64 a3, .int .i64 a4, .int .i64 a5, .int .i64 a6, .string s]) (by simp only [results, Try.results19]; go_simp) rfl ⟨rfl, ?_⟩
  exact ((Mod.refl _ _).alloc _).alloc _

set_option maxRecDepth 100000 in
theorem rdouble_bad {b : Nat} {sa : Option Addr} {cap : Nat} {next : Int} {w : World} {ls : List Let} (hbus : BusAt 47 50 w b sa cap ls next) (i : Int) (hi : i < 0 ∨ ls.length ≤ i) :
    Calls Try.prog 27 #[.pointer (some ⟨b, 0, none⟩), .int .i64 i] w fun e w' => e = .returned (.tuple #[.int .i64 0, .int .i64 70]) ∧ w = w' := by
  obtain ⟨h0, h1, f0, f1⟩ := hbus.cells
  clear hbus
  by_cases hneg : i < 0
  · have hd : decide (i < 0) = true := by simpa using hneg
    go_enter Try.func27, Try.ntmps27
    go_wp2
    go_ret2
    exact ⟨rfl, rfl⟩
  · have hd : decide (i < 0) = false := by simpa using hneg
    have hd2 : (ls.length : Int) ≤ i := by omega
    go_enter Try.func27, Try.ntmps27
    go_wp2
    go_ret2
    exact ⟨rfl, rfl⟩

set_option maxRecDepth 100000 in
theorem rdouble_ok {b : Nat} {sa : Option Addr} {cap : Nat} {next : Int} {w : World} {ls : List Let} (hbus : BusAt 47 50 w b sa cap ls next) (i : Nat) {a0 a1 a2 a3 a4 a5 a6 : Int} {s : ByteArray} (hx : ls[i]? = some ⟨a0, a1, a2, a3, a4, a5, a6, s⟩)
    (hl : ls.length < 4096) (hn : 0 ≤ next) (hn2 : next < 4611686018427387904) :
    Calls Try.prog 27 #[.pointer (some ⟨b, 0, none⟩), .int .i64 i] w fun e w' => e = .returned (.tuple #[.int .i64 next, .int .i64 0]) ∧ BusStep 47 50 w w' b sa (ls ++ [⟨next, a1, a2, a3, a4, a5, a6, s⟩]) (next + 1) := by
  have hi : i < ls.length := (List.getElem?_eq_some_iff.1 hx).1
  obtain ⟨h0, h1, f0, f1⟩ := hbus.cells
  obtain ⟨g, off, rfl⟩ := own_some hbus.2.1 (by omega)
  obtain ⟨c0, c1, c2, c3, c4, c5, c6, c7⟩ := let_cells hbus.2.1 hx
  have Hs := hid (rsend_ok b _ cap next w ls a0 a1 a2 a3 a4 a5 a6 s hbus hl hn hn2)
  clear hbus hx hn hn2
  generalize ls.length = len at *
  go_enter Try.func27, Try.ntmps27
  go_wp2_with (go_at_call 25; refine Hs.out.mono ?_; rintro e w' ⟨rfl, hq⟩; have Hq := hid hq; clear hq)
  go_ret2
  exact ⟨rfl, Hq.out⟩

set_option maxRecDepth 100000 in
theorem rdouble_full {b : Nat} {sa : Option Addr} {cap : Nat} {next : Int} {w : World} {ls : List Let} (hbus : BusAt 47 50 w b sa cap ls next) (i : Nat) (hi : i < ls.length)
    (hl : 4096 ≤ ls.length) :
    Calls Try.prog 27 #[.pointer (some ⟨b, 0, none⟩), .int .i64 i] w fun e w' => e = .returned (.tuple #[.int .i64 0, .int .i64 72]) ∧ Mod (fun _ => False) w w' := by
  obtain ⟨⟨a0, a1, a2, a3, a4, a5, a6, s⟩, hx⟩ : ∃ x, ls[i]? = some x := ⟨_, List.getElem?_eq_getElem hi⟩
  obtain ⟨h0, h1, f0, f1⟩ := hbus.cells
  obtain ⟨g, off, rfl⟩ := own_some hbus.2.1 (by omega)
  obtain ⟨c0, c1, c2, c3, c4, c5, c6, c7⟩ := let_cells hbus.2.1 hx
  have Hs := hid (rsend_full b _ cap next w ls a0 a1 a2 a3 a4 a5 a6 s hbus hl)
  clear hbus hx
  generalize ls.length = len at *
  go_enter Try.func27, Try.ntmps27
  go_wp2_with (go_at_call 25; refine Hs.out.mono ?_; rintro e w' ⟨rfl, hq⟩; have Hq := hid hq; clear hq)
  go_ret2
  exact ⟨rfl, Hq.out⟩

set_option maxRecDepth 100000 in
theorem rtake_bad {b : Nat} {sa : Option Addr} {cap : Nat} {next : Int} {w : World} {ls : List Let} (hbus : BusAt 47 50 w b sa cap ls next) (i : Int) (hi : i < 0 ∨ ls.length ≤ i) :
    Calls Try.prog 26 #[.pointer (some ⟨b, 0, none⟩), .int .i64 i] w fun e w' => e = .returned (.tuple #[.agg #[.int .i64 0, .int .i64 0, .int .i64 0, .int .i64 0, .int .i64 0, .int .i64 0, .int .i64 0, .string ByteArray.empty], .int .i64 70]) ∧ Mod (fun _ => False) w w' := by
  obtain ⟨h0, h1, f0, f1⟩ := hbus.cells
  have hbl : b < w.heap.size := hbus.lt b (Or.inl rfl)
  clear hbus
  by_cases hneg : i < 0
  · have hd : decide (i < 0) = true := by simpa using hneg
    go_enter Try.func26, Try.ntmps26
    go_wp2
    refine bodyPost_ret (v := .tuple #[.agg #[.int .i64 0, .int .i64 0, .int .i64 0, .int .i64 0, .int .i64 0, .int .i64 0, .int .i64 0, .string ByteArray.empty], .int .i64 70]) (by simp only [results, Try.results26]; go_simp; rfl) rfl ⟨rfl, ?_⟩
    exact (Mod.refl _ _).alloc _
  · have hd : decide (i < 0) = false := by simpa using hneg
    have hd2 : (ls.length : Int) ≤ i := by omega
    go_enter Try.func26, Try.ntmps26
    go_wp2
    refine bodyPost_ret (v := .tuple #[.agg #[.int .i64 0, .int .i64 0, .int .i64 0, .int .i64 0, .int .i64 0, .int .i64 0, .int .i64 0, .string ByteArray.empty], .int .i64 70]) (by simp only [results, Try.results26]; go_simp; rfl) rfl ⟨rfl, ?_⟩
    exact (Mod.refl _ _).alloc _

end Go.Proofs.Ytppemlofjbblfaa
