/- The other functions of package bus -/
import Derived.Test.YtppemlofjbblfaaBusS
import Derived.Test.YtppemlofjbblfaaBusD
import Derived.WalkSpells
namespace Go.Proofs.Ytppemlofjbblfaa
open Go Go.RowKit

theorem new_any (w : World) : Calls Try.prog 10 #[] w fun e w' => e = .returned (.pointer (some ⟨w.heap.size, 0, none⟩)) ∧ BusAt 58 28 w' w.heap.size none 0 [] 1 ∧ Mod (fun _ => False) w w' := by
  go_enter Try.func10, Try.ntmps10
  go_wp2
  go_ret
  exact ⟨rfl, ⟨heap_alloc_new w _, Own.nil _ _ _, blk_none _⟩, (Mod.refl _ _).alloc _⟩

theorem len_any {b : Nat} {sa : Option Addr} {cap : Nat} {next : Int} {w : World} {ls : List Let} (hbus : BusAt 58 28 w b sa cap ls next) :
    Calls Try.prog 15 #[.pointer (some ⟨b, 0, none⟩)] w fun e w' => e = .returned (.int .i64 ls.length) ∧ w = w' := by
  obtain ⟨h0, h1, f0, f1⟩ := hbus.cells
  clear hbus
  go_enter Try.func15, Try.ntmps15
  go_wp2
  go_ret
  exact ⟨rfl, rfl⟩

theorem next_any {b : Nat} {sa : Option Addr} {cap : Nat} {next : Int} {w : World} {ls : List Let} (hbus : BusAt 58 28 w b sa cap ls next) :
    Calls Try.prog 16 #[.pointer (some ⟨b, 0, none⟩)] w fun e w' => e = .returned (.int .i64 next) ∧ w = w' := by
  obtain ⟨h0, h1, f0, f1⟩ := hbus.cells
  clear hbus
  go_enter Try.func16, Try.ntmps16
  go_wp2
  go_ret
  exact ⟨rfl, rfl⟩

theorem has_ok {b : Nat} {sa : Option Addr} {cap : Nat} {next : Int} {w : World} {ls : List Let} (hbus : BusAt 58 28 w b sa cap ls next) (i : Nat) (hi : i < ls.length) :
    Calls Try.prog 23 #[.pointer (some ⟨b, 0, none⟩), .int .i64 i] w fun e w' => e = .returned (.int .i64 0) ∧ w = w' := by
  obtain ⟨h0, h1, f0, f1⟩ := hbus.cells
  clear hbus
  go_enter Try.func23, Try.ntmps23
  go_wp2
  go_ret
  exact ⟨rfl, rfl⟩

theorem has_bad {b : Nat} {sa : Option Addr} {cap : Nat} {next : Int} {w : World} {ls : List Let} (hbus : BusAt 58 28 w b sa cap ls next) (i : Int) (hi : i < 0 ∨ ls.length ≤ i) :
    Calls Try.prog 23 #[.pointer (some ⟨b, 0, none⟩), .int .i64 i] w fun e w' => e = .returned (.int .i64 70) ∧ w = w' := by
  obtain ⟨h0, h1, f0, f1⟩ := hbus.cells
  clear hbus
  by_cases hneg : i < 0
  · have hd : decide (i < 0) = true := by simpa using hneg
    go_enter Try.func23, Try.ntmps23
    go_wp2
    go_ret
    exact ⟨rfl, rfl⟩
  · have hd : decide (i < 0) = false := by simpa using hneg
    have hd2 : (ls.length : Int) ≤ i := by omega
    go_enter Try.func23, Try.ntmps23
    go_wp2
    go_ret
    exact ⟨rfl, rfl⟩

theorem clone_some (a : Addr) (n cap : Nat) (xs : List Value) (w : World) (hs : Src w 8 (some a) n xs) (h1 : ∀ u ∈ xs, u.oneCell' = true) (hn : n * 72 ≤ 140737488355328) :
    Calls Try.prog 22 #[.slice (some a) n cap] w fun e w' => ∃ sa' cap', e = .returned (.slice sa' n cap') ∧ Own w' 28 8 sa' n cap' xs ∧ Mod (fun _ => False) w w' ∧ (∀ k, blk sa' k → w.heap.size ≤ k) := by
  obtain ⟨i0, hi, hz0, hz1, hz2⟩ := info_parts infoLet
  have he : ∀ w, (binOp .eql 35 (.slice (some a) n cap) (.slice none 0 0)).run Try.prog w = .ok (.bool false) w := fun w => by
    have := Lib.run_eql_slice_nil (P := Try.prog) w 35 28 (some a) n cap 0 0 Try.underlying35
    simpa using this
  have hmw : Mod (fun _ => False) w (w.alloc (.cells #[] 28)) := (Mod.refl _ _).alloc _
  have Hown := hid (Own.fresh (size := 8) (heap_alloc_new w (.cells #[] 28)))
  have Hsrc := hid (hs.mod hmw (fun _ _ h => h.elim))
  have Hone := hid h1
  clear hs h1 hmw
  go_enter Try.func22, Try.ntmps22
  go_wp2_with (at_builtin; refine wpList_append_Own rfl (.tmp 5) (.tmp 6) 35 rfl 28 i0 _ 8 72 Try.underlying35 hi hz0 hz1 hz2 rfl (some ⟨w.heap.size, 0, none⟩) 0 0 [] rfl Hown.out (some a) n cap xs rfl Hsrc.out Hone.out (by unfold maxLen; omega) (by omega) ?_; intro sa' cap' w1 hown1 hm1 hb1 hn1 hr1; have Hm1 := hid hm1; have Hown1 := hid hown1; have Hb1 := hid hb1; clear hm1 hown1 hb1 hn1 hr1)
  go_ret
  refine ⟨sa', cap', rfl, by have := Hown1.out; simpa using this, ?_, ?_⟩
  · exact ((Mod.refl _ _).alloc _).then Hm1.out fun k hk h => by rw [blk_some] at h; omega
  · intro k hk
    rcases Hb1.out k hk with h | h
    · rw [blk_some] at h; omega
    · simp at h; omega

theorem clone_nil (w : World) : Calls Try.prog 22 #[.slice none 0 0] w fun e w' => e = .returned (.slice none 0 0) ∧ w = w' := by
  have he : ∀ w, (binOp .eql 35 (.slice none 0 0) (.slice none 0 0)).run Try.prog w = .ok (.bool true) w := fun w => by
    have := Lib.run_eql_slice_nil (P := Try.prog) w 35 28 none 0 0 0 0 Try.underlying35
    simpa using this
  go_enter Try.func22, Try.ntmps22
  go_wp2
  go_ret
  exact ⟨rfl, rfl⟩

/-- A slice that is answered: new memory that holds these letters. -/
def ListAns (w : World) (ls : List Let) (e : Ending) (w' : World) : Prop :=
  ∃ sa' cap', e = .returned (.slice sa' ls.length cap') ∧ Own w' 28 8 sa' ls.length cap' (ls.flatMap Let.cs) ∧ Mod (fun _ => False) w w' ∧ (∀ k, blk sa' k → w.heap.size ≤ k)

theorem clone_any {w : World} {sa : Option Addr} {cap : Nat} {ls : List Let} (hown : Own w 28 8 sa ls.length cap (ls.flatMap Let.cs)) (hn : ls.length * 72 ≤ 140737488355328) :
    Calls Try.prog 22 #[.slice sa ls.length cap] w (ListAns w ls) := by
  cases sa with
  | none =>
    have h1 := hown.src.2.1 rfl
    have h2 : cap = 0 := by
      rcases hown.2.2.2 with ⟨_, h⟩ | ⟨_, _, _, h, _⟩
      · exact h
      · cases h
    have h3 : ls = [] := List.eq_nil_of_length_eq_zero h1
    subst h2 h3
    refine (clone_nil w).mono ?_
    rintro e w' ⟨rfl, rfl⟩
    exact ⟨none, 0, rfl, Own.nil _ _ _, Mod.refl _ _, fun k h => (blk_none k h).elim⟩
  | some a =>
    exact (clone_some a ls.length cap _ w hown.src (flat_one Let.one ls) hn).mono fun e w' h => h

theorem list_any {b : Nat} {sa : Option Addr} {cap : Nat} {next : Int} {w : World} {ls : List Let} (hbus : BusAt 58 28 w b sa cap ls next) (hn : ls.length * 72 ≤ 140737488355328) :
    Calls Try.prog 12 #[.pointer (some ⟨b, 0, none⟩)] w (ListAns w ls) := by
  obtain ⟨h0, h1, f0, f1⟩ := hbus.cells
  have Hc := hid (clone_any hbus.2.1 hn)
  clear hbus
  go_enter Try.func12, Try.ntmps12
  go_wp2_with fail
  refine Hc.out.mono ?_
  rintro e w1 ⟨sa', cap', rfl, h⟩
  have H := hid h
  clear h
  go_wp2
  go_ret
  exact ⟨sa', cap', rfl, H.out⟩

theorem list_nil (w : World) : Calls Try.prog 12 #[.pointer none] w fun e w' => e = .returned (.slice none 0 0) ∧ w = w' := by
  go_enter Try.func12, Try.ntmps12
  go_wp2
  go_ret
  exact ⟨rfl, rfl⟩

theorem len_nil (w : World) : Calls Try.prog 15 #[.pointer none] w fun e w' => e = .returned (.int .i64 0) ∧ w = w' := by
  go_enter Try.func15, Try.ntmps15
  go_wp2
  go_ret
  exact ⟨rfl, rfl⟩

theorem next_nil (w : World) : Calls Try.prog 16 #[.pointer none] w fun e w' => e = .returned (.int .i64 0) ∧ w = w' := by
  go_enter Try.func16, Try.ntmps16
  go_wp2
  go_ret
  exact ⟨rfl, rfl⟩

theorem has_nil (w : World) (i : Int) : Calls Try.prog 23 #[.pointer none, .int .i64 i] w fun e w' => e = .returned (.int .i64 1) ∧ w = w' := by
  go_enter Try.func23, Try.ntmps23
  go_wp2
  go_ret
  exact ⟨rfl, rfl⟩

set_option maxRecDepth 100000 in
theorem send_nil (w : World) (a0 a1 a2 a3 a4 a5 a6 : Int) (s : ByteArray) : Calls Try.prog 11 #[.pointer none, .agg #[.int .i64 a0, .int .i64 a1, .int .i64 a2, .int .i64 a3, .int .i64 a4, .int .i64 a5, .int .i64 a6, .string s]] w fun e w' => e = .returned (.tuple #[.int .i64 0, .int .i64 1]) ∧ Mod (fun _ => False) w w' := by
  go_enter Try.func11, Try.ntmps11
  go_wp2
  go_ret2
  exact ⟨rfl, (Mod.refl _ _).alloc _⟩

theorem double_nil (w : World) (i : Int) : Calls Try.prog 13 #[.pointer none, .int .i64 i] w fun e w' => e = .returned (.tuple #[.int .i64 0, .int .i64 1]) ∧ w = w' := by
  go_enter Try.func13, Try.ntmps13
  go_wp2_with (go_at_call 23; refine (has_nil _ _).mono ?_; rintro e w' ⟨rfl, rfl⟩)
  go_ret2
  exact ⟨rfl, rfl⟩

theorem double_bad {b : Nat} {sa : Option Addr} {cap : Nat} {next : Int} {w : World} {ls : List Let} (hbus : BusAt 58 28 w b sa cap ls next) (i : Int) (hi : i < 0 ∨ ls.length ≤ i) :
    Calls Try.prog 13 #[.pointer (some ⟨b, 0, none⟩), .int .i64 i] w fun e w' => e = .returned (.tuple #[.int .i64 0, .int .i64 70]) ∧ w = w' := by
  have H := hid (has_bad hbus i hi)
  clear hbus hi
  go_enter Try.func13, Try.ntmps13
  go_wp2_with (go_at_call 23; refine H.out.mono ?_; rintro e w' ⟨rfl, rfl⟩)
  go_ret2
  exact ⟨rfl, rfl⟩

end Go.Proofs.Ytppemlofjbblfaa
