/- Kind.form -/
import Derived.Test.YtoclecpedhbokaaRwF
import Derived.Test.YtoclecpedhbokaaShelf
import Derived.BigQuiet
namespace Go.Proofs.Ytoclecpedhbokaa
open Go Go.RowKit

theorem index_has (c : UInt8) : ∀ l : List UInt8, -1 ≤ Lib.indexByte l c ∧ (0 ≤ Lib.indexByte l c ↔ c ∈ l)
  | [] => by simp [Lib.indexByte]
  | b :: l => by
    obtain ⟨h1, h2⟩ := index_has c l
    unfold Lib.indexByte
    by_cases hb : b = c
    · subst hb; simp
    · have e : (b == c) = false := by simpa using hb
      rw [e]
      simp only [Bool.false_eq_true, if_false]
      have hc : c ∈ b :: l ↔ c ∈ l := by simp [Ne.symm hb]
      rw [hc, ← h2]
      by_cases hm : Lib.indexByte l c = -1
      · rw [hm]; simp
      · have e2 : (Lib.indexByte l c == -1) = false := by simpa using hm
        rw [e2]
        simp only [Bool.false_eq_true, if_false]
        omega

theorem contains_bare (s : ByteArray) : decide (0 ≤ Lib.indexByte s.data.toList 0) = !bareP s := by
  unfold bareP
  rw [Bool.not_not]
  by_cases h : (0 : UInt8) ∈ s.data.toList
  · rw [decide_eq_true ((index_has 0 _).2.2 h), List.contains_iff_mem.2 h]
  · have h2 : s.data.toList.contains 0 = false := by rw [← Bool.not_eq_true, List.contains_iff_mem]; exact h
    rw [decide_eq_false (fun e => h ((index_has 0 _).2.1 e)), h2]

set_option maxRecDepth 100000 in
theorem form_int (n : Int) (s : ByteArray) (w : World) (h0 : -9223372036854775808 ≤ n) (h1 : n ≤ 9223372036854775807) :
    Calls Try.prog 32 #[.int .i64 0, .agg #[.int .i64 n, .string s]] w fun e w' => e = .returned (.tuple #[.string (ba (ordL n)), .bool s.toList.isEmpty]) ∧ Mod (fun _ => False) w w' := by
  have hma : Mod (fun _ => False) w (w.alloc (.cells #[.int .i64 n, .string s] 50)) := (Mod.refl _ _).alloc _
  have hcb : (w.alloc (.cells #[.int .i64 n, .string s] 50)).heap[w.heap.size]? = some (.cells #[.int .i64 n, .string s] 50 (0, 0)) := heap_alloc_new _ _
  have HM := hid hma
  have HCb := hid hcb
  have HO := hid (fun v => ordered_any n v h0 h1)
  clear hma hcb
  go_enter Try.func32, Try.ntmps32
  go_wp2_with fail
  generalize w.alloc (.cells #[.int .i64 n, .string s] 50) = C at *
  have g0 : ∀ x : Ext C, x.val.cell? ⟨w.heap.size, 0, none⟩ = some (.int .i64 n) := fun x => by rw [cell_of_row _ _ _ _ _ _ (x.heap HCb.out)]; rfl
  have g1 : ∀ x : Ext C, x.val.cell? ⟨w.heap.size, 1, none⟩ = some (.string s) := fun x => by rw [cell_of_row _ _ _ _ _ _ (x.heap HCb.out)]; rfl
  have HK := hid (fun x : Ext C => HO.out x.val)
  refine wp_region_ext (by kernel_rfl) (by kernel_rfl) ?_
  repeat (go_big_quiet_step ((go_at_call 43; exact ext_call (HK.out _))))
  refine wpQuiet_nil ?_
  rintro _ ⟨x, rfl⟩
  go_wp2_with fail
  go_ret2
  exact ⟨rfl, HM.out.trans x.mod⟩

set_option maxRecDepth 100000 in
theorem form_text (k n : Int) (s : ByteArray) (w : World) (hk : k ≠ 0) (hs : s.size ≤ 140737488351232) :
    Calls Try.prog 32 #[.int .i64 k, .agg #[.int .i64 n, .string s]] w fun e w' => e = .returned (.tuple #[.string (ba (s.data.toList ++ [0])), .bool (n == 0 && bareP s)]) ∧ Mod (fun _ => False) w w' := by
  have hma : Mod (fun _ => False) w (w.alloc (.cells #[.int .i64 n, .string s] 50)) := (Mod.refl _ _).alloc _
  have hcb : (w.alloc (.cells #[.int .i64 n, .string s] 50)).heap[w.heap.size]? = some (.cells #[.int .i64 n, .string s] 50 (0, 0)) := heap_alloc_new _ _
  have HM := hid hma
  have HCb := hid hcb
  have HCt : Hid (∀ v : World, Calls Try.prog 44 #[.string s, .string ⟨#[0]⟩] v fun e w' => e = .returned (.bool (!bareP s)) ∧ Mod (fun _ => False) v w') := hid (fun v => by
    have h := Try.strings_Contains_one s 0 v
    rw [contains_bare] at h
    refine h.mono ?_
    rintro e w' ⟨rfl, rfl⟩
    exact ⟨rfl, Mod.refl _ _⟩)
  have HE : Hid (s ++ (⟨#[0]⟩ : ByteArray) = ba (s.data.toList ++ [0])) := hid (by rw [← ba_append, ba_list]; rfl)
  have e0 : (k == 0) = false := by simpa using hk
  clear hma hcb hk
  by_cases hn : n = 0
  · subst hn
    generalize bareP s = bp at *
    go_enter Try.func32, Try.ntmps32
    go_wp2_with fail
    generalize w.alloc (.cells #[.int .i64 0, .string s] 50) = C at *
    have g0 : ∀ x : Ext C, x.val.cell? ⟨w.heap.size, 0, none⟩ = some (.int .i64 0) := fun x => by rw [cell_of_row _ _ _ _ _ _ (x.heap HCb.out)]; rfl
    have g1 : ∀ x : Ext C, x.val.cell? ⟨w.heap.size, 1, none⟩ = some (.string s) := fun x => by rw [cell_of_row _ _ _ _ _ _ (x.heap HCb.out)]; rfl
    have HK := hid (fun x : Ext C => HCt.out x.val)
    refine wp_region_ext (by kernel_rfl) (by kernel_rfl) ?_
    repeat (go_big_quiet_step ((go_at_call 44; exact ext_call (HK.out _))))
    refine wpQuiet_nil ?_
    rintro _ ⟨x, rfl⟩
    go_wp2_with fail
    go_ret2
    rw [← HE.out]
    exact ⟨by cases bp <;> rfl, HM.out.trans x.mod⟩
  · have e1 : (n == 0) = false := by simpa using hn
    clear hn
    go_enter Try.func32, Try.ntmps32
    go_wp2_with fail
    generalize w.alloc (.cells #[.int .i64 n, .string s] 50) = C at *
    have g0 : ∀ x : Ext C, x.val.cell? ⟨w.heap.size, 0, none⟩ = some (.int .i64 n) := fun x => by rw [cell_of_row _ _ _ _ _ _ (x.heap HCb.out)]; rfl
    have g1 : ∀ x : Ext C, x.val.cell? ⟨w.heap.size, 1, none⟩ = some (.string s) := fun x => by rw [cell_of_row _ _ _ _ _ _ (x.heap HCb.out)]; rfl
    refine wp_region_ext (by kernel_rfl) (by kernel_rfl) ?_
    repeat (go_big_quiet_step ((fail)))
    refine wpQuiet_nil ?_
    rintro _ ⟨x, rfl⟩
    go_wp2_with fail
    go_ret2
    rw [← HE.out, e1]
    exact ⟨rfl, HM.out.trans x.mod⟩

end Go.Proofs.Ytoclecpedhbokaa
