/- Flow: the fields of a line that are left; next at its four functions, has (printed by gennext.py) -/
import Derived.Test.YtmkbbclbkpofoaaDoorFlW
namespace Go.Proofs.YtmkbbclbkpofoaaDoor
open Go Go.RowKit

def strI (s : ByteArray) : List Value := [.string s]
theorem strI_len (s : ByteArray) : (strI s).length = 1 := rfl

/-- A line's fields that are left, in the variable L. -/
structure Ln (w : World) (L : Nat) (a : Option Addr) (c : Nat) (fs : Fs) : Prop where
  box : w.heap[L]? = some (.cells #[.slice a fs.length c] 43 (0, 0))
  lies : Lies w 1 strI a fs
  cap : fs.length ≤ c
  ne : 0 < fs.length → ¬ blk a L
  len : fs.length ≤ 4096
  sz : ∀ s ∈ fs, s.size ≤ 4096

theorem row1 {V : World} {b : Nat} {v0 : Value} {T : TypeId} (h : V.heap[b]? = some (.cells #[v0] T (0, 0))) : V.cell? ⟨b, 0, none⟩ = some v0 ∧ V.frozen? ⟨b, 0, none⟩ = false :=
  ⟨by rw [cell_of_row _ _ _ _ _ _ h]; rfl, frozen_of_row _ _ 0 _ _ h⟩

theorem Ln.mod {S : Nat → Prop} {w w' : World} {L : Nat} {a : Option Addr} {c : Nat} {fs : Fs} (h : Ln w L a c fs) (hm : Mod S w w') (hL : ¬ S L) (hs : 0 < fs.length → ∀ k, blk a k → ¬ S k) : Ln w' L a c fs :=
  ⟨(hm.block L (lt_of_heap h.box) hL).trans h.box, h.lies.mod hm hs, h.cap, h.ne, h.len, h.sz⟩
theorem Ln.ext {w w' : World} {L : Nat} {a : Option Addr} {c : Nat} {fs : Fs} (h : Ln w L a c fs) (hm : Mod (fun _ => False) w w') : Ln w' L a c fs := h.mod hm (fun h => h) (fun _ _ _ h => h)
theorem Ln.old {S : Nat → Prop} {w w' : World} {L : Nat} {a : Option Addr} {c : Nat} {fs : Fs} (h : Ln w L a c fs) (hm : Mod S w w') (hs : ∀ k, S k → w.heap.size ≤ k) : Ln w' L a c fs :=
  h.mod hm (fun hL => by have := hs L hL; have := lt_of_heap h.box; omega) (fun h0 k hk h1 => by have := hs k h1; have := h.lies.lt k h0 hk; omega)

theorem lies_drop {α : Type} {w : World} {size g off : Nat} {f : α → List Value} {x : α} {ls : List α} (hf : ∀ x, (f x).length = size) (h : Lies w size f (some ⟨g, off, none⟩) (x :: ls)) : Lies w size f (some ⟨g, off + size, none⟩) ls := by
  have h1 : Src w size (some ⟨g, off + size, none⟩) ls.length (ls.flatMap f) := by
    unfold Src
    refine ⟨flat_length hf ls, ?_, ?_⟩
    · intro e
      cases e
    · intro a ha j u hu
      cases ha
      have := h.src.2.2 _ rfl (size + j) u (by rw [List.flatMap_cons, List.getElem?_append_right (by rw [hf]; omega), hf, Nat.add_sub_cancel_left]; exact hu)
      rw [Addr.add_lit] at this ⊢
      rw [Nat.add_assoc]
      exact this
  refine ⟨h1, fun _ a ha => by cases ha; rfl, fun k _ hk => ?_⟩
  rw [blk_some] at hk
  subst hk
  exact h.lt g (Nat.succ_pos _) (by rw [blk_some])

theorem Ln.put {w : World} {L c : Nat} {a : Option Addr} {s : ByteArray} {r : Fs} (h : Ln w L a c (s :: r)) {a1 : Option Addr} {c1 : Nat} (hl : Lies w 1 strI a1 r) (hc : r.length ≤ c1) (hb : ∀ k, blk a1 k → blk a k) : Ln (w.setCell ⟨L, 0, none⟩ (.slice a1 r.length c1)) L a1 c1 r := by
  have hm : Mod (fun k => k = L) w (w.setCell ⟨L, 0, none⟩ (.slice a1 r.length c1)) := Mod.setCell (S := fun k => k = L) (Mod.refl _ _) (fun _ => rfl) _
  exact ⟨heap_setCell_same w L 0 _ 43 _ h.box, hl.mod hm (fun _ k hk e => h.ne (Nat.succ_pos _) (hb L (e ▸ hk))), hc, fun _ hk => h.ne (Nat.succ_pos _) (hb L hk), by have := h.len; simp at this; omega, fun x hx => h.sz x (List.mem_cons_of_mem _ hx)⟩

theorem Ln.step {w : World} {L g off c : Nat} {s : ByteArray} {r : Fs} (h : Ln w L (some ⟨g, off, none⟩) c (s :: r)) : Ln (w.setCell ⟨L, 0, none⟩ (.slice (some ⟨g, off + 1, none⟩) r.length (c - 1))) L (some ⟨g, off + 1, none⟩) (c - 1) r :=
  h.put (lies_drop strI_len h.lies) (by have := h.cap; simp at this; omega) (fun k hk => by rw [blk_some] at hk ⊢; exact hk)
theorem Ln.last {w : World} {L g off c : Nat} {s : ByteArray} (h : Ln w L (some ⟨g, off, none⟩) c [s]) : Ln (w.setCell ⟨L, 0, none⟩ (.slice (some ⟨g, off, none⟩) 0 0)) L (some ⟨g, off, none⟩) 0 [] :=
  h.put (lies_nil _ _ _ _) (Nat.le_refl _) (fun _ hk => hk)

/-- What of a line with a field is read. -/
theorem Ln.open {w : World} {L c : Nat} {a : Option Addr} {s : ByteArray} {r : Fs} (h : Ln w L a c (s :: r)) : ∃ g off, a = some ⟨g, off, none⟩ ∧ w.cell? ⟨L, 0, none⟩ = some (.slice (some ⟨g, off, none⟩) (r.length + 1) c) ∧ w.frozen? ⟨L, 0, none⟩ = false ∧ w.cell? ⟨g, off, none⟩ = some (.string s) := by
  obtain ⟨g, off, rfl⟩ := h.lies.some (Nat.succ_pos _)
  have q := h.lies.cell strI_len (i := 0) (x := s) rfl (j := 0) rfl
  rw [Nat.zero_mul, Nat.add_zero] at q
  exact ⟨g, off, rfl, (row1 h.box).1, (row1 h.box).2, q⟩

set_option maxRecDepth 100000 in
theorem next_none {w : World} {L c : Nat} {a : Option Addr} (f : Value) (e : Int) (h : Ln w L a c []) : Calls Tryd.prog 37 #[.pointer (some ⟨L, 0, none⟩), f, .int .i64 e] w fun e' w' => e' = fault e ∧ w = w' := by
  obtain ⟨b0, _⟩ := row1 h.box
  simp only [List.length_nil] at b0
  have HM := hid (must_bad (.pointer (some ⟨L, 0, none⟩)) e w)
  clear h
  go_enter Tryd.func37, Tryd.ntmps37
  go_wp2_with (go_at_call 26; refine HM.out.mono ?_; rintro e' w1 ⟨he, rfl⟩; unfold fault at he; subst he)
  exact ⟨rfl, rfl, rfl⟩
set_option maxRecDepth 100000 in
theorem next_word_no {w : World} {L c : Nat} {a : Option Addr} {s : ByteArray} {r : Fs} {R : World → Prop} (e : Int) (h : Ln w L a c (s :: r)) (hc : Calls Tryd.prog 14 #[.string s] w fun e' w' => e' = .returned (.bool false) ∧ R w') :
    Calls Tryd.prog 37 #[.pointer (some ⟨L, 0, none⟩), .func (.func 14) #[] #[], .int .i64 e] w fun e' w' => e' = fault e ∧ R w' := by
  obtain ⟨g, off, rfl, b0, _, q0⟩ := h.open
  have hl := h.len
  have HM := hid (must_ok (.pointer (some ⟨L, 0, none⟩)) e w)
  have HB := hid (fun V => must_bad (.pointer (some ⟨L, 0, none⟩)) e V)
  have HC := hid hc
  simp only [List.length_cons] at hl
  clear h hc
  go_enter Tryd.func37, Tryd.ntmps37
  go_wp2_with (go_at_call 26; refine HM.out.mono ?_; rintro e' w1 ⟨rfl, rfl⟩)
  refine HC.out.mono ?_
  rintro e' w1 ⟨rfl, hr⟩
  have HR := hid hr
  clear hr
  go_wp2_with (go_at_call 26; refine (HB.out _).mono ?_; rintro e' w1 ⟨he, rfl⟩; unfold fault at he; subst he)
  exact ⟨rfl, rfl, HR.out⟩

set_option maxRecDepth 100000 in
theorem next_word_yes {w : World} {L c : Nat} {a : Option Addr} {s : ByteArray} {r : Fs} {R : World → Prop} (e : Int) (h : Ln w L a c (s :: r)) (hc : Calls Tryd.prog 14 #[.string s] w fun e' w' => e' = .returned (.bool true) ∧ R w') (hr : ∀ w', R w' → Ln w' L a c (s :: r)) :
    Calls Tryd.prog 37 #[.pointer (some ⟨L, 0, none⟩), .func (.func 14) #[] #[], .int .i64 e] w fun e' w' => e' = .returned (.string s) ∧ ∃ w1 a1 c1, R w1 ∧ Mod (fun k => k = L) w1 w' ∧ Ln w' L a1 c1 r ∧ (∀ k, blk a1 k → blk a k) := by
  obtain ⟨g, off, rfl, b0, _, q0⟩ := h.open
  have hl := h.len
  have hcp := h.cap
  have HM := hid (fun V => must_ok (.pointer (some ⟨L, 0, none⟩)) e V)
  have HC := hid hc
  have HH := hid hr
  simp only [List.length_cons] at hl hcp
  clear h hc hr
  by_cases h1 : c = 1
  · subst h1
    have hr0 : r = [] := List.eq_nil_of_length_eq_zero (by omega)
    subst hr0
    clear hl hcp
    simp only [List.length_nil, Nat.zero_add] at b0
    go_enter Tryd.func37, Tryd.ntmps37
    go_wp2_with (go_at_call 26; refine (HM.out _).mono ?_; rintro e' w1 ⟨rfl, rfl⟩)
    refine HC.out.mono ?_
    rintro e' w1 ⟨rfl, hr⟩
    have HR := hid hr
    have hln := HH.out w1 hr
    obtain ⟨b0, f0⟩ := row1 hln.box
    simp only [List.length_cons, List.length_nil] at b0
    have HS := hid hln.last
    clear hr hln
    go_wp2_with (go_at_call 26; refine (HM.out _).mono ?_; rintro e' w2 ⟨rfl, rfl⟩)
    go_ret
    exact ⟨rfl, w1, _, _, HR.out, Mod.setCell (S := fun k => k = L) (Mod.refl _ _) (fun _ => rfl) _, HS.out, fun k hk => hk⟩
  · have h2 : ¬ c - 1 = 0 := by omega
    go_enter Tryd.func37, Tryd.ntmps37
    go_wp2_with (go_at_call 26; refine (HM.out _).mono ?_; rintro e' w1 ⟨rfl, rfl⟩)
    refine HC.out.mono ?_
    rintro e' w1 ⟨rfl, hr⟩
    have HR := hid hr
    have hln := HH.out w1 hr
    obtain ⟨b0, f0⟩ := row1 hln.box
    simp only [List.length_cons] at b0
    have HS := hid hln.step
    clear hr hln
    go_wp2_with (go_at_call 26; refine (HM.out _).mono ?_; rintro e' w2 ⟨rfl, rfl⟩)
    go_ret
    exact ⟨rfl, w1, _, _, HR.out, Mod.setCell (S := fun k => k = L) (Mod.refl _ _) (fun _ => rfl) _, HS.out, fun k hk => by rw [blk_some] at hk ⊢; exact hk⟩
set_option maxRecDepth 100000 in
theorem next_verb_no {w : World} {L c : Nat} {a : Option Addr} {s : ByteArray} {r : Fs} {R : World → Prop} (e : Int) (h : Ln w L a c (s :: r)) (hc : Calls Tryd.prog 47 #[.string s] w fun e' w' => e' = .returned (.bool false) ∧ R w') :
    Calls Tryd.prog 37 #[.pointer (some ⟨L, 0, none⟩), .func (.func 47) #[] #[], .int .i64 e] w fun e' w' => e' = fault e ∧ R w' := by
  obtain ⟨g, off, rfl, b0, _, q0⟩ := h.open
  have hl := h.len
  have HM := hid (must_ok (.pointer (some ⟨L, 0, none⟩)) e w)
  have HB := hid (fun V => must_bad (.pointer (some ⟨L, 0, none⟩)) e V)
  have HC := hid hc
  simp only [List.length_cons] at hl
  clear h hc
  go_enter Tryd.func37, Tryd.ntmps37
  go_wp2_with (go_at_call 26; refine HM.out.mono ?_; rintro e' w1 ⟨rfl, rfl⟩)
  refine HC.out.mono ?_
  rintro e' w1 ⟨rfl, hr⟩
  have HR := hid hr
  clear hr
  go_wp2_with (go_at_call 26; refine (HB.out _).mono ?_; rintro e' w1 ⟨he, rfl⟩; unfold fault at he; subst he)
  exact ⟨rfl, rfl, HR.out⟩

set_option maxRecDepth 100000 in
theorem next_verb_yes {w : World} {L c : Nat} {a : Option Addr} {s : ByteArray} {r : Fs} {R : World → Prop} (e : Int) (h : Ln w L a c (s :: r)) (hc : Calls Tryd.prog 47 #[.string s] w fun e' w' => e' = .returned (.bool true) ∧ R w') (hr : ∀ w', R w' → Ln w' L a c (s :: r)) :
    Calls Tryd.prog 37 #[.pointer (some ⟨L, 0, none⟩), .func (.func 47) #[] #[], .int .i64 e] w fun e' w' => e' = .returned (.string s) ∧ ∃ w1 a1 c1, R w1 ∧ Mod (fun k => k = L) w1 w' ∧ Ln w' L a1 c1 r ∧ (∀ k, blk a1 k → blk a k) := by
  obtain ⟨g, off, rfl, b0, _, q0⟩ := h.open
  have hl := h.len
  have hcp := h.cap
  have HM := hid (fun V => must_ok (.pointer (some ⟨L, 0, none⟩)) e V)
  have HC := hid hc
  have HH := hid hr
  simp only [List.length_cons] at hl hcp
  clear h hc hr
  by_cases h1 : c = 1
  · subst h1
    have hr0 : r = [] := List.eq_nil_of_length_eq_zero (by omega)
    subst hr0
    clear hl hcp
    simp only [List.length_nil, Nat.zero_add] at b0
    go_enter Tryd.func37, Tryd.ntmps37
    go_wp2_with (go_at_call 26; refine (HM.out _).mono ?_; rintro e' w1 ⟨rfl, rfl⟩)
    refine HC.out.mono ?_
    rintro e' w1 ⟨rfl, hr⟩
    have HR := hid hr
    have hln := HH.out w1 hr
    obtain ⟨b0, f0⟩ := row1 hln.box
    simp only [List.length_cons, List.length_nil] at b0
    have HS := hid hln.last
    clear hr hln
    go_wp2_with (go_at_call 26; refine (HM.out _).mono ?_; rintro e' w2 ⟨rfl, rfl⟩)
    go_ret
    exact ⟨rfl, w1, _, _, HR.out, Mod.setCell (S := fun k => k = L) (Mod.refl _ _) (fun _ => rfl) _, HS.out, fun k hk => hk⟩
  · have h2 : ¬ c - 1 = 0 := by omega
    go_enter Tryd.func37, Tryd.ntmps37
    go_wp2_with (go_at_call 26; refine (HM.out _).mono ?_; rintro e' w1 ⟨rfl, rfl⟩)
    refine HC.out.mono ?_
    rintro e' w1 ⟨rfl, hr⟩
    have HR := hid hr
    have hln := HH.out w1 hr
    obtain ⟨b0, f0⟩ := row1 hln.box
    simp only [List.length_cons] at b0
    have HS := hid hln.step
    clear hr hln
    go_wp2_with (go_at_call 26; refine (HM.out _).mono ?_; rintro e' w2 ⟨rfl, rfl⟩)
    go_ret
    exact ⟨rfl, w1, _, _, HR.out, Mod.setCell (S := fun k => k = L) (Mod.refl _ _) (fun _ => rfl) _, HS.out, fun k hk => by rw [blk_some] at hk ⊢; exact hk⟩
set_option maxRecDepth 100000 in
theorem next_key_no {w : World} {L c : Nat} {a : Option Addr} {s : ByteArray} {r : Fs} {R : World → Prop} (p1 : Option Addr) (e : Int) (h : Ln w L a c (s :: r)) (hc : Calls Tryd.prog 51 #[.string s, .pointer p1] w fun e' w' => e' = .returned (.bool false) ∧ R w') :
    Calls Tryd.prog 37 #[.pointer (some ⟨L, 0, none⟩), .func (.func 51) #[] #[.pointer p1], .int .i64 e] w fun e' w' => e' = fault e ∧ R w' := by
  obtain ⟨g, off, rfl, b0, _, q0⟩ := h.open
  have hl := h.len
  have HM := hid (must_ok (.pointer (some ⟨L, 0, none⟩)) e w)
  have HB := hid (fun V => must_bad (.pointer (some ⟨L, 0, none⟩)) e V)
  have HC := hid hc
  simp only [List.length_cons] at hl
  clear h hc
  go_enter Tryd.func37, Tryd.ntmps37
  go_wp2_with (go_at_call 26; refine HM.out.mono ?_; rintro e' w1 ⟨rfl, rfl⟩)
  refine HC.out.mono ?_
  rintro e' w1 ⟨rfl, hr⟩
  have HR := hid hr
  clear hr
  go_wp2_with (go_at_call 26; refine (HB.out _).mono ?_; rintro e' w1 ⟨he, rfl⟩; unfold fault at he; subst he)
  exact ⟨rfl, rfl, HR.out⟩

set_option maxRecDepth 100000 in
theorem next_key_yes {w : World} {L c : Nat} {a : Option Addr} {s : ByteArray} {r : Fs} {R : World → Prop} (p1 : Option Addr) (e : Int) (h : Ln w L a c (s :: r)) (hc : Calls Tryd.prog 51 #[.string s, .pointer p1] w fun e' w' => e' = .returned (.bool true) ∧ R w') (hr : ∀ w', R w' → Ln w' L a c (s :: r)) :
    Calls Tryd.prog 37 #[.pointer (some ⟨L, 0, none⟩), .func (.func 51) #[] #[.pointer p1], .int .i64 e] w fun e' w' => e' = .returned (.string s) ∧ ∃ w1 a1 c1, R w1 ∧ Mod (fun k => k = L) w1 w' ∧ Ln w' L a1 c1 r ∧ (∀ k, blk a1 k → blk a k) := by
  obtain ⟨g, off, rfl, b0, _, q0⟩ := h.open
  have hl := h.len
  have hcp := h.cap
  have HM := hid (fun V => must_ok (.pointer (some ⟨L, 0, none⟩)) e V)
  have HC := hid hc
  have HH := hid hr
  simp only [List.length_cons] at hl hcp
  clear h hc hr
  by_cases h1 : c = 1
  · subst h1
    have hr0 : r = [] := List.eq_nil_of_length_eq_zero (by omega)
    subst hr0
    clear hl hcp
    simp only [List.length_nil, Nat.zero_add] at b0
    go_enter Tryd.func37, Tryd.ntmps37
    go_wp2_with (go_at_call 26; refine (HM.out _).mono ?_; rintro e' w1 ⟨rfl, rfl⟩)
    refine HC.out.mono ?_
    rintro e' w1 ⟨rfl, hr⟩
    have HR := hid hr
    have hln := HH.out w1 hr
    obtain ⟨b0, f0⟩ := row1 hln.box
    simp only [List.length_cons, List.length_nil] at b0
    have HS := hid hln.last
    clear hr hln
    go_wp2_with (go_at_call 26; refine (HM.out _).mono ?_; rintro e' w2 ⟨rfl, rfl⟩)
    go_ret
    exact ⟨rfl, w1, _, _, HR.out, Mod.setCell (S := fun k => k = L) (Mod.refl _ _) (fun _ => rfl) _, HS.out, fun k hk => hk⟩
  · have h2 : ¬ c - 1 = 0 := by omega
    go_enter Tryd.func37, Tryd.ntmps37
    go_wp2_with (go_at_call 26; refine (HM.out _).mono ?_; rintro e' w1 ⟨rfl, rfl⟩)
    refine HC.out.mono ?_
    rintro e' w1 ⟨rfl, hr⟩
    have HR := hid hr
    have hln := HH.out w1 hr
    obtain ⟨b0, f0⟩ := row1 hln.box
    simp only [List.length_cons] at b0
    have HS := hid hln.step
    clear hr hln
    go_wp2_with (go_at_call 26; refine (HM.out _).mono ?_; rintro e' w2 ⟨rfl, rfl⟩)
    go_ret
    exact ⟨rfl, w1, _, _, HR.out, Mod.setCell (S := fun k => k = L) (Mod.refl _ _) (fun _ => rfl) _, HS.out, fun k hk => by rw [blk_some] at hk ⊢; exact hk⟩
set_option maxRecDepth 100000 in
theorem next_num_no {w : World} {L c : Nat} {a : Option Addr} {s : ByteArray} {r : Fs} {R : World → Prop} (p1 p2 p3 : Option Addr) (e : Int) (h : Ln w L a c (s :: r)) (hc : Calls Tryd.prog 48 #[.string s, .pointer p1, .pointer p2, .pointer p3] w fun e' w' => e' = .returned (.bool false) ∧ R w') :
    Calls Tryd.prog 37 #[.pointer (some ⟨L, 0, none⟩), .func (.func 48) #[] #[.pointer p1, .pointer p2, .pointer p3], .int .i64 e] w fun e' w' => e' = fault e ∧ R w' := by
  obtain ⟨g, off, rfl, b0, _, q0⟩ := h.open
  have hl := h.len
  have HM := hid (must_ok (.pointer (some ⟨L, 0, none⟩)) e w)
  have HB := hid (fun V => must_bad (.pointer (some ⟨L, 0, none⟩)) e V)
  have HC := hid hc
  simp only [List.length_cons] at hl
  clear h hc
  go_enter Tryd.func37, Tryd.ntmps37
  go_wp2_with (go_at_call 26; refine HM.out.mono ?_; rintro e' w1 ⟨rfl, rfl⟩)
  refine HC.out.mono ?_
  rintro e' w1 ⟨rfl, hr⟩
  have HR := hid hr
  clear hr
  go_wp2_with (go_at_call 26; refine (HB.out _).mono ?_; rintro e' w1 ⟨he, rfl⟩; unfold fault at he; subst he)
  exact ⟨rfl, rfl, HR.out⟩

set_option maxRecDepth 100000 in
theorem next_num_yes {w : World} {L c : Nat} {a : Option Addr} {s : ByteArray} {r : Fs} {R : World → Prop} (p1 p2 p3 : Option Addr) (e : Int) (h : Ln w L a c (s :: r)) (hc : Calls Tryd.prog 48 #[.string s, .pointer p1, .pointer p2, .pointer p3] w fun e' w' => e' = .returned (.bool true) ∧ R w') (hr : ∀ w', R w' → Ln w' L a c (s :: r)) :
    Calls Tryd.prog 37 #[.pointer (some ⟨L, 0, none⟩), .func (.func 48) #[] #[.pointer p1, .pointer p2, .pointer p3], .int .i64 e] w fun e' w' => e' = .returned (.string s) ∧ ∃ w1 a1 c1, R w1 ∧ Mod (fun k => k = L) w1 w' ∧ Ln w' L a1 c1 r ∧ (∀ k, blk a1 k → blk a k) := by
  obtain ⟨g, off, rfl, b0, _, q0⟩ := h.open
  have hl := h.len
  have hcp := h.cap
  have HM := hid (fun V => must_ok (.pointer (some ⟨L, 0, none⟩)) e V)
  have HC := hid hc
  have HH := hid hr
  simp only [List.length_cons] at hl hcp
  clear h hc hr
  by_cases h1 : c = 1
  · subst h1
    have hr0 : r = [] := List.eq_nil_of_length_eq_zero (by omega)
    subst hr0
    clear hl hcp
    simp only [List.length_nil, Nat.zero_add] at b0
    go_enter Tryd.func37, Tryd.ntmps37
    go_wp2_with (go_at_call 26; refine (HM.out _).mono ?_; rintro e' w1 ⟨rfl, rfl⟩)
    refine HC.out.mono ?_
    rintro e' w1 ⟨rfl, hr⟩
    have HR := hid hr
    have hln := HH.out w1 hr
    obtain ⟨b0, f0⟩ := row1 hln.box
    simp only [List.length_cons, List.length_nil] at b0
    have HS := hid hln.last
    clear hr hln
    go_wp2_with (go_at_call 26; refine (HM.out _).mono ?_; rintro e' w2 ⟨rfl, rfl⟩)
    go_ret
    exact ⟨rfl, w1, _, _, HR.out, Mod.setCell (S := fun k => k = L) (Mod.refl _ _) (fun _ => rfl) _, HS.out, fun k hk => hk⟩
  · have h2 : ¬ c - 1 = 0 := by omega
    go_enter Tryd.func37, Tryd.ntmps37
    go_wp2_with (go_at_call 26; refine (HM.out _).mono ?_; rintro e' w1 ⟨rfl, rfl⟩)
    refine HC.out.mono ?_
    rintro e' w1 ⟨rfl, hr⟩
    have HR := hid hr
    have hln := HH.out w1 hr
    obtain ⟨b0, f0⟩ := row1 hln.box
    simp only [List.length_cons] at b0
    have HS := hid hln.step
    clear hr hln
    go_wp2_with (go_at_call 26; refine (HM.out _).mono ?_; rintro e' w2 ⟨rfl, rfl⟩)
    go_ret
    exact ⟨rfl, w1, _, _, HR.out, Mod.setCell (S := fun k => k = L) (Mod.refl _ _) (fun _ => rfl) _, HS.out, fun k hk => by rw [blk_some] at hk ⊢; exact hk⟩
set_option maxRecDepth 100000 in
theorem has_any {w : World} {L c : Nat} {a : Option Addr} {fs : Fs} (k : ByteArray) (h : Ln w L a c fs) : Calls Tryd.prog 27 #[.pointer (some ⟨L, 0, none⟩), .string k] w fun e' w' => e' = .returned (.bool (hasB k fs)) ∧ ∃ a1 c1, Mod (fun k => k = L) w w' ∧ Ln w' L a1 c1 (hasR k fs) ∧ (∀ k, blk a1 k → blk a k) := by
  cases fs with
  | nil =>
    obtain ⟨b0, _⟩ := row1 h.box
    simp only [List.length_nil] at b0
    have HH := hid h
    clear h
    go_enter Tryd.func27, Tryd.ntmps27
    go_wp2
    go_ret
    exact ⟨rfl, a, c, Mod.refl _ _, HH.out, fun _ h => h⟩
  | cons s r =>
    obtain ⟨g, off, rfl, b0, f0, q0⟩ := h.open
    have hl := h.len
    have hcp := h.cap
    have HH := hid h
    have HS := hid h.step
    simp only [List.length_cons] at hl hcp
    clear h
    have HV : Hid (hasB k (s :: r) = (s.toList == k.toList)) := hid rfl
    cases hb : s.toList == k.toList with
    | false =>
      have HR : Hid (hasR k (s :: r) = s :: r) := hid (by unfold hasR; rw [HV.out, hb]; rfl)
      rw [hb] at HV
      go_enter Tryd.func27, Tryd.ntmps27
      go_wp2
      go_ret
      rw [HV.out, HR.out]
      exact ⟨rfl, _, c, Mod.refl _ _, HH.out, fun _ h => h⟩
    | true =>
      have HR : Hid (hasR k (s :: r) = r) := hid (by unfold hasR; rw [HV.out, hb]; rfl)
      rw [hb] at HV
      by_cases h1 : c = 1
      · subst h1
        have hr0 : r = [] := List.eq_nil_of_length_eq_zero (by omega)
        subst hr0
        have HS := hid HH.out.last
        clear hl hcp
        simp only [List.length_nil, Nat.zero_add] at b0
        go_enter Tryd.func27, Tryd.ntmps27
        go_wp2
        go_ret
        rw [HV.out, HR.out]
        exact ⟨rfl, _, _, Mod.setCell (S := fun k => k = L) (Mod.refl _ _) (fun _ => rfl) _, HS.out, fun k hk => hk⟩
      · have h2 : ¬ c - 1 = 0 := by omega
        go_enter Tryd.func27, Tryd.ntmps27
        go_wp2
        go_ret
        rw [HV.out, HR.out]
        exact ⟨rfl, _, _, Mod.setCell (S := fun k => k = L) (Mod.refl _ _) (fun _ => rfl) _, HS.out, fun k hk => by rw [blk_some] at hk ⊢; exact hk⟩

end Go.Proofs.YtmkbbclbkpofoaaDoor
