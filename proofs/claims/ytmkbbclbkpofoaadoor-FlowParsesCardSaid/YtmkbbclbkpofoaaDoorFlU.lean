/- Flow: the document's line: has, word, verb, number -/
import Derived.Test.YtmkbbclbkpofoaaDoorFlE
namespace Go.Proofs.YtmkbbclbkpofoaaDoor
open Go Go.RowKit

/-- The document's line, as it lies: its fields, the place, the fault. -/
structure LA (w : World) (L : Nat) (fa : Option Addr) (fc : Nat) (f : Fs) (p : Nat) (e : Int) : Prop where
  box : w.heap[L]? = some (.cells #[.slice fa f.length fc, .int .i64 (p : Int), .int .i64 e] 49 (0, 0))
  lies : Lies w 1 strI fa f
  ne : 0 < f.length → ¬ blk fa L
  len : f.length ≤ 4096
  sz : ∀ s ∈ f, s.size ≤ 4096 ∧ 0 < s.size
  le : p ≤ f.length

/-- What it stands for. -/
def rep (f : Fs) (p : Nat) (e : Int) : LS := if e = 0 then .good (f.drop p) else .bad e
theorem rep_bad (f : Fs) (p : Nat) {e : Int} (h : e ≠ 0) : rep f p e = .bad e := if_neg h
theorem rep_good (f : Fs) (p : Nat) : rep f p 0 = .good (f.drop p) := if_pos rfl

theorem row3 {V : World} {b : Nat} {v0 v1 v2 : Value} {T : TypeId} (h : V.heap[b]? = some (.cells #[v0, v1, v2] T (0, 0))) : V.cell? ⟨b, 0, none⟩ = some v0 ∧ V.cell? ⟨b, 1, none⟩ = some v1 ∧ V.cell? ⟨b, 2, none⟩ = some v2 ∧ V.frozen? ⟨b, 1, none⟩ = false ∧ V.frozen? ⟨b, 2, none⟩ = false :=
  ⟨by rw [cell_of_row _ _ _ _ _ _ h]; rfl, by rw [cell_of_row _ _ _ _ _ _ h]; rfl, by rw [cell_of_row _ _ _ _ _ _ h]; rfl, frozen_of_row _ _ 1 _ _ h, frozen_of_row _ _ 2 _ _ h⟩

section
variable {w w' : World} {L fc p : Nat} {fa : Option Addr} {f : Fs} {e : Int}

theorem LA.mod {S : Nat → Prop} (h : LA w L fa fc f p e) (hm : Mod S w w') (hL : ¬ S L) (hs : 0 < f.length → ∀ k, blk fa k → ¬ S k) : LA w' L fa fc f p e :=
  ⟨(hm.block L (lt_of_heap h.box) hL).trans h.box, h.lies.mod hm hs, h.ne, h.len, h.sz, h.le⟩
theorem LA.ext (h : LA w L fa fc f p e) (hm : Mod (fun _ => False) w w') : LA w' L fa fc f p e := h.mod hm (fun h => h) (fun _ _ _ h => h)
theorem LA.old {S : Nat → Prop} (h : LA w L fa fc f p e) (hm : Mod S w w') (hs : ∀ k, S k → w.heap.size ≤ k) : LA w' L fa fc f p e :=
  h.mod hm (fun hL => by have := hs L hL; have := lt_of_heap h.box; omega) (fun h0 k hk h1 => by have := hs k h1; have := h.lies.lt k h0 hk; omega)

theorem LA.next (h : LA w L fa fc f p e) (hp : p + 1 ≤ f.length) : LA (w.setCell ⟨L, 1, none⟩ (.int .i64 ((p : Int) + 1))) L fa fc f (p + 1) e :=
  ⟨heap_setCell_same w L 1 _ 49 _ h.box, h.lies.mod (S := fun k => k = L) (Mod.setCell (S := fun k => k = L) (Mod.refl _ _) (fun _ => rfl) _) (fun h0 _ hk e => h.ne h0 (e ▸ hk)), h.ne, h.len, h.sz, hp⟩
theorem LA.fault (h : LA w L fa fc f p e) (e' : Int) : LA (w.setCell ⟨L, 2, none⟩ (.int .i64 e')) L fa fc f p e' :=
  ⟨heap_setCell_same w L 2 _ 49 _ h.box, h.lies.mod (S := fun k => k = L) (Mod.setCell (S := fun k => k = L) (Mod.refl _ _) (fun _ => rfl) _) (fun h0 _ hk e => h.ne h0 (e ▸ hk)), h.ne, h.len, h.sz, h.le⟩
theorem setL (w : World) (L j : Nat) (v : Value) : Mod (fun k => k = L) w (w.setCell ⟨L, j, none⟩ v) := Mod.setCell (S := fun k => k = L) (Mod.refl _ _) (fun _ => rfl) _

/-- The field that is next. -/
theorem LA.open (h : LA w L fa fc f p e) (hp : p < f.length) : ∃ g off s, fa = some ⟨g, off, none⟩ ∧ f.drop p = s :: f.drop (p + 1) ∧ s ∈ f ∧ w.cell? ⟨g, off + p, none⟩ = some (.string s) ∧ g ≠ L ∧ f[p]? = some s := by
  obtain ⟨g, off, hf⟩ := h.lies.some (by omega)
  subst hf
  have hs : f[p]? = some f[p] := List.getElem?_eq_getElem hp
  have q := h.lies.cell strI_len hs (j := 0) rfl
  rw [Nat.add_zero, Nat.mul_one] at q
  exact ⟨g, off, f[p], rfl, List.drop_eq_getElem_cons hp, List.getElem_mem hp, q, fun e => h.ne (by omega) (by rw [blk_some]; exact e), hs⟩
end

theorem LA.at' {w : World} {L fc p g off : Nat} {f : Fs} {e : Int} {s : ByteArray} (h : LA w L (some ⟨g, off, none⟩) fc f p e) (hs : f[p]? = some s) : w.cell? ⟨g, off + p, none⟩ = some (.string s) := by
  have q := h.lies.cell strI_len hs (j := 0) rfl
  rw [Nat.add_zero, Nat.mul_one] at q
  exact q

/-- A value is answered, and the line is read on. -/
def LQ {α : Type} (val : α → Value) (L : Nat) (fa : Option Addr) (fc : Nat) (f : Fs) (w : World) (x : α × LS) (e : Ending) (w' : World) : Prop :=
  e = .returned (val x.1) ∧ Mod (fun k => k = L) w w' ∧ ∃ p e', LA w' L fa fc f p e' ∧ rep f p e' = x.2

set_option maxRecDepth 100000 in
set_option maxHeartbeats 4000000 in
theorem rwd_any {w : World} {L fc p : Nat} {fa : Option Addr} {f : Fs} {e : Int} (h : LA w L fa fc f p e) : Calls Tryd.prog 22 #[.pointer (some ⟨L, 0, none⟩)] w fun e' w' => LQ .string L fa fc f w (runQ wordP emp (rep f p e)) e' w' := by
  obtain ⟨b0, b1, b2, f1, f2⟩ := row3 h.box
  have hle := h.le
  have hln := h.len
  have HH := hid h
  by_cases he : e = 0
  case neg =>
    have e1 : (e == 0) = false := beq_eq_false_iff_ne.2 he
    have HV : Hid (runQ wordP emp (rep f p e) = (emp, .bad e)) := hid (by rw [rep_bad f p he]; rfl)
    rw [HV.out]
    have HR := hid (rep_bad f p he)
    clear h he
    go_enter Tryd.func22, Tryd.ntmps22
    go_wp2_with fail
    go_ret
    exact ⟨rfl, Mod.refl _ _, p, e, HH.out, HR.out⟩
  case pos =>
    subst he
    rw [rep_good]
    have HE := hid (fun n : Nat => h.ext ((Mod.refl _ w).drewN n))
    by_cases hp : p < f.length
    case neg =>
      have i1 : ¬ (p : Int) < (f.length : Int) := by omega
      have hd : f.drop p = [] := List.drop_eq_nil_of_le (by omega)
      have HV : Hid (runQ wordP emp (.good (f.drop p)) = (emp, .bad 100)) := hid (by rw [hd]; rfl)
      rw [HV.out]
      clear h hd
      go_enter Tryd.func22, Tryd.ntmps22
      go_upto_region 3 with fail
      go_quiet (fail)
      go_wp2_with fail
      go_ret
      exact ⟨rfl, ((Mod.refl _ _).drewN _).trans (setL _ _ _ _), p, 100, (HE.out _).fault 100, rep_bad f p (by decide)⟩
    case pos =>
      have i1 : (p : Int) < (f.length : Int) := by omega
      obtain ⟨g, off, s, hfa, hd, hs, q0, hgL, hfs⟩ := h.open hp
      have HS := hid hfs
      subst hfa
      have hsz := (h.sz s hs).1
      have HW : Hid (∀ V : World, Calls Tryd.prog 15 #[.string s] V fun e w' => e = .returned (.bool (wordS s)) ∧ w' = V) := hid (fun V => (rword_any s V (by omega)).mono fun _ _ h => ⟨h.1, h.2.symm⟩)
      have HD := hid hd
      rw [hd]
      cases hw : wordS s with
      | false =>
        have HV : Hid (runQ wordP emp (.good (s :: f.drop (p + 1))) = (emp, .bad 100)) := hid (by unfold runQ; simp only; rw [show wordP (s :: f.drop (p + 1)) = .bad 100 from next_bad hw])
        rw [HV.out]
        rw [hw] at HW
        clear h hd hw hfs
        go_enter Tryd.func22, Tryd.ntmps22
        go_upto_region 3 with fail
        go_quiet (fail)
        have HE1 := hid (HE.out nq)
        have HM1 : Hid (Mod (fun k => k = L) w (w.drewN nq)) := hid ((Mod.refl _ _).drewN nq)
        generalize w.drewN nq = V at *
        clear b0 b1 b2 f1 f2 q0
        obtain ⟨b0, b1, b2, f1, f2⟩ := row3 HE1.out.box
        have q0 := HE1.out.at' HS.out
        go_wp2_with fail
        go_quiet ((go_at_call 15; exact Calls.quiet_of_same (HW.out _)))
        go_wp2_with fail
        go_ret
        exact ⟨rfl, (HM1.out.drewN _).trans (setL _ _ _ _), p, 100, (HE1.out.ext ((Mod.refl _ _).drewN _)).fault 100, rep_bad f p (by decide)⟩
      | true =>
        have HV : Hid (runQ wordP emp (.good (s :: f.drop (p + 1))) = (s, .good (f.drop (p + 1)))) := hid (by unfold runQ; simp only; rw [show wordP (s :: f.drop (p + 1)) = .ok s (f.drop (p + 1)) from next_ok hw])
        rw [HV.out]
        rw [hw] at HW
        clear h hd hw hfs
        go_enter Tryd.func22, Tryd.ntmps22
        go_upto_region 3 with fail
        go_quiet (fail)
        have HE1 := hid (HE.out nq)
        have HM1 : Hid (Mod (fun k => k = L) w (w.drewN nq)) := hid ((Mod.refl _ _).drewN nq)
        generalize w.drewN nq = V at *
        clear b0 b1 b2 f1 f2 q0
        obtain ⟨b0, b1, b2, f1, f2⟩ := row3 HE1.out.box
        have q0 := HE1.out.at' HS.out
        go_wp2_with fail
        go_quiet ((go_at_call 15; exact Calls.quiet_of_same (HW.out _)))
        have HE2 := hid (HE1.out.ext ((Mod.refl _ V).drewN nq))
        have HM2 := hid (HM1.out.drewN nq)
        generalize V.drewN nq = V2 at *
        clear b0 b1 b2 f1 f2 q0
        obtain ⟨b0, b1, b2, f1, f2⟩ := row3 HE2.out.box
        have HE3 := hid (HE2.out.next hp)
        have HM3 := hid (HM2.out.trans (setL V2 L 1 (.int .i64 ((p : Int) + 1))))
        go_upto_region 7 with fail
        generalize V2.setCell ⟨L, 1, none⟩ (.int .i64 ((p : Int) + 1)) = V3 at *
        clear b0 b1 b2 f1 f2
        obtain ⟨b0, b1, _⟩ := row3 HE3.out.box
        have q0 := HE3.out.lies.cell strI_len HS.out (j := 0) rfl
        rw [Nat.add_zero, Nat.mul_one] at q0
        rw [show ((p + 1 : Nat) : Int) = (p : Int) + 1 by omega] at b1
        go_quiet (fail)
        go_wp2_with fail
        go_ret
        exact ⟨rfl, HM3.out.drewN _, p + 1, 0, HE3.out.ext ((Mod.refl _ _).drewN _), rep_good f (p + 1)⟩

theorem hasQ_bad (k : ByteArray) (e : Int) : hasQ k (.bad e) = (false, .bad e) := rfl
theorem hasQ_nil (k : ByteArray) : hasQ k (.good []) = (false, .good []) := rfl
theorem hasQ_yes {k s : ByteArray} {r : Fs} (h : (s.toList == k.toList) = true) : hasQ k (.good (s :: r)) = (true, .good r) := by simp [hasQ, hasR, hasB, h]
theorem hasQ_no {k s : ByteArray} {r : Fs} (h : (s.toList == k.toList) = false) : hasQ k (.good (s :: r)) = (false, .good (s :: r)) := by simp [hasQ, hasR, hasB, h]

set_option maxRecDepth 100000 in
set_option maxHeartbeats 4000000 in
theorem rverb_any {w : World} {L fc p : Nat} {fa : Option Addr} {f : Fs} {e : Int} (h : LA w L fa fc f p e) : Calls Tryd.prog 31 #[.pointer (some ⟨L, 0, none⟩)] w fun e' w' => LQ .string L fa fc f w (runQ verbP emp (rep f p e)) e' w' := by
  obtain ⟨b0, b1, b2, f1, f2⟩ := row3 h.box
  have hle := h.le
  have hln := h.len
  have HH := hid h
  by_cases he : e = 0
  case neg =>
    have e1 : (e == 0) = false := beq_eq_false_iff_ne.2 he
    have HV : Hid (runQ verbP emp (rep f p e) = (emp, .bad e)) := hid (by rw [rep_bad f p he]; rfl)
    rw [HV.out]
    have HR := hid (rep_bad f p he)
    clear h he
    go_enter Tryd.func31, Tryd.ntmps31
    go_wp2_with fail
    go_ret
    exact ⟨rfl, Mod.refl _ _, p, e, HH.out, HR.out⟩
  case pos =>
    subst he
    rw [rep_good]
    have HE := hid (fun n : Nat => h.ext ((Mod.refl _ w).drewN n))
    by_cases hp : p < f.length
    case neg =>
      have i1 : ¬ (p : Int) < (f.length : Int) := by omega
      have hd : f.drop p = [] := List.drop_eq_nil_of_le (by omega)
      have HV : Hid (runQ verbP emp (.good (f.drop p)) = (emp, .bad 100)) := hid (by rw [hd]; rfl)
      rw [HV.out]
      clear h hd
      go_enter Tryd.func31, Tryd.ntmps31
      go_upto_region 3 with fail
      go_quiet (fail)
      go_wp2_with fail
      go_ret
      exact ⟨rfl, ((Mod.refl _ _).drewN _).trans (setL _ _ _ _), p, 100, (HE.out _).fault 100, rep_bad f p (by decide)⟩
    case pos =>
      have i1 : (p : Int) < (f.length : Int) := by omega
      obtain ⟨g, off, s, hfa, hd, hs, q0, hgL, hfs⟩ := h.open hp
      have HS := hid hfs
      subst hfa
      have hsz := (h.sz s hs).1
      have HW : Hid (∀ V : World, Calls Tryd.prog 42 #[.string s] V fun e w' => e = .returned (.bool (verbS s)) ∧ w' = V) := hid (fun V => (risverb_any s V (by omega)).mono fun _ _ h => ⟨h.1, h.2.symm⟩)
      have HD := hid hd
      rw [hd]
      cases hw : verbS s with
      | false =>
        have HV : Hid (runQ verbP emp (.good (s :: f.drop (p + 1))) = (emp, .bad 100)) := hid (by unfold runQ; simp only; rw [show verbP (s :: f.drop (p + 1)) = .bad 100 from next_bad hw])
        rw [HV.out]
        rw [hw] at HW
        clear h hd hw hfs
        go_enter Tryd.func31, Tryd.ntmps31
        go_upto_region 3 with fail
        go_quiet (fail)
        have HE1 := hid (HE.out nq)
        have HM1 : Hid (Mod (fun k => k = L) w (w.drewN nq)) := hid ((Mod.refl _ _).drewN nq)
        generalize w.drewN nq = V at *
        clear b0 b1 b2 f1 f2 q0
        obtain ⟨b0, b1, b2, f1, f2⟩ := row3 HE1.out.box
        have q0 := HE1.out.at' HS.out
        go_wp2_with fail
        go_quiet ((go_at_call 42; exact Calls.quiet_of_same (HW.out _)))
        go_wp2_with fail
        go_ret
        exact ⟨rfl, (HM1.out.drewN _).trans (setL _ _ _ _), p, 100, (HE1.out.ext ((Mod.refl _ _).drewN _)).fault 100, rep_bad f p (by decide)⟩
      | true =>
        have HV : Hid (runQ verbP emp (.good (s :: f.drop (p + 1))) = (s, .good (f.drop (p + 1)))) := hid (by unfold runQ; simp only; rw [show verbP (s :: f.drop (p + 1)) = .ok s (f.drop (p + 1)) from next_ok hw])
        rw [HV.out]
        rw [hw] at HW
        clear h hd hw hfs
        go_enter Tryd.func31, Tryd.ntmps31
        go_upto_region 3 with fail
        go_quiet (fail)
        have HE1 := hid (HE.out nq)
        have HM1 : Hid (Mod (fun k => k = L) w (w.drewN nq)) := hid ((Mod.refl _ _).drewN nq)
        generalize w.drewN nq = V at *
        clear b0 b1 b2 f1 f2 q0
        obtain ⟨b0, b1, b2, f1, f2⟩ := row3 HE1.out.box
        have q0 := HE1.out.at' HS.out
        go_wp2_with fail
        go_quiet ((go_at_call 42; exact Calls.quiet_of_same (HW.out _)))
        have HE2 := hid (HE1.out.ext ((Mod.refl _ V).drewN nq))
        have HM2 := hid (HM1.out.drewN nq)
        generalize V.drewN nq = V2 at *
        clear b0 b1 b2 f1 f2 q0
        obtain ⟨b0, b1, b2, f1, f2⟩ := row3 HE2.out.box
        have HE3 := hid (HE2.out.next hp)
        have HM3 := hid (HM2.out.trans (setL V2 L 1 (.int .i64 ((p : Int) + 1))))
        go_upto_region 7 with fail
        generalize V2.setCell ⟨L, 1, none⟩ (.int .i64 ((p : Int) + 1)) = V3 at *
        clear b0 b1 b2 f1 f2
        obtain ⟨b0, b1, _⟩ := row3 HE3.out.box
        have q0 := HE3.out.lies.cell strI_len HS.out (j := 0) rfl
        rw [Nat.add_zero, Nat.mul_one] at q0
        rw [show ((p + 1 : Nat) : Int) = (p : Int) + 1 by omega] at b1
        go_quiet (fail)
        go_wp2_with fail
        go_ret
        exact ⟨rfl, HM3.out.drewN _, p + 1, 0, HE3.out.ext ((Mod.refl _ _).drewN _), rep_good f (p + 1)⟩

set_option maxRecDepth 100000 in
set_option maxHeartbeats 4000000 in
theorem rhas_any {w : World} {L fc p : Nat} {fa : Option Addr} {f : Fs} {e : Int} (k : ByteArray) (h : LA w L fa fc f p e) : Calls Tryd.prog 21 #[.pointer (some ⟨L, 0, none⟩), .string k] w fun e' w' => LQ .bool L fa fc f w (hasQ k (rep f p e)) e' w' := by
  obtain ⟨b0, b1, b2, f1, f2⟩ := row3 h.box
  have hle := h.le
  have hln := h.len
  have HH := hid h
  have HE := hid (fun n : Nat => h.ext ((Mod.refl _ w).drewN n))
  by_cases he : e = 0
  case neg =>
    have e1 : (e == 0) = false := beq_eq_false_iff_ne.2 he
    have HR := hid (rep_bad f p he)
    rw [HR.out, hasQ_bad]
    clear h he
    go_enter Tryd.func21, Tryd.ntmps21
    go_upto_region 1 with fail
    go_quiet (fail)
    go_wp2_with fail
    go_ret
    exact ⟨rfl, (Mod.refl _ _).drewN _, p, e, HE.out _, HR.out⟩
  case pos =>
    subst he
    rw [rep_good]
    by_cases hp : p < f.length
    case neg =>
      have i1 : ¬ (p : Int) < (f.length : Int) := by omega
      have i2 : decide ((p : Int) < (f.length : Int)) = false := decide_eq_false i1
      have i3 : decide (p < f.length) = false := decide_eq_false hp
      have hd : f.drop p = [] := List.drop_eq_nil_of_le (by omega)
      have HD := hid hd
      rw [hd, hasQ_nil]
      clear h hd
      go_enter Tryd.func21, Tryd.ntmps21
      go_upto_region 1 with fail
      go_quiet (fail)
      go_wp2_with fail
      go_ret
      exact ⟨rfl, (Mod.refl _ _).drewN _, p, 0, HE.out _, by rw [rep_good, HD.out]⟩
    case pos =>
      have i1 : (p : Int) < (f.length : Int) := by omega
      have i2 : decide ((p : Int) < (f.length : Int)) = true := decide_eq_true i1
      have i3 : decide (p < f.length) = true := decide_eq_true hp
      obtain ⟨g, off, s, hfa, hd, hs, q0, hgL, hfs⟩ := h.open hp
      subst hfa
      have HD := hid hd
      rw [hd]
      cases hk : (s.toList == k.toList) with
      | false =>
        rw [hasQ_no hk]
        clear h hd hfs
        go_enter Tryd.func21, Tryd.ntmps21
        go_upto_region 1 with fail
        go_quiet (fail)
        go_wp2_with fail
        go_ret
        exact ⟨rfl, (Mod.refl _ _).drewN _, p, 0, HE.out _, by rw [rep_good, HD.out]⟩
      | true =>
        rw [hasQ_yes hk]
        clear h hd hfs
        go_enter Tryd.func21, Tryd.ntmps21
        go_upto_region 1 with fail
        go_quiet (fail)
        go_wp2_with fail
        go_ret
        exact ⟨rfl, ((Mod.refl _ _).drewN _).trans (setL _ _ _ _), p + 1, 0, (HE.out _).next hp, rep_good f (p + 1)⟩

end Go.Proofs.YtmkbbclbkpofoaaDoor
