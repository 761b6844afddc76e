/- Flow: word, verb, key, number -/
import Derived.Test.YtmkbbclbkpofoaaDoorFlG
namespace Go.Proofs.YtmkbbclbkpofoaaDoor
open Go Go.RowKit

/-- A part of a line was read, or the line is at fault. -/
def RsAns {α : Type} (val : α → Value) (L : Nat) (a : Option Addr) (w : World) (x : Rs α) (e : Ending) (w' : World) : Prop :=
  Mod (fun k => k = L) w w' ∧
    match x with
    | .ok v r => e = .returned (val v) ∧ ∃ a1 c1, Ln w' L a1 c1 r ∧ ∀ k, blk a1 k → blk a k
    | .bad n => e = fault n

theorem alloc3 (w : World) (A B C : Obj) : (((w.alloc A).alloc B).alloc C).heap[w.heap.size]? = some A ∧ (((w.alloc A).alloc B).alloc C).heap[w.heap.size + 1]? = some B ∧ (((w.alloc A).alloc B).alloc C).heap[w.heap.size + 1 + 1]? = some C := by
  have h1 : (w.alloc A).heap.size = w.heap.size + 1 := by simp
  have h2 : ((w.alloc A).alloc B).heap.size = w.heap.size + 1 + 1 := by simp
  refine ⟨?_, ?_, ?_⟩
  · rw [Below.heap_alloc _ _ _ (by omega), Below.heap_alloc _ _ _ (by omega)]
    exact heap_alloc_new _ _
  · rw [Below.heap_alloc _ _ _ (by omega), ← h1]
    exact heap_alloc_new _ _
  · rw [← h2]
    exact heap_alloc_new _ _

section
variable {w : World} {L c : Nat} {a : Option Addr} {fs : Fs}

theorem next_word (h : Ln w L a c fs) : Calls Tryd.prog 37 #[.pointer (some ⟨L, 0, none⟩), .func (.func 14) #[] #[], .int .i64 100] w fun e w' => RsAns .string L a w (wordP fs) e w' := by
  cases fs with
  | nil =>
    refine (next_none _ 100 h).mono ?_
    rintro e w' ⟨rfl, rfl⟩
    exact ⟨Mod.refl _ _, rfl⟩
  | cons s r =>
    have hs := h.sz s List.mem_cons_self
    have HC := isword_any s w (by omega)
    cases hw : wordS s with
    | false =>
      rw [hw] at HC
      refine (next_word_no (R := fun w' => w = w') 100 h HC).mono ?_
      rintro e w' ⟨rfl, rfl⟩
      rw [show wordP (s :: r) = .bad 100 from next_bad hw]
      exact ⟨Mod.refl _ _, rfl⟩
    | true =>
      rw [hw] at HC
      refine (next_word_yes (R := fun w' => w = w') 100 h HC (fun w' hr => by subst hr; exact h)).mono ?_
      rintro e w' ⟨rfl, w1, a1, c1, rfl, hm, hl, hbk⟩
      rw [show wordP (s :: r) = .ok s r from next_ok hw]
      exact ⟨hm, rfl, a1, c1, hl, hbk⟩

theorem next_verb (hg : Glob w) (h : Ln w L a c fs) : Calls Tryd.prog 37 #[.pointer (some ⟨L, 0, none⟩), .func (.func 47) #[] #[], .int .i64 100] w fun e w' => RsAns .string L a w (verbP fs) e w' := by
  cases fs with
  | nil =>
    refine (next_none _ 100 h).mono ?_
    rintro e w' ⟨rfl, rfl⟩
    exact ⟨Mod.refl _ _, rfl⟩
  | cons s r =>
    have hs := h.sz s List.mem_cons_self
    have HC := isverb_any s w hg hs
    cases hw : verbS s with
    | false =>
      rw [hw] at HC
      refine (next_verb_no (R := fun w' => Mod (fun _ => False) w w') 100 h HC).mono ?_
      rintro e w' ⟨rfl, hm⟩
      rw [show verbP (s :: r) = .bad 100 from next_bad hw]
      exact ⟨hm.mono (fun _ _ h => h.elim), rfl⟩
    | true =>
      rw [hw] at HC
      refine (next_verb_yes (R := fun w' => Mod (fun _ => False) w w') 100 h HC (fun w' hr => h.ext hr)).mono ?_
      rintro e w' ⟨rfl, w1, a1, c1, hm1, hm, hl, hbk⟩
      rw [show verbP (s :: r) = .ok s r from next_ok hw]
      exact ⟨(hm1.mono (fun _ _ h => h.elim)).trans hm, rfl, a1, c1, hl, hbk⟩

set_option maxRecDepth 100000 in
theorem word_any (h : Ln w L a c fs) : Calls Tryd.prog 28 #[.pointer (some ⟨L, 0, none⟩)] w fun e w' => RsAns .string L a w (wordP fs) e w' := by
  have HN := hid (next_word h)
  clear h
  generalize wordP fs = x at *
  cases x with
  | ok v r =>
    go_enter Tryd.func28, Tryd.ntmps28
    go_wp2_with (go_at_call 37; refine HN.out.mono ?_; rintro e w1 ⟨hm, rfl, hl⟩; have HM := hid hm; have HL := hid hl; clear hm hl)
    go_ret
    exact ⟨HM.out, rfl, HL.out⟩
  | bad n =>
    go_enter Tryd.func28, Tryd.ntmps28
    go_wp2_with (go_at_call 37; refine HN.out.mono ?_; rintro e w1 ⟨hm, he⟩; have HM := hid hm; simp only [fault] at he; subst he; clear hm)
    exact ⟨rfl, HM.out, rfl⟩

set_option maxRecDepth 100000 in
theorem verb_any (hg : Glob w) (h : Ln w L a c fs) : Calls Tryd.prog 38 #[.pointer (some ⟨L, 0, none⟩)] w fun e w' => RsAns .string L a w (verbP fs) e w' := by
  have HN := hid (next_verb hg h)
  clear h
  generalize verbP fs = x at *
  cases x with
  | ok v r =>
    go_enter Tryd.func38, Tryd.ntmps38
    go_wp2_with (go_at_call 37; refine HN.out.mono ?_; rintro e w1 ⟨hm, rfl, hl⟩; have HM := hid hm; have HL := hid hl; clear hm hl)
    go_ret
    exact ⟨HM.out, rfl, HL.out⟩
  | bad n =>
    go_enter Tryd.func38, Tryd.ntmps38
    go_wp2_with (go_at_call 37; refine HN.out.mono ?_; rintro e w1 ⟨hm, he⟩; have HM := hid hm; simp only [fault] at he; subst he; clear hm)
    exact ⟨rfl, HM.out, rfl⟩

theorem next_key {k : ByteArray} {kb : Nat} (hk : w.heap[kb]? = some (.cells #[.string k] 9 (0, 0))) (h : Ln w L a c fs) : Calls Tryd.prog 37 #[.pointer (some ⟨L, 0, none⟩), .func (.func 51) #[] #[.pointer (some ⟨kb, 0, none⟩)], .int .i64 100] w fun e w' => RsAns .string L a w (keyP k fs) e w' := by
  cases fs with
  | nil =>
    refine (next_none _ 100 h).mono ?_
    rintro e w' ⟨rfl, rfl⟩
    exact ⟨Mod.refl _ _, rfl⟩
  | cons s r =>
    have HC := key1_any s k ⟨kb, 0, none⟩ w (row1 hk).1
    cases hw : (s.toList == k.toList) with
    | false =>
      rw [hw] at HC
      refine (next_key_no (R := fun w' => w = w') _ 100 h HC).mono ?_
      rintro e w' ⟨rfl, rfl⟩
      rw [show keyP k (s :: r) = .bad 100 from next_bad hw]
      exact ⟨Mod.refl _ _, rfl⟩
    | true =>
      rw [hw] at HC
      refine (next_key_yes (R := fun w' => w = w') _ 100 h HC (fun w' hr => by subst hr; exact h)).mono ?_
      rintro e w' ⟨rfl, w1, a1, c1, rfl, hm, hl, hbk⟩
      rw [show keyP k (s :: r) = .ok s r from next_ok hw]
      exact ⟨hm, rfl, a1, c1, hl, hbk⟩

set_option maxRecDepth 100000 in
theorem key_any (k : ByteArray) (h : Ln w L a c fs) : Calls Tryd.prog 40 #[.pointer (some ⟨L, 0, none⟩), .string k] w fun e w' => RsAns (fun _ => .tuple #[]) L a w (keyP k fs) e w' := by
  have hmf : ∀ (fn : Fn) (first cap : Array Value) (w : World), (Instr.makeFunc fn first cap).run Tryd.prog w = .ok (.func fn first cap) w := fun _ _ _ _ => rfl
  have hm : Mod (fun _ => False) w (w.alloc (.cells #[.string k] 9)) := (Mod.refl _ _).alloc _
  have HN := hid (next_key (heap_alloc_new w (.cells #[.string k] 9)) (h.ext hm))
  have HM := hid hm
  clear h hm
  generalize keyP k fs = x at *
  cases x with
  | ok v r =>
    go_enter Tryd.func40, Tryd.ntmps40
    go_wp2_with (go_at_call 37; refine HN.out.mono ?_; rintro e w1 ⟨hm, rfl, hl⟩; have HM1 := hid hm; have HL := hid hl; clear hm hl)
    go_end0
    exact ⟨(HM.out.mono (fun _ _ h => h.elim)).trans HM1.out, rfl, HL.out⟩
  | bad n =>
    go_enter Tryd.func40, Tryd.ntmps40
    go_wp2_with (go_at_call 37; refine HN.out.mono ?_; rintro e w1 ⟨hm, he⟩; have HM1 := hid hm; simp only [fault] at he; subst he; clear hm)
    exact ⟨rfl, (HM.out.mono (fun _ _ h => h.elim)).trans HM1.out, rfl⟩

set_option maxRecDepth 100000 in
set_option maxHeartbeats 2000000 in
theorem num_any (least most : Int) (hg : Glob w) (h : Ln w L a c fs) (h0 : 0 ≤ least) (h1 : most ≤ 100) : Calls Tryd.prog 39 #[.pointer (some ⟨L, 0, none⟩), .int .i64 least, .int .i64 most] w fun e w' => RsAns (.int .i64) L a w (numP least most fs) e w' := by
  have hmf : ∀ (fn : Fn) (first cap : Array Value) (w : World), (Instr.makeFunc fn first cap).run Tryd.prog w = .ok (.func fn first cap) w := fun _ _ _ _ => rfl
  have hm : Mod (fun _ => False) w (((w.alloc (.cells #[.int .i64 least] 3)).alloc (.cells #[.int .i64 most] 3)).alloc (.cells #[.int .i64 0] 3)) := (((Mod.refl _ _).alloc _).alloc _).alloc _
  obtain ⟨x1, x2, x3⟩ := alloc3 w (.cells #[.int .i64 least] 3) (.cells #[.int .i64 most] 3) (.cells #[.int .i64 0] 3)
  have hlt := lt_of_heap h.box
  have HLt := hid h.lies.lt
  obtain ⟨x, hx⟩ : ∃ x, numP least most fs = x := ⟨_, rfl⟩
  have HV := hid hx
  rw [hx]
  clear hx
  have h8 := hg.lt
  have HH := hid (h.ext hm)
  have HG := hid (hg.ext hm)
  have HM := hid hm
  have HX := hid (And.intro x1 (And.intro x2 x3))
  clear h hm x1 x2 x3 hg
  go_enter Tryd.func39, Tryd.ntmps39
  go_upto_region 2 with fail
  generalize ((w.alloc (.cells #[.int .i64 least] 3)).alloc (.cells #[.int .i64 most] 3)).alloc (.cells #[.int .i64 0] 3) = V at *
  cases fs with
  | nil =>
    obtain rfl : x = .bad 102 := HV.out.symm
    have HN := hid (fun (f : Value) => next_none f 102 HH.out)
    go_wp2_with (go_at_call 37; refine (HN.out _).mono ?_; rintro e w1 ⟨he, rfl⟩; simp only [fault] at he; subst he)
    exact ⟨rfl, HM.out.mono (fun _ _ h => h.elim), rfl⟩
  | cons s r =>
    have hs := HH.out.sz s List.mem_cons_self
    have hC := num1_any s HG.out hs HX.out.2.2 HX.out.1 HX.out.2.1 (by omega) (by omega) (by omega) h0 h1
    have HR : Hid (∀ w', Mod (fun k => k = w.heap.size + 1 + 1) V w' → Ln w' L a c (s :: r)) := hid (fun w' hm => HH.out.mod hm (by omega) (fun h0 k hk e => by
      have := HLt.out k h0 hk
      omega))
    cases hn : numS least most s with
    | none =>
      obtain rfl : x = .bad 102 := by rw [← HV.out]; exact num_bad hn
      have HC := hC.mono (R' := fun e w' => e = .returned (.bool false) ∧ Mod (fun k => k = w.heap.size + 1 + 1) V w') (fun e w' ⟨b, he, hm, v, _, hv⟩ => by
        rcases hv with ⟨_, hv⟩ | ⟨rfl, _⟩
        · rw [hn] at hv; cases hv
        · exact ⟨he, hm⟩)
      have HN := hid (next_num_no _ _ _ 102 HH.out HC)
      clear hC HC hn HV
      go_wp2_with (go_at_call 37; refine HN.out.mono ?_; rintro e w1 ⟨he, hm⟩; have HM1 := hid hm; simp only [fault] at he; subst he; clear hm)
      exact ⟨rfl, (HM.out.mono (fun _ _ h => h.elim)).then HM1.out (fun i hi h => by omega), rfl⟩
    | some n =>
      obtain rfl : x = .ok n r := by rw [← HV.out]; exact num_ok hn
      have HC := hC.mono (R' := fun e w' => e = .returned (.bool true) ∧ (Mod (fun k => k = w.heap.size + 1 + 1) V w' ∧ w'.heap[w.heap.size + 1 + 1]? = some (.cells #[.int .i64 n] 3 (0, 0)))) (fun e w' ⟨b, he, hm, v, hb, hv⟩ => by
        rcases hv with ⟨rfl, hv⟩ | ⟨_, hv⟩
        · rw [hn] at hv; cases hv
          exact ⟨he, hm, hb⟩
        · rw [hn] at hv; cases hv)
      have HN := hid (next_num_yes _ _ _ 102 HH.out HC (fun w' h => HR.out w' h.1))
      clear hC HC hn HV
      go_wp2_with (go_at_call 37; refine HN.out.mono ?_; rintro e w1 ⟨rfl, w0, a1, c1, ⟨hm0, hb0⟩, hm, hl, hbk⟩; have HBk := hid hbk; have HM1 := hid (((HM.out.mono (fun _ _ h => h.elim)).then hm0 (fun i hi h => by omega) : Mod (fun k => k = L) w w0).trans hm); have HL := hid hl; obtain ⟨n0, _⟩ := row1 ((hm.block _ (lt_of_heap hb0) (by omega)).trans hb0); clear hm hm0 hb0 hl hbk)
      go_ret
      exact ⟨HM1.out, rfl, a1, c1, HL.out, HBk.out⟩
end

end Go.Proofs.YtmkbbclbkpofoaaDoor
