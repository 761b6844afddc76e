/- Flow: the document's line: after; what parts of a line give together, plain -/
import Derived.Test.YtmkbbclbkpofoaaDoorFlX
namespace Go.Proofs.YtmkbbclbkpofoaaDoor
open Go Go.RowKit

/-- The document's answer agrees with the program's: the same value and the same fields left, or the same fault. -/
structure Agree {α : Type} (x : α) (q' q : LS) (p : Fs → Rs α) : Prop where
  bad : ∀ e, q = .bad e → q' = .bad e
  ok : ∀ r v r', q = .good r → p r = .ok v r' → x = v ∧ q' = .good r'
  no : ∀ r e, q = .good r → p r = .bad e → q' = .bad e

theorem agree_run {α : Type} (p : Fs → Rs α) (z : α) (q : LS) : Agree (runQ p z q).1 (runQ p z q).2 q p := by
  refine ⟨(fun e h => by subst h; rfl), fun r v r' h h2 => ?_, fun r e h h2 => ?_⟩
  · subst h
    simp [runQ, h2]
  · subst h
    simp [runQ, h2]
theorem Agree.bind {α β : Type} {x : α} {y : β} {q q1 q2 : LS} {p : Fs → Rs α} {g : α → Fs → Rs β} (h1 : Agree x q1 q p) (h2 : Agree y q2 q1 (g x)) : Agree y q2 q (fun r => (p r).bind g) := by
  refine ⟨fun e h => h2.bad e (h1.bad e h), fun r v r' h h3 => ?_, fun r e h h3 => ?_⟩
  · cases hp : p r with
    | ok u s =>
      simp only [hp, Rs.bind] at h3
      obtain ⟨rfl, hq⟩ := h1.ok r u s h hp
      exact h2.ok s v r' hq h3
    | bad n =>
      simp only [hp, Rs.bind] at h3
      cases h3
  · cases hp : p r with
    | ok u s =>
      simp only [hp, Rs.bind] at h3
      obtain ⟨rfl, hq⟩ := h1.ok r u s h hp
      exact h2.no s e hq h3
    | bad n =>
      simp only [hp, Rs.bind] at h3
      cases h3
      exact h2.bad _ (h1.no r _ h hp)
theorem agree_pure {α : Type} (v : α) (q : LS) : Agree v q q (fun r => .ok v r) :=
  ⟨fun _ h => h, (fun r v' r' h h2 => by cases h2; exact ⟨rfl, h⟩), (fun r e h h2 => by cases h2)⟩

/-- The same, but for the value. -/
structure AgreeS {α : Type} (q' q : LS) (p : Fs → Rs α) : Prop where
  bad : ∀ e, q = .bad e → q' = .bad e
  ok : ∀ r v r', q = .good r → p r = .ok v r' → q' = .good r'
  no : ∀ r e, q = .good r → p r = .bad e → q' = .bad e
theorem AgreeS.bind {α β : Type} {y : β} {q q1 q2 : LS} {p : Fs → Rs α} {g : Fs → Rs β} (h1 : AgreeS q1 q p) (h2 : Agree y q2 q1 g) : Agree y q2 q (fun r => (p r).bind fun _ r => g r) := by
  refine ⟨fun e h => h2.bad e (h1.bad e h), fun r v r' h h3 => ?_, fun r e h h3 => ?_⟩
  · cases hp : p r with
    | ok u s =>
      simp only [hp, Rs.bind] at h3
      exact h2.ok s v r' (h1.ok r u s h hp) h3
    | bad n =>
      simp only [hp, Rs.bind] at h3
      cases h3
  · cases hp : p r with
    | ok u s =>
      simp only [hp, Rs.bind] at h3
      exact h2.no s e (h1.ok r u s h hp) h3
    | bad n =>
      simp only [hp, Rs.bind] at h3
      cases h3
      exact h2.bad _ (h1.no r _ h hp)

/-- A key that is there, or not. -/
theorem has_inv {k : ByteArray} {q q1 : LS} (h : hasQ k q = (true, q1)) : ∃ r, q = .good r ∧ hasB k r = true ∧ q1 = .good (r.drop 1) := by
  cases q with
  | bad e => cases h
  | good r =>
    unfold hasQ at h
    simp only [Prod.mk.injEq] at h
    exact ⟨r, rfl, h.1, by rw [← h.2, hasR_true h.1]⟩
theorem has_not {k : ByteArray} {q q1 : LS} (h : hasQ k q = (false, q1)) : q1 = q ∧ ∀ r, q = .good r → hasB k r = false := by
  cases q with
  | bad e => cases h; exact ⟨rfl, (fun r h => by cases h)⟩
  | good r =>
    unfold hasQ at h
    simp only [Prod.mk.injEq] at h
    refine ⟨by rw [← h.2, hasR_false h.1], fun r' h' => ?_⟩
    cases h'
    exact h.1
theorem key_yes {k : ByteArray} {q q1 : LS} (h : hasQ k q = (true, q1)) : AgreeS q1 q (keyP k) := by
  obtain ⟨r, rfl, hb, rfl⟩ := has_inv h
  cases r with
  | nil => cases hb
  | cons s t =>
    have hk : keyP k (s :: t) = .ok s t := next_ok (p := fun s : ByteArray => s.toList == k.toList) hb
    refine ⟨(fun e h => by cases h), fun r v r' h h2 => ?_, fun r e h h2 => ?_⟩
    · cases h
      rw [hk] at h2
      cases h2
      rfl
    · cases h
      rw [hk] at h2
      cases h2
theorem key_no {k : ByteArray} {q q1 q2 : LS} (h : hasQ k q = (false, q1)) (h2 : ∀ e, q1 = .bad e → q2 = .bad e) (h3 : ∀ r, q1 = .good r → q2 = .bad 100) : AgreeS q2 q (keyP k) := by
  obtain ⟨rfl, hb⟩ := has_not h
  have hk : ∀ r, q1 = .good r → keyP k r = .bad 100 := fun r hr => by
    have := hb r hr
    cases r with
    | nil => rfl
    | cons s t => exact next_bad (p := fun s : ByteArray => s.toList == k.toList) this
  refine ⟨h2, fun r v r' h h4 => ?_, fun r e h h4 => ?_⟩
  · rw [hk r h] at h4
    cases h4
  · rw [hk r h] at h4
    cases h4
    exact h3 r h

/-- The names behind 'after' in new memory are answered. -/
def AfQ (L : Nat) (fa : Option Addr) (fc : Nat) (f : Fs) (w : World) (q : LS) (e : Ending) (w' : World) : Prop :=
  Mod (fun k => k = L) w w' ∧ ∃ (l : Fs) (la : Option Addr) (cap p' : Nat) (e' : Int), e = .returned (.slice la l.length cap) ∧ Own w' 9 1 la l.length cap (l.flatMap strI) ∧ (∀ k, blk la k → w.heap.size ≤ k) ∧ l.length ≤ 4096 ∧ LA w' L fa fc f p' e' ∧ Agree l (rep f p' e') q afterP

/-- The loop over the names. -/
structure BLoop (w wr : World) (L : Nat) (fa : Option Addr) (fc : Nat) (f : Fs) (p0 p' : Nat) (e' : Int) (done : Fs) (la : Option Addr) (cap : Nat) : Prop where
  own : Own wr 9 1 la done.length cap (done.flatMap strI)
  new : ∀ k, blk la k → w.heap.size ≤ k
  mod : Mod (fun k => k = L) w wr
  la' : LA wr L fa fc f p' e'
  pos : 0 < done.length
  few : done.length ≤ f.length
  run : e' = 0 → f.drop p0 = done ++ f.drop p' ∧ ∀ s ∈ done, wordS s = true
  bad : e' ≠ 0 → e' = 100 ∧ (f.drop p0 = [] ∨ ∃ s, s ∈ f.drop p0 ∧ wordS s = false)

theorem word_cases {q : LS} {v : ByteArray} {q1 : LS} (h : runQ wordP emp q = (v, q1)) : (∃ e, q = .bad e ∧ q1 = .bad e) ∨ (q = .good [] ∧ q1 = .bad 100) ∨ (∃ s r, q = .good (s :: r) ∧ wordS s = false ∧ q1 = .bad 100) ∨ (∃ r, q = .good (v :: r) ∧ wordS v = true ∧ q1 = .good r) := by
  cases q with
  | bad e => cases h; exact .inl ⟨e, rfl, rfl⟩
  | good r =>
    cases r with
    | nil => cases h; exact .inr (.inl ⟨rfl, rfl⟩)
    | cons s t =>
      cases hw : wordS s with
      | false =>
        have : wordP (s :: t) = .bad 100 := next_bad hw
        unfold runQ at h
        simp only [this] at h
        cases h
        exact .inr (.inr (.inl ⟨s, t, rfl, hw, rfl⟩))
      | true =>
        have : wordP (s :: t) = .ok s t := next_ok hw
        unfold runQ at h
        simp only [this] at h
        cases h
        exact .inr (.inr (.inr ⟨t, rfl, hw, rfl⟩))
theorem rep_inj_bad {f : Fs} {p : Nat} {e n : Int} (h : rep f p e = .bad n) : e = n ∧ e ≠ 0 := by
  unfold rep at h
  split at h
  · cases h
  · next he => cases h; exact ⟨rfl, he⟩
theorem rep_inj_good {f : Fs} {p : Nat} {e : Int} {r : Fs} (h : rep f p e = .good r) : e = 0 ∧ f.drop p = r := by
  unfold rep at h
  split at h
  · next he => cases h; exact ⟨he, rfl⟩
  · cases h

theorem afterP_no {r : Fs} (h : hasB wAfter r = false) : afterP r = .ok [] r := after_no h
theorem agree_after_no {q q1 : LS} (h : hasQ wAfter q = (false, q1)) : Agree ([] : Fs) q1 q afterP := by
  obtain ⟨rfl, hb⟩ := has_not h
  refine ⟨fun _ h => h, (fun r v r' h h2 => ?_), (fun r e h h2 => ?_)⟩
  · rw [after_no (hb r h)] at h2
    cases h2
    exact ⟨rfl, h⟩
  · rw [after_no (hb r h)] at h2
    cases h2
theorem agree_after_ok {r t : Fs} (hb : hasB wAfter r = true) (h0 : 0 < (r.drop 1).length) (hw : ∀ s ∈ r.drop 1, wordS s = true) (ht : r.drop 1 = t) : Agree t (.good []) (.good r) afterP := by
  subst ht
  have h := after_ok hb h0 hw
  refine ⟨(fun e h => by cases h), (fun r' v r2 h1 h2 => ?_), (fun r' e h1 h2 => ?_)⟩
  · cases h1
    rw [h] at h2
    cases h2
    exact ⟨rfl, rfl⟩
  · cases h1
    rw [h] at h2
    cases h2
theorem agree_after_bad {r t : Fs} (hb : hasB wAfter r = true) (h : r.drop 1 = [] ∨ ∃ s, s ∈ r.drop 1 ∧ wordS s = false) : Agree t (.bad 100) (.good r) afterP := by
  have h : afterP r = .bad 100 := by
    rcases h with h | ⟨s, h1, h2⟩
    · exact after_nil hb h
    · exact after_bad hb h1 h2
  refine ⟨(fun e h => by cases h), (fun r' v r2 h1 h2 => ?_), (fun r' e h1 h2 => ?_)⟩
  · cases h1
    rw [h] at h2
    cases h2
  · cases h1
    rw [h] at h2
    cases h2
    rfl

set_option maxRecDepth 100000 in
set_option maxHeartbeats 8000000 in
theorem rafter_any {w : World} {L fc p : Nat} {fa : Option Addr} {f : Fs} {e : Int} (h : LA w L fa fc f p e) : Calls Tryd.prog 33 #[.pointer (some ⟨L, 0, none⟩)] w fun e' w' => AfQ L fa fc f w (rep f p e) e' w' := by
  obtain ⟨i0, hi0, hz0, hz1, hz2⟩ := info_parts infoStr
  have HH := hid (rhas_any wAfter h)
  have hln := h.len
  have hLt := lt_of_heap h.box
  have hfA : Hid (0 < f.length → ∀ k, blk fa k → k < w.heap.size) := hid (fun h0 k hk => h.lies.lt k h0 hk)
  generalize hx : hasQ wAfter (rep f p e) = x at *
  obtain ⟨b, q1⟩ := x
  have HX := hid hx
  unfold wAfter at HH
  clear h hx
  cases b with
  | false =>
    have HA := hid (agree_after_no HX.out)
    go_enter Tryd.func33, Tryd.ntmps33
    go_wp2_with (go_at_call 21; refine HH.out.mono ?_; rintro e1 w1 ⟨rfl, hm, p1, e2, hl, hr⟩; have HM := hid hm; have HL := hid hl; have HR := hid hr; clear hm hl hr)
    go_ret
    exact ⟨HM.out, [], none, 0, p1, e2, rfl, Own.nil _ _ _, fun k hk => (blk_none k hk).elim, Nat.zero_le _, HL.out, by rw [HR.out]; exact HA.out⟩
  | true =>
    obtain ⟨r, hq, hb, hq1⟩ := has_inv HX.out
    obtain ⟨he, hdr⟩ := rep_inj_good hq
    subst he
    have HB := hid hb
    have HDr := hid hdr
    have HQ := hid hq
    subst hq1
    clear hq hb hdr HX
    go_enter Tryd.func33, Tryd.ntmps33
    go_upto_region 4 with (go_at_call 21; refine HH.out.mono ?_; rintro e1 w1 ⟨rfl, hm, p1, e2, hl, hr⟩; have HM := hid hm; have HL := hid hl; have HR := hid hr; clear hm hl hr)
    obtain ⟨he2, hp1⟩ := rep_inj_good HR.out
    have HP1 := hid hp1
    subst he2
    have hp1l := HL.out.le
    have hlt1 : p1 < f.length + 1 := by omega
    have HW := hid (rwd_any HL.out)
    rw [rep_good] at HW
    generalize hy : runQ wordP emp (.good (f.drop p1)) = y at *
    obtain ⟨v, q2⟩ := y
    have HY := hid (word_cases hy)
    clear hy
    go_upto_region 6 with (go_at_call 22; refine HW.out.mono ?_; rintro e1 w2 ⟨rfl, hm, p2, e3, hl, hr⟩; have HM2 := hid (HM.out.trans hm); have HL2 := hid hl; have HR2 := hid hr; clear hm hl hr)
    clear HH HW HL
    have h0f : 0 < f.length := by
      have h1 := HB.out
      have h2 := HDr.out
      cases f with
      | nil => rw [List.drop_nil] at h2; subst h2; cases h1
      | cons _ _ => exact Nat.succ_pos _
    have hfL := hfA.out h0f
    have HfL := hid hfL
    have HS : Hid (Own (w2.alloc (.cells #[.string v] 9)) 9 1 (some ⟨w2.heap.size, 0, none⟩) 1 1 [.string v]) := hid ⟨rfl, Nat.le_refl _, by unfold maxLen; omega, .inr ⟨_, 0, _, rfl, heap_alloc_new _ _, by simp, rfl⟩⟩
    have HM3 := hid (HM2.out.alloc (.cells #[.string v] 9))
    have HL3 := hid (HL2.out.ext ((Mod.refl _ _).alloc (.cells #[.string v] 9)))
    have HSz := hid HM2.out.size
    have HRun : Hid (e3 = 0 → f.drop p1 = [v] ++ f.drop p2 ∧ ∀ s ∈ [v], wordS s = true) := hid (fun h3 => by
      subst h3
      have h4 := HR2.out
      rw [rep_good] at h4
      rcases HY.out with ⟨e, h5, _⟩ | ⟨_, h6⟩ | ⟨s, t, _, _, h6⟩ | ⟨t, h5, hw, h6⟩
      · cases h5
      · rw [h6] at h4; cases h4
      · rw [h6] at h4; cases h4
      · rw [h6] at h4
        simp only [LS.good.injEq] at h4 h5
        exact ⟨by rw [h5, h4]; rfl, fun s hs => by rw [List.mem_singleton] at hs; subst hs; exact hw⟩)
    have HBd : Hid (e3 ≠ 0 → e3 = 100 ∧ (f.drop p1 = [] ∨ ∃ s, s ∈ f.drop p1 ∧ wordS s = false)) := hid (fun h3 => by
      have h4 := HR2.out
      rw [rep_bad f p2 h3] at h4
      rcases HY.out with ⟨e, h5, _⟩ | ⟨h5, h6⟩ | ⟨s, t, h5, hw, h6⟩ | ⟨t, h5, hw, h6⟩
      · cases h5
      · rw [h6] at h4
        simp only [LS.good.injEq, LS.bad.injEq] at h4 h5
        exact ⟨h4, .inl h5⟩
      · rw [h6] at h4
        simp only [LS.good.injEq, LS.bad.injEq] at h4 h5
        exact ⟨h4, .inr ⟨s, by rw [h5]; exact List.mem_cons_self, hw⟩⟩
      · rw [h6] at h4; cases h4)
    clear HL2
    generalize w2.alloc (.cells #[.string v] 9) = V at *
    go_loopw [4, 5] (fun _ so wr => ∃ (done : Fs) (la : Option Addr) (cap p' : Nat) (e' : Int), so = .slice la done.length cap ∧ BLoop w wr L fa fc f p1 p' e' done la cap) (fun _ so wr => f.length - lenOf so)
    case atStart => exact ⟨[v], some ⟨w2.heap.size, 0, none⟩, 1, p2, e3, rfl, HS.out, fun k hk => by rw [blk_some] at hk; subst hk; exact HSz.out, HM3.out, HL3.out, Nat.succ_pos _, h0f, HRun.out, HBd.out⟩
    case round =>
      obtain ⟨done, la, cap, p', e', rfl, hd⟩ := hrel
      obtain ⟨wo, rfl⟩ : ∃ y, y = wr := ⟨wr, rfl⟩
      have HD := hid hd
      obtain ⟨b0, b1, b2, f1, f2⟩ := row3 hd.la'.box
      have hle := hd.la'.le
      have hfew := hd.few
      have hpos := hd.pos
      clear hd
      by_cases he : e' = 0
      case neg =>
        have e1 : (e' == 0) = false := beq_eq_false_iff_ne.2 he
        obtain ⟨h100, hbd⟩ := HD.out.bad he
        have HA := hid (agree_after_bad (t := done) HB.out (by rw [← HP1.out]; exact hbd))
        subst h100
        clear hbd
        go_upto_region 6 with fail
        go_quiet (fail)
        go_wp2_with fail
        go_ret
        exact ⟨HD.out.mod.drewN _, done, la, cap, p', 100, rfl, HD.out.own.mod ((Mod.refl _ _).drewN _) (fun _ _ h => h), HD.out.new, by omega, HD.out.la'.ext ((Mod.refl _ _).drewN _), by rw [rep_bad f p' (by decide), HQ.out]; exact HA.out⟩
      case pos =>
        subst he
        obtain ⟨hrun, hwd⟩ := HD.out.run rfl
        have HRu := hid hrun
        have HWd := hid hwd
        have hll : f.length - p1 = done.length + (f.length - p') := by
          have := congrArg List.length hrun
          rw [List.length_append, List.length_drop, List.length_drop] at this
          exact this
        clear hrun hwd
        by_cases hp : p' < f.length
        case neg =>
          have i1 : ¬ (p' : Int) < (f.length : Int) := by omega
          have i2 : decide ((p' : Int) < (f.length : Int)) = false := decide_eq_false i1
          have i3 : decide (p' < f.length) = false := decide_eq_false hp
          have hd0 : f.drop p' = [] := List.drop_eq_nil_of_le (by omega)
          have HA := hid (agree_after_ok (r := r) (t := done) HB.out (by rw [← HP1.out, HRu.out, List.length_append]; omega) (by rw [← HP1.out, HRu.out, hd0, List.append_nil]; exact HWd.out) (by rw [← HP1.out, HRu.out, hd0, List.append_nil]))
          have HD0 := hid hd0
          clear hd0
          go_upto_region 6 with fail
          go_quiet (fail)
          go_wp2_with fail
          go_ret
          exact ⟨HD.out.mod.drewN _, done, la, cap, p', 0, rfl, HD.out.own.mod ((Mod.refl _ _).drewN _) (fun _ _ h => h), HD.out.new, by omega, HD.out.la'.ext ((Mod.refl _ _).drewN _), by rw [rep_good, HD0.out, HQ.out]; exact HA.out⟩
        case pos =>
          have i1 : (p' : Int) < (f.length : Int) := by omega
          have i2 : decide ((p' : Int) < (f.length : Int)) = true := decide_eq_true i1
          have i3 : decide (p' < f.length) = true := decide_eq_true hp
          go_upto_region 6 with fail
          go_quiet (fail)
          have HD2 : Hid (BLoop w (wo.drewN nq) L fa fc f p1 p' 0 done la cap) := hid ⟨HD.out.own.mod ((Mod.refl _ _).drewN _) (fun _ _ h => h), HD.out.new, HD.out.mod.drewN _, HD.out.la'.ext ((Mod.refl _ _).drewN _), HD.out.pos, HD.out.few, HD.out.run, HD.out.bad⟩
          generalize wo.drewN nq = V2 at *
          clear HD b0 b1 b2 f1 f2
          have HW := hid (rwd_any HD2.out.la')
          rw [rep_good] at HW
          generalize hy : runQ wordP emp (.good (f.drop p')) = y at *
          obtain ⟨u, q3⟩ := y
          have HU := hid (word_cases hy)
          clear hy
          go_wp2_with (first
            | (go_at_call 22; refine HW.out.mono ?_; rintro e1 w5 ⟨rfl, hm5, p3, e4, hl5, hr5⟩; have HM5 := hid (HD2.out.mod.trans hm5); have HL5 := hid hl5; have HR5 := hid hr5; have HOa := hid ((HD2.out.own.mod hm5 (fun k hk e => by have := HD2.out.new k hk; omega)).mod (S := fun _ => False) ((Mod.refl _ _).alloc (.cells #[.string u] 9)) (fun _ _ h => h)); have HSa : Hid (Src (w5.alloc (.cells #[.string u] 9)) 1 (some ⟨w5.heap.size, 0, none⟩) 1 [.string u]) := hid (src_new (heap_alloc_new _ _) rfl); have HMa := hid (HM5.out.alloc (.cells #[.string u] 9)); have HSz5 := hid HM5.out.size; clear hm5 hl5 hr5)
            | (at_builtin; refine wpList_append_Own rfl (.tmp 33) (.tmp 35) 38 rfl 9 i0 _ 1 16 Tryd.underlying38 hi0 hz0 hz1 hz2 rfl la done.length cap _ rfl HOa.out (some ⟨w5.heap.size, 0, none⟩) 1 1 _ rfl HSa.out (by intro u hu; simp at hu; subst hu; rfl) (by unfold maxLen; omega) (by omega) ?_; intro la6 cap6 w6 hown hm hb hn hr; have HO6 := hid hown; have HM6 := hid hm; have HB6 := hid hb; clear hown hm hb hn hr))
          go_roundw
          case rel =>
            have hdl : (done ++ [u]).length = done.length + 1 := by simp
            refine ⟨done ++ [u], la6, cap6, p3, e4, by rw [hdl], ⟨?_, fun j hj => ?_, ?_, ?_, by omega, by omega, fun h3 => ?_, fun h3 => ?_⟩⟩
            · have := HO6.out
              rw [List.flatMap_append, List.length_append]
              simpa [strI] using this
            · rcases HB6.out j hj with h | h
              · exact HD2.out.new j h
              · have := HSz5.out; have : w5.heap.size ≤ (w5.alloc (.cells #[.string u] 9)).heap.size := by simp
                omega
            · exact HMa.out.then HM6.out (fun i hi h => by have := HD2.out.new i h; omega)
            · exact (HL5.out.ext ((Mod.refl _ _).alloc (.cells #[.string u] 9))).mod HM6.out (fun h => by have := HD2.out.new L h; omega) (fun h0 k hk h => by have := HD2.out.new k h; have := HfL.out k hk; omega)
            · subst h3
              have h4 := HR5.out
              rw [rep_good] at h4
              rcases HU.out with ⟨e, h5, _⟩ | ⟨_, h6⟩ | ⟨s, t, _, _, h6⟩ | ⟨t, h5, hw, h6⟩
              · cases h5
              · rw [h6] at h4; cases h4
              · rw [h6] at h4; cases h4
              · rw [h6] at h4
                simp only [LS.good.injEq] at h4 h5
                refine ⟨by rw [HRu.out, h5, h4, List.append_assoc]; rfl, fun s hs => ?_⟩
                rcases List.mem_append.1 hs with h | h
                · exact HWd.out s h
                · rw [List.mem_singleton] at h; subst h; exact hw
            · have h4 := HR5.out
              rw [rep_bad f p3 h3] at h4
              rcases HU.out with ⟨e, h5, _⟩ | ⟨h5, h6⟩ | ⟨s, t, h5, hw, h6⟩ | ⟨t, h5, hw, h6⟩
              · cases h5
              · simp only [LS.good.injEq] at h5
                have := congrArg List.length h5
                rw [List.length_drop] at this
                simp only [List.length_nil] at this
                omega
              · rw [h6] at h4
                simp only [LS.good.injEq, LS.bad.injEq] at h4 h5
                exact ⟨h4, .inr ⟨s, by rw [HRu.out, h5]; simp, hw⟩⟩
              · rw [h6] at h4; cases h4
          case measure => simp [lenOf]; omega

end Go.Proofs.YtmkbbclbkpofoaaDoor
