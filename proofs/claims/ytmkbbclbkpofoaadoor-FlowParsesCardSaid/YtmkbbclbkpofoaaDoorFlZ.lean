/- Flow: the document's line: step, wait -/
import Derived.Test.YtmkbbclbkpofoaaDoorFlY
import Derived.Test.YtmkbbclbkpofoaaDoorFlV
namespace Go.Proofs.YtmkbbclbkpofoaaDoor
open Go Go.RowKit

/-- A step under way, in the second block of the call's own; the first one is the result's. -/
structure StB (w W : World) (L : Nat) (fa : Option Addr) (fc : Nat) (f : Fs) (cs : List Value) (q : LS) : Prop where
  box : W.heap[w.heap.size + 1]? = some (.cells cs.toArray 53 (0, 0))
  res : W.heap[w.heap.size]? = some (.cells #[.string ⟨#[]⟩, .string ⟨#[]⟩, .string ⟨#[]⟩, .string ⟨#[]⟩, .bool false, .int .i64 0, .int .i64 0, .int .i64 0, .slice none 0 0] 53 (0, 0))
  mod : Mod (fun k => k = L) w W
  la : ∃ p e, LA W L fa fc f p e ∧ rep f p e = q
  lt : L < w.heap.size
  fl : 0 < f.length → ∀ k, blk fa k → k < w.heap.size

section
variable {w W W' : World} {L fc : Nat} {fa : Option Addr} {f : Fs} {cs : List Value} {q : LS}

theorem StB.pass {q' : LS} (h : StB w W L fa fc f cs q) (hm : Mod (fun k => k = L) W W') (hl : ∃ p e, LA W' L fa fc f p e ∧ rep f p e = q') : StB w W' L fa fc f cs q' :=
  ⟨(hm.block _ (lt_of_heap h.box) (by have := h.lt; omega)).trans h.box, (hm.block _ (lt_of_heap h.res) (by have := h.lt; omega)).trans h.res, h.mod.trans hm, hl, h.lt, h.fl⟩
theorem StB.put (h : StB w W L fa fc f cs q) (j : Nat) (v : Value) : StB w (W.setCell ⟨w.heap.size + 1, j, none⟩ v) L fa fc f (cs.set j v) q := by
  have hm : Mod (fun k => k = w.heap.size + 1) W (W.setCell ⟨w.heap.size + 1, j, none⟩ v) := Mod.setCell (S := fun k => k = w.heap.size + 1) (Mod.refl _ _) (fun _ => rfl) _
  obtain ⟨p, e, hl, hr⟩ := h.la
  refine ⟨?_, (hm.block _ (lt_of_heap h.res) (by omega)).trans h.res, h.mod.then hm (fun i hi e => by omega), ⟨p, e, hl.mod hm (by have := h.lt; omega) (fun h0 k hk e => by have := h.fl h0 k hk; omega), hr⟩, h.lt, h.fl⟩
  have := heap_setCell_same W (w.heap.size + 1) j _ 53 v h.box
  simpa using this
theorem StB.cel (h : StB w W L fa fc f cs q) (j : Nat) {u : Value} (hu : cs[j]? = some u) : W.cell? ⟨w.heap.size + 1, j, none⟩ = some u := by
  rw [cell_of_row _ _ _ _ _ _ h.box]
  simpa using hu
theorem StB.frz (h : StB w W L fa fc f cs q) (j : Nat) : W.frozen? ⟨w.heap.size + 1, j, none⟩ = false := frozen_of_row _ _ j _ _ h.box

theorem StB.size (h : StB w W L fa fc f cs q) : w.heap.size + 2 ≤ W.heap.size := lt_of_heap h.box
theorem StB.own {aa : Option Addr} {l : Fs} {ac : Nat} (_ : StB w W L fa fc f cs q) (ho : Own W 9 1 aa l.length ac (l.flatMap strI)) (hn : ∀ k, blk aa k → w.heap.size + 2 ≤ k) (j : Nat) (v : Value) : Own (W.setCell ⟨w.heap.size + 1, j, none⟩ v) 9 1 aa l.length ac (l.flatMap strI) :=
  ho.mod (S := fun k => k = w.heap.size + 1) (Mod.setCell (S := fun k => k = w.heap.size + 1) (Mod.refl _ _) (fun _ => rfl) _) (fun k hk e => by have := hn k hk; omega)

theorem LQ.st {α : Type} {val : α → Value} {x : α × LS} {e : Ending} (h : StB w W L fa fc f cs q) (hq : LQ val L fa fc f W x e W') : e = .returned (val x.1) ∧ StB w W' L fa fc f cs x.2 := ⟨hq.1, h.pass hq.2.1 hq.2.2⟩
theorem StB.word (h : StB w W L fa fc f cs q) : Calls Tryd.prog 22 #[.pointer (some ⟨L, 0, none⟩)] W fun e W' => e = .returned (.string (runQ wordP emp q).1) ∧ StB w W' L fa fc f cs (runQ wordP emp q).2 := by
  obtain ⟨p, e, hl, rfl⟩ := h.la
  exact (rwd_any hl).mono fun e' W' hq => LQ.st h hq
theorem StB.verb (h : StB w W L fa fc f cs q) : Calls Tryd.prog 31 #[.pointer (some ⟨L, 0, none⟩)] W fun e W' => e = .returned (.string (runQ verbP emp q).1) ∧ StB w W' L fa fc f cs (runQ verbP emp q).2 := by
  obtain ⟨p, e, hl, rfl⟩ := h.la
  exact (rverb_any hl).mono fun e' W' hq => LQ.st h hq
theorem StB.has (h : StB w W L fa fc f cs q) (k : ByteArray) : Calls Tryd.prog 21 #[.pointer (some ⟨L, 0, none⟩), .string k] W fun e W' => e = .returned (.bool (hasQ k q).1) ∧ StB w W' L fa fc f cs (hasQ k q).2 := by
  obtain ⟨p, e, hl, rfl⟩ := h.la
  exact (rhas_any k hl).mono fun e' W' hq => LQ.st h hq
theorem StB.num (h : StB w W L fa fc f cs q) (a b : Int) (h0 : 0 ≤ a) (h1 : b ≤ 100) : Calls Tryd.prog 32 #[.pointer (some ⟨L, 0, none⟩), .int .i64 a, .int .i64 b] W fun e W' => e = .returned (.int .i64 (runQ (numP a b) 0 q).1) ∧ StB w W' L fa fc f cs (runQ (numP a b) 0 q).2 := by
  obtain ⟨p, e, hl, rfl⟩ := h.la
  exact (rnum_any a b h0 h1 hl).mono fun e' W' hq => LQ.st h hq
/-- The names, in new memory. -/
def StAf (w W : World) (L : Nat) (fa : Option Addr) (fc : Nat) (f : Fs) (cs : List Value) (q : LS) (e : Ending) (W' : World) : Prop :=
  ∃ (l : Fs) (la : Option Addr) (cap : Nat) (q' : LS), e = .returned (.slice la l.length cap) ∧ StB w W' L fa fc f cs q' ∧ Own W' 9 1 la l.length cap (l.flatMap strI) ∧ (∀ k, blk la k → W.heap.size ≤ k) ∧ l.length ≤ 4096 ∧ Agree l q' q afterP
theorem StB.after (h : StB w W L fa fc f cs q) : Calls Tryd.prog 33 #[.pointer (some ⟨L, 0, none⟩)] W (StAf w W L fa fc f cs q) := by
  obtain ⟨p, e, hl, rfl⟩ := h.la
  refine (rafter_any hl).mono fun e' W' hq => ?_
  obtain ⟨hm, l, la, cap, p', e2, he, ho, hn, hln, hla, ha⟩ := hq
  exact ⟨l, la, cap, _, he, h.pass hm ⟨p', e2, hla, rfl⟩, ho, hn, hln, ha⟩
end

theorem agree_undo_yes {q q1 : LS} (h : hasQ wUndo q = (true, q1)) : Agree ((runQ verbP emp q1).1, false) (runQ verbP emp q1).2 q undoP := by
  obtain ⟨r, rfl, hb, rfl⟩ := has_inv h
  have e : undoP r = (verbP (r.drop 1)).bind fun u r => .ok (u, false) r := if_pos hb
  refine ⟨(fun e h => by cases h), (fun r' v r2 h2 h3 => ?_), (fun r' n h2 h3 => ?_)⟩
  · cases h2
    rw [e] at h3
    have h4 := agree_run verbP emp (.good (r.drop 1))
    cases hp : verbP (r.drop 1) with
    | ok u s =>
      simp only [hp, Rs.bind] at h3
      cases h3
      obtain ⟨h5, h6⟩ := h4.ok _ _ _ rfl hp
      exact ⟨by rw [h5], h6⟩
    | bad n => simp only [hp, Rs.bind] at h3; cases h3
  · cases h2
    rw [e] at h3
    have h4 := agree_run verbP emp (.good (r.drop 1))
    cases hp : verbP (r.drop 1) with
    | ok u s => simp only [hp, Rs.bind] at h3; cases h3
    | bad m =>
      simp only [hp, Rs.bind] at h3
      cases h3
      exact h4.no _ _ rfl hp
theorem agree_undo_no {q q1 : LS} (h : hasQ wUndo q = (false, q1)) : Agree (emp, (hasQ wFinal q1).1) (hasQ wFinal q1).2 q undoP := by
  obtain ⟨rfl, hb⟩ := has_not h
  refine ⟨(fun e h => by subst h; rfl), (fun r v r2 h2 h3 => ?_), (fun r n h2 h3 => ?_)⟩
  · subst h2
    have e : undoP r = .ok (emp, hasB wFinal r) (hasR wFinal r) := if_neg (by rw [hb r rfl]; exact Bool.false_ne_true)
    rw [e] at h3
    cases h3
    exact ⟨rfl, rfl⟩
  · subst h2
    have e : undoP r = .ok (emp, hasB wFinal r) (hasR wFinal r) := if_neg (by rw [hb r rfl]; exact Bool.false_ne_true)
    rw [e] at h3
    cases h3
theorem agree_retry_no {q q1 : LS} (h : hasQ wRetry q = (false, q1)) : Agree ((0 : Int), (0 : Int)) q1 q retryP := by
  obtain ⟨rfl, hb⟩ := has_not h
  refine ⟨(fun e h => h), (fun r v r2 h2 h3 => ?_), (fun r n h2 h3 => ?_)⟩
  · have e : retryP r = .ok (0, 0) r := if_neg (by rw [hb r h2]; exact Bool.false_ne_true)
    rw [e] at h3
    cases h3
    exact ⟨rfl, h2⟩
  · have e : retryP r = .ok (0, 0) r := if_neg (by rw [hb r h2]; exact Bool.false_ne_true)
    rw [e] at h3
    cases h3
theorem agree_retry_yes {q q1 q2 : LS} (h : hasQ wRetry q = (true, q1)) (h2 : AgreeS q2 (runQ (numP 0 5) 0 q1).2 (keyP wEvery)) : Agree ((runQ (numP 0 5) 0 q1).1, (runQ (numP 1 100) 0 q2).1) (runQ (numP 1 100) 0 q2).2 q retryP := by
  obtain ⟨r, rfl, hb, rfl⟩ := has_inv h
  have e : retryP r = (numP 0 5 (r.drop 1)).bind fun a r => (keyP wEvery r).bind fun _ r => (numP 1 100 r).bind fun b r => .ok (a, b) r := if_pos hb
  generalize hx : runQ (numP 0 5) 0 (.good (r.drop 1)) = x at *
  have hA : Agree x.1 x.2 (.good (r.drop 1)) (numP 0 5) := by rw [← hx]; exact agree_run _ _ _
  have h4 : Agree (x.1, (runQ (numP 1 100) 0 q2).1) (runQ (numP 1 100) 0 q2).2 q2 (fun r => (numP 1 100 r).bind fun b r => .ok (x.1, b) r) := Agree.bind (g := fun b r => Rs.ok (x.1, b) r) (agree_run (numP 1 100) 0 q2) (agree_pure _ _)
  have h5 : Agree (x.1, (runQ (numP 1 100) 0 q2).1) (runQ (numP 1 100) 0 q2).2 x.2 (fun r => (keyP wEvery r).bind fun _ r => (numP 1 100 r).bind fun b r => .ok (x.1, b) r) := h2.bind h4
  have h3 : Agree (x.1, (runQ (numP 1 100) 0 q2).1) (runQ (numP 1 100) 0 q2).2 (.good (r.drop 1)) (fun r => (numP 0 5 r).bind fun a r => (keyP wEvery r).bind fun _ r => (numP 1 100 r).bind fun b r => .ok (a, b) r) := Agree.bind (g := fun a r => (keyP wEvery r).bind fun _ r => (numP 1 100 r).bind fun b r => .ok (a, b) r) hA h5
  exact ⟨(fun n h => by cases h), (fun r' v r2 h4 h5 => by cases h4; exact h3.ok _ _ _ rfl (e ▸ h5)), (fun r' n h4 h5 => by cases h4; exact h3.no _ _ rfl (e ▸ h5))⟩

theorem agree_step {q q1 q2 q3 q4 q5 : LS} {n v : ByteArray} {u : ByteArray × Bool} {t : Int × Int} {l : Fs} (h1 : Agree n q1 q wordP) (h2 : Agree v q2 q1 verbP) (h3 : Agree u q3 q2 undoP) (h4 : Agree t q4 q3 retryP) (h5 : Agree l q5 q4 afterP) : Agree (⟨n, v, u.1, emp, u.2, t.1, t.2, 0, l⟩ : Sp) q5 q stepP :=
  Agree.bind (g := fun n r => (verbP r).bind fun v r => (undoP r).bind fun u r => (retryP r).bind fun t r => (afterP r).bind fun a r => Rs.ok (⟨n, v, u.1, emp, u.2, t.1, t.2, 0, a⟩ : Sp) r) h1
    (Agree.bind (g := fun v r => (undoP r).bind fun u r => (retryP r).bind fun t r => (afterP r).bind fun a r => Rs.ok (⟨n, v, u.1, emp, u.2, t.1, t.2, 0, a⟩ : Sp) r) h2
      (Agree.bind (g := fun u r => (retryP r).bind fun t r => (afterP r).bind fun a r => Rs.ok (⟨n, v, u.1, emp, u.2, t.1, t.2, 0, a⟩ : Sp) r) h3
        (Agree.bind (g := fun t r => (afterP r).bind fun a r => Rs.ok (⟨n, v, u.1, emp, u.2, t.1, t.2, 0, a⟩ : Sp) r) h4
          (Agree.bind (g := fun a r => Rs.ok (⟨n, v, u.1, emp, u.2, t.1, t.2, 0, a⟩ : Sp) r) h5 (agree_pure _ _)))))
theorem agree_wait {q q1 q2 q3 q4 q5 : LS} {n v : ByteArray} {t : Int} {l : Fs} (h1 : Agree n q1 q wordP) (h2 : Agree v q2 q1 wordP) (h3 : AgreeS q3 q2 (keyP wWithin)) (h4 : Agree t q4 q3 (numP 1 100)) (h5 : Agree l q5 q4 afterP) : Agree (⟨n, emp, emp, v, false, 0, 0, t, l⟩ : Sp) q5 q waitP :=
  Agree.bind (g := fun n r => (wordP r).bind fun v r => (keyP wWithin r).bind fun _ r => (numP 1 100 r).bind fun t r => (afterP r).bind fun a r => Rs.ok (⟨n, emp, emp, v, false, 0, 0, t, a⟩ : Sp) r) h1
    (Agree.bind (g := fun v r => (keyP wWithin r).bind fun _ r => (numP 1 100 r).bind fun t r => (afterP r).bind fun a r => Rs.ok (⟨n, emp, emp, v, false, 0, 0, t, a⟩ : Sp) r) h2
      (AgreeS.bind (g := fun r => (numP 1 100 r).bind fun t r => (afterP r).bind fun a r => Rs.ok (⟨n, emp, emp, v, false, 0, 0, t, a⟩ : Sp) r) h3
        (Agree.bind (g := fun t r => (afterP r).bind fun a r => Rs.ok (⟨n, emp, emp, v, false, 0, 0, t, a⟩ : Sp) r) h4
          (Agree.bind (g := fun a r => Rs.ok (⟨n, emp, emp, v, false, 0, 0, t, a⟩ : Sp) r) h5 (agree_pure _ _)))))

/-- A step in new memory is answered. -/
def StQ (w : World) (L : Nat) (fa : Option Addr) (fc : Nat) (f : Fs) (q : LS) (p : Fs → Rs Sp) (e : Ending) (w' : World) : Prop :=
  Mod (fun k => k = L) w w' ∧ ∃ (s : Sp) (aa : Option Addr) (ac : Nat) (q' : LS), e = .returned (.agg (SA.cs ⟨s, aa, ac⟩).toArray) ∧ Lies w' 1 strI aa s.after ∧ s.after.length ≤ 4096 ∧ (∀ k, blk aa k → w.heap.size ≤ k) ∧ (∃ p' e', LA w' L fa fc f p' e' ∧ rep f p' e' = q') ∧ Agree s q' q p

/-- The first part of a step is there. -/
def MidU (w : World) (L : Nat) (fa : Option Addr) (fc : Nat) (f : Fs) (n v : ByteArray) (q : LS) (wx : World) : Prop :=
  ∃ (u : ByteArray) (fin : Bool) (q' : LS), StB w wx L fa fc f [.string n, .string v, .string u, .string ⟨#[]⟩, .bool fin, .int .i64 0, .int .i64 0, .int .i64 0, .slice none 0 0] q' ∧ Agree (u, fin) q' q undoP
def MidR (w : World) (L : Nat) (fa : Option Addr) (fc : Nat) (f : Fs) (n v u : ByteArray) (fin : Bool) (q : LS) (wx : World) : Prop :=
  ∃ (a b : Int) (q' : LS), StB w wx L fa fc f [.string n, .string v, .string u, .string ⟨#[]⟩, .bool fin, .int .i64 a, .int .i64 b, .int .i64 0, .slice none 0 0] q' ∧ Agree (a, b) q' q retryP

theorem StB.start {w : World} {L fc p : Nat} {fa : Option Addr} {f : Fs} {e : Int} (h : LA w L fa fc f p e) (V : World) (hV : V = (w.alloc (.cells #[.string ⟨#[]⟩, .string ⟨#[]⟩, .string ⟨#[]⟩, .string ⟨#[]⟩, .bool false, .int .i64 0, .int .i64 0, .int .i64 0, .slice none 0 0] 53)).alloc (.cells #[.string ⟨#[]⟩, .string ⟨#[]⟩, .string ⟨#[]⟩, .string ⟨#[]⟩, .bool false, .int .i64 0, .int .i64 0, .int .i64 0, .slice none 0 0] 53)) :
    StB w V L fa fc f [.string ⟨#[]⟩, .string ⟨#[]⟩, .string ⟨#[]⟩, .string ⟨#[]⟩, .bool false, .int .i64 0, .int .i64 0, .int .i64 0, .slice none 0 0] (rep f p e) := by
  subst hV
  have h1 : (w.alloc (.cells #[.string ⟨#[]⟩, .string ⟨#[]⟩, .string ⟨#[]⟩, .string ⟨#[]⟩, .bool false, .int .i64 0, .int .i64 0, .int .i64 0, .slice none 0 0] 53)).heap.size = w.heap.size + 1 := by simp
  refine ⟨?_, ?_, ((Mod.refl _ _).alloc _).alloc _, ⟨p, e, h.ext (((Mod.refl _ _).alloc _).alloc _), rfl⟩, lt_of_heap h.box, fun h0 k hk => h.lies.lt k h0 hk⟩
  · rw [← h1]
    exact heap_alloc_new _ _
  · rw [Below.heap_alloc _ _ _ (by omega)]
    exact heap_alloc_new _ _

/-- The step is put into the result. -/
theorem StB.done {w W : World} {L fc : Nat} {fa : Option Addr} {f : Fs} {q : LS} {v0 v1 v2 v3 v4 v5 v6 v7 v8 : Value} (h : StB w W L fa fc f [v0, v1, v2, v3, v4, v5, v6, v7, v8] q) {aa : Option Addr} {l : Fs} {ac : Nat} (ho : Own W 9 1 aa l.length ac (l.flatMap strI)) (hn : ∀ k, blk aa k → w.heap.size + 2 ≤ k) :
    ∀ Z, Z = (((((((((W.setCell ⟨w.heap.size, 0, none⟩ v0).setCell ⟨w.heap.size, 1, none⟩ v1).setCell ⟨w.heap.size, 2, none⟩ v2).setCell ⟨w.heap.size, 3, none⟩ v3).setCell ⟨w.heap.size, 4, none⟩ v4).setCell ⟨w.heap.size, 5, none⟩ v5).setCell ⟨w.heap.size, 6, none⟩ v6).setCell ⟨w.heap.size, 7, none⟩ v7).setCell ⟨w.heap.size, 8, none⟩ v8) →
    (Z.cell? ⟨w.heap.size, 0, none⟩ = some v0 ∧ Z.cell? ⟨w.heap.size, 1, none⟩ = some v1 ∧ Z.cell? ⟨w.heap.size, 2, none⟩ = some v2 ∧ Z.cell? ⟨w.heap.size, 3, none⟩ = some v3 ∧ Z.cell? ⟨w.heap.size, 4, none⟩ = some v4 ∧ Z.cell? ⟨w.heap.size, 5, none⟩ = some v5 ∧ Z.cell? ⟨w.heap.size, 6, none⟩ = some v6 ∧ Z.cell? ⟨w.heap.size, 7, none⟩ = some v7 ∧ Z.cell? ⟨w.heap.size, 8, none⟩ = some v8) ∧
    Mod (fun k => k = L) w Z ∧ Lies Z 1 strI aa l ∧ ∃ p' e', LA Z L fa fc f p' e' ∧ rep f p' e' = q := by
  intro Z hZ
  obtain ⟨hb, hm⟩ := put9 h.res v0 v1 v2 v3 v4 v5 v6 v7 v8
  rw [← hZ] at hb hm
  obtain ⟨p, e, hl, hr⟩ := h.la
  exact ⟨(row9 hb).1, h.mod.then hm (fun i hi e => by omega), (ho.mod hm (fun k hk e => by have := hn k hk; omega)).lies, p, e, hl.mod hm (by have := h.lt; omega) (fun h0 k hk e => by have := h.fl h0 k hk; omega), hr⟩

set_option maxRecDepth 100000 in
set_option maxHeartbeats 8000000 in
theorem rstep_any {w : World} {L fc p : Nat} {fa : Option Addr} {f : Fs} {e : Int} (h : LA w L fa fc f p e) : Calls Tryd.prog 23 #[.pointer (some ⟨L, 0, none⟩)] w fun e' w' => StQ w L fa fc f (rep f p e) stepP e' w' := by
  have HS0 := hid (StB.start h)
  clear h
  generalize hq : rep f p e = q at *
  clear hq
  go_enter Tryd.func23, Tryd.ntmps23
  go_upto_region 2 with fail
  have HSa := hid (HS0.out _ rfl)
  clear HS0
  generalize (w.alloc (.cells #[.string ⟨#[]⟩, .string ⟨#[]⟩, .string ⟨#[]⟩, .string ⟨#[]⟩, .bool false, .int .i64 0, .int .i64 0, .int .i64 0, .slice none 0 0] 53)).alloc (.cells #[.string ⟨#[]⟩, .string ⟨#[]⟩, .string ⟨#[]⟩, .string ⟨#[]⟩, .bool false, .int .i64 0, .int .i64 0, .int .i64 0, .slice none 0 0] 53) = V at *
  go_upto_region 3 with (go_at_call 22; refine HSa.out.word.mono ?_; rintro e1 w1 ⟨rfl, h1⟩; have HS1 := hid (h1.put 0 (.string (runQ wordP emp q).1)); have z0 := h1.frz 0; have y0 := h1.cel 0 rfl; clear h1)
  simp only [List.set_cons_zero] at HS1
  have HA1 := hid (agree_run wordP emp q)
  clear z0 y0 HSa
  generalize w1.setCell ⟨w.heap.size + 1, 0, none⟩ (.string (runQ wordP emp q).1) = V1 at *
  generalize runQ wordP emp q = x1 at *
  obtain ⟨n, q1⟩ := x1
  simp only at HS1
  go_upto_region 4 with (go_at_call 31; refine HS1.out.verb.mono ?_; rintro e1 w2 ⟨rfl, h1⟩; have HS2 := hid (h1.put 1 (.string (runQ verbP emp q1).1)); have z0 := h1.frz 1; have y0 := h1.cel 1 rfl; clear h1)
  simp only [List.set_cons_succ, List.set_cons_zero] at HS2
  have HA2 := hid (agree_run verbP emp q1)
  clear z0 y0 HS1
  generalize w2.setCell ⟨w.heap.size + 1, 1, none⟩ (.string (runQ verbP emp q1).1) = V2 at *
  generalize runQ verbP emp q1 = x2 at *
  obtain ⟨v, q2⟩ := x2
  simp only at HS2
  have HU := hid (HS2.out.has wUndo)
  generalize hx : hasQ wUndo q2 = x3 at *
  obtain ⟨b, q3⟩ := x3
  have HX := hid hx
  unfold wUndo at HU
  clear hx HS2
  go_upto_if 16 with (go_at_call 21; refine HU.out.mono ?_; rintro e1 w3 ⟨rfl, h1⟩; have HS3 := hid h1; clear h1)
  go_cut [] (fun wx => MidU w L fa fc f n v q2 wx)
  case first =>
    cases b with
    | true =>
      have HA3 := hid (agree_undo_yes HX.out)
      go_wp2_with (go_at_call 31; refine HS3.out.verb.mono ?_; rintro e1 w4 ⟨rfl, h1⟩; have HS4 := hid (h1.put 2 (.string (runQ verbP emp q3).1)); have z0 := h1.frz 2; have y0 := h1.cel 2 rfl; clear h1)
      go_meet
      case rel =>
        simp only [List.set_cons_succ, List.set_cons_zero] at HS4
        exact ⟨_, _, _, HS4.out, HA3.out⟩
    | false =>
      have HA3 := hid (agree_undo_no HX.out)
      have HF := hid (HS3.out.has wFinal)
      unfold wFinal at HF
      go_wp2_with (go_at_call 21; refine HF.out.mono ?_; rintro e1 w4 ⟨rfl, h1⟩; have HS4 := hid (h1.put 4 (.bool (hasQ wFinal q3).1)); have z0 := h1.frz 4; have y0 := h1.cel 4 rfl; clear h1)
      go_meet
      case rel =>
        simp only [List.set_cons_succ, List.set_cons_zero] at HS4
        exact ⟨_, _, _, HS4.out, HA3.out⟩
  case rest =>
    obtain ⟨u, fin, q4, h4, ha4⟩ := hcut
    have HS5 := hid h4
    have HA4 := hid ha4
    clear h4 ha4
    have HR := hid (HS5.out.has wRetry)
    generalize hx : hasQ wRetry q4 = x5 at *
    obtain ⟨b5, q5⟩ := x5
    have HX5 := hid hx
    unfold wRetry at HR
    clear hx HS5 HX
    go_upto_if 25 with (go_at_call 21; refine HR.out.mono ?_; rintro e1 w5 ⟨rfl, h1⟩; have HS6 := hid h1; clear h1)
    go_cut [] (fun wx => MidR w L fa fc f n v u fin q4 wx)
    case first =>
      cases b5 with
      | false =>
        have HA5 := hid (agree_retry_no HX5.out)
        go_wp2_with fail
        go_meet
        case rel => exact ⟨0, 0, q5, HS6.out, HA5.out⟩
      | true =>
        have HAy := hid (fun q2 h2 => agree_retry_yes (q2 := q2) HX5.out h2)
        go_upto_region 11 with (go_at_call 32; refine (HS6.out.num 0 5 (by decide) (by decide)).mono ?_; rintro e1 w6 ⟨rfl, h1⟩; have HS7 := hid (h1.put 5 (.int .i64 (runQ (numP 0 5) 0 q5).1)); have z0 := h1.frz 5; have y0 := h1.cel 5 rfl; clear h1)
        simp only [List.set_cons_succ, List.set_cons_zero] at HS7
        clear z0 y0
        generalize w6.setCell ⟨w.heap.size + 1, 5, none⟩ (.int .i64 (runQ (numP 0 5) 0 q5).1) = V7 at *
        generalize runQ (numP 0 5) 0 q5 = x7 at *
        obtain ⟨a, q7⟩ := x7
        simp only at HS7 HAy
        have HE := hid (HS7.out.has wEvery)
        generalize hx : hasQ wEvery q7 = x8 at *
        obtain ⟨b8, q8⟩ := x8
        have HX8 := hid hx
        unfold wEvery at HE
        clear hx HS7
        go_upto_region 12 with (go_at_call 21; refine HE.out.mono ?_; rintro e1 w8 ⟨rfl, h1⟩; have HS8 := hid h1; clear h1)
        cases b8 with
        | true =>
          have HA8 := hid (HAy.out _ (key_yes HX8.out))
          go_wp2_with (go_at_call 32; refine (HS8.out.num 1 100 (by decide) (by decide)).mono ?_; rintro e1 w9 ⟨rfl, h1⟩; have HS9 := hid (h1.put 6 (.int .i64 (runQ (numP 1 100) 0 q8).1)); have z0 := h1.frz 6; have y0 := h1.cel 6 rfl; clear h1)
          go_meet
          case rel =>
            simp only [List.set_cons_succ, List.set_cons_zero] at HS9
            exact ⟨_, _, _, HS9.out, HA8.out⟩
        | false =>
          obtain ⟨p8, e8, hl8, hr8⟩ := HS8.out.la
          obtain ⟨c0, c1, c2, _, c4⟩ := row3 hl8.box
          by_cases h8 : e8 = 0
          · subst h8
            rw [rep_good] at hr8
            subst hr8
            have HSf : Hid (StB w (w8.setCell ⟨L, 2, none⟩ (.int .i64 100)) L fa fc f [.string n, .string v, .string u, .string ⟨#[]⟩, .bool fin, .int .i64 a, .int .i64 0, .int .i64 0, .slice none 0 0] (.bad 100)) := hid (HS8.out.pass (setL _ _ _ _) ⟨p8, 100, hl8.fault 100, rep_bad f p8 (by decide)⟩)
            have HA8 := hid (HAy.out _ (key_no HX8.out (fun e h => by cases h) (fun r h => rfl)))
            clear hl8
            go_upto_region 14 with fail
            generalize w8.setCell ⟨L, 2, none⟩ (.int .i64 100) = V9 at *
            clear c0 c1 c2 c4
            go_wp2_with (go_at_call 32; refine (HSf.out.num 1 100 (by decide) (by decide)).mono ?_; rintro e1 w9 ⟨rfl, h1⟩; have HS9 := hid (h1.put 6 (.int .i64 (runQ (numP 1 100) 0 (.bad 100)).1)); have z0 := h1.frz 6; have y0 := h1.cel 6 rfl; clear h1)
            go_meet
            case rel =>
              simp only [List.set_cons_succ, List.set_cons_zero] at HS9
              exact ⟨_, _, _, HS9.out, HA8.out⟩
          · have e1 : (e8 == 0) = false := beq_eq_false_iff_ne.2 h8
            rw [rep_bad f p8 h8] at hr8
            subst hr8
            have HA8 := hid (HAy.out _ (key_no (q2 := .bad e8) HX8.out (fun e h => h) (fun r h => by cases h)))
            clear hl8 h8
            go_wp2_with (go_at_call 32; refine (HS8.out.num 1 100 (by decide) (by decide)).mono ?_; rintro e1 w9 ⟨rfl, h1⟩; have HS9 := hid (h1.put 6 (.int .i64 (runQ (numP 1 100) 0 (.bad e8)).1)); have z0 := h1.frz 6; have y0 := h1.cel 6 rfl; clear h1)
            go_meet
            case rel =>
              simp only [List.set_cons_succ, List.set_cons_zero] at HS9
              exact ⟨_, _, _, HS9.out, HA8.out⟩
    case rest =>
      obtain ⟨a, b, q6, h6, ha6⟩ := hcut
      have HS6 := hid h6
      have HA6 := hid ha6
      clear h6 ha6 HX5
      have HAf := hid HS6.out.after
      have HSz := hid HS6.out.size
      go_upto_region 16 with (go_at_call 33; refine HAf.out.mono ?_; rintro e1 w10 ⟨l, la, cap, q10, rfl, h1, ho, hn, hl, ha⟩; have HS10 := hid (h1.put 8 (.slice la l.length cap)); have HO10 := hid (h1.own ho (fun k hk => Nat.le_trans HSz.out (hn k hk)) 8 (.slice la l.length cap)); have HN10 : Hid (∀ k, blk la k → w.heap.size + 2 ≤ k) := hid (fun k hk => Nat.le_trans HSz.out (hn k hk)); have HA10 := hid (agree_step HA1.out HA2.out HA4.out HA6.out ha); have z0 := h1.frz 8; have y0 := h1.cel 8 rfl; clear h1 ho hn ha)
      clear z0 y0
      simp only [List.set_cons_succ, List.set_cons_zero] at HS10
      generalize w10.setCell ⟨w.heap.size + 1, 8, none⟩ (.slice la l.length cap) = V10 at *
      obtain ⟨⟨c0, c1, c2, c3, c4, c5, c6, c7, c8⟩, _⟩ := row9 HS10.out.box
      obtain ⟨⟨d0, d1, d2, d3, d4, d5, d6, d7, d8⟩, df⟩ := row9 HS10.out.res
      have g0 := df 0
      have g1 := df 1
      have g2 := df 2
      have g3 := df 3
      have g4 := df 4
      have g5 := df 5
      have g6 := df 6
      have g7 := df 7
      have g8 := df 8
      have hF := HS10.out.done HO10.out HN10.out
      have HF := hid hF
      clear df hF HS6
      go_wp2_with fail
      obtain ⟨⟨z0, z1, z2, z3, z4, z5, z6, z7, z8⟩, hm, hli, hla⟩ := HF.out _ rfl
      exact bodyPost_ret (v := .agg (SA.cs ⟨⟨n, v, u, emp, fin, a, b, 0, l⟩, la, cap⟩).toArray) (by simp [results, Tryd.results23, go_sem, z0, z1, z2, z3, z4, z5, z6, z7, z8]; rfl) rfl ⟨hm, _, _, _, _, rfl, hli, hl, fun k hk => by have := HN10.out k hk; omega, hla, HA10.out⟩

def MidW (w : World) (L : Nat) (fa : Option Addr) (fc : Nat) (f : Fs) (n v : ByteArray) (q : LS) (wx : World) : Prop :=
  ∃ (q' : LS), StB w wx L fa fc f [.string n, .string ⟨#[]⟩, .string ⟨#[]⟩, .string v, .bool false, .int .i64 0, .int .i64 0, .int .i64 0, .slice none 0 0] q' ∧ AgreeS q' q (keyP wWithin)

set_option maxRecDepth 100000 in
set_option maxHeartbeats 8000000 in
theorem rwait_any {w : World} {L fc p : Nat} {fa : Option Addr} {f : Fs} {e : Int} (h : LA w L fa fc f p e) : Calls Tryd.prog 24 #[.pointer (some ⟨L, 0, none⟩)] w fun e' w' => StQ w L fa fc f (rep f p e) waitP e' w' := by
  have HS0 := hid (StB.start h)
  clear h
  generalize hq : rep f p e = q at *
  clear hq
  go_enter Tryd.func24, Tryd.ntmps24
  go_upto_region 2 with fail
  have HSa := hid (HS0.out _ rfl)
  clear HS0
  generalize (w.alloc (.cells #[.string ⟨#[]⟩, .string ⟨#[]⟩, .string ⟨#[]⟩, .string ⟨#[]⟩, .bool false, .int .i64 0, .int .i64 0, .int .i64 0, .slice none 0 0] 53)).alloc (.cells #[.string ⟨#[]⟩, .string ⟨#[]⟩, .string ⟨#[]⟩, .string ⟨#[]⟩, .bool false, .int .i64 0, .int .i64 0, .int .i64 0, .slice none 0 0] 53) = V at *
  go_upto_region 3 with (go_at_call 22; refine HSa.out.word.mono ?_; rintro e1 w1 ⟨rfl, h1⟩; have HS1 := hid (h1.put 0 (.string (runQ wordP emp q).1)); have z0 := h1.frz 0; have y0 := h1.cel 0 rfl; clear h1)
  simp only [List.set_cons_zero] at HS1
  have HA1 := hid (agree_run wordP emp q)
  clear z0 y0 HSa
  generalize w1.setCell ⟨w.heap.size + 1, 0, none⟩ (.string (runQ wordP emp q).1) = V1 at *
  generalize runQ wordP emp q = x1 at *
  obtain ⟨n, q1⟩ := x1
  simp only at HS1
  go_upto_region 4 with (go_at_call 22; refine HS1.out.word.mono ?_; rintro e1 w2 ⟨rfl, h1⟩; have HS2 := hid (h1.put 3 (.string (runQ wordP emp q1).1)); have z0 := h1.frz 3; have y0 := h1.cel 3 rfl; clear h1)
  simp only [List.set_cons_succ, List.set_cons_zero] at HS2
  have HA2 := hid (agree_run wordP emp q1)
  clear z0 y0 HS1
  generalize w2.setCell ⟨w.heap.size + 1, 3, none⟩ (.string (runQ wordP emp q1).1) = V2 at *
  generalize runQ wordP emp q1 = x2 at *
  obtain ⟨v, q2⟩ := x2
  simp only at HS2
  have HE := hid (HS2.out.has wWithin)
  generalize hx : hasQ wWithin q2 = x8 at *
  obtain ⟨b8, q8⟩ := x8
  have HX8 := hid hx
  unfold wWithin at HE
  clear hx HS2
  go_upto_region 5 with (go_at_call 21; refine HE.out.mono ?_; rintro e1 w8 ⟨rfl, h1⟩; have HS8 := hid h1; clear h1)
  have HMid : Hid (∀ wx q', StB w wx L fa fc f [.string n, .string ⟨#[]⟩, .string ⟨#[]⟩, .string v, .bool false, .int .i64 0, .int .i64 0, .int .i64 0, .slice none 0 0] q' → AgreeS q' q2 (keyP wWithin) → MidW w L fa fc f n v q2 wx) := hid (fun wx q' h1 h2 => ⟨q', h1, h2⟩)
  obtain ⟨p8, e8, hl8, hr8⟩ := HS8.out.la
  obtain ⟨c0, c1, c2, _, c4⟩ := row3 hl8.box
  cases b8 with
  | true =>
    have HMd := hid (HMid.out _ _ HS8.out (key_yes HX8.out))
    clear HMid hl8 hr8
    go_upto_region 7 with fail
    obtain ⟨q3, h3, ha3⟩ := HMd.out
    have HS3 := hid h3
    have HA3 := hid ha3
    clear h3 ha3
    go_upto_region 8 with (go_at_call 32; refine (HS3.out.num 1 100 (by decide) (by decide)).mono ?_; rintro e1 w9 ⟨rfl, h1⟩; have HS9 := hid (h1.put 7 (.int .i64 (runQ (numP 1 100) 0 q3).1)); have z0 := h1.frz 7; have y0 := h1.cel 7 rfl; clear h1)
    simp only [List.set_cons_succ, List.set_cons_zero] at HS9
    have HA4 := hid (agree_run (numP 1 100) 0 q3)
    clear z0 y0
    generalize w9.setCell ⟨w.heap.size + 1, 7, none⟩ (.int .i64 (runQ (numP 1 100) 0 q3).1) = V4 at *
    generalize runQ (numP 1 100) 0 q3 = x4 at *
    obtain ⟨t, q4⟩ := x4
    simp only at HS9
    have HAf := hid HS9.out.after
    have HSz := hid HS9.out.size
    go_upto_region 9 with (go_at_call 33; refine HAf.out.mono ?_; rintro e1 w10 ⟨l, la, cap, q10, rfl, h1, ho, hn, hl, ha⟩; have HS10 := hid (h1.put 8 (.slice la l.length cap)); have HO10 := hid (h1.own ho (fun k hk => Nat.le_trans HSz.out (hn k hk)) 8 (.slice la l.length cap)); have HN10 : Hid (∀ k, blk la k → w.heap.size + 2 ≤ k) := hid (fun k hk => Nat.le_trans HSz.out (hn k hk)); have HA10 := hid (agree_wait HA1.out HA2.out HA3.out HA4.out ha); have z0 := h1.frz 8; have y0 := h1.cel 8 rfl; clear h1 ho hn ha)
    clear z0 y0
    simp only [List.set_cons_succ, List.set_cons_zero] at HS10
    generalize w10.setCell ⟨w.heap.size + 1, 8, none⟩ (.slice la l.length cap) = V10 at *
    obtain ⟨⟨d0, d1, d2, d3, d4, d5, d6, d7, d8⟩, _⟩ := row9 HS10.out.box
    obtain ⟨⟨r0, r1, r2, r3, r4, r5, r6, r7, r8⟩, df⟩ := row9 HS10.out.res
    have g0 := df 0
    have g1 := df 1
    have g2 := df 2
    have g3 := df 3
    have g4 := df 4
    have g5 := df 5
    have g6 := df 6
    have g7 := df 7
    have g8 := df 8
    have hF := HS10.out.done HO10.out HN10.out
    have HF := hid hF
    clear df hF HS9
    go_wp2_with fail
    obtain ⟨⟨z0, z1, z2, z3, z4, z5, z6, z7, z8⟩, hm, hli, hla⟩ := HF.out _ rfl
    exact bodyPost_ret (v := .agg (SA.cs ⟨⟨n, emp, emp, v, false, 0, 0, t, l⟩, la, cap⟩).toArray) (by simp [results, Tryd.results24, go_sem, z0, z1, z2, z3, z4, z5, z6, z7, z8]; rfl) rfl ⟨hm, _, _, _, _, rfl, hli, hl, fun k hk => by have := HN10.out k hk; omega, hla, HA10.out⟩
  | false =>
    by_cases h8 : e8 = 0
    · subst h8
      rw [rep_good] at hr8
      subst hr8
      have HSf : Hid (StB w (w8.setCell ⟨L, 2, none⟩ (.int .i64 100)) L fa fc f [.string n, .string ⟨#[]⟩, .string ⟨#[]⟩, .string v, .bool false, .int .i64 0, .int .i64 0, .int .i64 0, .slice none 0 0] (.bad 100)) := hid (HS8.out.pass (setL _ _ _ _) ⟨p8, 100, hl8.fault 100, rep_bad f p8 (by decide)⟩)
      have HMd := hid (HMid.out _ _ HSf.out (key_no HX8.out (fun e h => by cases h) (fun r h => rfl)))
      clear HMid hl8 HSf
      go_upto_region 7 with fail
      generalize w8.setCell ⟨L, 2, none⟩ (.int .i64 100) = V9 at *
      clear c0 c1 c2 c4
      obtain ⟨q3, h3, ha3⟩ := HMd.out
      have HS3 := hid h3
      have HA3 := hid ha3
      clear h3 ha3
      go_upto_region 8 with (go_at_call 32; refine (HS3.out.num 1 100 (by decide) (by decide)).mono ?_; rintro e1 w9 ⟨rfl, h1⟩; have HS9 := hid (h1.put 7 (.int .i64 (runQ (numP 1 100) 0 q3).1)); have z0 := h1.frz 7; have y0 := h1.cel 7 rfl; clear h1)
      simp only [List.set_cons_succ, List.set_cons_zero] at HS9
      have HA4 := hid (agree_run (numP 1 100) 0 q3)
      clear z0 y0
      generalize w9.setCell ⟨w.heap.size + 1, 7, none⟩ (.int .i64 (runQ (numP 1 100) 0 q3).1) = V4 at *
      generalize runQ (numP 1 100) 0 q3 = x4 at *
      obtain ⟨t, q4⟩ := x4
      simp only at HS9
      have HAf := hid HS9.out.after
      have HSz := hid HS9.out.size
      go_upto_region 9 with (go_at_call 33; refine HAf.out.mono ?_; rintro e1 w10 ⟨l, la, cap, q10, rfl, h1, ho, hn, hl, ha⟩; have HS10 := hid (h1.put 8 (.slice la l.length cap)); have HO10 := hid (h1.own ho (fun k hk => Nat.le_trans HSz.out (hn k hk)) 8 (.slice la l.length cap)); have HN10 : Hid (∀ k, blk la k → w.heap.size + 2 ≤ k) := hid (fun k hk => Nat.le_trans HSz.out (hn k hk)); have HA10 := hid (agree_wait HA1.out HA2.out HA3.out HA4.out ha); have z0 := h1.frz 8; have y0 := h1.cel 8 rfl; clear h1 ho hn ha)
      clear z0 y0
      simp only [List.set_cons_succ, List.set_cons_zero] at HS10
      generalize w10.setCell ⟨w.heap.size + 1, 8, none⟩ (.slice la l.length cap) = V10 at *
      obtain ⟨⟨d0, d1, d2, d3, d4, d5, d6, d7, d8⟩, _⟩ := row9 HS10.out.box
      obtain ⟨⟨r0, r1, r2, r3, r4, r5, r6, r7, r8⟩, df⟩ := row9 HS10.out.res
      have g0 := df 0
      have g1 := df 1
      have g2 := df 2
      have g3 := df 3
      have g4 := df 4
      have g5 := df 5
      have g6 := df 6
      have g7 := df 7
      have g8 := df 8
      have hF := HS10.out.done HO10.out HN10.out
      have HF := hid hF
      clear df hF HS9
      go_wp2_with fail
      obtain ⟨⟨z0, z1, z2, z3, z4, z5, z6, z7, z8⟩, hm, hli, hla⟩ := HF.out _ rfl
      exact bodyPost_ret (v := .agg (SA.cs ⟨⟨n, emp, emp, v, false, 0, 0, t, l⟩, la, cap⟩).toArray) (by simp [results, Tryd.results24, go_sem, z0, z1, z2, z3, z4, z5, z6, z7, z8]; rfl) rfl ⟨hm, _, _, _, _, rfl, hli, hl, fun k hk => by have := HN10.out k hk; omega, hla, HA10.out⟩
    · have e1 : (e8 == 0) = false := beq_eq_false_iff_ne.2 h8
      rw [rep_bad f p8 h8] at hr8
      subst hr8
      have HMd := hid (HMid.out _ _ HS8.out (key_no (q2 := .bad e8) HX8.out (fun e h => h) (fun r h => by cases h)))
      clear HMid hl8 h8
      go_upto_region 7 with fail
      obtain ⟨q3, h3, ha3⟩ := HMd.out
      have HS3 := hid h3
      have HA3 := hid ha3
      clear h3 ha3
      go_upto_region 8 with (go_at_call 32; refine (HS3.out.num 1 100 (by decide) (by decide)).mono ?_; rintro e1 w9 ⟨rfl, h1⟩; have HS9 := hid (h1.put 7 (.int .i64 (runQ (numP 1 100) 0 q3).1)); have z0 := h1.frz 7; have y0 := h1.cel 7 rfl; clear h1)
      simp only [List.set_cons_succ, List.set_cons_zero] at HS9
      have HA4 := hid (agree_run (numP 1 100) 0 q3)
      clear z0 y0
      generalize w9.setCell ⟨w.heap.size + 1, 7, none⟩ (.int .i64 (runQ (numP 1 100) 0 q3).1) = V4 at *
      generalize runQ (numP 1 100) 0 q3 = x4 at *
      obtain ⟨t, q4⟩ := x4
      simp only at HS9
      have HAf := hid HS9.out.after
      have HSz := hid HS9.out.size
      go_upto_region 9 with (go_at_call 33; refine HAf.out.mono ?_; rintro e1 w10 ⟨l, la, cap, q10, rfl, h1, ho, hn, hl, ha⟩; have HS10 := hid (h1.put 8 (.slice la l.length cap)); have HO10 := hid (h1.own ho (fun k hk => Nat.le_trans HSz.out (hn k hk)) 8 (.slice la l.length cap)); have HN10 : Hid (∀ k, blk la k → w.heap.size + 2 ≤ k) := hid (fun k hk => Nat.le_trans HSz.out (hn k hk)); have HA10 := hid (agree_wait HA1.out HA2.out HA3.out HA4.out ha); have z0 := h1.frz 8; have y0 := h1.cel 8 rfl; clear h1 ho hn ha)
      clear z0 y0
      simp only [List.set_cons_succ, List.set_cons_zero] at HS10
      generalize w10.setCell ⟨w.heap.size + 1, 8, none⟩ (.slice la l.length cap) = V10 at *
      obtain ⟨⟨d0, d1, d2, d3, d4, d5, d6, d7, d8⟩, _⟩ := row9 HS10.out.box
      obtain ⟨⟨r0, r1, r2, r3, r4, r5, r6, r7, r8⟩, df⟩ := row9 HS10.out.res
      have g0 := df 0
      have g1 := df 1
      have g2 := df 2
      have g3 := df 3
      have g4 := df 4
      have g5 := df 5
      have g6 := df 6
      have g7 := df 7
      have g8 := df 8
      have hF := HS10.out.done HO10.out HN10.out
      have HF := hid hF
      clear df hF HS9
      go_wp2_with fail
      obtain ⟨⟨z0, z1, z2, z3, z4, z5, z6, z7, z8⟩, hm, hli, hla⟩ := HF.out _ rfl
      exact bodyPost_ret (v := .agg (SA.cs ⟨⟨n, emp, emp, v, false, 0, 0, t, l⟩, la, cap⟩).toArray) (by simp [results, Tryd.results24, go_sem, z0, z1, z2, z3, z4, z5, z6, z7, z8]; rfl) rfl ⟨hm, _, _, _, _, rfl, hli, hl, fun k hk => by have := HN10.out k hk; omega, hla, HA10.out⟩

end Go.Proofs.YtmkbbclbkpofoaaDoor
