/- Flow: the document's Parse: what holds while a line is read -/
import Derived.Test.YtmkbbclbkpofoaaDoorFlZ
import Derived.Test.YtmkbbclbkpofoaaDoorFlTa
namespace Go.Proofs.YtmkbbclbkpofoaaDoor
open Go Go.RowKit

/-- Between two lines. -/
structure PdB (w W : World) (lq : Option Addr) (PL : List (List UInt8)) (d : Df) (sa : Option Addr) (cap : Nat) (ss : List SA) : Prop where
  t : TAt 30 53 W w.heap.size (w.heap.size + 1) d sa cap ss
  res : W.heap[w.heap.size]? = some (.cells #[.string ⟨#[]⟩, .slice none 0 0] 30 (0, 0))
  lin : Lies W 1 strI lq (PL.map ba)
  off : ∀ j, dset (w.heap.size + 1) sa ss j → j ≠ w.heap.size ∧ (0 < PL.length → ¬ blk lq j)
  lo : 0 < PL.length → ∀ j, blk lq j → w.heap.size + 1 < j
  mod : Mod (fun _ => False) w W

/-- While a line is read. -/
structure PdM (w W : World) (lq : Option Addr) (PL : List (List UInt8)) (L : Nat) (fa : Option Addr) (fc : Nat) (f : Fs) (d : Df) (sa : Option Addr) (cap : Nat) (ss : List SA) (q : LS) : Prop where
  b : PdB w W lq PL d sa cap ss
  la : ∃ p e, LA W L fa fc f p e ∧ rep f p e = q
  nl : ∀ j, dset (w.heap.size + 1) sa ss j → j ≠ L ∧ (0 < f.length → ¬ blk fa j)
  nq : 0 < PL.length → ¬ blk lq L
  lf : w.heap.size + 1 < L ∧ (0 < f.length → ∀ k, blk fa k → w.heap.size + 1 < k)

section
variable {w W W' : World} {lq fa sa : Option Addr} {PL : List (List UInt8)} {L fc cap : Nat} {f : Fs} {d : Df} {ss : List SA} {q : LS}

theorem PdB.ext (h : PdB w W lq PL d sa cap ss) (hm : Mod (fun _ => False) W W') : PdB w W' lq PL d sa cap ss :=
  ⟨h.t.ext hm, (hm.block _ (lt_of_heap h.res) (fun h => h)).trans h.res, h.lin.ext hm, h.off, h.lo, h.mod.trans hm⟩
theorem PdB.pass {L : Nat} (h : PdB w W lq PL d sa cap ss) (hm : Mod (fun k => k = L) W W') (h1 : w.heap.size + 1 < L) (h2 : ∀ j, dset (w.heap.size + 1) sa ss j → j ≠ L) (h3 : 0 < PL.length → ¬ blk lq L) : PdB w W' lq PL d sa cap ss :=
  ⟨h.t.mod hm (fun k hk e => h2 k hk e), (hm.block _ (lt_of_heap h.res) (by omega)).trans h.res, h.lin.mod hm (fun h0 k hk e => h3 (by rwa [List.length_map] at h0) (e ▸ hk)), h.off, h.lo, h.mod.then hm (fun i hi e => by omega)⟩
theorem PdM.pass {q' : LS} (h : PdM w W lq PL L fa fc f d sa cap ss q) (hm : Mod (fun k => k = L) W W') (hl : ∃ p e, LA W' L fa fc f p e ∧ rep f p e = q') : PdM w W' lq PL L fa fc f d sa cap ss q' :=
  ⟨h.b.pass hm h.lf.1 (fun j hj => (h.nl j hj).1) h.nq, hl, h.nl, h.nq, h.lf⟩
theorem PdM.ext (h : PdM w W lq PL L fa fc f d sa cap ss q) (hm : Mod (fun _ => False) W W') : PdM w W' lq PL L fa fc f d sa cap ss q := by
  obtain ⟨p, e, hl, hr⟩ := h.la
  exact ⟨h.b.ext hm, ⟨p, e, hl.ext hm, hr⟩, h.nl, h.nq, h.lf⟩
theorem PdM.has (h : PdM w W lq PL L fa fc f d sa cap ss q) (k : ByteArray) : Calls Tryd.prog 21 #[.pointer (some ⟨L, 0, none⟩), .string k] W fun e W' => e = .returned (.bool (hasQ k q).1) ∧ PdM w W' lq PL L fa fc f d sa cap ss (hasQ k q).2 := by
  obtain ⟨p, e, hl, rfl⟩ := h.la
  exact (rhas_any k hl).mono fun e' W' hq => ⟨hq.1, h.pass hq.2.1 hq.2.2⟩
theorem PdM.word (h : PdM w W lq PL L fa fc f d sa cap ss q) : Calls Tryd.prog 22 #[.pointer (some ⟨L, 0, none⟩)] W fun e W' => e = .returned (.string (runQ wordP emp q).1) ∧ PdM w W' lq PL L fa fc f d sa cap ss (runQ wordP emp q).2 := by
  obtain ⟨p, e, hl, rfl⟩ := h.la
  exact (rwd_any hl).mono fun e' W' hq => ⟨hq.1, h.pass hq.2.1 hq.2.2⟩

/-- A step was read; it is not in the definition yet. -/
def PdS (w W : World) (lq : Option Addr) (PL : List (List UInt8)) (L : Nat) (fa : Option Addr) (fc : Nat) (f : Fs) (d : Df) (sa : Option Addr) (cap : Nat) (ss : List SA) (q : LS) (p : Fs → Rs Sp) (e : Ending) (W' : World) : Prop :=
  ∃ (s : Sp) (aa : Option Addr) (ac : Nat) (q' : LS), e = .returned (.agg #[.string s.name, .string s.verb, .string s.undo, .string s.event, .bool s.final, .int .i64 s.retry, .int .i64 s.every, .int .i64 s.within, .slice aa s.after.length ac]) ∧ PdM w W' lq PL L fa fc f d sa cap ss q' ∧ Lies W' 1 strI aa s.after ∧ s.after.length ≤ 4096 ∧ (∀ k, blk aa k → W.heap.size ≤ k) ∧ Agree s q' q p
theorem PdM.step (h : PdM w W lq PL L fa fc f d sa cap ss q) : Calls Tryd.prog 23 #[.pointer (some ⟨L, 0, none⟩)] W (PdS w W lq PL L fa fc f d sa cap ss q stepP) := by
  obtain ⟨p, e, hl, rfl⟩ := h.la
  refine (rstep_any hl).mono fun e' W' hq => ?_
  obtain ⟨hm, s, aa, ac, q', he, hli, hln, hnw, hla, ha⟩ := hq
  exact ⟨s, aa, ac, q', he, h.pass hm hla, hli, hln, hnw, ha⟩
theorem PdM.wait (h : PdM w W lq PL L fa fc f d sa cap ss q) : Calls Tryd.prog 24 #[.pointer (some ⟨L, 0, none⟩)] W (PdS w W lq PL L fa fc f d sa cap ss q waitP) := by
  obtain ⟨p, e, hl, rfl⟩ := h.la
  refine (rwait_any hl).mono fun e' W' hq => ?_
  obtain ⟨hm, s, aa, ac, q', he, hli, hln, hnw, hla, ha⟩ := hq
  exact ⟨s, aa, ac, q', he, h.pass hm hla, hli, hln, hnw, ha⟩

/-- The definition's name is laid. -/
theorem PdM.named (h : PdM w W lq PL L fa fc f d sa cap ss q) (n : ByteArray) : PdM w (W.setCell ⟨w.heap.size + 1, 0, none⟩ (.string n)) lq PL L fa fc f ⟨n, d.steps⟩ sa cap ss q := by
  have hm : Mod (fun k => k = w.heap.size + 1) W (W.setCell ⟨w.heap.size + 1, 0, none⟩ (.string n)) := Mod.setCell (S := fun k => k = w.heap.size + 1) (Mod.refl _ _) (fun _ => rfl) _
  have ht := h.b.t
  have hlo := h.b.lo
  have hlf := h.lf
  obtain ⟨p, e, hl, hr⟩ := h.la
  refine ⟨⟨⟨heap_setCell_same W _ 0 _ _ _ ht.box, ht.map, ht.own.mod hm (fun k hk e => ht.ne (e ▸ hk)), ht.ne, fun x hx => ⟨(ht.all x hx).1.mod hm (fun h0 k hk => ((ht.all x hx).2.2 h0 k hk).2), (ht.all x hx).2⟩, ht.len, ht.lo⟩, (hm.block _ (lt_of_heap h.b.res) (by omega)).trans h.b.res, h.b.lin.mod hm (fun h0 k hk e => by rw [List.length_map] at h0; have := hlo h0 k hk; omega), h.b.off, hlo, h.b.mod.then hm (fun i hi e => by omega)⟩, ⟨p, e, hl.mod hm (by have := hlf.1; omega) (fun h0 k hk e => by have := hlf.2 h0 k hk; omega), hr⟩, h.nl, h.nq, hlf⟩

/-- The step is put behind the others. -/
theorem PdM.grown (h : PdM w W lq PL L fa fc f d sa cap ss q) {w1 : World} (hm1 : Mod (blk sa) W w1) {s : Sp} {aa sa' : Option Addr} {ac cap' : Nat} (hl : d.steps.length < 8) (hown : Own w1 53 9 sa' (d.steps.length + 1) cap' (ss.flatMap SA.cs ++ SA.cs ⟨s, aa, ac⟩)) (hb : ∀ k, blk sa' k → blk sa k ∨ W.heap.size ≤ k)
    (ha : Lies W 1 strI aa s.after) (hla : s.after.length ≤ 4096) {B : Nat} (hB : ∀ k, blk aa k → B ≤ k) (hBw : ∀ k, blk sa k ∨ k = L ∨ k = w.heap.size + 1 ∨ (0 < f.length ∧ blk fa k) ∨ (0 < PL.length ∧ blk lq k) → k < B) :
    PdM w (w1.setCell ⟨w.heap.size + 1, 1, none⟩ (.slice sa' (d.steps.length + 1) cap')) lq PL L fa fc f ⟨d.name, d.steps ++ [s]⟩ sa' cap' (ss ++ [⟨s, aa, ac⟩]) q := by
  have hsz := h.b.mod.size
  have hg := h.b.t.grown hsz hm1 hl hown hb ha hla (fun _ k hk => ⟨fun hk2 => by have := hB k hk; have := hBw k (.inl hk2); omega, fun e => by have := hB k hk; have := hBw k (.inr (.inr (.inl e))); omega⟩)
  have hms : Mod (fun k => k = w.heap.size + 1 ∨ blk sa k) W (w1.setCell ⟨w.heap.size + 1, 1, none⟩ (.slice sa' (d.steps.length + 1) cap')) := Mod.setCell (hm1.mono (fun _ _ h => .inr h)) (fun _ => .inl rfl) _
  have hS : ∀ k, (k = w.heap.size + 1 ∨ blk sa k) → dset (w.heap.size + 1) sa ss k := fun k hk => hk.elim (fun e => .inl e) (fun e => .inr (.inl e))
  obtain ⟨p, e, hla', hr⟩ := h.la
  have hold : ∀ j, dset (w.heap.size + 1) sa' (ss ++ [⟨s, aa, ac⟩]) j → dset (w.heap.size + 1) sa ss j ∨ W.heap.size ≤ j ∨ blk aa j := fun j hj => by
    rcases hj with rfl | hj | ⟨x, hx, h0, hk⟩
    · exact .inl (.inl rfl)
    · rcases hb j hj with h1 | h1
      · exact .inl (.inr (.inl h1))
      · exact .inr (.inl h1)
    · rcases List.mem_append.1 hx with hx | hx
      · exact .inl (.inr (.inr ⟨x, hx, h0, hk⟩))
      · rw [List.mem_singleton] at hx
        subst hx
        exact .inr (.inr hk)
  have hR := lt_of_heap h.b.res
  have hLs := lt_of_heap hla'.box
  refine ⟨⟨hg, (hms.block _ hR (fun e => (h.b.off _ (hS _ e)).1 rfl)).trans h.b.res, h.b.lin.mod hms (fun h0 k hk e => by rw [List.length_map] at h0; exact (h.b.off k (hS k e)).2 h0 hk), fun j hj => ?_, h.b.lo, h.b.mod.then hms (fun i hi e => ?_)⟩, ⟨p, e, hla'.mod hms (fun e => (h.nl L (hS L e)).1 rfl) (fun h0 k hk e => (h.nl k (hS k e)).2 h0 hk), hr⟩, fun j hj => ?_, h.nq, h.lf⟩
  · rcases hold j hj with h1 | h1 | h1
    · exact h.b.off j h1
    · exact ⟨by omega, fun h0 hk => by have := h.b.lin.lt j (by rw [List.length_map]; exact h0) hk; omega⟩
    · have h2 := hB j h1
      have h3 := hBw _ (.inr (.inr (.inl rfl)))
      exact ⟨by omega, fun h0 hk => by have := hBw j (.inr (.inr (.inr (.inr ⟨h0, hk⟩)))); omega⟩
  · rcases e with e | e
    · omega
    · have := h.b.t.lo i (.inr e); omega
  · rcases hold j hj with h1 | h1 | h1
    · exact h.nl j h1
    · exact ⟨by omega, fun h0 hk => by have := hla'.lies.lt j h0 hk; omega⟩
    · have h2 := hB j h1
      exact ⟨fun e => by have := hBw j (.inr (.inl e)); omega, fun h0 hk => by have := hBw j (.inr (.inr (.inr (.inl ⟨h0, hk⟩)))); omega⟩

/-- The definition is put into the result. -/
theorem PdB.done {v0 v1 : Value} (h : PdB w W lq PL d sa cap ss) : ∀ Z, Z = (W.setCell ⟨w.heap.size, 0, none⟩ v0).setCell ⟨w.heap.size, 1, none⟩ v1 →
    (Z.cell? ⟨w.heap.size, 0, none⟩ = some v0 ∧ Z.cell? ⟨w.heap.size, 1, none⟩ = some v1) ∧ Mod (fun _ => False) w Z ∧ DefLies Z d sa ss := by
  intro Z hZ
  obtain ⟨c0, c1, hm⟩ := put2 h.res v0 v1
  rw [← hZ] at c0 c1 hm
  exact ⟨⟨c0, c1⟩, h.mod.then hm (fun i hi e => by omega), (h.t.mod hm (fun k hk e => (h.off k hk).1 e)).lies⟩
theorem defLies_no (Z : World) : DefLies Z noD none [] := ⟨rfl, lies_nil _ _ _ _, fun _ h => (List.not_mem_nil h).elim, Nat.zero_le _⟩
end

/-- What the line gives with its end. -/
theorem agree_end {α β : Type} {x : α} {q q' : LS} {r : Fs} {p : Fs → Rs α} (g : α → β) (h : Agree x q' q p) (hq : q = .good r) :
    (q' = .good [] → ((p r).bind fun v r => endP (g v) r) = .ok (g x) []) ∧ (∀ s t, q' = .good (s :: t) → ((p r).bind fun v r => endP (g v) r) = .bad 101) ∧ (∀ e, q' = .bad e → ((p r).bind fun v r => endP (g v) r) = .bad e) := by
  subst hq
  cases hp : p r with
  | ok v r' =>
    obtain ⟨rfl, hq⟩ := h.ok r v r' rfl hp
    refine ⟨fun h1 => ?_, fun s t h1 => ?_, fun e h1 => ?_⟩
    · rw [h1] at hq
      cases hq
      rfl
    · rw [h1] at hq
      cases hq
      rfl
    · rw [h1] at hq
      cases hq
  | bad n =>
    have hq := h.no r n rfl hp
    refine ⟨fun h1 => ?_, fun s t h1 => ?_, fun e h1 => ?_⟩
    · rw [h1] at hq
      cases hq
    · rw [h1] at hq
      cases hq
    · rw [h1] at hq
      cases hq
      rfl

end Go.Proofs.YtmkbbclbkpofoaaDoor
