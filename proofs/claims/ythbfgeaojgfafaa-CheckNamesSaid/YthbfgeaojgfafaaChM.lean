/- Definitions in memory; a step by itself -/
import Derived.Test.YthbfgeaojgfafaaChP
namespace Go.Proofs.Ythbfgeaojgfafaa
open Go Go.RowKit

def Stp.cs (s : Stp) : List Value := [.string s.name, .string s.verb, .string s.undo, .string s.event, .bool s.final, .int .i64 s.retry, .int .i64 s.every, .int .i64 s.within, .slice s.aa s.after.length s.ac]

/-- The list of a step's names, as it lies. -/
structure StpOk (w : World) (s : Stp) : Prop where
  src : Src w 1 s.aa s.after.length (s.after.flatMap fun x => [.string x])
  spot : 0 < s.after.length → ∀ x, s.aa = some x → x.spot = none
  lt : ∀ k, 0 < s.after.length → blk s.aa k → k < w.heap.size
  bnd : s.after.length ≤ 8796093022208

/-- A list of steps, as it lies. -/
structure DefAt (w : World) (a : Option Addr) (ss : List Stp) : Prop where
  src : Src w 9 a ss.length (ss.flatMap Stp.cs)
  spot : 0 < ss.length → ∀ x, a = some x → x.spot = none
  lt : ∀ k, 0 < ss.length → blk a k → k < w.heap.size
  all : ∀ s ∈ ss, StpOk w s
  bnd : ss.length ≤ 2199023255552

theorem StpOk.mod {S : Nat → Prop} {w w' : World} {s : Stp} (h : StpOk w s) (hm : Mod S w w') (hs : ∀ k, k < w.heap.size → ¬ S k) : StpOk w' s := by
  refine ⟨?_, h.spot, fun k h0 hk => Nat.lt_of_lt_of_le (h.lt k h0 hk) hm.size, h.bnd⟩
  rcases Nat.eq_zero_or_pos s.after.length with h0 | h0
  · have e : s.after = [] := List.eq_nil_of_length_eq_zero h0
    rw [e]
    exact ⟨by simp, fun _ => rfl, fun a _ j u hu => by simp at hu⟩
  · exact h.src.mod hm (fun k hk => hs k (h.lt k h0 hk))

theorem DefAt.mod {S : Nat → Prop} {w w' : World} {a : Option Addr} {ss : List Stp} (h : DefAt w a ss) (hm : Mod S w w') (hs : ∀ k, k < w.heap.size → ¬ S k) : DefAt w' a ss := by
  refine ⟨?_, h.spot, fun k h0 hk => Nat.lt_of_lt_of_le (h.lt k h0 hk) hm.size, fun s hs' => (h.all s hs').mod hm hs, h.bnd⟩
  rcases Nat.eq_zero_or_pos ss.length with h0 | h0
  · have e : ss = [] := List.eq_nil_of_length_eq_zero h0
    rw [e]
    exact ⟨by simp, fun _ => rfl, fun a _ j u hu => by simp at hu⟩
  · exact h.src.mod hm (fun k hk => hs k (h.lt k h0 hk))

theorem DefAt.some {w : World} {a : Option Addr} {ss : List Stp} (h : DefAt w a ss) (h0 : 0 < ss.length) : ∃ g off, a = .some ⟨g, off, none⟩ := by
  cases a with
  | none => have := h.src.2.1 rfl; omega
  | some a =>
    obtain ⟨g, off, sp⟩ := a
    have := h.spot h0 _ rfl
    simp only at this
    subst this
    exact ⟨g, off, rfl⟩

theorem DefAt.cells {w : World} {g off : Nat} {ss : List Stp} (h : DefAt w (.some ⟨g, off, none⟩) ss) {i : Nat} {s : Stp} (hi : ss[i]? = .some s) :
    w.cell? ⟨g, off + i * 9, none⟩ = .some (.string s.name) ∧ w.cell? ⟨g, off + i * 9 + 1, none⟩ = .some (.string s.verb) ∧ w.cell? ⟨g, off + i * 9 + 2, none⟩ = .some (.string s.undo) ∧ w.cell? ⟨g, off + i * 9 + 3, none⟩ = .some (.string s.event) ∧ w.cell? ⟨g, off + i * 9 + 4, none⟩ = .some (.bool s.final) ∧ w.cell? ⟨g, off + i * 9 + 5, none⟩ = .some (.int .i64 s.retry) ∧ w.cell? ⟨g, off + i * 9 + 6, none⟩ = .some (.int .i64 s.every) ∧ w.cell? ⟨g, off + i * 9 + 7, none⟩ = .some (.int .i64 s.within) ∧ w.cell? ⟨g, off + i * 9 + 8, none⟩ = .some (.slice s.aa s.after.length s.ac) := by
  have key : ∀ j u, (Stp.cs s)[j]? = .some u → j < 9 → w.cell? ⟨g, off + i * 9 + j, none⟩ = .some u := fun j u hu hj => by
    have := h.src.2.2 _ rfl (i * 9 + j) u (by rw [flat_get (f := Stp.cs) (n := 9) (fun _ => rfl) ss i j hj, hi]; exact hu)
    rw [Addr.add_lit, ← Nat.add_assoc] at this
    exact this
  exact ⟨key 0 _ rfl (by decide), key 1 _ rfl (by decide), key 2 _ rfl (by decide), key 3 _ rfl (by decide), key 4 _ rfl (by decide), key 5 _ rfl (by decide), key 6 _ rfl (by decide), key 7 _ rfl (by decide), key 8 _ rfl (by decide)⟩

theorem StpOk.some {w : World} {s : Stp} (h : StpOk w s) (h0 : 0 < s.after.length) : ∃ g off, s.aa = .some ⟨g, off, none⟩ := by
  cases ha : s.aa with
  | none => have := h.src.2.1 ha; omega
  | some a =>
    obtain ⟨g, off, sp⟩ := a
    have := h.spot h0 _ ha
    simp only at this
    subst this
    exact ⟨g, off, rfl⟩

theorem StpOk.cell {w : World} {s : Stp} (h : StpOk w s) {g off : Nat} (ha : s.aa = .some ⟨g, off, none⟩) {j : Nat} {x : ByteArray} (hj : s.after[j]? = .some x) : w.cell? ⟨g, off + j, none⟩ = .some (.string x) := by
  have := h.src.2.2 _ ha j (.string x) (by
    have := flat_get (f := fun x : ByteArray => [Value.string x]) (n := 1) (fun _ => rfl) s.after j 0 (by decide)
    rw [Nat.mul_one, Nat.add_zero, hj] at this
    simpa using this)
  rw [Addr.add_lit] at this
  exact this

/-- The nine cells of a step in a block of its own. -/
theorem own_step {w : World} {b : Nat} {s : Stp} {t : TypeId} (h : w.heap[b]? = .some (.cells #[.string s.name, .string s.verb, .string s.undo, .string s.event, .bool s.final, .int .i64 s.retry, .int .i64 s.every, .int .i64 s.within, .slice s.aa s.after.length s.ac] t (0, 0))) :
    w.cell? ⟨b, 0, none⟩ = .some (.string s.name) ∧ w.cell? ⟨b, 1, none⟩ = .some (.string s.verb) ∧ w.cell? ⟨b, 2, none⟩ = .some (.string s.undo) ∧ w.cell? ⟨b, 3, none⟩ = .some (.string s.event) ∧ w.cell? ⟨b, 4, none⟩ = .some (.bool s.final) ∧ w.cell? ⟨b, 5, none⟩ = .some (.int .i64 s.retry) ∧ w.cell? ⟨b, 6, none⟩ = .some (.int .i64 s.every) ∧ w.cell? ⟨b, 7, none⟩ = .some (.int .i64 s.within) ∧ w.cell? ⟨b, 8, none⟩ = .some (.slice s.aa s.after.length s.ac) := by
  refine ⟨?_, ?_, ?_, ?_, ?_, ?_, ?_, ?_, ?_⟩ <;> (rw [cell_of_row _ _ _ _ _ _ h]; rfl)

set_option maxRecDepth 100000 in
theorem step_any (s : Stp) (w : World) : Calls Try.prog 13 #[.agg #[.string s.name, .string s.verb, .string s.undo, .string s.event, .bool s.final, .int .i64 s.retry, .int .i64 s.every, .int .i64 s.within, .slice s.aa s.after.length s.ac]] w fun e w' => e = .returned (.int .i64 (stepF s)) ∧ Mod (fun _ => False) w w' := by
  generalize hF : stepF s = F
  have HF := hid hF
  clear hF
  have HU := hid (fun w => undoing_any s.verb w)
  generalize hU : undoF s.verb.toList = U at HU
  have hU' := hid hU
  clear hU
  go_enter Try.func13, Try.ntmps13
  go_wp2_with (go_at_call 8; refine (HU.out _).mono ?_; rintro e w' ⟨rfl, rfl⟩)
  all_goals
    go_ret
    refine ⟨?_, ((Mod.refl _ _).alloc _)⟩
    rw [← HF.out]
    unfold stepF
    rw [hU'.out]
    simp [*]

end Go.Proofs.Ythbfgeaojgfafaa
