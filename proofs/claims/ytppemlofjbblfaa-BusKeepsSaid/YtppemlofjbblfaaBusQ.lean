/- Plain: two buses side by side; the calls of a script -/
import Derived.Test.YtppemlofjbblfaaBusRe
namespace Go.Proofs.Ytppemlofjbblfaa
open Go Go.RowKit

/-- A call of a script. -/
structure Opr where
  kind : Int
  pos : Int
  l : Let

def Opr.cs (o : Opr) : List Value := .int .i64 o.kind :: .int .i64 o.pos :: o.l.cs
theorem Opr.len (o : Opr) : o.cs.length = 10 := rfl

/-- The program's bus at b and the document's at r, in memory of their own; since w0 nothing but F0 and new memory has changed. -/
structure Two (w0 : World) (F0 : Nat → Prop) (w : World) (b : Nat) (sa : Option Addr) (cap : Nat) (ls : List Let) (n : Int) (r : Nat) (ra : Option Addr) (rcap : Nat) (rl : List Let) (rn : Int) : Prop where
  bus : BusAt 58 28 w b sa cap ls n
  ref : BusAt 47 50 w r ra rcap rl rn
  dis : ∀ k, busF b sa k → ¬ busF r ra k
  fb : ∀ k, busF b sa k → F0 k ∨ w0.heap.size ≤ k
  fr : ∀ k, busF r ra k → F0 k ∨ w0.heap.size ≤ k
  mod : Mod F0 w0 w

section
variable {w0 : World} {F0 : Nat → Prop} {w w' : World} {b : Nat} {sa : Option Addr} {cap : Nat} {ls : List Let} {n : Int} {r : Nat} {ra : Option Addr} {rcap : Nat} {rl : List Let} {rn : Int}

theorem Two.ext (h : Two w0 F0 w b sa cap ls n r ra rcap rl rn) (hm : Mod (fun _ => False) w w') : Two w0 F0 w' b sa cap ls n r ra rcap rl rn :=
  ⟨h.bus.mod hm (fun _ _ h => h), h.ref.mod hm (fun _ _ h => h), h.dis, h.fb, h.fr, h.mod.then hm (fun _ _ h => h.elim)⟩

theorem Two.left {ls' : List Let} {n' : Int} (h : Two w0 F0 w b sa cap ls n r ra rcap rl rn) (hs : BusStep 58 28 w w' b sa ls' n') : ∃ sa' cap', Two w0 F0 w' b sa' cap' ls' n' r ra rcap rl rn := by
  obtain ⟨sa', cap', hat, hm, hb⟩ := hs
  have hw := h.mod.size
  have hnew : ∀ k, busF b sa' k → busF b sa k ∨ w.heap.size ≤ k := fun k hk => by
    rcases hk with rfl | hk
    · exact Or.inl (Or.inl rfl)
    · rcases hb k hk with h | h
      · exact Or.inl (Or.inr h)
      · exact Or.inr h
  refine ⟨sa', cap', hat, h.ref.mod hm (fun k hk hk2 => h.dis k hk2 hk), fun k hk hk2 => ?_, fun k hk => ?_, h.fr, ?_⟩
  · rcases hnew k hk with h' | h'
    · exact h.dis k h' hk2
    · have := h.ref.lt k hk2; omega
  · rcases hnew k hk with h' | h'
    · exact h.fb k h'
    · exact Or.inr (by omega)
  · exact h.mod.then hm (fun k hk h' => (h.fb k h').resolve_right (by omega))

theorem Two.right {ls' : List Let} {n' : Int} (h : Two w0 F0 w b sa cap ls n r ra rcap rl rn) (hs : BusStep 47 50 w w' r ra ls' n') : ∃ ra' rcap', Two w0 F0 w' b sa cap ls n r ra' rcap' ls' n' := by
  obtain ⟨sa', cap', hat, hm, hb⟩ := hs
  have hw := h.mod.size
  have hnew : ∀ k, busF r sa' k → busF r ra k ∨ w.heap.size ≤ k := fun k hk => by
    rcases hk with rfl | hk
    · exact Or.inl (Or.inl rfl)
    · rcases hb k hk with h | h
      · exact Or.inl (Or.inr h)
      · exact Or.inr h
  refine ⟨sa', cap', h.bus.mod hm (fun k hk hk2 => h.dis k hk hk2), hat, fun k hk hk2 => ?_, h.fb, fun k hk => ?_, ?_⟩
  · rcases hnew k hk2 with h' | h'
    · exact h.dis k hk h'
    · have := h.bus.lt k hk; omega
  · rcases hnew k hk with h' | h'
    · exact h.fr k h'
    · exact Or.inr (by omega)
  · exact h.mod.then hm (fun k hk h' => (h.fr k h').resolve_right (by omega))

/-- A new bus in the first one's place. -/
theorem Two.anew {b' : Nat} {sa' : Option Addr} {cap' : Nat} {ls' : List Let} {n' : Int} (h : Two w0 F0 w b sa cap ls n r ra rcap rl rn) (hat : BusAt 58 28 w' b' sa' cap' ls' n') (hm : Mod (fun _ => False) w w') (hF : ∀ k, busF b' sa' k → w.heap.size ≤ k) : Two w0 F0 w' b' sa' cap' ls' n' r ra rcap rl rn := by
  have hw := h.mod.size
  refine ⟨hat, h.ref.mod hm (fun _ _ h => h), fun k hk hk2 => ?_, fun k hk => ?_, h.fr, h.mod.then hm (fun _ _ h => h.elim)⟩
  · have := hF k hk; have := h.ref.lt k hk2; omega
  · have := hF k hk; exact Or.inr (by omega)
end

theorem okList_mono {next next' last : Int} (h : next ≤ next') : ∀ {ls : List Let}, okList next last ls = true → okList next' last ls = true := by
  intro ls
  induction ls generalizing last with
  | nil => exact fun h => h
  | cons l r ih =>
    intro hh
    simp only [okList, Bool.and_eq_true, decide_eq_true_eq] at hh ⊢
    exact ⟨hh.1, by omega, ih hh.2.2⟩

/-- A letter with the next number behind a list that is fit. -/
theorem okList_snoc {next : Int} {x : Let} (hx : x.id = next) : ∀ {ls : List Let} {last : Int}, last < next → okList next last ls = true → okList (next + 1) last (ls ++ [x]) = true := by
  intro ls
  induction ls with
  | nil =>
    intro last hl _
    simp only [List.nil_append, okList, Bool.and_eq_true, decide_eq_true_eq]
    exact ⟨by omega, by omega, trivial⟩
  | cons l r ih =>
    intro last hl hh
    simp only [List.cons_append, okList, Bool.and_eq_true, decide_eq_true_eq] at hh ⊢
    exact ⟨hh.1, by omega, ih hh.2.1 hh.2.2⟩

theorem okList_lower {next last last' : Int} (h : last' ≤ last) : ∀ {ls : List Let}, okList next last ls = true → okList next last' ls = true := by
  intro ls
  cases ls with
  | nil => exact fun h => h
  | cons l r =>
    intro hh
    simp only [okList, Bool.and_eq_true, decide_eq_true_eq] at hh ⊢
    exact ⟨by omega, hh.2⟩

theorem okList_erase {next : Int} : ∀ {ls : List Let} {last : Int} (i : Nat), okList next last ls = true → okList next last (ls.eraseIdx i) = true := by
  intro ls
  induction ls with
  | nil => intro last i h; simpa using h
  | cons l r ih =>
    intro last i hh
    simp only [okList, Bool.and_eq_true, decide_eq_true_eq] at hh
    cases i with
    | zero => simp only [List.eraseIdx_cons_zero]; exact okList_lower (by omega) hh.2.2
    | succ i =>
      simp only [List.eraseIdx_cons_succ, okList, Bool.and_eq_true, decide_eq_true_eq]
      exact ⟨hh.1, hh.2.1, ih i hh.2.2⟩

/-- What a fit state of a bus is. -/
def Fit (next : Int) (ls : List Let) (bound : Int) : Prop := okList next 0 ls = true ∧ 1 ≤ next ∧ next ≤ bound ∧ ls.length ≤ 4096

theorem Fit.send {next : Int} {ls : List Let} {bound : Int} (h : Fit next ls bound) (hl : ls.length < 4096) {x : Let} (hx : x.id = next) : Fit (next + 1) (ls ++ [x]) (bound + 1) :=
  ⟨okList_snoc hx (by have := h.2.1; omega) h.1, by have := h.2.1; omega, by have := h.2.2.1; omega, by rw [List.length_append]; simp; omega⟩

theorem Fit.take {next : Int} {ls : List Let} {bound : Int} (h : Fit next ls bound) (i : Nat) : Fit next (ls.eraseIdx i) (bound + 1) :=
  ⟨okList_erase i h.1, h.2.1, by have := h.2.2.1; omega, Nat.le_trans (List.length_eraseIdx_le ls i) h.2.2.2⟩

theorem Fit.same {next : Int} {ls : List Let} {bound : Int} (h : Fit next ls bound) : Fit next ls (bound + 1) := ⟨h.1, h.2.1, by have := h.2.2.1; omega, h.2.2.2⟩

theorem cells10 {w : World} {g : Nat} {t : TypeId} {fr : Nat × Nat} {v0 v1 v2 v3 v4 v5 v6 v7 v8 v9 : Value} (h : w.heap[g]? = some (.cells #[v0, v1, v2, v3, v4, v5, v6, v7, v8, v9] t fr)) :
    w.cell? ⟨g, 0, none⟩ = some v0 ∧ w.cell? ⟨g, 1, none⟩ = some v1 ∧ w.cell? ⟨g, 2, none⟩ = some v2 ∧ w.cell? ⟨g, 3, none⟩ = some v3 ∧ w.cell? ⟨g, 4, none⟩ = some v4 ∧ w.cell? ⟨g, 5, none⟩ = some v5 ∧ w.cell? ⟨g, 6, none⟩ = some v6 ∧ w.cell? ⟨g, 7, none⟩ = some v7 ∧ w.cell? ⟨g, 8, none⟩ = some v8 ∧ w.cell? ⟨g, 9, none⟩ = some v9 := by
  refine ⟨?_, ?_, ?_, ?_, ?_, ?_, ?_, ?_, ?_, ?_⟩ <;> (rw [cell_of_row _ _ _ _ _ _ h]; rfl)

/-- The call at a place of a script, cell by cell. -/
theorem opr_cells {w : World} {a : Addr} {n : Nat} {os : List Opr} {i : Nat} {k p a0 a1 a2 a3 a4 a5 a6 : Int} {s : ByteArray} {g off : Nat} (ha : a = ⟨g, off, none⟩) (hs : Src w 10 (some a) n (os.flatMap Opr.cs)) (hx : os[i]? = some ⟨k, p, a0, a1, a2, a3, a4, a5, a6, s⟩) :
    w.cell? ⟨g, off + i * 10, none⟩ = some (.int .i64 k) ∧ w.cell? ⟨g, off + i * 10 + 1, none⟩ = some (.int .i64 p) ∧ w.cell? ⟨g, off + i * 10 + 2, none⟩ = some (.int .i64 a0) ∧ w.cell? ⟨g, off + i * 10 + 3, none⟩ = some (.int .i64 a1) ∧
    w.cell? ⟨g, off + i * 10 + 4, none⟩ = some (.int .i64 a2) ∧ w.cell? ⟨g, off + i * 10 + 5, none⟩ = some (.int .i64 a3) ∧ w.cell? ⟨g, off + i * 10 + 6, none⟩ = some (.int .i64 a4) ∧ w.cell? ⟨g, off + i * 10 + 7, none⟩ = some (.int .i64 a5) ∧
    w.cell? ⟨g, off + i * 10 + 8, none⟩ = some (.int .i64 a6) ∧ w.cell? ⟨g, off + i * 10 + 9, none⟩ = some (.string s) := by
  subst ha
  have hg : ∀ j u, (Opr.cs ⟨k, p, a0, a1, a2, a3, a4, a5, a6, s⟩)[j]? = some u → w.cell? ⟨g, off + i * 10 + j, none⟩ = some u := by
    intro j u hu
    have hj : j < 10 := (List.getElem?_eq_some_iff.1 hu).1
    have := hs.2.2 _ rfl (i * 10 + j) u (by rw [flat_get Opr.len os i j hj, hx]; exact hu)
    rw [Addr.add_lit, ← Nat.add_assoc] at this
    exact this
  exact ⟨hg 0 _ rfl, hg 1 _ rfl, hg 2 _ rfl, hg 3 _ rfl, hg 4 _ rfl, hg 5 _ rfl, hg 6 _ rfl, hg 7 _ rfl, hg 8 _ rfl, hg 9 _ rfl⟩

end Go.Proofs.Ytppemlofjbblfaa
