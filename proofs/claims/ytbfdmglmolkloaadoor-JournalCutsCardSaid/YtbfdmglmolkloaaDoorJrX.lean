/- What journals hold: plain laws; opening changes -/
import Derived.Test.YtbfdmglmolkloaaDoorJrH
import Derived.Test.YtbfdmglmolkloaaDoorOpen1
import Derived.Laws.OwnMore
namespace Go.Proofs.YtbfdmglmolkloaaDoor
open Go Go.RowKit

/-- The memory of a fresh list of empty texts. -/
theorem own_made (w : World) (J : Nat) (hJ : J ≤ 16384) : Own (w.alloc (.cells (madeCells #[.string ⟨#[]⟩] J) 9)) 9 1 (some ⟨w.heap.size, 0, none⟩) (List.replicate J (⟨#[]⟩ : ByteArray)).length J ((List.replicate J (⟨#[]⟩ : ByteArray)).map .string) := by
  rw [List.length_replicate]
  refine ⟨by simp, Nat.le_refl _, by unfold maxLen; omega, .inr ⟨w.heap.size, 0, madeCells #[.string ⟨#[]⟩] J, rfl, heap_alloc_new _ _, ?_, ?_⟩⟩
  · rw [size_madeCells]; omega
  · rw [toList_madeCells_one]; simp

theorem holds_new (room : Nat) (n : Int) : Holds room (newD n) (List.replicate (jlen room (newD n)) ⟨#[]⟩) := by
  refine ⟨by simp, fun i x hx => ?_⟩
  rw [List.getElem?_replicate] at hx
  split at hx
  · cases hx
    exact ⟨Nat.zero_le _, by rw [sec_new, pad_nil]⟩
  · cases hx

/-- What is put into a list at its places. -/
def upd (ws : List ByteArray) (cs : List Chg) : List ByteArray := cs.foldl (fun ws c => ws.set c.pos.toNat c.data) ws

theorem upd_len : ∀ (cs : List Chg) (ws : List ByteArray), (upd ws cs).length = ws.length
  | [], ws => rfl
  | c :: r, ws => by
    show (upd (ws.set c.pos.toNat c.data) r).length = _
    rw [upd_len r, List.length_set]

theorem upd_snoc (ws : List ByteArray) (cs : List Chg) (c : Chg) : upd ws (cs ++ [c]) = (upd ws cs).set c.pos.toNat c.data := by
  unfold upd
  rw [List.foldl_append]
  rfl

theorem upd_get : ∀ (cs : List Chg) (ws : List ByteArray) (i : Nat) (x : ByteArray), (places cs).Nodup → (upd ws cs)[i]? = some x → (∃ c ∈ cs, c.pos.toNat = i ∧ x = c.data) ∨ (i ∉ places cs ∧ ws[i]? = some x)
  | [], ws, i, x => fun _ h => .inr ⟨(fun h => by cases h), h⟩
  | c :: r, ws, i, x => fun hn h => by
    have hn2 : (c.pos.toNat :: places r).Nodup := hn
    rcases upd_get r (ws.set c.pos.toNat c.data) i x (List.nodup_cons.1 hn2).2 h with ⟨y, hy, h1, h2⟩ | ⟨h1, h2⟩
    · exact .inl ⟨y, List.mem_cons_of_mem _ hy, h1, h2⟩
    · rw [List.getElem?_set] at h2
      split at h2
      · rename_i he
        split at h2
        · cases h2
          exact .inl ⟨c, List.mem_cons_self, he, rfl⟩
        · cases h2
      · rename_i he
        refine .inr ⟨fun hm => ?_, h2⟩
        rcases List.mem_cons.1 (show i ∈ c.pos.toNat :: places r from hm) with e | e
        · exact he e.symm
        · exact h1 e

theorem holds_took {room k : Nat} {cs : List Chg} {D D' : Dsk} {ws : List ByteArray} (h : Holds room D ws) (hc : checkL (jlen room D) [] cs = 0) (t : Took room cs D D' k) : Holds room D' (upd ws cs) := by
  obtain ⟨c1, c2, _⟩ := check_zero cs [] hc
  refine ⟨by rw [upd_len, h.1]; unfold jlen; rw [t.len], fun i x hx => ?_⟩
  rcases upd_get cs ws i x c2 hx with ⟨c, hcm, rfl, rfl⟩ | ⟨h1, h2⟩
  · exact ⟨(c1 c hcm).2.2, t.new c hcm⟩
  · rw [t.old i h1]
    exact h.2 i x h2

/-- What the numbers of a head are like. -/
theorem numsL_spec {len : Nat} {s : ByteArray} : ∀ (c a : Nat) (out l : List Nat), numsL len s c a out = some l → out.Nodup → (∀ n ∈ out, n < len) → l.Nodup ∧ ∀ n ∈ l, n < len
  | 0, a, out, l => fun h h1 h2 => by
    by_cases hz : AllZ (s.data.toList.drop a)
    · rw [numsL_zero hz] at h; cases h; exact ⟨h1, h2⟩
    · rw [numsL_end hz] at h; cases h
  | c + 1, a, out, l => fun h h1 h2 => by
    by_cases hc : (rdU 0 (s.data.toList.drop a)).e = 0 ∧ (rdU 0 (s.data.toList.drop a)).v < len ∧ (rdU 0 (s.data.toList.drop a)).v ∉ out
    · rw [numsL_succ hc.1 hc.2.1 hc.2.2] at h
      refine numsL_spec c _ _ l h ?_ ?_
      · rw [List.nodup_append]
        exact ⟨h1, by simp, fun a ha b hb e => by simp at hb; subst hb; subst e; exact hc.2.2 ha⟩
      · intro n hn
        rcases List.mem_append.1 hn with h | h
        · exact h2 n h
        · simp at h; rw [h]; exact hc.2.1
    · rw [numsL_bad hc] at h; cases h

theorem numF_spec {room len : Nat} {s : ByteArray} {l : List Nat} (h : numF room len s = some l) : l.length ≤ room ∧ l.Nodup ∧ ∀ n ∈ l, n < len := by
  refine ⟨numF_len h, ?_⟩
  unfold numF at h
  split at h
  · exact numsL_spec _ _ _ _ h List.nodup_nil (fun n hn => by cases hn)
  · cases h

/-- What Open does with the power on. -/
theorem open_heads {D : Dsk} {k room : Nat} (h : Lit D k) (h0 : 0 < D.secs.length) : openF room D = (32, D) ∨ openF room D = (0, D) ∨
    (∃ m D', openF room D = (0, D') ∧ 1 ≤ m ∧ m ≤ room ∧ Lit D' (k + m + 1) ∧ D'.writes = D.writes + (m : Int) + 1 ∧ Clear D' ∧ D'.secs.length = D.secs.length) := by
  have hr : readF D 0 = (sec D 0, 0) := h.read 0 h0
  have e : openF room D = openL room D (numF room (jlen room D) (sec D 0)) := by
    unfold openF
    rw [hr]
    rfl
  rw [e]
  cases hn : numF room (jlen room D) (sec D 0) with
  | none => exact .inl rfl
  | some l =>
    obtain ⟨n1, n2, n3⟩ := numF_spec hn
    cases l with
    | nil => exact .inr (.inl rfl)
    | cons x r =>
      obtain ⟨f1, f2, f3, f4, _, _⟩ := fin_lit room (x :: r) 0 k D h h0 (fun n hn => by have := n3 n hn; unfold jlen at this; omega) (by omega) n2
      have hl : (finF room 0 (x :: r) D).2.secs.length = D.secs.length := finF_len _ _ _ _
      refine .inr (.inr ⟨(x :: r).length, _, ?_, by simp, n1, f2, f3, .inr f4, hl⟩)
      exact pair_of f1

section
variable {H : Type} {enc : TypeId × Value → H} {w : World} {base : Nat} {spare : Nat → Bool} {held : Bool}

theorem reach_le : 140737488351232 ≤ maxLen := by unfold maxLen; decide
theorem cellsCh : Tryd.prog.cellsOf 35 = 2 := by kernel_rfl
theorem bytesCh : Tryd.prog.bytesOf 35 = 24 := by kernel_rfl
theorem ch_fields : ∃ f0 f1 : Field, Tryd.prog.underlying 35 = some (.struct #[f0, f1]) ∧ f0.offset = 0 ∧ f0.type = 3 ∧ f1.offset = 1 ∧ f1.type = 9 := ⟨_, _, Tryd.underlying35, rfl, rfl, rfl, rfl⟩

/-- A change that was read. -/
theorem one_ch {n : Nat} {cs : List Value} {y : DataW H × List MemPlace} (h : DataW.trod enc Tryd.prog w base spare held n 35 cs = some y) (hfit : Fits Tryd.prog 35 y.1) : ∃ c : Chg, cs = c.cs ∧ (c.data.size ≤ 140737488351232 ∧ -9223372036854775808 ≤ c.pos ∧ c.pos ≤ 9223372036854775807) := by
  obtain ⟨f0, f1, hu, o0, t0, o1, t1⟩ := ch_fields
  have hl := len_of_struct hu h
  rw [cellsCh] at hl
  obtain ⟨m, hc0, hwf⟩ := field_int (k := .i64) hu h 0 f0 rfl (by rw [t0]; exact Tryd.underlying3) (by rw [t0]; exact cellsInt)
  obtain ⟨s, hc1, hs⟩ := field_text hu h hfit 1 f1 rfl (by rw [t1]; exact Tryd.underlying9) (by rw [t1]; exact cellsStr)
  rw [o0] at hc0
  rw [o1] at hc1
  refine ⟨⟨m, s⟩, ?_, hs, (wf_i64 hwf).1, (wf_i64 hwf).2⟩
  apply List.ext_getElem?
  intro j
  match j with
  | 0 => exact hc0
  | 1 => exact hc1
  | j + 2 => rw [List.getElem?_eq_none (by omega), List.getElem?_eq_none (by simp [Chg.cs])]

/-- Changes that were read. -/
theorem deep_chs {fuel : Nat} {cs : List Value} {y : DataW H × List MemPlace} (h : DataW.trod enc Tryd.prog w base spare held fuel 22 cs = some y) (hfit : Fits Tryd.prog 22 y.1) :
    ∃ (a : Option Addr) (cap : Nat) (ls : List Chg), cs = [.slice a ls.length cap] ∧ ChAt w a ls ∧ (0 < ls.length → ∀ k, blk a k → k < w.heap.size) ∧ ls.length * 24 ≤ 140737488351232 := by
  obtain ⟨a, cap, ls, e, l, q, _, _, z⟩ := open_deep (f := Chg.cs) (Q := fun c => c.data.size ≤ 140737488351232 ∧ -9223372036854775808 ≤ c.pos ∧ c.pos ≤ 9223372036854775807) Tryd.underlying22 cellsCh (by decide) chg_len (fun n cs y hy hf => one_ch hy hf) h hfit
  rw [bytesCh] at z
  exact ⟨a, cap, ls, e, ⟨l, fun c hc => Nat.le_trans (q c hc).1 reach_le, fun c hc => (q c hc).2⟩, fun h0 k hk => l.lt k h0 hk, z⟩

set_option maxRecDepth 100000 in
theorem open_chs {r : Reach} {b0 : Nat} {v : Value} {d : DataW H} {ps : List MemPlace} (hval : Value.okWide Tryd.prog w r b0 22 v) (hd : DataW.Trod enc Tryd.prog w base spare held 22 v d ps) (hfit : Fits Tryd.prog 22 d) :
    ∃ (a : Option Addr) (cap : Nat) (ls : List Chg), v = .slice a ls.length cap ∧ ChAt w a ls ∧ (0 < ls.length → ∀ k, blk a k → k < w.heap.size) ∧ ls.length * 24 ≤ 140737488351232 := by
  obtain ⟨a, len, cap, rfl⟩ := WideShapes.okWide_slice Tryd.underlying22 hval
  obtain ⟨fuel, hf⟩ := hd
  obtain ⟨a', cap', ls, e, h1, h2, h3⟩ := deep_chs hf hfit
  simp only [Value.cells] at e
  cases e
  exact ⟨a, cap, ls, rfl, h1, h2, h3⟩

end
end Go.Proofs.YtbfdmglmolkloaaDoor
