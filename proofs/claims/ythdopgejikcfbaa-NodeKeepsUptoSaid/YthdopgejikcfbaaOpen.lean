/- Opening arguments: generic lemmas on readings. No program is named. -/
import Derived.Test.YthdopgejikcfbaaMem
import Derived.ProofKit
import Derived.Deep.Slices
import Derived.SizedLaws
namespace Go.Proofs.Ythdopgejikcfbaa
open Go Go.RowKit

section
variable {H : Type} {enc : TypeId × Value → H} {P : Program} {w : World} {base : Nat} {spare : Nat → Bool} {held : Bool}

/-- A field of a struct that was read: it is there, and was read. -/
theorem field_of {fs : Array Field} {t : TypeId} {fuel : Nat} {cs : List Value} {x : DataW H × List MemPlace} (ht : P.underlying t = some (.struct fs)) (h : DataW.trod enc P w base spare held fuel t cs = some x)
    (i : Nat) (f : Field) (hf : fs[i]? = some f) : ∃ n y, DataW.trod enc P w base spare held n f.type ((cs.drop f.offset).take (P.cellsOf f.type)) = some y := by
  obtain ⟨xs, n, _, _, _, hlen, hall⟩ := DataW.trod_struct ht h
  have hi : i < xs.length := by rw [hlen]; exact (Array.getElem?_eq_some_iff.1 hf).1
  exact ⟨n, xs[i], by rw [hall i f hf]; simp [hi]⟩

theorem len_of_struct {fs : Array Field} {t : TypeId} {fuel : Nat} {cs : List Value} {x : DataW H × List MemPlace} (ht : P.underlying t = some (.struct fs)) (h : DataW.trod enc P w base spare held fuel t cs = some x) : cs.length = P.cellsOf t := by
  obtain ⟨xs, n, _, _, hl, _⟩ := DataW.trod_struct ht h
  exact hl

theorem get_of_take1 {cs : List Value} {o : Nat} {v : Value} (h : (cs.drop o).take 1 = [v]) : cs[o]? = some v := by
  have := congrArg (fun l : List Value => l[0]?) h
  simpa [List.getElem?_take, List.getElem?_drop] using this

/-- A field that is an integer. -/
theorem field_int {fs : Array Field} {t : TypeId} {fuel : Nat} {cs : List Value} {x : DataW H × List MemPlace} {k : IntKind} (ht : P.underlying t = some (.struct fs)) (h : DataW.trod enc P w base spare held fuel t cs = some x)
    (i : Nat) (f : Field) (hf : fs[i]? = some f) (hu : P.underlying f.type = some (.int k)) (hc : P.cellsOf f.type = 1) : ∃ n, cs[f.offset]? = some (.int k n) ∧ (Lit.int k n).wf = true := by
  obtain ⟨m, y, hy⟩ := field_of ht h i f hf
  obtain ⟨n, hcs, _, hwf⟩ := DataW.trod_int hu hy
  rw [hc] at hcs
  exact ⟨n, get_of_take1 hcs, hwf⟩

/-- A field that is a string. -/
theorem field_string {fs : Array Field} {t : TypeId} {fuel : Nat} {cs : List Value} {x : DataW H × List MemPlace} (ht : P.underlying t = some (.struct fs)) (h : DataW.trod enc P w base spare held fuel t cs = some x)
    (i : Nat) (f : Field) (hf : fs[i]? = some f) (hu : P.underlying f.type = some .string) (hc : P.cellsOf f.type = 1) : ∃ s : ByteArray, cs[f.offset]? = some (.string s) ∧ s.size ≤ maxLen := by
  obtain ⟨m, y, hy⟩ := field_of ht h i f hf
  obtain ⟨s, hcs, _, hwf⟩ := DataW.trod_string hu hy
  rw [hc] at hcs
  exact ⟨s, get_of_take1 hcs, hwf⟩

/-- A slice that was read, of whatever elements, each of which is known to be the cells of some x. -/
theorem open_elems {α : Type} {f : α → List Value} {size : Nat} {t e : TypeId} {a : Option Addr} {len cap : Nat} {d : DataW H} {ps : List MemPlace} (ht : P.underlying t = some (.slice e)) (hc : P.cellsOf e = size)
    (hf : ∀ x, (f x).length = size) (hel : ∀ (n : Nat) (cs : List Value) (y : DataW H × List MemPlace), DataW.trod enc P w base spare held n e cs = some y → ∃ x, cs = f x)
    (h : DataW.Trod enc P w base spare held t (.slice a len cap) d ps) :
    ∃ ls : List α, ls.length = len ∧ Src w size a len (ls.flatMap f) ∧ (0 < len → 0 < size → ∀ x, a = some x → x.spot = none) ∧ (∀ k, 0 < len → 0 < size → blk a k → k < w.heap.size) ∧ len ≤ cap ∧ cap ≤ maxLen := by
  obtain ⟨fuel, hfu⟩ := h
  rcases Deep.open_slice ht (by simpa [Value.cells] using hfu) with ⟨hcs, _⟩ | ⟨a', len', cap', m, n, D, Pl, hcs, hb, hl, hm, hmm, _, hx⟩
  · simp only [List.cons.injEq, Value.slice.injEq, and_true] at hcs
    obtain ⟨rfl, rfl, rfl⟩ := hcs
    exact ⟨[], rfl, ⟨by simp, fun _ => rfl, fun a ha => by cases ha⟩, (fun h => by omega), (fun _ h => by omega), Nat.le_refl _, Nat.zero_le _⟩
  · simp only [List.cons.injEq, Value.slice.injEq, and_true] at hcs
    obtain ⟨rfl, rfl, rfl⟩ := hcs
    have hml : len ≤ m := by rw [hmm]; split <;> omega
    have hev : ∀ i, i < len → ∃ x, w.cells? base (a'.add (i * size)) size = some (f x) := fun i hi => by
      obtain ⟨cs', h1, h2⟩ := hx i (by omega)
      obtain ⟨x, rfl⟩ := hel n cs' _ h2
      rw [hc] at h1
      exact ⟨x, h1⟩
    have hlist : ∀ k, k ≤ len → ∃ ls : List α, ls.length = k ∧ ∀ i x, ls[i]? = some x → w.cells? base (a'.add (i * size)) size = some (f x) := by
      intro k
      induction k with
      | zero => exact fun _ => ⟨[], rfl, fun i x h => by simp at h⟩
      | succ k ih =>
        intro hk
        obtain ⟨ls, h1, h2⟩ := ih (by omega)
        obtain ⟨x, hx'⟩ := hev k (by omega)
        refine ⟨ls ++ [x], by simp [h1], fun i y hy => ?_⟩
        rw [List.getElem?_append] at hy
        split at hy
        · exact h2 i y hy
        · have : i = k := by
            rcases Nat.lt_or_ge (i - ls.length) 1 with h | h
            · omega
            · rw [List.getElem?_eq_none (by simpa using h)] at hy; cases hy
          subst this
          rw [h1, Nat.sub_self] at hy
          simp at hy
          subst hy
          exact hx'
    obtain ⟨ls, h1, h2⟩ := hlist len (Nat.le_refl _)
    have hcell : ∀ i x, ls[i]? = some x → ∀ j u, (f x)[j]? = some u → w.cell? (a'.add (i * size + j)) = some u := by
      intro i x hi j u hu
      have h3 := (World.cells?_some (h2 i x hi)).2.2 j (by have := (List.getElem?_eq_some_iff.1 hu).1; rwa [hf] at this)
      rw [hu] at h3
      rw [← h3]
      congr 1
      unfold Addr.add
      by_cases hz : i * size = 0 <;> by_cases hj : j = 0 <;> simp [hz, hj]
      · omega
    refine ⟨ls, h1, ⟨by rw [flat_length hf, h1], fun h => (by cases h), fun a'' ha j u hu => ?_⟩, fun hlen hs x hx => ?_, fun k hlen hs hk => ?_, hl, hm⟩
    · cases ha
      have hs : 0 < size := by
        rcases Nat.eq_zero_or_pos size with hs | hs
        · have := (List.getElem?_eq_some_iff.1 hu).1
          rw [flat_length hf, hs] at this
          omega
        · exact hs
      have hj : j = j / size * size + j % size := by rw [Nat.mul_comm]; exact (Nat.div_add_mod j size).symm
      rw [hj, flat_get hf ls _ _ (Nat.mod_lt _ hs)] at hu
      rw [hj]
      cases hls : ls[j / size]? with
      | none => rw [hls] at hu; cases hu
      | some x => rw [hls] at hu; exact hcell _ x hls _ u hu
    · cases hx
      obtain ⟨x, hx0⟩ : ∃ x, ls[0]? = some x := ⟨ls[0]'(by omega), by simp⟩
      have := hcell 0 x hx0 0 _ (List.getElem?_eq_getElem (by rw [hf]; exact hs))
      simp only [Nat.zero_mul, Nat.add_zero] at this
      unfold World.cell? at this
      simp only [Addr.add, if_true] at this
      split at this
      · split at this
        · cases this
        · rename_i h; simpa using h
      · cases this
    · obtain ⟨a'', ha, rfl⟩ := hk
      cases ha
      obtain ⟨x, hx0⟩ : ∃ x, ls[0]? = some x := ⟨ls[0]'(by omega), by simp⟩
      have := hcell 0 x hx0 0 _ (List.getElem?_eq_getElem (by rw [hf]; exact hs))
      have := World.block_lt_of_cell? _ _ this
      simpa [Addr.add] using this

/-- What the form's reach says of a slice that was read. -/
theorem slice_reach {ts : List TypeId} {ds : List (DataW H)} {j : Nat} {t e : TypeId} {a : Option Addr} {len cap : Nat} {d : DataW H} {ps : List MemPlace} (hsz : (DataW.weightsEach P ts ds).all (· ≤ reachBytes) = true)
    (ht : ts[j]? = some t) (hd : ds[j]? = some d) (hu : P.underlying t = some (.slice e)) (h : DataW.Trod enc P w base spare held t (.slice a len cap) d ps) : len * P.bytesOf e ≤ 140737488351232 := by
  obtain ⟨fuel, hfu⟩ := h
  rcases Deep.open_slice hu (by simpa [Value.cells] using hfu) with ⟨hcs, _⟩ | ⟨a', len', cap', m, n, D, Pl, hcs, hb, hl, hm, hmm, hx, _⟩
  · simp only [List.cons.injEq, Value.slice.injEq, and_true] at hcs
    obtain ⟨rfl, rfl, rfl⟩ := hcs
    simp
  · simp only [List.cons.injEq, Value.slice.injEq, and_true] at hcs
    obtain ⟨rfl, rfl, rfl⟩ := hcs
    simp only [Prod.mk.injEq] at hx
    obtain ⟨rfl, _⟩ := hx
    have h1 := sized_slice hsz ht hd hu
    have h2 : reachBytes = 140737488351232 := rfl
    rw [h2, List.length_map, List.length_range] at h1
    exact Nat.le_trans (Nat.mul_le_mul_right _ (Nat.le_add_right _ _)) h1
end

end Go.Proofs.Ythdopgejikcfbaa
