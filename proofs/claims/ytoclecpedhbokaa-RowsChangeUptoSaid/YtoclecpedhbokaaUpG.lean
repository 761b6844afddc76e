/- Opening arguments of a small bulk (the plain part, for a seat without nodes) -/
import Derived.Test.YtoclecpedhbokaaRows
import Derived.Test.YtoclecpedhbokaaLies
import Derived.Test.YtoclecpedhbokaaOpen1
namespace Go.Proofs.Ytoclecpedhbokaa
open Go Go.RowKit

theorem addr_two (a : Addr) (x j : Nat) : (a.add x).add j = a.add (x + j) := by
  unfold Addr.add
  by_cases hz : x = 0 <;> by_cases hj : j = 0 <;> simp [hz, hj]
  · omega

section
variable {H : Type} {enc : TypeId × Value → H} {w : World} {base : Nat} {spare : Nat → Bool} {held : Bool}

theorem bulk_one (d : DataW H) : 1 ≤ Rows.uptoBulk d := by
  cases d with
  | lit l => cases l <;> simp [Rows.uptoBulk]
  | _ => simp [Rows.uptoBulk]

theorem bulk_mem {d : DataW H} {l : List (DataW H)} (h : d ∈ l) : Rows.uptoBulk d ≤ Rows.uptoBulkAll l := by
  induction l with
  | nil => cases h
  | cons x r ih =>
    simp only [Rows.uptoBulkAll]
    rcases List.mem_cons.1 h with rfl | e
    · omega
    · have := ih e; omega

theorem bulk_len (l : List (DataW H)) : l.length ≤ Rows.uptoBulkAll l := by
  induction l with
  | nil => simp [Rows.uptoBulkAll]
  | cons x r ih => have := bulk_one x; simp only [Rows.uptoBulkAll, List.length_cons]; omega

theorem bulk_all {l : List (DataW H)} (hk : Rows.uptoSmall H l = true) : ∀ d ∈ l, Rows.uptoBulk d ≤ 1048576 := fun d hd => by
  have h1 : Rows.uptoBulkAll l ≤ 1048576 := of_decide_eq_true hk
  exact Nat.le_trans (bulk_mem hd) h1

/-- A slice of a small bulk that was read, of whatever elements of one cell. -/
theorem open_small {α : Type} {f : α → List Value} {Q : α → Prop} {size : Nat} {t e : TypeId} {fuel : Nat} {cs : List Value} {y : DataW H × List MemPlace} (ht : Try.prog.underlying t = some (.slice e)) (hc : Try.prog.cellsOf e = size) (hs0 : 0 < size)
    (hf : ∀ x, (f x).length = size) (hel : ∀ (n : Nat) (cs : List Value) (y : DataW H × List MemPlace), DataW.trod enc Try.prog w base spare held n e cs = some y → Rows.uptoBulk y.1 ≤ 1048576 → ∃ x, cs = f x ∧ Q x)
    (h : DataW.trod enc Try.prog w base spare held fuel t cs = some y) (hfit : Rows.uptoBulk y.1 ≤ 1048576) :
    ∃ (a : Option Addr) (cap : Nat) (ls : List α), cs = [.slice a ls.length cap] ∧ Lies w size f a ls ∧ (∀ x ∈ ls, Q x) ∧ ls.length ≤ 1048576 := by
  rcases Deep.open_slice ht h with ⟨rfl, _⟩ | ⟨a', len, cap, m, n, D, Pl, rfl, hb, hl, hm, hmm, hx, hev0⟩
  · exact ⟨none, 0, [], rfl, ⟨⟨by simp, fun _ => rfl, fun a ha => by cases ha⟩, fun h => by simp at h, fun _ h => by simp at h⟩, fun x hx => by simp at hx, Nat.zero_le _⟩
  · have hml : len ≤ m := by rw [hmm]; split <;> omega
    rw [hx] at hfit
    simp only [Rows.uptoBulk] at hfit
    have hlen0 := bulk_len ((List.range len).map D)
    rw [List.length_map, List.length_range] at hlen0
    have hev : ∀ i, i < len → ∃ x, w.cells? base (a'.add (i * size)) size = some (f x) ∧ Q x := fun i hi => by
      obtain ⟨cs', h1, h2⟩ := hev0 i (by omega)
      have hbi := bulk_mem (H := H) (d := D i) (l := (List.range len).map D) (List.mem_map.2 ⟨i, List.mem_range.2 hi, rfl⟩)
      obtain ⟨x, rfl, hq⟩ := hel n cs' _ h2 (by show Rows.uptoBulk (D i) ≤ 1048576; omega)
      rw [hc] at h1
      exact ⟨x, h1, hq⟩
    have hlist : ∀ k, k ≤ len → ∃ ls : List α, ls.length = k ∧ (∀ x ∈ ls, Q x) ∧ ∀ (i : Nat) x, ls[i]? = some x → w.cells? base (a'.add (i * size)) size = some (f x) := by
      intro k
      induction k with
      | zero => exact fun _ => ⟨[], rfl, fun x h => by simp at h, fun i x h => by simp at h⟩
      | succ k ih =>
        intro hk
        obtain ⟨ls, h1, hq, h2⟩ := ih (by omega)
        obtain ⟨x, hx', hqx⟩ := hev k (by omega)
        refine ⟨ls ++ [x], by simp [h1], fun z hz => ?_, fun i y hy => ?_⟩
        · rcases List.mem_append.1 hz with h | h
          · exact hq z h
          · simp at h; subst h; exact hqx
        · rw [List.getElem?_append] at hy
          split at hy
          · exact h2 i y hy
          · have : i = k := by
              rcases Nat.lt_or_ge (i - ls.length) 1 with h | h
              · omega
              · rw [List.getElem?_eq_none (by simpa using h)] at hy; cases hy
            subst this
            rw [h1, Nat.sub_self] at hy
            simp at hy
            subst hy
            exact hx'
    obtain ⟨ls, h1, hq, h2⟩ := hlist len (Nat.le_refl _)
    have hcell : ∀ (i : Nat) x, ls[i]? = some x → ∀ j u, (f x)[j]? = some u → w.cell? (a'.add (i * size + j)) = some u := by
      intro i x hi j u hu
      have h3 := (World.cells?_some (h2 i x hi)).2.2 j (by have := (List.getElem?_eq_some_iff.1 hu).1; rwa [hf] at this)
      rw [hu] at h3
      rw [← h3]
      rw [addr_two]
    refine ⟨some a', cap, ls, by rw [h1], ⟨⟨by rw [flat_length hf], fun h => (by cases h), fun a'' ha j u hu => ?_⟩, fun hlen x hx => ?_, fun k hlen hk => ?_⟩, hq, by omega⟩
    · cases ha
      have hj : j = j / size * size + j % size := by rw [Nat.mul_comm]; exact (Nat.div_add_mod j size).symm
      rw [hj, flat_get hf ls _ _ (Nat.mod_lt _ hs0)] at hu
      rw [hj]
      cases hls : ls[j / size]? with
      | none => rw [hls] at hu; cases hu
      | some x => rw [hls] at hu; exact hcell _ x hls _ u hu
    · cases hx
      obtain ⟨x, hx0⟩ : ∃ x, ls[0]? = some x := ⟨ls[0]'(by omega), by simp⟩
      have := hcell 0 x hx0 0 _ (List.getElem?_eq_getElem (by rw [hf]; exact hs0))
      simp only [Nat.zero_mul, Nat.add_zero] at this
      unfold World.cell? at this
      simp only [Addr.add, if_true] at this
      split at this
      · split at this
        · cases this
        · rename_i h; simpa using h
      · cases this
    · obtain ⟨a'', ha, rfl⟩ := hk
      cases ha
      obtain ⟨x, hx0⟩ : ∃ x, ls[0]? = some x := ⟨ls[0]'(by omega), by simp⟩
      have := hcell 0 x hx0 0 _ (List.getElem?_eq_getElem (by rw [hf]; exact hs0))
      have := World.block_lt_of_cell? _ _ this
      simpa [Addr.add] using this

theorem small_text {n : Nat} {cs : List Value} {y : DataW H × List MemPlace} (h : DataW.trod enc Try.prog w base spare held n 9 cs = some y) (hfit : Rows.uptoBulk y.1 ≤ 1048576) : ∃ s : ByteArray, cs = [.string s] ∧ s.size ≤ 1048576 := by
  obtain ⟨s, hcs, hx, _⟩ := DataW.trod_string Try.underlying9 h
  refine ⟨s, hcs, ?_⟩
  rw [hx] at hfit
  simp only [Rows.uptoBulk] at hfit
  have e : s.data.toList.length = s.size := by rw [Array.length_toList]; rfl
  omega

/-- A field of a struct that was read, of a small bulk. -/
theorem field_small {fs : Array Field} {t : TypeId} {fuel : Nat} {cs : List Value} {x : DataW H × List MemPlace} (ht : Try.prog.underlying t = some (.struct fs)) (h : DataW.trod enc Try.prog w base spare held fuel t cs = some x) (hfit : Rows.uptoBulk x.1 ≤ 1048576)
    (i : Nat) (f : Field) (hf : fs[i]? = some f) : ∃ n y, DataW.trod enc Try.prog w base spare held n f.type ((cs.drop f.offset).take (Try.prog.cellsOf f.type)) = some y ∧ Rows.uptoBulk y.1 ≤ 1048576 := by
  obtain ⟨xs, n, _, hx, _, hlen, hall⟩ := DataW.trod_struct ht h
  have hi : i < xs.length := by rw [hlen]; exact (Array.getElem?_eq_some_iff.1 hf).1
  refine ⟨n, xs[i], by rw [hall i f hf]; simp [hi], ?_⟩
  rw [hx] at hfit
  simp only [Rows.uptoBulk] at hfit
  have := bulk_mem (H := H) (d := xs[i].1) (l := xs.map (·.1)) (List.mem_map.2 ⟨xs[i], by simp, rfl⟩)
  omega

end
end Go.Proofs.Ytoclecpedhbokaa
