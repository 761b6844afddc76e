/- Opening arguments with depth: slices of structs that hold slices, each within the reach. No program is named. -/
import Derived.Test.YthdopgejikcfbaaOpen
namespace Go.Proofs.Ythdopgejikcfbaa
open Go Go.RowKit

section
variable {H : Type} {enc : TypeId × Value → H} {P : Program} {w : World} {base : Nat} {spare : Nat → Bool} {held : Bool}

/-- Each text and each slice in a datum is within the reach. -/
def Fits (P : Program) (t : TypeId) (d : DataW H) : Prop := ∀ n ∈ d.weights P t, n ≤ 140737488351232

theorem fits_of_each {ts : List TypeId} {ds : List (DataW H)} {j : Nat} {t : TypeId} {d : DataW H} (h : (DataW.weightsEach P ts ds).all (· ≤ reachBytes) = true) (ht : ts[j]? = some t) (hd : ds[j]? = some d) : Fits P t d := fun n hn => by
  have h1 := List.all_eq_true.1 h n (DataW.weights_mem_each ht hd n hn)
  have h2 : reachBytes = 140737488351232 := rfl
  rw [h2] at h1
  simpa using h1

theorem weightsAll_mem {e : TypeId} : ∀ {l : List (DataW H)} {d : DataW H}, d ∈ l → ∀ n ∈ d.weights P e, n ∈ DataW.weightsAll P e l
  | [], _, h, _, _ => by simp at h
  | x :: r, d, h, n, hn => by
    unfold DataW.weightsAll
    rcases List.mem_cons.1 h with rfl | h
    · exact List.mem_append_left _ hn
    · exact List.mem_append_right _ (weightsAll_mem h n hn)

theorem Fits.slice {t e : TypeId} {els sp : List (DataW H)} (hu : P.underlying t = some (.slice e)) (h : Fits P t (.slice els sp)) : (els.length + sp.length) * P.bytesOf e ≤ 140737488351232 ∧ ∀ x ∈ els, Fits P e x := by
  have hw : (DataW.slice els sp).weights P t = (els.length + sp.length) * P.bytesOf e :: (DataW.weightsAll P e els ++ DataW.weightsAll P e sp) := by
    rw [DataW.weights, hu]
  refine ⟨h _ (by rw [hw]; exact List.mem_cons_self), fun x hx n hn => h n ?_⟩
  rw [hw]
  exact List.mem_cons_of_mem _ (List.mem_append_left _ (weightsAll_mem hx n hn))

theorem Fits.agg {t : TypeId} {fs : Array Field} {parts : List (DataW H)} {j : Nat} {f : Field} {d : DataW H} (hu : P.underlying t = some (.struct fs)) (h : Fits P t (.agg parts)) (hf : fs[j]? = some f) (hd : parts[j]? = some d) : Fits P f.type d := fun n hn => h n (by
  rw [DataW.weights, hu]
  exact DataW.weights_mem_each (j := j) (by rw [List.getElem?_map, Array.getElem?_toList, hf]; rfl) hd n hn)

/-- A field of a struct that was read: it is there, was read, and is within the reach. -/
theorem field_fit {fs : Array Field} {t : TypeId} {fuel : Nat} {cs : List Value} {x : DataW H × List MemPlace} (ht : P.underlying t = some (.struct fs)) (h : DataW.trod enc P w base spare held fuel t cs = some x) (hfit : Fits P t x.1)
    (i : Nat) (f : Field) (hf : fs[i]? = some f) : ∃ n y, DataW.trod enc P w base spare held n f.type ((cs.drop f.offset).take (P.cellsOf f.type)) = some y ∧ Fits P f.type y.1 := by
  obtain ⟨xs, n, _, hx, _, hlen, hall⟩ := DataW.trod_struct ht h
  have hi : i < xs.length := by rw [hlen]; exact (Array.getElem?_eq_some_iff.1 hf).1
  refine ⟨n, xs[i], by rw [hall i f hf]; simp [hi], ?_⟩
  rw [hx] at hfit
  exact hfit.agg ht hf (by simp [hi])

/-- A field that is a truth value. -/
theorem field_bool {fs : Array Field} {t : TypeId} {fuel : Nat} {cs : List Value} {x : DataW H × List MemPlace} (ht : P.underlying t = some (.struct fs)) (h : DataW.trod enc P w base spare held fuel t cs = some x)
    (i : Nat) (f : Field) (hf : fs[i]? = some f) (hu : P.underlying f.type = some .bool) (hc : P.cellsOf f.type = 1) : ∃ b, cs[f.offset]? = some (.bool b) := by
  obtain ⟨m, y, hy⟩ := field_of ht h i f hf
  obtain ⟨b, hcs, _⟩ := DataW.trod_bool hu hy
  rw [hc] at hcs
  exact ⟨b, get_of_take1 hcs⟩

/-- A field that is a text, within the reach. -/
theorem field_text {fs : Array Field} {t : TypeId} {fuel : Nat} {cs : List Value} {x : DataW H × List MemPlace} (ht : P.underlying t = some (.struct fs)) (h : DataW.trod enc P w base spare held fuel t cs = some x) (hfit : Fits P t x.1)
    (i : Nat) (f : Field) (hf : fs[i]? = some f) (hu : P.underlying f.type = some .string) (hc : P.cellsOf f.type = 1) : ∃ s : ByteArray, cs[f.offset]? = some (.string s) ∧ s.size ≤ 140737488351232 := by
  obtain ⟨m, y, hy, hfy⟩ := field_fit ht h hfit i f hf
  obtain ⟨s, hcs, hx, _⟩ := DataW.trod_string hu hy
  rw [hc] at hcs
  refine ⟨s, get_of_take1 hcs, ?_⟩
  rw [hx] at hfy
  have := hfy s.data.toList.length (by simp [DataW.weights])
  simpa using this

theorem text_fit {t : TypeId} {n : Nat} {cs : List Value} {y : DataW H × List MemPlace} (hu : P.underlying t = some .string) (h : DataW.trod enc P w base spare held n t cs = some y) (hfit : Fits P t y.1) : ∃ s : ByteArray, cs = [.string s] ∧ s.size ≤ 140737488351232 := by
  obtain ⟨s, hcs, hx, _⟩ := DataW.trod_string hu h
  refine ⟨s, hcs, ?_⟩
  rw [hx] at hfit
  have := hfit s.data.toList.length (by simp [DataW.weights])
  simpa using this

/-- A slice, as it lies. -/
structure Lies {α : Type} (w : World) (size : Nat) (f : α → List Value) (a : Option Addr) (ls : List α) : Prop where
  src : Src w size a ls.length (ls.flatMap f)
  spot : 0 < ls.length → ∀ x, a = some x → x.spot = none
  lt : ∀ k, 0 < ls.length → blk a k → k < w.heap.size

/-- A slice that was read, of whatever elements, each of which is the cells of some x with a property. -/
theorem open_deep {α : Type} {f : α → List Value} {Q : α → Prop} {size : Nat} {t e : TypeId} {fuel : Nat} {cs : List Value} {y : DataW H × List MemPlace} (ht : P.underlying t = some (.slice e)) (hc : P.cellsOf e = size) (hs0 : 0 < size)
    (hf : ∀ x, (f x).length = size) (hel : ∀ (n : Nat) (cs : List Value) (y : DataW H × List MemPlace), DataW.trod enc P w base spare held n e cs = some y → Fits P e y.1 → ∃ x, cs = f x ∧ Q x)
    (h : DataW.trod enc P w base spare held fuel t cs = some y) (hfit : Fits P t y.1) :
    ∃ (a : Option Addr) (cap : Nat) (ls : List α), cs = [.slice a ls.length cap] ∧ Lies w size f a ls ∧ (∀ x ∈ ls, Q x) ∧ ls.length ≤ cap ∧ cap ≤ maxLen ∧ ls.length * P.bytesOf e ≤ 140737488351232 := by
  rcases Deep.open_slice ht h with ⟨rfl, _⟩ | ⟨a', len, cap, m, n, D, Pl, rfl, hb, hl, hm, hmm, hx, hev0⟩
  · exact ⟨none, 0, [], rfl, ⟨⟨by simp, fun _ => rfl, fun a ha => by cases ha⟩, fun h => by simp at h, fun _ h => by simp at h⟩, fun x hx => by simp at hx, Nat.le_refl _, Nat.zero_le _, by simp⟩
  · have hml : len ≤ m := by rw [hmm]; split <;> omega
    rw [hx] at hfit
    obtain ⟨hby, hfe⟩ := hfit.slice ht
    have hev : ∀ i, i < len → ∃ x, w.cells? base (a'.add (i * size)) size = some (f x) ∧ Q x := fun i hi => by
      obtain ⟨cs', h1, h2⟩ := hev0 i (by omega)
      obtain ⟨x, rfl, hq⟩ := hel n cs' _ h2 (hfe _ (List.mem_map.2 ⟨i, List.mem_range.2 hi, rfl⟩))
      rw [hc] at h1
      exact ⟨x, h1, hq⟩
    have hlist : ∀ k, k ≤ len → ∃ ls : List α, ls.length = k ∧ (∀ x ∈ ls, Q x) ∧ ∀ (i : Nat) x, ls[i]? = some x → w.cells? base (a'.add (i * size)) size = some (f x) := by
      intro k
      induction k with
      | zero => exact fun _ => ⟨[], rfl, fun x h => by simp at h, fun i x h => by simp at h⟩
      | succ k ih =>
        intro hk
        obtain ⟨ls, h1, hq, h2⟩ := ih (by omega)
        obtain ⟨x, hx', hqx⟩ := hev k (by omega)
        refine ⟨ls ++ [x], by simp [h1], fun z hz => ?_, fun i y hy => ?_⟩
        · rcases List.mem_append.1 hz with h | h
          · exact hq z h
          · simp at h; subst h; exact hqx
        · rw [List.getElem?_append] at hy
          split at hy
          · exact h2 i y hy
          · have : i = k := by
              rcases Nat.lt_or_ge (i - ls.length) 1 with h | h
              · omega
              · rw [List.getElem?_eq_none (by simpa using h)] at hy; cases hy
            subst this
            rw [h1, Nat.sub_self] at hy
            simp at hy
            subst hy
            exact hx'
    obtain ⟨ls, h1, hq, h2⟩ := hlist len (Nat.le_refl _)
    have hcell : ∀ (i : Nat) x, ls[i]? = some x → ∀ j u, (f x)[j]? = some u → w.cell? (a'.add (i * size + j)) = some u := by
      intro i x hi j u hu
      have h3 := (World.cells?_some (h2 i x hi)).2.2 j (by have := (List.getElem?_eq_some_iff.1 hu).1; rwa [hf] at this)
      rw [hu] at h3
      rw [← h3]
      congr 1
      unfold Addr.add
      by_cases hz : i * size = 0 <;> by_cases hj : j = 0 <;> simp [hz, hj]
      · omega
    refine ⟨some a', cap, ls, by rw [h1], ⟨⟨by rw [flat_length hf], fun h => (by cases h), fun a'' ha j u hu => ?_⟩, fun hlen x hx => ?_, fun k hlen hk => ?_⟩, hq, by omega, hm, ?_⟩
    · cases ha
      have hj : j = j / size * size + j % size := by rw [Nat.mul_comm]; exact (Nat.div_add_mod j size).symm
      rw [hj, flat_get hf ls _ _ (Nat.mod_lt _ hs0)] at hu
      rw [hj]
      cases hls : ls[j / size]? with
      | none => rw [hls] at hu; cases hu
      | some x => rw [hls] at hu; exact hcell _ x hls _ u hu
    · cases hx
      obtain ⟨x, hx0⟩ : ∃ x, ls[0]? = some x := ⟨ls[0]'(by omega), by simp⟩
      have := hcell 0 x hx0 0 _ (List.getElem?_eq_getElem (by rw [hf]; exact hs0))
      simp only [Nat.zero_mul, Nat.add_zero] at this
      unfold World.cell? at this
      simp only [Addr.add, if_true] at this
      split at this
      · split at this
        · cases this
        · rename_i h; simpa using h
      · cases this
    · obtain ⟨a'', ha, rfl⟩ := hk
      cases ha
      obtain ⟨x, hx0⟩ : ∃ x, ls[0]? = some x := ⟨ls[0]'(by omega), by simp⟩
      have := hcell 0 x hx0 0 _ (List.getElem?_eq_getElem (by rw [hf]; exact hs0))
      have := World.block_lt_of_cell? _ _ this
      simpa [Addr.add] using this
    · rw [List.length_map, List.length_range] at hby
      rw [h1]
      exact Nat.le_trans (Nat.mul_le_mul_right _ (Nat.le_add_right _ _)) hby

/-- A struct by value. -/
theorem open_agg {r : Reach} {b0 : Nat} {t : TypeId} {fs : Array Field} {v : Value} {d : DataW H} {ps : List MemPlace} (ht : P.underlying t = some (.struct fs)) (hval : Value.okWide P w r b0 t v) (hd : DataW.Trod enc P w base spare held t v d ps) :
    ∃ (cs : List Value) (n : Nat), v = .agg cs.toArray ∧ DataW.trod enc P w base spare held n t cs = some (d, ps) := by
  obtain ⟨cs, rfl, _⟩ := WideShapes.okWide_struct ht hval
  obtain ⟨fuel, hf⟩ := hd
  exact ⟨cs.toList, fuel, by simp, by simpa [Value.cells] using hf⟩
end

end Go.Proofs.Ythdopgejikcfbaa
