/- Opening arguments of a small bulk -/
import Derived.Test.YthdopgejikcfbaaRows
import Derived.Test.YthdopgejikcfbaaNode
import Derived.Test.YthdopgejikcfbaaOpen1
namespace Go.Proofs.Ythdopgejikcfbaa
open Go Go.RowKit

theorem addr_two (a : Addr) (x j : Nat) : (a.add x).add j = a.add (x + j) := by
  unfold Addr.add
  by_cases hz : x = 0 <;> by_cases hj : j = 0 <;> simp [hz, hj]
  · omega

section
variable {H : Type} {enc : TypeId × Value → H} {w : World} {base : Nat} {spare : Nat → Bool} {held : Bool}

theorem bulk_one (d : DataW H) : 1 ≤ Rows.uptoBulk d := by
  cases d with
  | lit l => cases l <;> simp [Rows.uptoBulk]
  | _ => simp [Rows.uptoBulk]

theorem bulk_mem {d : DataW H} {l : List (DataW H)} (h : d ∈ l) : Rows.uptoBulk d ≤ Rows.uptoBulkAll l := by
  induction l with
  | nil => cases h
  | cons x r ih =>
    simp only [Rows.uptoBulkAll]
    rcases List.mem_cons.1 h with rfl | e
    · omega
    · have := ih e; omega

theorem bulk_len (l : List (DataW H)) : l.length ≤ Rows.uptoBulkAll l := by
  induction l with
  | nil => simp [Rows.uptoBulkAll]
  | cons x r ih => have := bulk_one x; simp only [Rows.uptoBulkAll, List.length_cons]; omega

theorem bulk_all {l : List (DataW H)} (hk : Rows.uptoSmall H l = true) : ∀ d ∈ l, Rows.uptoBulk d ≤ 1048576 := fun d hd => by
  have h1 : Rows.uptoBulkAll l ≤ 1048576 := of_decide_eq_true hk
  exact Nat.le_trans (bulk_mem hd) h1

/-- A slice of a small bulk that was read, of whatever elements of one cell. -/
theorem open_small {α : Type} {f : α → List Value} {Q : α → Prop} {size : Nat} {t e : TypeId} {fuel : Nat} {cs : List Value} {y : DataW H × List MemPlace} (ht : Try.prog.underlying t = some (.slice e)) (hc : Try.prog.cellsOf e = size) (hs0 : 0 < size)
    (hf : ∀ x, (f x).length = size) (hel : ∀ (n : Nat) (cs : List Value) (y : DataW H × List MemPlace), DataW.trod enc Try.prog w base spare held n e cs = some y → Rows.uptoBulk y.1 ≤ 1048576 → ∃ x, cs = f x ∧ Q x)
    (h : DataW.trod enc Try.prog w base spare held fuel t cs = some y) (hfit : Rows.uptoBulk y.1 ≤ 1048576) :
    ∃ (a : Option Addr) (cap : Nat) (ls : List α), cs = [.slice a ls.length cap] ∧ Lies w size f a ls ∧ (∀ x ∈ ls, Q x) ∧ ls.length ≤ 1048576 := by
  rcases Deep.open_slice ht h with ⟨rfl, _⟩ | ⟨a', len, cap, m, n, D, Pl, rfl, hb, hl, hm, hmm, hx, hev0⟩
  · exact ⟨none, 0, [], rfl, ⟨⟨by simp, fun _ => rfl, fun a ha => by cases ha⟩, fun h => by simp at h, fun _ h => by simp at h⟩, fun x hx => by simp at hx, Nat.zero_le _⟩
  · have hml : len ≤ m := by rw [hmm]; split <;> omega
    rw [hx] at hfit
    simp only [Rows.uptoBulk] at hfit
    have hlen0 := bulk_len ((List.range len).map D)
    rw [List.length_map, List.length_range] at hlen0
    have hev : ∀ i, i < len → ∃ x, w.cells? base (a'.add (i * size)) size = some (f x) ∧ Q x := fun i hi => by
      obtain ⟨cs', h1, h2⟩ := hev0 i (by omega)
      have hbi := bulk_mem (H := H) (d := D i) (l := (List.range len).map D) (List.mem_map.2 ⟨i, List.mem_range.2 hi, rfl⟩)
      obtain ⟨x, rfl, hq⟩ := hel n cs' _ h2 (by show Rows.uptoBulk (D i) ≤ 1048576; omega)
      rw [hc] at h1
      exact ⟨x, h1, hq⟩
    have hlist : ∀ k, k ≤ len → ∃ ls : List α, ls.length = k ∧ (∀ x ∈ ls, Q x) ∧ ∀ (i : Nat) x, ls[i]? = some x → w.cells? base (a'.add (i * size)) size = some (f x) := by
      intro k
      induction k with
      | zero => exact fun _ => ⟨[], rfl, fun x h => by simp at h, fun i x h => by simp at h⟩
      | succ k ih =>
        intro hk
        obtain ⟨ls, h1, hq, h2⟩ := ih (by omega)
        obtain ⟨x, hx', hqx⟩ := hev k (by omega)
        refine ⟨ls ++ [x], by simp [h1], fun z hz => ?_, fun i y hy => ?_⟩
        · rcases List.mem_append.1 hz with h | h
          · exact hq z h
          · simp at h; subst h; exact hqx
        · rw [List.getElem?_append] at hy
          split at hy
          · exact h2 i y hy
          · have : i = k := by
              rcases Nat.lt_or_ge (i - ls.length) 1 with h | h
              · omega
              · rw [List.getElem?_eq_none (by simpa using h)] at hy; cases hy
            subst this
            rw [h1, Nat.sub_self] at hy
            simp at hy
            subst hy
            exact hx'
    obtain ⟨ls, h1, hq, h2⟩ := hlist len (Nat.le_refl _)
    have hcell : ∀ (i : Nat) x, ls[i]? = some x → ∀ j u, (f x)[j]? = some u → w.cell? (a'.add (i * size + j)) = some u := by
      intro i x hi j u hu
      have h3 := (World.cells?_some (h2 i x hi)).2.2 j (by have := (List.getElem?_eq_some_iff.1 hu).1; rwa [hf] at this)
      rw [hu] at h3
      rw [← h3]
      rw [addr_two]
    refine ⟨some a', cap, ls, by rw [h1], ⟨⟨by rw [flat_length hf], fun h => (by cases h), fun a'' ha j u hu => ?_⟩, fun hlen x hx => ?_, fun k hlen hk => ?_⟩, hq, by omega⟩
    · cases ha
      have hj : j = j / size * size + j % size := by rw [Nat.mul_comm]; exact (Nat.div_add_mod j size).symm
      rw [hj, flat_get hf ls _ _ (Nat.mod_lt _ hs0)] at hu
      rw [hj]
      cases hls : ls[j / size]? with
      | none => rw [hls] at hu; cases hu
      | some x => rw [hls] at hu; exact hcell _ x hls _ u hu
    · cases hx
      obtain ⟨x, hx0⟩ : ∃ x, ls[0]? = some x := ⟨ls[0]'(by omega), by simp⟩
      have := hcell 0 x hx0 0 _ (List.getElem?_eq_getElem (by rw [hf]; exact hs0))
      simp only [Nat.zero_mul, Nat.add_zero] at this
      unfold World.cell? at this
      simp only [Addr.add, if_true] at this
      split at this
      · split at this
        · cases this
        · rename_i h; simpa using h
      · cases this
    · obtain ⟨a'', ha, rfl⟩ := hk
      cases ha
      obtain ⟨x, hx0⟩ : ∃ x, ls[0]? = some x := ⟨ls[0]'(by omega), by simp⟩
      have := hcell 0 x hx0 0 _ (List.getElem?_eq_getElem (by rw [hf]; exact hs0))
      have := World.block_lt_of_cell? _ _ this
      simpa [Addr.add] using this

theorem small_text {n : Nat} {cs : List Value} {y : DataW H × List MemPlace} (h : DataW.trod enc Try.prog w base spare held n 9 cs = some y) (hfit : Rows.uptoBulk y.1 ≤ 1048576) : ∃ s : ByteArray, cs = [.string s] ∧ s.size ≤ 1048576 := by
  obtain ⟨s, hcs, hx, _⟩ := DataW.trod_string Try.underlying9 h
  refine ⟨s, hcs, ?_⟩
  rw [hx] at hfit
  simp only [Rows.uptoBulk] at hfit
  have e : s.data.toList.length = s.size := by rw [Array.length_toList]; rfl
  omega

theorem small_texts {fuel : Nat} {cs : List Value} {y : DataW H × List MemPlace} (h : DataW.trod enc Try.prog w base spare held fuel 22 cs = some y) (hfit : Rows.uptoBulk y.1 ≤ 1048576) :
    ∃ (a : Option Addr) (cap : Nat) (ls : List ByteArray), cs = [.slice a ls.length cap] ∧ Lies w 1 (fun x => [.string x]) a ls ∧ (∀ x ∈ ls, x.size ≤ 1048576) ∧ ls.length ≤ 1048576 :=
  open_small (f := fun x : ByteArray => [.string x]) (Q := fun x => x.size ≤ 1048576) Try.underlying22 cellsStr (by decide) (fun _ => rfl) (fun n cs y hy hb => by
    obtain ⟨s, rfl, hs⟩ := small_text hy hb
    exact ⟨s, rfl, hs⟩) h hfit

theorem small_ints {fuel : Nat} {cs : List Value} {y : DataW H × List MemPlace} (h : DataW.trod enc Try.prog w base spare held fuel 24 cs = some y) (hfit : Rows.uptoBulk y.1 ≤ 1048576) :
    ∃ (a : Option Addr) (cap : Nat) (ls : List Int), cs = [.slice a ls.length cap] ∧ Lies w 1 (fun x : Int => [.int .i64 x]) a ls ∧ (∀ x ∈ ls, -9223372036854775808 ≤ x ∧ x ≤ 9223372036854775807) ∧ ls.length ≤ 1048576 :=
  open_small (f := fun x : Int => [.int .i64 x]) (Q := fun x => -9223372036854775808 ≤ x ∧ x ≤ 9223372036854775807) Try.underlying24 cellsInt (by decide) (fun _ => rfl) (fun n cs y hy _ => by
    obtain ⟨m, rfl, _, hwf⟩ := DataW.trod_int Try.underlying3 hy
    exact ⟨m, rfl, wf_i64 hwf⟩) h hfit

/-- A field of a struct that was read, of a small bulk. -/
theorem field_small {fs : Array Field} {t : TypeId} {fuel : Nat} {cs : List Value} {x : DataW H × List MemPlace} (ht : Try.prog.underlying t = some (.struct fs)) (h : DataW.trod enc Try.prog w base spare held fuel t cs = some x) (hfit : Rows.uptoBulk x.1 ≤ 1048576)
    (i : Nat) (f : Field) (hf : fs[i]? = some f) : ∃ n y, DataW.trod enc Try.prog w base spare held n f.type ((cs.drop f.offset).take (Try.prog.cellsOf f.type)) = some y ∧ Rows.uptoBulk y.1 ≤ 1048576 := by
  obtain ⟨xs, n, _, hx, _, hlen, hall⟩ := DataW.trod_struct ht h
  have hi : i < xs.length := by rw [hlen]; exact (Array.getElem?_eq_some_iff.1 hf).1
  refine ⟨n, xs[i], by rw [hall i f hf]; simp [hi], ?_⟩
  rw [hx] at hfit
  simp only [Rows.uptoBulk] at hfit
  have := bulk_mem (H := H) (d := xs[i].1) (l := xs.map (·.1)) (List.mem_map.2 ⟨xs[i], by simp, rfl⟩)
  omega

theorem cellsSstr : Try.prog.cellsOf 22 = 1 := by kernel_rfl
theorem cellsSint : Try.prog.cellsOf 24 = 1 := by kernel_rfl
theorem cellsBool : Try.prog.cellsOf 4 = 1 := by kernel_rfl
theorem cellsNode : Try.prog.cellsOf 26 = 4 := by kernel_rfl
theorem node_fields : ∃ f0 f1 f2 f3 : Field, Try.prog.underlying 26 = some (.struct #[f0, f1, f2, f3]) ∧ f0.offset = 0 ∧ f0.type = 4 ∧ f1.offset = 1 ∧ f1.type = 22 ∧ f2.offset = 2 ∧ f2.type = 22 ∧ f3.offset = 3 ∧ f3.type = 24 :=
  ⟨_, _, _, _, Try.underlying26, rfl, rfl, rfl, rfl, rfl, rfl, rfl, rfl⟩

/-- A node of a small bulk. -/
theorem open_node {r : Reach} {b0 : Nat} {v : Value} {d : DataW H} {ps : List MemPlace} (hval : Value.okWide Try.prog w r b0 26 v) (hd : DataW.Trod enc Try.prog w base spare held 26 v d ps) (hb : Rows.uptoBulk d ≤ 1048576) :
    ∃ n : Nd, v = .agg #[.bool n.leaf, .slice n.ka n.keys.length n.kc, .slice n.va n.values.length n.vc, .slice n.ia n.kids.length n.ic] ∧ NdAt w n ∧ n.keys.length ≤ 1048576 := by
  obtain ⟨f0, f1, f2, f3, hu, o0, t0, o1, t1, o2, t2, o3, t3⟩ := node_fields
  obtain ⟨cs, n, rfl, h⟩ := open_agg hu hval hd
  have hl := len_of_struct hu h
  rw [cellsNode] at hl
  obtain ⟨b, hc0⟩ := field_bool hu h 0 f0 rfl (by rw [t0]; exact Try.underlying4) (by rw [t0]; exact cellsBool)
  obtain ⟨n1, y1, h1, s1⟩ := field_small hu h hb 1 f1 rfl
  obtain ⟨n2, y2, h2, s2⟩ := field_small hu h hb 2 f2 rfl
  obtain ⟨n3, y3, h3, s3⟩ := field_small hu h hb 3 f3 rfl
  rw [t1] at h1
  rw [t2] at h2
  rw [t3] at h3
  obtain ⟨ka, kc, ks, e1, l1, q1, z1⟩ := small_texts h1 s1
  obtain ⟨va, vc, vs, e2, l2, q2, z2⟩ := small_texts h2 s2
  obtain ⟨ia, ic, is, e3, l3, q3, z3⟩ := small_ints h3 s3
  rw [cellsSstr] at e1 e2
  rw [cellsSint] at e3
  have g0 := hc0
  have g1 := get_of_take1 e1
  have g2 := get_of_take1 e2
  have g3 := get_of_take1 e3
  rw [o0] at g0
  rw [o1] at g1
  rw [o2] at g2
  rw [o3] at g3
  refine ⟨⟨b, ks, vs, is, ka, kc, va, vc, ia, ic⟩, ?_, ⟨l1, l2, l3, by simp only; omega, by simp only; omega, by simp only; omega, fun x hx => by have := q1 x hx; omega, fun x hx => by have := q2 x hx; omega, q3⟩, z1⟩
  have : cs = [.bool b, .slice ka ks.length kc, .slice va vs.length vc, .slice ia is.length ic] := by
    apply List.ext_getElem?
    intro j
    match j with
    | 0 => exact g0
    | 1 => exact g1
    | 2 => exact g2
    | 3 => exact g3
    | j + 4 => rw [List.getElem?_eq_none (by omega), List.getElem?_eq_none (by simp)]
  rw [this]

theorem open_keys {r : Reach} {b0 : Nat} {v : Value} {d : DataW H} {ps : List MemPlace} (hval : Value.okWide Try.prog w r b0 22 v) (hd : DataW.Trod enc Try.prog w base spare held 22 v d ps) (hb : Rows.uptoBulk d ≤ 1048576) :
    ∃ (a : Option Addr) (cap : Nat) (ls : List ByteArray), v = .slice a ls.length cap ∧ Lies w 1 (fun x => [.string x]) a ls ∧ (∀ x ∈ ls, x.size ≤ 1048576) ∧ ls.length ≤ 1048576 := by
  obtain ⟨a, len, cap, rfl⟩ := WideShapes.okWide_slice Try.underlying22 hval
  obtain ⟨fuel, hf⟩ := hd
  obtain ⟨a', cap', ls, e, l, q, z⟩ := small_texts hf hb
  simp only [Value.cells] at e
  cases e
  exact ⟨a, cap, ls, rfl, l, q, z⟩

theorem open_text {r : Reach} {b0 : Nat} {v : Value} {d : DataW H} {ps : List MemPlace} (hval : Value.okWide Try.prog w r b0 9 v) (hd : DataW.Trod enc Try.prog w base spare held 9 v d ps) (hb : Rows.uptoBulk d ≤ 1048576) :
    ∃ s : ByteArray, v = .string s ∧ s.size ≤ 1048576 := by
  obtain ⟨s, rfl⟩ := WideShapes.okWide_string Try.underlying9 hval
  obtain ⟨fuel, hf⟩ := hd
  obtain ⟨s', e, z⟩ := small_text hf hb
  simp only [Value.cells] at e
  cases e
  exact ⟨s, rfl, z⟩

end
end Go.Proofs.Ythdopgejikcfbaa
