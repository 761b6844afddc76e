/- What was read is what is written -/
import Derived.Test.YthdopgejikcfbaaDoorDecL
namespace Go.Proofs.YthdopgejikcfbaaDoor
open Go Go.RowKit

theorem rdU_take : ∀ (L : List UInt8) (i : Nat), (rdU i L).e = 0 → L.take (rdU i L).n = uvar (rdU i L).v ∧ (0 < i → 0 < (rdU i L).v)
  | [], i => fun h => by rw [rdU_nil] at h; simp at h
  | b :: r, i => fun h => by
    have hb8 := b.toNat_lt
    have ih := rdU_take r (i + 1)
    rw [rdU] at h ⊢
    by_cases hc : (i = 9 ∧ 1 < b.toNat) ∨ (0 < i ∧ b.toNat = 0) ∨ 9 < i
    · rw [if_pos hc] at h; simp at h
    · rw [if_neg hc] at h ⊢
      by_cases hlt : b.toNat < 128
      · rw [if_pos hlt] at h ⊢
        simp only
        rw [uvar_small (by omega)]
        refine ⟨by simp, fun h0 => by omega⟩
      · rw [if_neg hlt] at h ⊢
        by_cases he : (rdU (i + 1) r).e = 0
        · rw [if_pos he] at h ⊢
          obtain ⟨h1, h2⟩ := ih he
          have h3 := h2 (by omega)
          simp only
          refine ⟨?_, fun _ => by omega⟩
          rw [uvar_big (by omega), List.take_succ_cons, h1]
          have e1 : (b.toNat - 128 + 128 * (rdU (i + 1) r).v) % 128 + 128 = b.toNat := by omega
          have e2 : (b.toNat - 128 + 128 * (rdU (i + 1) r).v) / 128 = (rdU (i + 1) r).v := by omega
          rw [e1, e2]
          congr 1
          simp
        · rw [if_neg he] at h; exact absurd h he

def seg (s : ByteArray) (a b : Nat) : List UInt8 := (s.data.toList.drop a).take (b - a)

theorem seg_append {s : ByteArray} {a b c : Nat} (h1 : a ≤ b) (h2 : b ≤ c) : seg s a c = seg s a b ++ seg s b c := by
  unfold seg
  rw [show c - a = (b - a) + (c - b) by omega, List.take_add, List.drop_drop, show a + (b - a) = b by omega]

theorem seg_u {s : ByteArray} {a : Nat} (h : (rdU 0 (s.data.toList.drop a)).e = 0) : seg s a (a + (rdU 0 (s.data.toList.drop a)).n) = uvar (rdU 0 (s.data.toList.drop a)).v := by
  unfold seg
  rw [show a + (rdU 0 (s.data.toList.drop a)).n - a = (rdU 0 (s.data.toList.drop a)).n by omega]
  exact (rdU_take _ 0 h).1

theorem seg_t {s : ByteArray} {a : Nat} (h : (rdT s a).e = 0) : seg s a (rdT s a).n = textL (rdT s a).t := by
  unfold rdT rtOf at h ⊢
  by_cases hu : (rdU 0 (s.data.toList.drop a)).e = 0
  · obtain ⟨h1, h2, h3⟩ := rdU_in s a hu
    have hs := seg_u hu
    rw [if_pos hu] at h ⊢
    generalize rdU 0 (s.data.toList.drop a) = u at *
    by_cases hb : s.size < a + u.n + u.v
    · rw [if_pos hb] at h; simp at h
    · rw [if_neg hb]
      simp only
      rw [seg_append (b := a + u.n) (by omega) (by omega), hs]
      unfold textL
      have e1 : (s.extract (a + u.n) (a + u.n + u.v)).size = u.v := by rw [ByteArray.size_extract]; omega
      rw [e1]
      congr 1
      rw [ByteArray.data_extract, Array.toList_extract, List.extract_eq_take_drop]
      rfl
  · rw [if_neg hu] at h; exact absurd h hu

theorem readE_in {leaf : Bool} {s : ByteArray} {a z : Nat} {x : Ent} (h : readE leaf s a = some (x, z)) : a < z ∧ z ≤ s.size ∧ ((leaf = true → x.kid = 0) ∧ (leaf = false → x.value = emp)) ∧ ((leaf = false → x.kid < 16384) → seg s a z = entL leaf x) := by
  unfold readE at h
  by_cases hk : (rdT s a).e = 0
  · rw [if_pos hk] at h
    obtain ⟨k1, k2, k3⟩ := rdT_in s a hk
    have ks := seg_t hk
    cases leaf with
    | true =>
      simp only [if_true] at h
      by_cases hv : (rdT s (rdT s a).n).e = 0
      · rw [if_pos hv] at h
        obtain ⟨v1, v2, v3⟩ := rdT_in s _ hv
        have vs := seg_t hv
        cases h
        refine ⟨by omega, v2, ⟨fun _ => rfl, fun h => (by cases h)⟩, fun _ => ?_⟩
        rw [seg_append (b := (rdT s a).n) (by omega) (by omega), ks, vs]
        rfl
      · rw [if_neg hv] at h; cases h
    | false =>
      simp only [Bool.false_eq_true, if_false] at h
      by_cases hv : (rdU 0 (s.data.toList.drop (rdT s a).n)).e = 0
      · rw [if_pos hv] at h
        obtain ⟨v1, v2, v3⟩ := rdU_in s _ hv
        have vs := seg_u hv
        cases h
        refine ⟨by omega, v1, ⟨fun h => (by cases h), fun _ => rfl⟩, fun hlt => ?_⟩
        have hlt := hlt rfl
        simp only at hlt
        rw [seg_append (b := (rdT s a).n) (by omega) (by omega), ks, vs]
        unfold entL
        simp only [Bool.false_eq_true, if_false]
        congr 2
        omega
      · rw [if_neg hv] at h; cases h
  · rw [if_neg hk] at h; cases h

theorem readL_in {leaf : Bool} {s : ByteArray} : ∀ (c a : Nat) {es : List Ent} {z : Nat}, a ≤ s.size → readL leaf s c a = some (es, z) → a ≤ z ∧ z ≤ s.size ∧ es.length = c ∧ Clean leaf es ∧ ((∀ x ∈ es, leaf = false → x.kid < 16384) → seg s a z = es.flatMap (entL leaf))
  | 0, a, es, z => fun ha h => by
    unfold readL at h
    cases h
    exact ⟨Nat.le_refl _, ha, rfl, (fun x hx => by cases hx), fun _ => by unfold seg; simp⟩
  | c + 1, a, es, z => fun ha h => by
    rw [readL_succ] at h
    cases he : readE leaf s a with
    | none => rw [he] at h; cases h
    | some p =>
      obtain ⟨x, a2⟩ := p
      rw [he, Option.bind_some] at h
      obtain ⟨e1, e2, e3, e4⟩ := readE_in he
      cases hr : readL leaf s c a2 with
      | none => simp only at h; rw [hr] at h; cases h
      | some q =>
        obtain ⟨es2, z2⟩ := q
        simp only at h
        rw [hr] at h
        cases h
        obtain ⟨i1, i2, i3, i4, i5⟩ := readL_in c a2 e2 hr
        refine ⟨by omega, i2, by simp [i3], fun y hy => ?_, fun hk => ?_⟩
        · rcases List.mem_cons.1 hy with h | h
          · rw [h]; exact e3
          · exact i4 y h
        · rw [seg_append (b := a2) (by omega) (by omega), e4 (hk x List.mem_cons_self), i5 (fun y hy => hk y (List.mem_cons_of_mem _ hy)), List.flatMap_cons]

theorem enc_kids {leaf : Bool} {es : List Ent} (h : encOk (cn leaf es) = true) : ∀ x ∈ es, leaf = false → x.kid < 16384 := fun x hx hl => by
  subst hl
  unfold encOk at h
  rw [Bool.and_eq_true, fitB_iff] at h
  have h3 := h.1.2
  unfold restB cn at h3
  simp only [Bool.false_eq_true, if_false, Bool.and_eq_true, Bool.not_eq_true'] at h3
  have := List.any_eq_false.1 h3.2 x.kid (List.mem_map.2 ⟨x, hx, rfl⟩)
  unfold outB at this
  simp at this
  omega

/-- What was read has these bytes. -/
theorem dec_round {s : ByteArray} {leaf : Bool} {es : List Ent} (h : decP s = some (leaf, es)) : Clean leaf es ∧ s.data.toList.take (bytesL leaf es).length = bytesL leaf es ∧ (bytesL leaf es).length ≤ s.size := by
  unfold decP at h
  have hlen : s.data.toList.length = s.size := rfl
  cases hs : s.data.toList with
  | nil => rw [hs] at h; cases h
  | cons b r =>
    rw [hs] at h
    simp only at h
    by_cases hb : b.toNat = 1 ∨ b.toNat = 2
    · rw [if_pos hb] at h
      unfold decIn at h
      by_cases hu : (rdU 0 (s.data.toList.drop 1)).e = 0
      · rw [if_pos hu] at h
        obtain ⟨u1, u2, u3⟩ := rdU_in s 1 hu
        have us := seg_u hu
        generalize rdU 0 (s.data.toList.drop 1) = u at *
        cases hr : readL (b.toNat == 1) s u.v (1 + u.n) with
        | none => rw [hr] at h; cases h
        | some q =>
          obtain ⟨es2, z⟩ := q
          rw [hr] at h
          by_cases hok : AllZ (s.data.toList.drop z) ∧ encOk (cn (b.toNat == 1) es2) = true
          · rw [fin_yes hok.1 hok.2] at h
            cases h
            obtain ⟨i1, i2, i3, i4, i5⟩ := readL_in _ _ u1 hr
            have i6 := i5 (enc_kids hok.2)
            refine ⟨i4, ?_⟩
            have e0 : seg s 0 1 = [b] := by unfold seg; rw [hs]; rfl
            have e1 : seg s 0 z = bytesL (b.toNat == 1) es := by
              rw [seg_append (b := 1) (by omega) (by omega), seg_append (a := 1) (b := 1 + u.n) (by omega) (by omega), e0, us, i6, ← i3]
              unfold bytesL
              rw [List.singleton_append]
              congr 1
              have hb8 := b.toNat_lt
              rcases hb with h | h
              · have : b = 1 := UInt8.toNat_inj.1 h
                rw [this]; rfl
              · have : b = 2 := UInt8.toNat_inj.1 h
                rw [this]; rfl
            have e2 : seg s 0 z = s.data.toList.take z := by unfold seg; rw [List.drop_zero, Nat.sub_zero]
            have e3 : (bytesL (b.toNat == 1) es).length = z := by rw [← e1, e2, List.length_take]; omega
            rw [← hs, e3, ← e2]
            exact ⟨e1, i2⟩
          · rw [fin_no hok] at h; cases h
      · rw [if_neg hu] at h; cases h
    · rw [if_neg hb] at h; cases h

end Go.Proofs.YthdopgejikcfbaaDoor
