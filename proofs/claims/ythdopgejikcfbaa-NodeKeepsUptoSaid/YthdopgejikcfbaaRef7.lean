/- The document's places; the law's fit nodes -/
import Derived.Test.YthdopgejikcfbaaRef6
import Derived.Test.YthdopgejikcfbaaNdW
namespace Go.Proofs.Ythdopgejikcfbaa
open Go Go.RowKit

attribute [local go_sem] binOp_string_leq

theorem rfit_any {w : World} {sa : Option Addr} {es : List Ent} (leaf : Bool) (cap : Nat) (h : Lies w 3 Ent.cs sa es) (hb : es.length ≤ 4194304) (hok : ∀ x ∈ es, x.Ok) : Calls Try.prog 24 #[.agg #[.bool leaf, .slice sa es.length cap]] w fun e w' => e = .returned (.bool (rfitB leaf es)) ∧ Mod (fun _ => False) w w' := by
  cases leaf with
  | true => exact rfit_true cap h hb hok
  | false => exact rfit_false cap h hb hok

theorem ents_get {n : Nd} {i : Nat} (h : i < n.keys.length) : n.ents[i]? = some (entAt n i) := by
  unfold Nd.ents
  rw [List.getElem?_map, List.getElem?_range h]
  rfl

theorem ents_get_some {n : Nd} {i : Nat} {x : Ent} (h : n.ents[i]? = some x) : i < n.keys.length ∧ x = entAt n i := by
  have hi : i < n.keys.length := by have := (List.getElem?_eq_some_iff.1 h).1; rwa [ents_len] at this
  rw [ents_get hi] at h
  cases h
  exact ⟨hi, rfl⟩

theorem entAt_key {n : Nd} {i : Nat} {x : ByteArray} (h : n.keys[i]? = some x) : (entAt n i).key = x := by
  unfold entAt
  rw [h]
  rfl

theorem size_toList (x : ByteArray) : x.toList = [] ↔ x.size < 1 := by
  rw [ByteArray.toList_eq]
  have : x.data.toList.length = x.size := by rw [Array.length_toList]; rfl
  constructor
  · intro h; rw [h] at this; simp at this; omega
  · intro h; exact List.length_eq_zero_iff.1 (by omega)

/-- The lists have the lengths that the keys ask. -/
def ShapeP (n : Nd) : Prop := if n.leaf then n.values.length = n.keys.length ∧ n.kids.length = 0 else n.kids.length = n.keys.length ∧ n.values.length = 0

theorem keysOk_iff (n : Nd) : KeysOk n.keys ↔ ∀ (i : Nat) x, n.keys[i]? = some x → ¬ x.size < 1 ∧ x.size ≤ 48 ∧ ∀ y, 0 < i → n.keys[i - 1]? = some y → Op.bytesLess y.toList x.toList = true := by
  constructor
  · intro h i x hx
    obtain ⟨x', h1, h2, h3, h4⟩ := h i (List.getElem?_eq_some_iff.1 hx).1
    rw [hx] at h1
    cases h1
    refine ⟨fun hs => h2 ((size_toList x).2 hs), h3, fun y hi hy => ?_⟩
    obtain ⟨y', h5, h6⟩ := h4 hi
    rw [hy] at h5
    cases h5
    exact h6
  · intro h i hi
    obtain ⟨x, hx⟩ : ∃ x, n.keys[i]? = some x := ⟨_, List.getElem?_eq_getElem hi⟩
    obtain ⟨h1, h2, h3⟩ := h i x hx
    refine ⟨x, hx, fun he => h1 ((size_toList x).1 he), h2, fun h0 => ?_⟩
    obtain ⟨y, hy⟩ : ∃ y, n.keys[i - 1]? = some y := ⟨_, List.getElem?_eq_getElem (by omega)⟩
    exact ⟨y, hy, h3 y h0 hy⟩

theorem fit_bad {n : Nd} (h : ¬ ShapeP n) : encOk n = false := by
  unfold encOk
  rw [fitB_false]
  · rfl
  · rintro ⟨_, h2⟩
    apply h
    unfold restB at h2
    unfold ShapeP
    cases hl : n.leaf <;> rw [hl] at h2 <;> simp only [if_true, if_false, Bool.false_eq_true, Bool.and_eq_true, decide_eq_true_eq] at h2 ⊢ <;> omega

theorem fit_good {n : Nd} (h : ShapeP n) : rfitB n.leaf n.ents = encOk n := by
  have key : (∀ (i : Nat) x, n.ents[i]? = some x → EntOk n.leaf n.ents i x) ∧ (n.leaf = true ∨ 0 < n.ents.length) ↔ FitP n := by
    have hk := keysOk_iff n
    unfold FitP
    rw [hk]
    unfold ShapeP at h
    unfold restB
    constructor
    · rintro ⟨ha, hne⟩
      refine ⟨fun i x hx => ?_, ?_⟩
      · have hi := (List.getElem?_eq_some_iff.1 hx).1
        have ho := ha i _ (ents_get hi)
        have hkx := entAt_key (n := n) hx
        have h1 := ho.one
        have h2 := ho.le
        rw [hkx] at h1 h2
        refine ⟨h1, h2, fun y h0 hy => ?_⟩
        have h3 := ho.lt (entAt n (i - 1)) h0 (ents_get (by omega))
        rw [hkx, entAt_key hy] at h3
        exact h3
      · cases hl : n.leaf with
        | true =>
          rw [hl] at h ha
          simp only [if_true] at h ⊢
          have hv : n.values.any longB = false := by
            rw [List.any_eq_false]
            intro v hv hlong
            obtain ⟨j, hj⟩ := List.getElem?_of_mem hv
            have hjl := (List.getElem?_eq_some_iff.1 hj).1
            have := (ha j _ (ents_get (by omega))).val rfl
            simp only [entAt, valueOf, hl, hj, if_true, Option.getD_some] at this
            unfold longB at hlong
            simp at hlong
            omega
          rw [hv]
          simp [h.1, h.2]
        | false =>
          rw [hl] at h ha hne
          simp only [Bool.false_eq_true, if_false, false_or] at h hne ⊢
          rw [ents_len] at hne
          have hv : n.kids.any outB = false := by
            rw [List.any_eq_false]
            intro v hv hlong
            obtain ⟨j, hj⟩ := List.getElem?_of_mem hv
            have hjl := (List.getElem?_eq_some_iff.1 hj).1
            have := (ha j _ (ents_get (by omega))).kid rfl
            simp only [entAt, kidOf, hl, hj, Bool.false_eq_true, if_false, Option.getD_some] at this
            unfold outB at hlong
            simp at hlong
            omega
          rw [hv]
          simp [h.1, h.2, hne]
    · rintro ⟨ha, hr⟩
      refine ⟨fun i x hx => ?_, ?_⟩
      · obtain ⟨hi, rfl⟩ := ents_get_some hx
        obtain ⟨x, hx2⟩ : ∃ x, n.keys[i]? = some x := ⟨_, List.getElem?_eq_getElem hi⟩
        obtain ⟨h1, h2, h3⟩ := ha i x hx2
        have hkx := entAt_key (n := n) hx2
        refine ⟨by rw [hkx]; exact h1, by rw [hkx]; exact h2, fun y h0 hy => ?_, fun hl => ?_, fun hl => ?_⟩
        · obtain ⟨hi', rfl⟩ := ents_get_some hy
          obtain ⟨z, hz⟩ : ∃ z, n.keys[i - 1]? = some z := ⟨_, List.getElem?_eq_getElem hi'⟩
          rw [entAt_key hz, hkx]
          exact h3 z h0 hz
        · rw [hl] at h hr
          simp only [if_true, Bool.and_eq_true, Bool.not_eq_true', List.any_eq_false] at h hr
          obtain ⟨v, hv⟩ : ∃ v, n.values[i]? = some v := ⟨_, List.getElem?_eq_getElem (by omega)⟩
          have := hr.2 v (List.mem_of_getElem? hv)
          unfold longB at this
          simp only [entAt, valueOf, hl, hv, if_true, Option.getD_some]
          simp at this
          omega
        · rw [hl] at h hr
          simp only [Bool.false_eq_true, if_false, Bool.and_eq_true, Bool.not_eq_true', List.any_eq_false] at h hr
          obtain ⟨v, hv⟩ : ∃ v, n.kids[i]? = some v := ⟨_, List.getElem?_eq_getElem (by omega)⟩
          have := hr.2 v (List.mem_of_getElem? hv)
          unfold outB at this
          simp only [entAt, kidOf, hl, hv, Bool.false_eq_true, if_false, Option.getD_some]
          simp at this
          omega
      · cases hl : n.leaf with
        | true => exact .inl rfl
        | false =>
          rw [hl] at hr
          simp only [Bool.false_eq_true, if_false, Bool.and_eq_true, decide_eq_true_eq] at hr
          rw [ents_len]
          exact .inr hr.1.2
  rw [Bool.eq_iff_iff, rfitB_iff]
  unfold encOk RFitP
  rw [Bool.and_eq_true, fitB_iff, ← key, decide_eq_true_iff]
  exact ⟨fun ⟨a, b, c⟩ => ⟨⟨a, c⟩, b⟩, fun ⟨⟨a, c⟩, b⟩ => ⟨a, b, c⟩⟩

/-- The last entry that isn't above the key; the first where there is none. -/
structure LastLe (es : List Ent) (key : ByteArray) (k a : Nat) : Prop where
  up : ∀ (j : Nat) x, j < k → es[j]? = some x → (Op.bytesLess x.key.toList key.toList || x.key.toList == key.toList) = true → j ≤ a
  at' : a = 0 ∨ (a < k ∧ ∃ x, es[a]? = some x ∧ (Op.bytesLess x.key.toList key.toList || x.key.toList == key.toList) = true)

def RpAns (es : List Ent) (key : ByteArray) (e : Ending) : Prop := ∃ (a : Nat) (ok : Bool), LastLe es key es.length a ∧ (ok = true ↔ ∃ x, es[a]? = some x ∧ x.key = key) ∧ e = .returned (.tuple #[.int .i64 a, .bool ok])

set_option maxRecDepth 100000 in
set_option maxHeartbeats 2000000 in
theorem rplace_any {w : World} {sa : Option Addr} {es : List Ent} (leaf : Bool) (cap : Nat) (key : ByteArray) (h : Lies w 3 Ent.cs sa es) (hb : es.length ≤ 4194304) : Calls Try.prog 11 #[.agg #[.bool leaf, .slice sa es.length cap], .string key] w fun e w' => RpAns es key e ∧ Mod (fun _ => False) w w' := by
  have hm : Mod (fun _ => False) w (w.alloc (.cells #[.bool leaf, .slice sa es.length cap] 32)) := (Mod.refl _ _).alloc _
  have hbx : (w.alloc (.cells #[.bool leaf, .slice sa es.length cap] 32)).heap[w.heap.size]? = some (.cells #[.bool leaf, .slice sa es.length cap] 32 (0, 0)) := heap_alloc_new _ _
  have HLs := hid (h.ext hm)
  have HM := hid hm
  obtain ⟨c0, c1⟩ := cells2 hbx
  clear h hm hbx
  go_enter Try.func11, Try.ntmps11
  go_wp2_with fail
  generalize w.alloc (.cells #[.bool leaf, .slice sa es.length cap] 32) = W at *
  go_loop [6, 7] (fun ca c => ∃ k a : Nat, k ≤ es.length ∧ a ≤ k ∧ c = .int .i64 k ∧ ca = .int .i64 a ∧ LastLe es key k a ∧ (0 < es.length → a < es.length)) (fun _ c => es.length - (intOf c).toNat)
  case atStart => exact ⟨0, 0, Nat.zero_le _, Nat.le_refl _, rfl, rfl, ⟨fun j x hj => by omega, .inl rfl⟩, fun h => h⟩
  case round =>
    obtain ⟨k, a, hk, hak, rfl, rfl, hl, hal⟩ := hrel
    have HL := hid hl
    have HAl := hid hal
    clear hl hal
    by_cases hlt : k < es.length
    · obtain ⟨x, hx⟩ : ∃ x, es[k]? = some x := ⟨_, List.getElem?_eq_getElem hlt⟩
      obtain ⟨g, off, rfl⟩ := HLs.out.some (by omega)
      obtain ⟨q0, q1, q2⟩ := rent_cells HLs.out hx
      have Hx := hid hx
      clear hx
      cases hle : (Op.bytesLess x.key.toList key.toList || x.key.toList == key.toList) with
      | true =>
        have Hle := hid hle
        go_wp2_with fail
        go_round
        case rel =>
          refine ⟨k + 1, k, by omega, by omega, by go_num, rfl, ⟨fun j y hj _ _ => by omega, .inr ⟨by omega, x, Hx.out, Hle.out⟩⟩, fun _ => hlt⟩
        case measure => simp [intOf]; omega
      | false =>
        have Hle := hid hle
        go_wp2_with fail
        go_round
        case rel =>
          refine ⟨k + 1, a, by omega, by omega, by go_num, rfl, ⟨fun j y hj hy hyl => ?_, ?_⟩, HAl.out⟩
          · rcases Nat.lt_or_ge j k with h | h
            · exact HL.out.up j y h hy hyl
            · have : j = k := by omega
              subst this
              rw [Hx.out] at hy
              cases hy
              rw [Hle.out] at hyl
              cases hyl
          · rcases HL.out.at' with h | ⟨h, h2⟩
            · exact .inl h
            · exact .inr ⟨by omega, h2⟩
        case measure => simp [intOf]; omega
    · have hke : k = es.length := by omega
      subst hke
      by_cases h0 : 0 < es.length
      · have d0 : decide ((0 : Int) < (es.length : Int)) = true := by rw [decide_eq_true_iff]; omega
        have ha := HAl.out h0
        obtain ⟨x, hx⟩ : ∃ x, es[a]? = some x := ⟨_, List.getElem?_eq_getElem ha⟩
        obtain ⟨g, off, rfl⟩ := HLs.out.some (by omega)
        obtain ⟨q0, q1, q2⟩ := rent_cells HLs.out hx
        have Hx := hid hx
        have i1 : (a : Int) < (es.length : Int) := by omega
        clear hx
        cases he : (x.key.toList == key.toList) with
        | true =>
          have He := hid he
          go_wp2_with fail
          go_quiet (fail)
          go_wp2_with fail
          go_ret2
          refine ⟨⟨a, true, HL.out, ?_, rfl⟩, HM.out.drewN _⟩
          exact ⟨fun _ => ⟨x, Hx.out, toList_inj (by simpa using He.out)⟩, fun _ => rfl⟩
        | false =>
          have He := hid he
          go_wp2_with fail
          go_quiet (fail)
          go_wp2_with fail
          go_ret2
          refine ⟨⟨a, false, HL.out, ?_, rfl⟩, HM.out.drewN _⟩
          refine ⟨fun h => (by cases h), fun ⟨y, hy, hk⟩ => ?_⟩
          rw [Hx.out] at hy
          cases hy
          have := He.out
          rw [hk] at this
          simp at this
      · have d0 : decide ((0 : Int) < (es.length : Int)) = false := by rw [decide_eq_false_iff_not]; omega
        go_wp2_with fail
        go_quiet (fail)
        go_wp2_with fail
        go_ret2
        refine ⟨⟨a, false, HL.out, ?_, rfl⟩, HM.out.drewN _⟩
        exact ⟨fun h => (by cases h), fun ⟨y, hy, _⟩ => absurd (List.getElem?_eq_some_iff.1 hy).1 (by omega)⟩

/-- The program's place is the document's. -/
theorem place_same {n : Nd} {key : ByteArray} (hr : Rises n.keys) {i a : Nat} {ok ok' : Bool} (hat : At n.keys key i) (hok : ok = true ↔ n.keys[i]? = some key) (hl : LastLe n.ents key n.ents.length a) (hok' : ok' = true ↔ ∃ x, n.ents[a]? = some x ∧ x.key = key) :
    (if ok then (i : Int) else ((i - 1 : Nat) : Int)) = (a : Int) ∧ ok = ok' := by
  have get : ∀ {j : Nat} {x : Ent}, n.ents[j]? = some x → n.keys[j]? = some x.key := fun {j x} h => by
    obtain ⟨hj, rfl⟩ := ents_get_some h
    obtain ⟨z, hz⟩ : ∃ z, n.keys[j]? = some z := ⟨_, List.getElem?_eq_getElem hj⟩
    rw [entAt_key hz, hz]
  have back : ∀ {j : Nat} {z : ByteArray}, n.keys[j]? = some z → ∃ x, n.ents[j]? = some x ∧ x.key = z := fun {j z} h => ⟨_, ents_get (List.getElem?_eq_some_iff.1 h).1, entAt_key h⟩
  have not_le : ∀ {z : ByteArray}, Op.bytesLess key.toList z.toList = true → (Op.bytesLess z.toList key.toList || z.toList == key.toList) = false := fun h => leq_false h
  rw [ents_len] at hl
  cases ok with
  | true =>
    have hi := hok.1 rfl
    obtain ⟨x, hx, hxk⟩ := back hi
    have h1 : i ≤ a := hl.up i x (List.getElem?_eq_some_iff.1 hi).1 hx (by rw [hxk]; simp)
    have h2 : a = i := by
      rcases hl.at' with h | ⟨_, y, hy, hyl⟩
      · omega
      · rcases Nat.lt_or_ge i a with h | h
        · rw [not_le (hr i a key y.key h hi (get hy))] at hyl
          cases hyl
        · omega
    subst h2
    refine ⟨rfl, ?_⟩
    exact (hok'.2 ⟨x, hx, hxk⟩).symm
  | false =>
    have hno : ∀ (j : Nat) (z : ByteArray), i ≤ j → n.keys[j]? = some z → (Op.bytesLess z.toList key.toList || z.toList == key.toList) = false := fun j z hij hz => by
      rw [hat.hi j z hij hz]
      simp only [Bool.false_or, beq_eq_false_iff_ne]
      intro he
      have hze := toList_inj he
      subst hze
      rcases Nat.lt_or_ge i j with h | h
      · obtain ⟨y, hy⟩ : ∃ y, n.keys[i]? = some y := ⟨_, List.getElem?_eq_getElem (by have := (List.getElem?_eq_some_iff.1 hz).1; omega)⟩
        have h1 := hr i j y z h hy hz
        rw [hat.hi i y (Nat.le_refl _) hy] at h1
        cases h1
      · have : i = j := by omega
        subst this
        have := hok.2 hz
        cases this
    have ha : a = i - 1 := by
      have h1 : i - 1 ≤ a := by
        rcases Nat.eq_zero_or_pos i with h | h
        · omega
        · obtain ⟨y, hy⟩ : ∃ y, n.keys[i - 1]? = some y := ⟨_, List.getElem?_eq_getElem (by have := hat.le; omega)⟩
          obtain ⟨x, hx, rfl⟩ := back hy
          exact hl.up (i - 1) x (by have := hat.le; omega) hx (by rw [hat.lo (i - 1) x.key (by omega) hy]; rfl)
      rcases hl.at' with h | ⟨h2, y, hy, hyl⟩
      · omega
      · rcases Nat.lt_or_ge a i with h | h
        · omega
        · rw [hno a y.key h (get hy)] at hyl
          cases hyl
    refine ⟨by rw [ha]; rfl, ?_⟩
    cases ok' with
    | false => rfl
    | true =>
      obtain ⟨x, hx, hxk⟩ := hok'.1 rfl
      rcases Nat.lt_or_ge a i with h | h
      · have := hat.lo a x.key h (get hx)
        rw [hxk, less_irrefl] at this
        cases this
      · have := hno a x.key h (get hx)
        rw [hxk] at this
        simp at this

end Go.Proofs.Ythdopgejikcfbaa
