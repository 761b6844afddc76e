/- In which of the entries a key belongs -/
import Derived.Test.YthdopgejikcfbaaNodeF
namespace Go.Proofs.Ythdopgejikcfbaa
open Go Go.RowKit

theorem less_irrefl : ∀ l : List UInt8, Op.bytesLess l l = false
  | [] => rfl
  | a :: l => by simp [Op.bytesLess, less_irrefl l, UInt8.lt_irrefl]

theorem less_trans : ∀ {a b c : List UInt8}, Op.bytesLess a b = true → Op.bytesLess b c = true → Op.bytesLess a c = true
  | _, [], _, h, _ => by simp [Op.bytesLess] at h
  | [], _ :: _, [], _, h => by simp [Op.bytesLess] at h
  | _ :: _, _ :: _, [], _, h => by simp [Op.bytesLess] at h
  | [], _ :: _, _ :: _, _, _ => by simp [Op.bytesLess]
  | x :: a, y :: b, z :: c, h1, h2 => by
    simp only [Op.bytesLess, Bool.or_eq_true, decide_eq_true_eq, Bool.and_eq_true, beq_iff_eq] at h1 h2 ⊢
    rcases h1 with h1 | ⟨rfl, h1⟩
    · rcases h2 with h2 | ⟨rfl, h2⟩
      · exact .inl (UInt8.lt_trans h1 h2)
      · exact .inl h1
    · rcases h2 with h2 | ⟨rfl, h2⟩
      · exact .inl h2
      · exact .inr ⟨rfl, less_trans h1 h2⟩

theorem less_total : ∀ {a b : List UInt8}, Op.bytesLess a b = false → Op.bytesLess b a = false → a = b
  | [], [], _, _ => rfl
  | [], _ :: _, h, _ => by simp [Op.bytesLess] at h
  | _ :: _, [], _, h => by simp [Op.bytesLess] at h
  | x :: a, y :: b, h1, h2 => by
    simp only [Op.bytesLess, Bool.or_eq_false_iff, decide_eq_false_iff_not, Bool.and_eq_false_iff, beq_eq_false_iff_ne] at h1 h2
    have hxy : x = y := by
      have h3 := h1.1
      have h4 := h2.1
      rw [UInt8.lt_iff_toNat_lt] at h3 h4
      exact UInt8.toNat_inj.1 (by omega)
    subst hxy
    have h5 := h1.2.resolve_left (fun h => h rfl)
    have h6 := h2.2.resolve_left (fun h => h rfl)
    rw [less_total h5 h6]

theorem toList_inj {a b : ByteArray} (h : a.toList = b.toList) : a = b := by
  rw [ByteArray.toList_eq, ByteArray.toList_eq] at h
  exact ba_ext h

/-- The keys rise. -/
def Rises (ks : List ByteArray) : Prop := ∀ (i j : Nat) (x y : ByteArray), i < j → ks[i]? = some x → ks[j]? = some y → Op.bytesLess x.toList y.toList = true

theorem rises_of {ks : List ByteArray} (h : ∀ (i : Nat) (x y : ByteArray), ks[i]? = some x → ks[i + 1]? = some y → Op.bytesLess x.toList y.toList = true) : Rises ks := by
  intro i j x y hij hx hy
  obtain ⟨d, rfl⟩ : ∃ d, j = i + 1 + d := ⟨j - (i + 1), by omega⟩
  clear hij
  induction d generalizing y with
  | zero => exact h i x y hx hy
  | succ d ih =>
    obtain ⟨z, hz⟩ : ∃ z, ks[i + 1 + d]? = some z := ⟨_, List.getElem?_eq_getElem (by have := (List.getElem?_eq_some_iff.1 hy).1; omega)⟩
    exact less_trans (ih z hz) (h (i + 1 + d) z y hz hy)

theorem isnan_any (s : ByteArray) (w : World) : Calls Try.prog 35 #[.string s] w fun e w' => e = .returned (.bool false) ∧ w = w' := by
  have e1 : (s.toList == s.toList) = true := by simp
  go_enter Try.func35, Try.ntmps35
  go_wp2
  go_ret
  exact ⟨rfl, rfl⟩
theorem cisnan_any (s : ByteArray) (w : World) : Calls Try.prog 47 #[.string s] w fun e w' => e = .returned (.bool false) ∧ w = w' := by
  have e1 : (s.toList == s.toList) = true := by simp
  go_enter Try.func47, Try.ntmps47
  go_wp2
  go_ret
  exact ⟨rfl, rfl⟩
theorem less_any (a b : ByteArray) (w : World) : Calls Try.prog 34 #[.string a, .string b] w fun e w' => e = .returned (.bool (Op.bytesLess a.toList b.toList)) ∧ w = w' := by
  go_enter Try.func34, Try.ntmps34
  go_wp2_with (go_at_call 47; refine (cisnan_any _ _).mono ?_; rintro e w' ⟨rfl, rfl⟩)
  go_ret
  exact ⟨rfl, rfl⟩

/-- Where the key would stand. -/
structure At (ks : List ByteArray) (key : ByteArray) (i : Nat) : Prop where
  le : i ≤ ks.length
  lo : ∀ (j : Nat) (x : ByteArray), j < i → ks[j]? = some x → Op.bytesLess x.toList key.toList = true
  hi : ∀ (j : Nat) (x : ByteArray), i ≤ j → ks[j]? = some x → Op.bytesLess x.toList key.toList = false

def BsAns (ks : List ByteArray) (key : ByteArray) (e : Ending) : Prop := ∃ (i : Nat) (ok : Bool), At ks key i ∧ (ok = true ↔ ks[i]? = some key) ∧ e = .returned (.tuple #[.int .i64 i, .bool ok])

set_option maxRecDepth 100000 in
set_option maxHeartbeats 1000000 in
theorem bsearch_any {w : World} {a : Option Addr} {ks : List ByteArray} (cap : Nat) (key : ByteArray) (h : Lies w 1 (fun x => [.string x]) a ks) (hb : ks.length ≤ 4194304) (hr : Rises ks) : Calls Try.prog 22 #[.slice a ks.length cap, .string key] w fun e w' => BsAns ks key e ∧ w = w' := by
  have H := hid h
  have HR := hid hr
  clear h hr
  go_enter Try.func22, Try.ntmps22
  go_wp2
  go_loop [7, 8] (fun ci cj => ∃ i j : Nat, i ≤ j ∧ j ≤ ks.length ∧ ci = .int .i64 i ∧ cj = .int .i64 j ∧ (∀ (q : Nat) (x : ByteArray), q < i → ks[q]? = some x → Op.bytesLess x.toList key.toList = true) ∧ (∀ (q : Nat) (x : ByteArray), j ≤ q → ks[q]? = some x → Op.bytesLess x.toList key.toList = false)) (fun ci cj => (intOf cj).toNat - (intOf ci).toNat)
  case atStart => exact ⟨0, ks.length, Nat.zero_le _, Nat.le_refl _, rfl, rfl, fun q x hq => by omega, fun q x hq hx => by have := (List.getElem?_eq_some_iff.1 hx).1; omega⟩
  case round =>
    obtain ⟨i, j, hij, hj, rfl, rfl, hlo, hhi⟩ := hrel
    have HLo := hid hlo
    have HHi := hid hhi
    clear hlo hhi
    by_cases hlt : i < j
    · obtain ⟨m, hm⟩ : ∃ m, (i + j) / 2 = m := ⟨_, rfl⟩
      have hm1 : i ≤ m := by omega
      have hm2 : m < j := by omega
      obtain ⟨x, hx⟩ : ∃ x, ks[m]? = some x := ⟨_, List.getElem?_eq_getElem (by omega)⟩
      obtain ⟨g, off, rfl, hc⟩ := H.out.one hx
      have Hx := hid hx
      have e1 : ((i : Int) + (j : Int)) / 2 = (m : Int) := by omega
      clear hx
      go_wp2_with fail
      refine (less_any x key w).mono ?_
      rintro e w2 ⟨rfl, rfl⟩
      cases hl : Op.bytesLess x.toList key.toList with
      | true =>
        have HL := hid hl
        clear hl
        go_wp2_with fail
        go_round
        case rel =>
          refine ⟨m + 1, j, by omega, by omega, by go_num, rfl, fun q y hq hy => ?_, HHi.out⟩
          rcases Nat.lt_or_ge q m with h | h
          · exact less_trans (HR.out q m y x h hy Hx.out) HL.out
          · have : q = m := by omega
            subst this
            rw [Hx.out] at hy; cases hy
            exact HL.out
        case measure => simp [intOf]; omega
      | false =>
        have HL := hid hl
        clear hl
        go_wp2_with fail
        go_round
        case rel =>
          refine ⟨i, m, by omega, by omega, rfl, rfl, HLo.out, fun q y hq hy => ?_⟩
          rcases Nat.lt_or_ge m q with h | h
          · cases hlt2 : Op.bytesLess y.toList key.toList with
            | false => rfl
            | true => have := less_trans (HR.out m q x y h Hx.out hy) hlt2; rw [HL.out] at this; cases this
          · have : q = m := by omega
            subst this
            rw [Hx.out] at hy; cases hy
            exact HL.out
        case measure => simp [intOf]; omega
    · have hije : i = j := by omega
      subst hije
      have hAt : At ks key i := ⟨by omega, HLo.out, HHi.out⟩
      have HAt := hid hAt
      clear hAt
      by_cases hin : i < ks.length
      · obtain ⟨x, hx⟩ : ∃ x, ks[i]? = some x := ⟨_, List.getElem?_eq_getElem hin⟩
        obtain ⟨g, off, rfl, hc⟩ := H.out.one hx
        have Hx := hid hx
        have d0 : decide ((i : Int) < (ks.length : Int)) = true := by rw [decide_eq_true_iff]; omega
        clear hx
        by_cases hxk : x = key
        · have e1 : (x.toList == key.toList) = true := by rw [hxk]; simp
          have Hxk := hid hxk
          clear hxk
          go_wp2_with (go_at_call 35; refine (isnan_any _ _).mono ?_; rintro e w' ⟨rfl, rfl⟩)
          go_ret2
          exact ⟨⟨i, true, HAt.out, by rw [Hx.out, Hxk.out]; simp, rfl⟩, rfl⟩
        · have e1 : (x.toList == key.toList) = false := by
            cases h : (x.toList == key.toList)
            · rfl
            · exact absurd (toList_inj (by simpa using h)) hxk
          have Hxk := hid hxk
          clear hxk
          go_wp2_with (go_at_call 35; refine (isnan_any _ _).mono ?_; rintro e w' ⟨rfl, rfl⟩)
          go_ret2
          exact ⟨⟨i, false, HAt.out, by rw [Hx.out]; simp; exact Hxk.out, rfl⟩, rfl⟩
      · have d0 : decide ((i : Int) < (ks.length : Int)) = false := by rw [decide_eq_false_iff_not]; omega
        go_wp2_with fail
        go_ret2
        exact ⟨⟨i, false, HAt.out, by rw [List.getElem?_eq_none (by omega)]; simp, rfl⟩, rfl⟩

/-- What Place says. -/
def PlaceAns (ks : List ByteArray) (key : ByteArray) (e : Ending) : Prop := ∃ (i : Nat) (ok : Bool), At ks key i ∧ (ok = true ↔ ks[i]? = some key) ∧ e = .returned (.tuple #[.int .i64 (if ok then (i : Int) else ((i - 1 : Nat) : Int)), .bool ok])

set_option maxRecDepth 100000 in
theorem place_any {w : World} {n : Nd} (key : ByteArray) (h : NdAt w n) (hr : Rises n.keys) : Calls Try.prog 10 #[.agg #[.bool n.leaf, .slice n.ka n.keys.length n.kc, .slice n.va n.values.length n.vc, .slice n.ia n.kids.length n.ic], .string key] w fun e w' => PlaceAns n.keys key e ∧ Mod (fun _ => False) w w' := by
  have hbk := h.bk
  have hm : Mod (fun _ => False) w (w.alloc (.cells #[.bool n.leaf, .slice n.ka n.keys.length n.kc, .slice n.va n.values.length n.vc, .slice n.ia n.kids.length n.ic] 26)) := (Mod.refl _ _).alloc _
  have HB := hid (bsearch_any n.kc key (h.k.ext hm) hbk hr)
  have HM := hid hm
  clear h hm hr
  go_enter Try.func10, Try.ntmps10
  go_wp2_with fail
  refine HB.out.mono ?_
  rintro e w1 ⟨⟨i, ok, hat, hok, rfl⟩, rfl⟩
  have hle := hat.le
  have HAt := hid hat
  have HOk := hid hok
  clear hat hok
  cases ok with
  | true =>
    by_cases hi : 0 < i
    · have d : decide ((0 : Int) < (i : Int)) = true := by rw [decide_eq_true_iff]; omega
      go_wp2_with fail
      all_goals go_ret2
      all_goals first | exact ⟨⟨i, true, HAt.out, (by have := HOk.out; simpa using this), rfl⟩, HM.out⟩ | omega
    · obtain rfl : i = 0 := by omega
      go_wp2_with fail
      all_goals go_ret2
      all_goals first | exact ⟨⟨0, true, HAt.out, (by have := HOk.out; simpa using this), rfl⟩, HM.out⟩ | omega
  | false =>
    cases i with
    | zero =>
      go_wp2_with fail
      all_goals go_ret2
      all_goals first | exact ⟨⟨0, false, HAt.out, HOk.out, rfl⟩, HM.out⟩ | omega
    | succ i =>
      rw [show ((i + 1 : Nat) : Int) = (i : Int) + 1 by omega]
      by_cases hi : 0 < i
      · go_wp2_with fail
        all_goals go_ret2
        all_goals first | exact ⟨⟨i + 1, false, HAt.out, HOk.out, rfl⟩, HM.out⟩ | omega
      · obtain rfl : i = 0 := by omega
        go_wp2_with fail
        all_goals go_ret2
        all_goals first | exact ⟨⟨0 + 1, false, HAt.out, HOk.out, rfl⟩, HM.out⟩ | omega

end Go.Proofs.Ythdopgejikcfbaa
