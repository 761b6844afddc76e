/- Reading a number and a text: the document's functions -/
import Derived.Test.YtbfdmglmolkloaaGreatDoorRdT
namespace Go.Proofs.YtbfdmglmolkloaaGreatDoor
open Go Go.RowKit

/-- The number that bytes of seven bits write. -/
def tv : List UInt8 → Nat
  | [] => 0
  | b :: r => b.toNat % 128 + 128 * tv r

theorem rdU_run : ∀ (k i : Nat) (L : List UInt8), (∀ j b, j < k → L[j]? = some b → 128 ≤ b.toNat) → k ≤ L.length → i + k ≤ 9 →
    (L.length = k → rdU i L = ⟨0, 0, 20⟩) ∧ (∀ b, L[k]? = some b → ((i + k = 9 ∧ 1 < b.toNat) ∨ (0 < i + k ∧ b.toNat = 0)) → rdU i L = ⟨0, 0, 21⟩) ∧
      (∀ b, L[k]? = some b → ¬ (i + k = 9 ∧ 1 < b.toNat) → ¬ (0 < i + k ∧ b.toNat = 0) → b.toNat < 128 → rdU i L = ⟨tv (L.take (k + 1)), k + 1, 0⟩)
  | 0, i, L => fun _ _ hi => by
    refine ⟨fun h => ?_, fun b hb hbad => ?_, fun b hb h1 h2 h3 => ?_⟩
    · rw [List.eq_nil_of_length_eq_zero h]; exact rdU_nil i
    · match L, hb with
      | c :: r, hb => cases hb; exact rdU_bad hbad
    · match L, hb with
      | c :: r, hb =>
        cases hb
        rw [rdU_end (i := i) (by simpa using h1) (by simpa using h2) (by omega) h3]
        simp [tv, Nat.mod_eq_of_lt h3]
  | k + 1, i, L => fun hall hk hi => by
    match L, hall, hk with
    | [], _, hk => simp at hk
    | c :: r, hall, hk =>
      have hc := hall 0 c (by omega) rfl
      obtain ⟨p1, p2, p3⟩ := rdU_run k (i + 1) r (fun j b hj hb => hall (j + 1) b (by omega) hb) (by simpa using hk) (by omega)
      have hm := rdU_more (i := i) (b := c) (r := r) (by omega) (by omega)
      rw [show i + (k + 1) = i + 1 + k by omega]
      refine ⟨fun h => ?_, fun b hb hbad => ?_, fun b hb h1 h2 h3 => ?_⟩
      · rw [hm, p1 (by simpa using h)]; rfl
      · rw [hm, p2 b hb hbad]; rfl
      · rw [hm, p3 b hb h1 h2 h3]
        have hc8 := c.toNat_lt
        simp only [if_true, List.take_succ_cons, tv]
        rw [RU.mk.injEq]
        exact ⟨by omega, rfl, rfl⟩

theorem tv_bound : ∀ l : List UInt8, tv l < 128 ^ l.length
  | [] => by simp [tv]
  | b :: r => by
    have := tv_bound r
    rw [List.length_cons, Nat.pow_succ, tv]
    have h1 : b.toNat % 128 < 128 := Nat.mod_lt _ (by omega)
    omega

theorem tv_drop : ∀ (l : List UInt8) (m : Nat), tv (l.drop m) ≤ tv l
  | l, 0 => Nat.le_refl _
  | [], m + 1 => by simp
  | b :: r, m + 1 => by
    have := tv_drop r m
    rw [List.drop_succ_cons]
    show tv (r.drop m) ≤ b.toNat % 128 + 128 * tv r
    omega

theorem tv_step {l : List UInt8} {m : Nat} {b : UInt8} (h : l[m]? = some b) : tv (l.drop m) = tv (l.drop (m + 1)) * 128 + b.toNat % 128 := by
  obtain ⟨hm, rfl⟩ := List.getElem?_eq_some_iff.1 h
  rw [List.drop_eq_getElem_cons hm]
  show l[m].toNat % 128 + 128 * _ = _
  omega

theorem drop_get {s : ByteArray} {at' k : Nat} (h : at' + k < s.size) : (s.data.toList.drop at')[k]? = some s[at' + k] := by
  rw [List.getElem?_drop, List.getElem?_eq_getElem (by simpa using h)]
  rfl

set_option maxRecDepth 100000 in
set_option maxHeartbeats 2000000 in
theorem rreadUint_any (s : ByteArray) (at' : Nat) (w : World) (hs : s.size ≤ 4611686018427387904) : Calls Tryz.prog 50 #[.string s, .int .i64 (at' : Int)] w fun e w' => e = .returned (ruV at' (rdU 0 (s.data.toList.drop at'))) ∧ w = w' := by
  by_cases hlt : at' < s.size
  · have d1 : decide (s.size ≤ at') = false := by rw [decide_eq_false_iff_not]; omega
    have hwr : IntKind.i64.wrap ((at' : Int) + 9) = (at' : Int) + 9 := IntWalk.i64_in _ (by omega)
    go_enter Tryz.func50, Tryz.ntmps50
    go_wp2
    go_loop [7] (fun t => ∃ k : Nat, k ≤ 9 ∧ t = .int .i64 ((at' + k : Nat) : Int) ∧ at' + k ≤ s.size ∧ ∀ j b, j < k → (s.data.toList.drop at')[j]? = some b → 128 ≤ b.toNat) (fun t => (at' + 9 - intOf t).toNat)
    case atStart => exact ⟨0, by omega, rfl, by omega, fun j b hj => by omega⟩
    case round =>
      obtain ⟨k, hk, rfl, hle, hall⟩ := hrel
      obtain ⟨n, hn⟩ : ∃ n, n = at' + k := ⟨_, rfl⟩
      have hrun := rdU_run k 0 (s.data.toList.drop at') hall (by simp; omega) (by omega)
      rw [← hn] at hle ⊢
      have HN := hid hn
      have HAll := hid hall
      have HRun := hid hrun
      clear hrun hall hn
      by_cases hend : n = s.size
      · have HANS : Hid (ruV at' (rdU 0 (s.data.toList.drop at')) = .tuple #[.int .u64 0, .int .i64 0, .int .i64 20]) := hid (by rw [HRun.out.1 (by have := HN.out; simp; omega)]; rfl)
        subst hend
        go_wp2_with fail
        refine bodyPost_ret (v := .tuple #[.int .u64 0, .int .i64 0, .int .i64 20]) (by simp [results, Tryz.results50, go_sem]) rfl ⟨congrArg Ending.returned HANS.out.symm, rfl⟩
      · have hlt2 : n < s.size := by omega
        have t3 : ((n : Int) == (s.size : Int)) = false := by rw [beq_eq_false_iff_ne]; omega
        have t4 : decide (n < s.size) = true := by rw [decide_eq_true_iff]; exact hlt2
        have HGet : Hid ((s.data.toList.drop at')[k]? = some s[n]) := hid (by have := HN.out; subst this; exact drop_get hlt2)
        have hb8 := s[n].toNat_lt
        have hn1 : at' ≤ n := by have := HN.out; omega
        have hn2 : n ≤ at' + 9 := by have := HN.out; omega
        have hans : ∀ h1 : ¬ (k = 9 ∧ 1 < s[n].toNat), ∀ h2 : ¬ (0 < k ∧ s[n].toNat = 0), s[n].toNat < 128 → ruV at' (rdU 0 (s.data.toList.drop at')) = .tuple #[.int .u64 ((tv ((s.data.toList.drop at').take (k + 1)) : Nat) : Int), .int .i64 ((n : Int) + 1), .int .i64 0] ∧ tv ((s.data.toList.drop at').take (k + 1)) < 18446744073709551616 := fun h1 h2 h3 => by
          have h := HRun.out.2.2 _ HGet.out (by simpa using h1) (by simpa using h2) h3
          have hb := (rdU_bound (s.data.toList.drop at') 0).2.2.2 (by omega)
          rw [h] at hb ⊢
          have h6 : two64 = 18446744073709551616 := by decide
          refine ⟨?_, by rw [← h6]; simpa using hb⟩
          unfold ruV
          have := HN.out
          simp only [if_true]
          congr 5
          omega
        have hbad : ((k = 9 ∧ 1 < s[n].toNat) ∨ (0 < k ∧ s[n].toNat = 0)) → ruV at' (rdU 0 (s.data.toList.drop at')) = .tuple #[.int .u64 0, .int .i64 0, .int .i64 21] := fun h => by
          rw [HRun.out.2.1 _ HGet.out (by simpa using h)]; rfl
        have HAns := hid hans
        have HBad := hid hbad
        clear hans hbad
        by_cases h9 : k = 9
        · have t1 : decide ((n : Int) < (at' : Int) + 9) = false := by have := HN.out; rw [decide_eq_false_iff_not]; omega
          have t2 : ((n : Int) == (at' : Int) + 9) = true := by have := HN.out; rw [beq_iff_eq]; omega
          by_cases hb1 : 1 < s[n].toNat
          · have HANS := hid (HBad.out (.inl ⟨h9, hb1⟩))
            clear h9
            go_wp2_with fail
            refine bodyPost_ret (v := .tuple #[.int .u64 0, .int .i64 0, .int .i64 21]) (by simp [results, Tryz.results50, go_sem]) rfl ⟨congrArg Ending.returned HANS.out.symm, rfl⟩
          · have t5 : decide (at' < n) = true := by have := HN.out; rw [decide_eq_true_iff]; omega
            by_cases hz : s[n].toNat = 0
            · have HANS := hid (HBad.out (.inr ⟨by omega, hz⟩))
              have z : ((s[n].toNat : Int) == 0) = true := by rw [beq_iff_eq]; omega
              clear hz h9
              go_wp2_with fail
              refine bodyPost_ret (v := .tuple #[.int .u64 0, .int .i64 0, .int .i64 21]) (by simp [results, Tryz.results50, go_sem]) rfl ⟨congrArg Ending.returned HANS.out.symm, rfl⟩
            · have z : ((s[n].toNat : Int) == 0) = false := by rw [beq_eq_false_iff_ne]; omega
              have HANS := hid (HAns.out (by omega) (by omega) (by omega)).1
              have HTV := hid (HAns.out (by omega) (by omega) (by omega)).2
              clear h9 hk hle
              go_wp2_with fail
              go_loop [8, 9] (fun t c => ∃ m : Nat, m ≤ k + 1 ∧ c = .int .i64 ((at' : Int) + (m : Int) - 1) ∧ t = .int .u64 ((tv (((s.data.toList.drop at').take (k + 1)).drop m) : Nat) : Int)) (fun _ c => (intOf c - at' + 1).toNat)
              case atStart => exact ⟨k + 1, Nat.le_refl _, congrArg (Value.int .i64) (by have := HN.out; omega), by rw [List.drop_of_length_le (by rw [List.length_take]; omega)]; rfl⟩
              case round =>
                obtain ⟨m, hm, rfl, rfl⟩ := hrel
                cases m with
                | zero =>
                  have HT : Hid (.returned (ruV at' (rdU 0 (s.data.toList.drop at'))) = Ending.returned (.tuple #[.int .u64 ((tv (((s.data.toList.drop at').take (k + 1)).drop 0) : Nat) : Int), .int .i64 ((n : Int) + 1), .int .i64 0])) := hid (by rw [HANS.out]; rfl)
                  generalize tv (((s.data.toList.drop at').take (k + 1)).drop 0) = q at *
                  have e0 : (at' : Int) + ((0 : Nat) : Int) - 1 = (at' : Int) - 1 := by omega
                  rw [e0]
                  clear e0
                  have t9 : decide ((at' : Int) ≤ (at' : Int) - 1) = false := by rw [decide_eq_false_iff_not]; omega
                  go_wp2_with fail
                  refine bodyPost_ret (v := .tuple #[.int .u64 (q : Int), .int .i64 ((n : Int) + 1), .int .i64 0]) (by simp [results, Tryz.results50, go_sem]) rfl ⟨HT.out.symm, rfl⟩
                | succ m =>
                  have e0 : (at' : Int) + ((m + 1 : Nat) : Int) - 1 = ((at' + m : Nat) : Int) := by omega
                  rw [e0]
                  clear e0
                  have hm2 : at' + m < s.size := by have := HN.out; omega
                  have hgm : ((s.data.toList.drop at').take (k + 1))[m]? = some s[at' + m] := by rw [List.getElem?_take, if_pos (by omega)]; exact drop_get hm2
                  have hst := tv_step hgm
                  have hbd := Nat.lt_of_le_of_lt (tv_drop ((s.data.toList.drop at').take (k + 1)) m) HTV.out
                  rw [hst] at hbd
                  have HSt := hid hst
                  have hb9 := s[at' + m].toNat_lt
                  clear hgm hst
                  generalize tv (((s.data.toList.drop at').take (k + 1)).drop (m + 1)) = q at *
                  have HI : Hid (((at' + m : Nat) : Int) - 1 = (at' : Int) + (m : Int) - 1) := hid (by omega)
                  have t9 : decide (at' ≤ at' + m) = true := by rw [decide_eq_true_iff]; omega
                  go_wp2_with fail
                  go_round
                  case rel => exact ⟨m, by omega, by first | exact congrArg (Value.int .i64) HI.out | (exact congrArg (Value.int .i64) (by omega)), by rw [HSt.out]; go_num⟩
                  case measure => simp [intOf]; omega

        · have t1 : decide ((n : Int) < (at' : Int) + 9) = true := by have := HN.out; rw [decide_eq_true_iff]; omega
          have t2 : ((n : Int) == (at' : Int) + 9) = false := by have := HN.out; rw [beq_eq_false_iff_ne]; omega
          by_cases hb : s[n].toNat < 128
          · by_cases h0 : 0 < k
            · have t5 : decide (at' < n) = true := by have := HN.out; rw [decide_eq_true_iff]; omega
              by_cases hz : s[n].toNat = 0
              · have HANS := hid (HBad.out (.inr ⟨h0, hz⟩))
                have z : ((s[n].toNat : Int) == 0) = true := by rw [beq_iff_eq]; omega
                clear hz
                go_wp2_with fail
                refine bodyPost_ret (v := .tuple #[.int .u64 0, .int .i64 0, .int .i64 21]) (by simp [results, Tryz.results50, go_sem]) rfl ⟨congrArg Ending.returned HANS.out.symm, rfl⟩
              · have z : ((s[n].toNat : Int) == 0) = false := by rw [beq_eq_false_iff_ne]; omega
                have HANS := hid (HAns.out (by omega) (by omega) (by omega)).1
                have HTV := hid (HAns.out (by omega) (by omega) (by omega)).2
                clear hle
                go_wp2_with fail
                go_loop [8, 9] (fun t c => ∃ m : Nat, m ≤ k + 1 ∧ c = .int .i64 ((at' : Int) + (m : Int) - 1) ∧ t = .int .u64 ((tv (((s.data.toList.drop at').take (k + 1)).drop m) : Nat) : Int)) (fun _ c => (intOf c - at' + 1).toNat)
                case atStart => exact ⟨k + 1, Nat.le_refl _, congrArg (Value.int .i64) (by have := HN.out; omega), by rw [List.drop_of_length_le (by rw [List.length_take]; omega)]; rfl⟩
                case round =>
                  obtain ⟨m, hm, rfl, rfl⟩ := hrel
                  cases m with
                  | zero =>
                    have HT : Hid (.returned (ruV at' (rdU 0 (s.data.toList.drop at'))) = Ending.returned (.tuple #[.int .u64 ((tv (((s.data.toList.drop at').take (k + 1)).drop 0) : Nat) : Int), .int .i64 ((n : Int) + 1), .int .i64 0])) := hid (by rw [HANS.out]; rfl)
                    generalize tv (((s.data.toList.drop at').take (k + 1)).drop 0) = q at *
                    have e0 : (at' : Int) + ((0 : Nat) : Int) - 1 = (at' : Int) - 1 := by omega
                    rw [e0]
                    clear e0
                    have t9 : decide ((at' : Int) ≤ (at' : Int) - 1) = false := by rw [decide_eq_false_iff_not]; omega
                    go_wp2_with fail
                    refine bodyPost_ret (v := .tuple #[.int .u64 (q : Int), .int .i64 ((n : Int) + 1), .int .i64 0]) (by simp [results, Tryz.results50, go_sem]) rfl ⟨HT.out.symm, rfl⟩
                  | succ m =>
                    have e0 : (at' : Int) + ((m + 1 : Nat) : Int) - 1 = ((at' + m : Nat) : Int) := by omega
                    rw [e0]
                    clear e0
                    have hm2 : at' + m < s.size := by have := HN.out; omega
                    have hgm : ((s.data.toList.drop at').take (k + 1))[m]? = some s[at' + m] := by rw [List.getElem?_take, if_pos (by omega)]; exact drop_get hm2
                    have hst := tv_step hgm
                    have hbd := Nat.lt_of_le_of_lt (tv_drop ((s.data.toList.drop at').take (k + 1)) m) HTV.out
                    rw [hst] at hbd
                    have HSt := hid hst
                    have hb9 := s[at' + m].toNat_lt
                    clear hgm hst
                    generalize tv (((s.data.toList.drop at').take (k + 1)).drop (m + 1)) = q at *
                    have HI : Hid (((at' + m : Nat) : Int) - 1 = (at' : Int) + (m : Int) - 1) := hid (by omega)
                    have t9 : decide (at' ≤ at' + m) = true := by rw [decide_eq_true_iff]; omega
                    go_wp2_with fail
                    go_round
                    case rel => exact ⟨m, by omega, by first | exact congrArg (Value.int .i64) HI.out | (exact congrArg (Value.int .i64) (by omega)), by rw [HSt.out]; go_num⟩
                    case measure => simp [intOf]; omega

            · have t5 : decide (at' < n) = false := by have := HN.out; rw [decide_eq_false_iff_not]; omega
              have HANS := hid (HAns.out (by omega) (by omega) (by omega)).1
              have HTV := hid (HAns.out (by omega) (by omega) (by omega)).2
              clear hle
              go_wp2_with fail
              go_loop [8, 9] (fun t c => ∃ m : Nat, m ≤ k + 1 ∧ c = .int .i64 ((at' : Int) + (m : Int) - 1) ∧ t = .int .u64 ((tv (((s.data.toList.drop at').take (k + 1)).drop m) : Nat) : Int)) (fun _ c => (intOf c - at' + 1).toNat)
              case atStart => exact ⟨k + 1, Nat.le_refl _, congrArg (Value.int .i64) (by have := HN.out; omega), by rw [List.drop_of_length_le (by rw [List.length_take]; omega)]; rfl⟩
              case round =>
                obtain ⟨m, hm, rfl, rfl⟩ := hrel
                cases m with
                | zero =>
                  have HT : Hid (.returned (ruV at' (rdU 0 (s.data.toList.drop at'))) = Ending.returned (.tuple #[.int .u64 ((tv (((s.data.toList.drop at').take (k + 1)).drop 0) : Nat) : Int), .int .i64 ((n : Int) + 1), .int .i64 0])) := hid (by rw [HANS.out]; rfl)
                  generalize tv (((s.data.toList.drop at').take (k + 1)).drop 0) = q at *
                  have e0 : (at' : Int) + ((0 : Nat) : Int) - 1 = (at' : Int) - 1 := by omega
                  rw [e0]
                  clear e0
                  have t9 : decide ((at' : Int) ≤ (at' : Int) - 1) = false := by rw [decide_eq_false_iff_not]; omega
                  go_wp2_with fail
                  refine bodyPost_ret (v := .tuple #[.int .u64 (q : Int), .int .i64 ((n : Int) + 1), .int .i64 0]) (by simp [results, Tryz.results50, go_sem]) rfl ⟨HT.out.symm, rfl⟩
                | succ m =>
                  have e0 : (at' : Int) + ((m + 1 : Nat) : Int) - 1 = ((at' + m : Nat) : Int) := by omega
                  rw [e0]
                  clear e0
                  have hm2 : at' + m < s.size := by have := HN.out; omega
                  have hgm : ((s.data.toList.drop at').take (k + 1))[m]? = some s[at' + m] := by rw [List.getElem?_take, if_pos (by omega)]; exact drop_get hm2
                  have hst := tv_step hgm
                  have hbd := Nat.lt_of_le_of_lt (tv_drop ((s.data.toList.drop at').take (k + 1)) m) HTV.out
                  rw [hst] at hbd
                  have HSt := hid hst
                  have hb9 := s[at' + m].toNat_lt
                  clear hgm hst
                  generalize tv (((s.data.toList.drop at').take (k + 1)).drop (m + 1)) = q at *
                  have HI : Hid (((at' + m : Nat) : Int) - 1 = (at' : Int) + (m : Int) - 1) := hid (by omega)
                  have t9 : decide (at' ≤ at' + m) = true := by rw [decide_eq_true_iff]; omega
                  go_wp2_with fail
                  go_round
                  case rel => exact ⟨m, by omega, by first | exact congrArg (Value.int .i64) HI.out | (exact congrArg (Value.int .i64) (by omega)), by rw [HSt.out]; go_num⟩
                  case measure => simp [intOf]; omega

          · have HNx : Hid (∀ j b, j < k + 1 → (s.data.toList.drop at')[j]? = some b → 128 ≤ b.toNat) := hid (fun j b hj hjb => by
              by_cases he : j = k
              · subst he; rw [HGet.out] at hjb; cases hjb; omega
              · exact HAll.out j b (by omega) hjb)
            go_wp2_with fail
            go_round
            case rel => exact ⟨k + 1, by omega, congrArg (Value.int .i64) (by have := HN.out; omega), by have := HN.out; omega, HNx.out⟩
            case measure => have := HN.out; simp [intOf]; omega
  · have d1 : decide (s.size ≤ at') = true := by rw [decide_eq_true_iff]; omega
    have HANS : Hid (ruV at' (rdU 0 (s.data.toList.drop at')) = .tuple #[.int .u64 0, .int .i64 0, .int .i64 20]) := by
      rw [List.drop_eq_nil_of_le (by simp; exact Nat.le_of_not_lt hlt), rdU_nil]; rfl
    go_enter Tryz.func50, Tryz.ntmps50
    go_wp2_with fail
    refine bodyPost_ret (v := .tuple #[.int .u64 0, .int .i64 0, .int .i64 20]) (by simp [results, Tryz.results50, go_sem]) rfl ⟨congrArg Ending.returned HANS.out.symm, rfl⟩


end Go.Proofs.YtbfdmglmolkloaaGreatDoor
