/- Flow, plain: strings.Split at one byte is 'pieces' -/
import Derived.Test.YtmkbbclbkpofoaaDoorFlL
import Derived.Lib.SplitLaws
namespace Go.Proofs.YtmkbbclbkpofoaaDoor
open Go Go.RowKit

theorem splitK_pieces (c : UInt8) : ∀ l : List UInt8, Lib.splitK [c] 0 (Lib.count l [c]) l = pieces c l
  | [] => by rw [Lib.count_miss (by simp [Lib.index])]; rfl
  | b :: t => by
    have ih := splitK_pieces c t
    by_cases h : b = c
    · subst h
      have hix : Lib.index (b :: t) [b] = 0 := by rw [Lib.index]; simp [List.isPrefixOf]
      rw [Lib.count_cons_eq, Nat.add_comm, Lib.splitK, hix, pieces, if_pos rfl, if_neg (by decide)]
      simp only [Int.toNat_zero, Nat.add_zero, List.take_zero, List.length_cons, List.length_nil, Nat.zero_add, List.drop_one, List.tail_cons]
      rw [ih]
    · rw [Lib.count_cons_ne b c t h, pieces, if_neg h, ← ih]
      have hp : ([c] : List UInt8).isPrefixOf (b :: t) = false := by simp [List.isPrefixOf, Ne.symm h]
      have hix : Lib.index (b :: t) [c] = if Lib.index t [c] == -1 then -1 else Lib.index t [c] + 1 := by rw [Lib.index, hp]; simp
      cases hk : Lib.count t [c] with
      | zero => rfl
      | succ k =>
        have hm : ¬ Lib.index t [c] = -1 := fun e => by rw [Lib.count_miss e] at hk; cases hk
        have hge := Lib.index_ge t [c]
        obtain ⟨j, hj⟩ : ∃ j : Nat, Lib.index t [c] = j := ⟨(Lib.index t [c]).toNat, by omega⟩
        have h1 : ¬ (Lib.index t [c] == -1) = true := fun e => hm (beq_iff_eq.1 e)
        have h2 : Lib.index (b :: t) [c] = ((j + 1 : Nat) : Int) := by rw [hix, if_neg h1, hj]; omega
        have h3 : ¬ (((j + 1 : Nat) : Int) == -1) = true := fun e => by have := beq_iff_eq.1 e; omega
        have h4 : ¬ ((j : Int) == -1) = true := fun e => by have := beq_iff_eq.1 e; omega
        rw [Lib.splitK, Lib.splitK, h2, if_neg h3, hj, if_neg h4]
        simp only [Int.toNat_natCast, Nat.add_zero, List.take_succ_cons, List.length_cons, List.length_nil, Nat.zero_add, List.drop_succ_cons]

theorem split_pieces (c : UInt8) (s : ByteArray) : Lib.splitB ⟨#[c]⟩ 0 (Lib.countB s ⟨#[c]⟩) s = (pieces c s.data.toList).map ba := by
  have h := Lib.splitB_data ⟨#[c]⟩ 0 (Lib.countB s ⟨#[c]⟩) s
  have h2 : Lib.splitK [c] 0 (Lib.countB s ⟨#[c]⟩) s.data.toList = pieces c s.data.toList := splitK_pieces c s.data.toList
  rw [show (⟨#[c]⟩ : ByteArray).data.toList = [c] from rfl, h2] at h
  rw [← h, List.map_map]
  have : (ba ∘ fun x : ByteArray => x.data.toList) = id := by funext x; exact ba_list x
  rw [this, List.map_id]

theorem split_count (c : UInt8) (s : ByteArray) : Lib.countB s ⟨#[c]⟩ + 1 = (pieces c s.data.toList).length := by
  have h := Lib.splitB_all ⟨#[c]⟩ (by show 1 ≤ 1; exact Nat.le_refl _) 0 _ s rfl
  rw [split_pieces, List.length_map] at h
  exact h.symm

theorem pieces_len (c : UInt8) : ∀ l : List UInt8, (pieces c l).length ≤ l.length + 1 ∧ ∀ p ∈ pieces c l, p.length ≤ l.length
  | [] => by simp [pieces]
  | b :: t => by
    obtain ⟨h1, h2⟩ := pieces_len c t
    unfold pieces
    split
    · refine ⟨by simp only [List.length_cons]; omega, fun p hp => ?_⟩
      rcases List.mem_cons.1 hp with rfl | hp
      · exact Nat.zero_le _
      · have := h2 p hp; simp only [List.length_cons]; omega
    · split
      · refine ⟨by simp, fun p hp => ?_⟩
        rw [List.mem_singleton] at hp; subst hp; simp
      · next q ps he =>
        rw [he] at h1 h2
        refine ⟨by simp only [List.length_cons] at h1 ⊢; omega, fun p hp => ?_⟩
        rcases List.mem_cons.1 hp with rfl | hp
        · have := h2 q List.mem_cons_self; simp only [List.length_cons]; omega
        · have := h2 p (List.mem_cons_of_mem _ hp); simp only [List.length_cons]; omega

end Go.Proofs.YtmkbbclbkpofoaaDoor
