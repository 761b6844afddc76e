/- Decoding, plain -/
import Derived.Test.YthdopgejikcfbaaDoorRdT
import Derived.Test.YthdopgejikcfbaaDoorTrim
import Derived.Test.YthdopgejikcfbaaDoorPush
namespace Go.Proofs.YthdopgejikcfbaaDoor
open Go Go.RowKit

/-- One entry, read from a place. -/
def readE (leaf : Bool) (s : ByteArray) (a : Nat) : Option (Ent × Nat) :=
  if (rdT s a).e = 0 then
    (if leaf then (if (rdT s (rdT s a).n).e = 0 then some (⟨(rdT s a).t, (rdT s (rdT s a).n).t, 0⟩, (rdT s (rdT s a).n).n) else none)
     else (if (rdU 0 (s.data.toList.drop (rdT s a).n)).e = 0 then some (⟨(rdT s a).t, emp, ((min (rdU 0 (s.data.toList.drop (rdT s a).n)).v 16384 : Nat) : Int)⟩, (rdT s a).n + (rdU 0 (s.data.toList.drop (rdT s a).n)).n) else none))
  else none

def readL (leaf : Bool) (s : ByteArray) : Nat → Nat → Option (List Ent × Nat)
  | 0, a => some ([], a)
  | c + 1, a => (readE leaf s a).bind fun p => (readL leaf s c p.2).map fun q => (p.1 :: q.1, q.2)

theorem readL_succ (leaf : Bool) (s : ByteArray) (c a : Nat) : readL leaf s (c + 1) a = (readE leaf s a).bind fun p => (readL leaf s c p.2).map fun q => (p.1 :: q.1, q.2) := rfl

def pre (es : List Ent) (o : Option (List Ent × Nat)) : Option (List Ent × Nat) := o.map fun q => (es ++ q.1, q.2)

theorem pre_nil (o : Option (List Ent × Nat)) : pre [] o = o := by unfold pre; cases o <;> rfl
theorem pre_step {leaf : Bool} {s : ByteArray} {c a a' : Nat} {es : List Ent} {x : Ent} (h : readE leaf s a = some (x, a')) : pre es (readL leaf s (c + 1) a) = pre (es ++ [x]) (readL leaf s c a') := by
  unfold pre
  rw [readL_succ, h, Option.bind_some]
  generalize readL leaf s c a' = o
  cases o <;> simp
theorem pre_fail {leaf : Bool} {s : ByteArray} {c a : Nat} {es : List Ent} (h : readE leaf s a = none) : pre es (readL leaf s (c + 1) a) = none := by
  unfold pre
  rw [readL_succ, h]
  rfl

theorem rdT_in (s : ByteArray) (a : Nat) (he : (rdT s a).e = 0) : a < (rdT s a).n ∧ (rdT s a).n ≤ s.size ∧ (rdT s a).t.size ≤ s.size := by
  unfold rdT rtOf at he ⊢
  by_cases h : (rdU 0 (s.data.toList.drop a)).e = 0
  · obtain ⟨h1, h2, h3⟩ := rdU_in s a h
    rw [if_pos h] at he ⊢
    by_cases hb : s.size < a + (rdU 0 (s.data.toList.drop a)).n + (rdU 0 (s.data.toList.drop a)).v
    · rw [if_pos hb] at he; simp at he
    · rw [if_neg hb]
      refine ⟨by simp only; omega, by simp only; omega, ?_⟩
      simp only [ByteArray.size_extract]
      omega
  · rw [if_neg h] at he
    exact absurd he h

theorem rdT_err (s : ByteArray) (a : Nat) (he : (rdT s a).e ≠ 0) : (rdT s a).e = 20 ∨ (rdT s a).e = 21 := by
  unfold rdT rtOf at he ⊢
  by_cases h : (rdU 0 (s.data.toList.drop a)).e = 0
  · rw [if_pos h] at he ⊢
    by_cases hb : s.size < a + (rdU 0 (s.data.toList.drop a)).n + (rdU 0 (s.data.toList.drop a)).v
    · rw [if_pos hb]; exact .inl rfl
    · rw [if_neg hb] at he; exact absurd rfl he
  · rw [if_neg h]
    rcases (rdU_bound (s.data.toList.drop a) 0).2.2.1 with h1 | h1 | h1
    · exact absurd h1 h
    · exact .inl h1
    · exact .inr h1

/-- The node of entries, lying nowhere. -/
def cn (leaf : Bool) (es : List Ent) : Nd := ⟨leaf, es.map (·.key), if leaf then es.map (·.value) else [], if leaf then [] else es.map (·.kid), none, 0, none, 0, none, 0⟩

theorem Has.cn_ents {m : Nd} {leaf : Bool} {es : List Ent} (h : Has m leaf es) : m.ents = (cn leaf es).ents := by
  unfold Nd.ents
  rw [h.k]
  show (List.range (es.map (·.key)).length).map (entAt m) = (List.range (es.map (·.key)).length).map (entAt (cn leaf es))
  apply List.map_congr_left
  intro i _
  unfold entAt valueOf kidOf
  rw [h.k, h.v, h.i, h.l]
  rfl

theorem Has.cn_enc {m : Nd} {leaf : Bool} {es : List Ent} (h : Has m leaf es) : encOk m = encOk (cn leaf es) := by
  have hf : fitB m = fitB (cn leaf es) := by
    have : FitP m ↔ FitP (cn leaf es) := by
      unfold FitP restB
      rw [h.k, h.v, h.i, h.l]
      exact Iff.rfl
    cases hb : fitB (cn leaf es) with
    | true => exact fitB_true (this.2 (fitB_iff.1 hb))
    | false => exact fitB_false (fun hp => by rw [fitB_true (this.1 hp)] at hb; cases hb)
  unfold encOk
  rw [hf, h.cn_ents, h.l]
  rfl

/-- What becomes of the entries that were read. -/
noncomputable def decFin (leaf : Bool) (s : ByteArray) (o : Option (List Ent × Nat)) : Option (Bool × List Ent) :=
  o.bind fun q => if @decide (AllZ (s.data.toList.drop q.2)) (Classical.propDecidable _) && encOk (cn leaf q.1) then some (leaf, q.1) else none

noncomputable def decIn (leaf : Bool) (s : ByteArray) : Option (Bool × List Ent) :=
  if (rdU 0 (s.data.toList.drop 1)).e = 0 then decFin leaf s (readL leaf s (rdU 0 (s.data.toList.drop 1)).v (1 + (rdU 0 (s.data.toList.drop 1)).n)) else none

/-- What Decode answers. -/
noncomputable def decP (s : ByteArray) : Option (Bool × List Ent) :=
  match s.data.toList with
  | [] => none
  | b :: _ => if b.toNat = 1 ∨ b.toNat = 2 then decIn (b.toNat == 1) s else none

theorem decP_head {s : ByteArray} {b : UInt8} {r : List UInt8} {leaf : Bool} (h : s.data.toList = b :: r) (hb : b.toNat = 1 ∨ b.toNat = 2) (hl : (b.toNat == 1) = leaf) : decP s = decIn leaf s := by
  unfold decP
  rw [h]
  simp only
  rw [if_pos hb, hl]
theorem decP_none {s : ByteArray} (h : ∀ b r, s.data.toList = b :: r → ¬ (b.toNat = 1 ∨ b.toNat = 2)) : decP s = none := by
  unfold decP
  cases hs : s.data.toList with
  | nil => rfl
  | cons b r => simp only; rw [if_neg (h b r hs)]
theorem fin_none (leaf : Bool) (s : ByteArray) : decFin leaf s none = none := rfl
theorem fin_yes {leaf : Bool} {s : ByteArray} {es : List Ent} {z : Nat} (h1 : AllZ (s.data.toList.drop z)) (h2 : encOk (cn leaf es) = true) : decFin leaf s (some (es, z)) = some (leaf, es) := by
  unfold decFin
  rw [Option.bind_some]
  simp only
  rw [@decide_eq_true _ (Classical.propDecidable _) h1, h2]
  rfl
theorem fin_no {leaf : Bool} {s : ByteArray} {es : List Ent} {z : Nat} (h : ¬ (AllZ (s.data.toList.drop z) ∧ encOk (cn leaf es) = true)) : decFin leaf s (some (es, z)) = none := by
  unfold decFin
  rw [Option.bind_some]
  simp only
  rw [if_neg]
  intro hh
  rw [Bool.and_eq_true] at hh
  exact h ⟨@of_decide_eq_true _ (Classical.propDecidable _) hh.1, hh.2⟩

theorem ru_shape (a : Nat) (x : RU) : ∃ c p e : Nat, ruV a x = .tuple #[.int .u64 (c : Int), .int .i64 (p : Int), .int .i64 (e : Int)] ∧ ((e = 0 ∧ x.e = 0 ∧ c = x.v ∧ p = a + x.n) ∨ (e ≠ 0 ∧ x.e = e ∧ c = 0 ∧ p = 0)) := by
  by_cases h : x.e = 0
  · exact ⟨x.v, a + x.n, 0, by unfold ruV; rw [if_pos h, Int.natCast_add]; rfl, .inl ⟨rfl, h, rfl, rfl⟩⟩
  · exact ⟨0, 0, x.e, by unfold ruV; rw [if_neg h]; rfl, .inr ⟨h, rfl, rfl, rfl⟩⟩

def DecAns (w : World) (r : Option (Bool × List Ent)) (e : Ending) (w' : World) : Prop :=
  Mod (fun _ => False) w w' ∧ match r with
    | some (leaf, es) => ∃ m : Nd, Has m leaf es ∧ e = .returned (.tuple #[.agg #[.bool m.leaf, .slice m.ka m.keys.length m.kc, .slice m.va m.values.length m.vc, .slice m.ia m.kids.length m.ic], .int .i64 0]) ∧ Gd w' m ∧ (∀ b, m.bs b → w.heap.size ≤ b) ∧ encOk m = true ∧ (∀ x ∈ es, x.Ok) ∧ es.length ≤ 1048576
    | none => e = .returned (.tuple #[.agg #[.bool false, .slice none 0 0, .slice none 0 0, .slice none 0 0], .int .i64 40])

end Go.Proofs.YthdopgejikcfbaaDoor
