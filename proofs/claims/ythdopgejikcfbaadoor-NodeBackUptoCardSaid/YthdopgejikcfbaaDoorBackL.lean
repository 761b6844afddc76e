/- What is written is read back, plain -/
import Derived.Test.YthdopgejikcfbaaDoorRound
import Derived.Test.YthdopgejikcfbaaDoorRdB
namespace Go.Proofs.YthdopgejikcfbaaDoor
open Go Go.RowKit

theorem rdT_at {s t : ByteArray} {a : Nat} {r : List UInt8} (h : s.data.toList.drop a = textL t ++ r) (hs : s.size < two64) : rdT s a = ⟨t, a + (textL t).length, 0⟩ := by
  have hlen : s.data.toList.length = s.size := rfl
  have h2 : s.data.toList.drop a = uvar t.size ++ (t.data.toList ++ r) := by rw [h]; unfold textL; rw [List.append_assoc]
  have htl : t.data.toList.length = t.size := rfl
  have hll : s.size - a = (uvar t.size).length + (t.size + r.length) := by
    have := congrArg List.length h2
    rw [List.length_drop, List.length_append, List.length_append, htl, hlen] at this
    exact this
  have hp := uvar_len_pos t.size
  have hr := rdU_at h2 (by omega)
  have hd := drop_after h2
  unfold rdT rtOf
  rw [hr]
  simp only [if_true]
  rw [if_neg (by omega)]
  have e1 : (textL t).length = (uvar t.size).length + t.size := by unfold textL; rw [List.length_append, htl]
  have e2 : s.extract (a + (uvar t.size).length) (a + (uvar t.size).length + t.size) = t := by
    apply ByteArray.ext
    apply Array.toList_inj.1
    rw [ByteArray.data_extract, Array.toList_extract, List.extract_eq_take_drop, hd, show a + (uvar t.size).length + t.size - (a + (uvar t.size).length) = t.data.toList.length by rw [htl]; omega, List.take_left]
  rw [e2, e1, Nat.add_assoc]

/-- Entries that may be read back. -/
def Fair (leaf : Bool) (x : Ent) : Prop := (leaf = true → x.kid = 0) ∧ (leaf = false → x.value = emp ∧ 0 ≤ x.kid ∧ x.kid < 16384)

theorem readE_at {s : ByteArray} {leaf : Bool} {a : Nat} {x : Ent} {r : List UInt8} (h : s.data.toList.drop a = entL leaf x ++ r) (hs : s.size < two64) (hf : Fair leaf x) : readE leaf s a = some (x, a + (entL leaf x).length) := by
  cases leaf with
  | true =>
    have h1 : s.data.toList.drop a = textL x.key ++ (textL x.value ++ r) := by rw [h]; unfold entL; rw [List.append_assoc]; rfl
    have k := rdT_at h1 hs
    have v := rdT_at (drop_after h1) hs
    unfold readE
    rw [k]
    simp only [if_true]
    rw [v]
    simp only [if_true]
    have e : (entL true x).length = (textL x.key).length + (textL x.value).length := by unfold entL; rw [List.length_append]; rfl
    rw [e, ← Nat.add_assoc, ← hf.1 rfl]
  | false =>
    obtain ⟨f1, f2, f3⟩ := hf.2 rfl
    have h1 : s.data.toList.drop a = textL x.key ++ (uvar (max 0 x.kid).toNat ++ r) := by rw [h]; unfold entL; rw [List.append_assoc]; rfl
    have k := rdT_at h1 hs
    have t6 : two64 = 18446744073709551616 := by decide
    have v := rdU_at (drop_after h1) (by rw [t6]; omega)
    unfold readE
    rw [k]
    simp only [if_true, Bool.false_eq_true, if_false]
    rw [v]
    simp only [if_true]
    have e : (entL false x).length = (textL x.key).length + (uvar (max 0 x.kid).toNat).length := by unfold entL; rw [List.length_append]; rfl
    have e2 : ((min (max 0 x.kid).toNat 16384 : Nat) : Int) = x.kid := by omega
    rw [e, ← Nat.add_assoc, e2, ← f1]

theorem readL_at {s : ByteArray} {leaf : Bool} (hs : s.size < two64) : ∀ (es : List Ent) (a : Nat) (r : List UInt8), s.data.toList.drop a = es.flatMap (entL leaf) ++ r → (∀ x ∈ es, Fair leaf x) → readL leaf s es.length a = some (es, a + (es.flatMap (entL leaf)).length)
  | [], a, r => fun _ _ => by simp [readL]
  | x :: es, a, r => fun h hf => by
    rw [List.flatMap_cons, List.append_assoc] at h
    have e := readE_at h hs (hf x List.mem_cons_self)
    have i := readL_at hs es _ r (drop_after h) (fun y hy => hf y (List.mem_cons_of_mem _ hy))
    rw [List.length_cons, readL_succ, e, Option.bind_some]
    simp only
    rw [i]
    simp [Nat.add_assoc]

/-- What Encode writes is read back, zeros behind it or not; with another byte behind it is refused. -/
theorem decP_at {s : ByteArray} {leaf : Bool} {es : List Ent} {r : List UInt8} (h : s.data.toList = bytesL leaf es ++ r) (hs : s.size < two64) (hf : ∀ x ∈ es, Fair leaf x) : decP s = decFin leaf s (some (es, (bytesL leaf es).length)) := by
  have hlen : s.data.toList.length = s.size := rfl
  have h1 : s.data.toList = (if leaf then (1 : UInt8) else 2) :: (uvar es.length ++ (es.flatMap (entL leaf) ++ r)) := by
    rw [h]; unfold bytesL; rw [List.cons_append, List.append_assoc]
  have hd : s.data.toList.drop 1 = uvar es.length ++ (es.flatMap (entL leaf) ++ r) := by rw [h1]; rfl
  have hge : es.length ≤ (es.flatMap (entL leaf)).length := by
    have := wt_ge leaf es
    unfold wt at this
    omega
  have hsz : es.length < two64 := by
    have := congrArg List.length h1
    rw [hlen, List.length_cons, List.length_append, List.length_append] at this
    omega
  have u := rdU_at hd hsz
  have l := readL_at hs es _ r (drop_after hd) hf
  rw [decP_head h1 (by cases leaf <;> decide) (leaf := leaf) (by cases leaf <;> rfl)]
  unfold decIn
  rw [u]
  simp only [if_true]
  rw [show 1 + (uvar es.length).length = 1 + (uvar es.length).length from rfl, l]
  congr 3
  unfold bytesL
  rw [List.length_cons, List.length_append]
  omega

end Go.Proofs.YthdopgejikcfbaaDoor
