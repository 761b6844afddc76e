/- Rows, plain: a row is read back from its pair -/
import Derived.Test.YtoclecpedhbokaaRwP
import Derived.Test.YtoclecpedhbokaaRdT
namespace Go.Proofs.Ytoclecpedhbokaa
open Go Go.RowKit

/-- A value that was read, and the place behind it. -/
structure RV where
  v : Vl
  n : Nat
  ok : Bool
def noV : RV := ⟨⟨0, ⟨#[]⟩⟩, 0, false⟩

def rdO (s : ByteArray) (a : Nat) : RV := if s.size < a + 8 then noV else ⟨⟨(rdBE 0 ((s.data.toList.drop a).take 8) : Int) - 9223372036854775808, ⟨#[]⟩⟩, a + 8, true⟩
def rdI (s : ByteArray) (a : Nat) : RV := if (rdU 0 (s.data.toList.drop a)).e = 0 then ⟨⟨unzz (rdU 0 (s.data.toList.drop a)).v, ⟨#[]⟩⟩, a + (rdU 0 (s.data.toList.drop a)).n, true⟩ else noV
def rdZ (s : ByteArray) (a : Nat) : RV := if Lib.indexByte (s.data.toList.drop a) 0 < 0 then noV else ⟨⟨0, s.extract a (a + (Lib.indexByte (s.data.toList.drop a) 0).toNat)⟩, a + (Lib.indexByte (s.data.toList.drop a) 0).toNat + 1, true⟩
def rdX (s : ByteArray) (a : Nat) : RV := if (rdT s a).e = 0 then ⟨⟨0, (rdT s a).t⟩, (rdT s a).n, true⟩ else noV
def unformV (k : Int) (s : ByteArray) (a : Nat) : RV := if k = 0 then rdO s a else rdZ s a
def unpackV (k : Int) (s : ByteArray) (a : Nat) : RV := if k = 0 then rdI s a else rdX s a

theorem index_bare : ∀ (l r : List UInt8), (0 : UInt8) ∉ l → Lib.indexByte (l ++ 0 :: r) 0 = (l.length : Int)
  | [], r => fun _ => by simp [Lib.indexByte]
  | b :: l, r => fun h => by
    have hb : b ≠ 0 := fun e => h (by simp [e])
    have ih := index_bare l r (fun e => h (by simp [e]))
    have e : (b == 0) = false := by simpa using hb
    rw [List.cons_append, Lib.indexByte, e]
    simp only [Bool.false_eq_true, if_false, ih]
    have e2 : ((l.length : Int) == -1) = false := by rw [beq_eq_false_iff_ne]; omega
    rw [e2]
    simp

theorem bare_mem {s : ByteArray} (h : bareP s = true) : (0 : UInt8) ∉ s.data.toList := by
  intro hm
  unfold bareP at h
  rw [List.contains_iff_mem.2 hm] at h
  cases h

theorem extract_list {s t : ByteArray} {a : Nat} {r : List UInt8} (h : s.data.toList.drop a = t.data.toList ++ r) : s.extract a (a + t.data.toList.length) = t := by
  apply ba_ext
  rw [ByteArray.data_extract]
  simp only [Array.toList_extract]
  rw [List.extract_eq_take_drop, h]
  rw [show a + t.data.toList.length - a = t.data.toList.length by omega, List.take_left]

theorem drop_size {s : ByteArray} {a : Nat} {l : List UInt8} (h : s.data.toList.drop a = l) (h0 : 0 < l.length) : a + l.length = s.size := by
  have := congrArg List.length h
  rw [List.length_drop, Array.length_toList] at this
  have : s.data.size = s.size := rfl
  omega

theorem rdO_at {s : ByteArray} {a : Nat} {n : Int} {r : List UInt8} (h : s.data.toList.drop a = ordL n ++ r) (h0 : -9223372036854775808 ≤ n) (h1 : n ≤ 9223372036854775807) : rdO s a = ⟨⟨n, ⟨#[]⟩⟩, a + 8, true⟩ := by
  have hl : (ordL n).length = 8 := be_len 8 _
  have hs := drop_size h (by rw [List.length_append]; omega)
  rw [List.length_append, hl] at hs
  have hb := rdBE_be 8 (ordN n) 0
  rw [Nat.mod_eq_of_lt (ordN_lt h1), Nat.zero_mul, Nat.zero_add] at hb
  unfold rdO
  rw [if_neg (by omega), h, List.take_left' hl]
  unfold ordL
  rw [hb]
  have : ((ordN n : Nat) : Int) - 9223372036854775808 = n := by unfold ordN; omega
  rw [this]

theorem rdI_at {s : ByteArray} {a : Nat} {n : Int} {r : List UInt8} (h : s.data.toList.drop a = intL n ++ r) (h0 : -9223372036854775808 ≤ n) (h1 : n ≤ 9223372036854775807) : rdI s a = ⟨⟨n, ⟨#[]⟩⟩, a + (intL n).length, true⟩ := by
  have hr := rdU_at h (by have := zz_lt h0 h1; have e : two64 = 18446744073709551616 := by decide
                          omega)
  unfold rdI
  rw [hr]
  simp only [if_true, unzz_zz]
  rfl

theorem rdZ_at {s t : ByteArray} {a : Nat} {r : List UInt8} (h : s.data.toList.drop a = t.data.toList ++ [0] ++ r) (hb : bareP t = true) : rdZ s a = ⟨⟨0, t⟩, a + (t.data.toList.length + 1), true⟩ := by
  rw [List.append_assoc, List.singleton_append] at h
  have hi := index_bare t.data.toList r (bare_mem hb)
  unfold rdZ
  rw [h, hi, if_neg (by omega), Int.toNat_natCast, extract_list h, Nat.add_assoc]

theorem rdX_at {s t : ByteArray} {a : Nat} {r : List UInt8} (h : s.data.toList.drop a = textL t ++ r) (ht : t.size ≤ 140737488351232) : rdX s a = ⟨⟨0, t⟩, a + (textL t).length, true⟩ := by
  have hl : t.data.toList.length = t.size := by rw [Array.length_toList]; rfl
  have h' := h
  unfold textL at h'
  rw [List.append_assoc] at h'
  have hr := rdU_at h' (by have e : two64 = 18446744073709551616 := by decide
                           omega)
  have hd := drop_after h'
  have hs := drop_size h' (by rw [List.length_append]; have := uvar_len_pos t.size; omega)
  rw [List.length_append, List.length_append, hl] at hs
  have he := extract_list hd
  rw [hl] at he
  have hT : rdT s a = ⟨t, a + (uvar t.size).length + t.size, 0⟩ := by
    unfold rdT rtOf
    rw [hr]
    simp only [if_true]
    rw [if_neg (by omega), he]
  unfold rdX
  rw [hT]
  simp only [if_true, textL, List.length_append, hl, Nat.add_assoc]

/-- The row that stands in a pair, from column i on. -/
def readR (keys : Nat) (ks vs : ByteArray) : Nat → List Int → Nat → Nat → Option (List Vl)
  | _, [], _, _ => some []
  | i, k :: r, a, b =>
    if i < keys then (if (unformV k ks a).ok then (readR keys ks vs (i + 1) r (unformV k ks a).n b).map ((unformV k ks a).v :: ·) else none)
    else (if (unpackV k vs b).ok then (readR keys ks vs (i + 1) r a (unpackV k vs b).n).map ((unpackV k vs b).v :: ·) else none)

theorem typed_int {v : Vl} (h : typedV 0 v = true) : v = ⟨v.n, ⟨#[]⟩⟩ := by
  obtain ⟨n, s⟩ := v
  unfold typedV at h
  rw [if_pos rfl, ByteArray.toList_eq, List.isEmpty_iff] at h
  have : s = ⟨#[]⟩ := ba_ext (by rw [h])
  rw [this]
theorem typed_text {k : Int} {v : Vl} (hk : k ≠ 0) (h : typedV k v = true) : v = ⟨0, v.s⟩ := by
  obtain ⟨n, s⟩ := v
  unfold typedV at h
  rw [if_neg hk, beq_iff_eq] at h
  simp only at h
  rw [h]

theorem unform_at {k : Int} {s : ByteArray} {a : Nat} {v : Vl} {r : List UInt8} (h : s.data.toList.drop a = formV k v ++ r) (hv : v.Ok) (ht : typedV k v = true) (hb : bareP v.s = true) : unformV k s a = ⟨v, a + (formV k v).length, true⟩ := by
  unfold formV formL at h ⊢
  unfold unformV
  by_cases hk : k = 0
  · subst hk
    rw [if_pos rfl] at h ⊢
    rw [if_pos rfl, rdO_at h hv.n0 hv.n1, ← typed_int ht]
    rw [show (ordL v.n).length = 8 from be_len 8 _]
  · rw [if_neg hk] at h ⊢
    rw [if_neg hk, rdZ_at h hb, ← typed_text hk ht]
    simp

theorem unpack_at {k : Int} {s : ByteArray} {a : Nat} {v : Vl} {r : List UInt8} (h : s.data.toList.drop a = packV k v ++ r) (hv : v.Ok) (ht : typedV k v = true) : unpackV k s a = ⟨v, a + (packV k v).length, true⟩ := by
  unfold packV at h ⊢
  unfold unpackV
  by_cases hk : k = 0
  · subst hk
    rw [if_pos rfl] at h ⊢
    rw [if_pos rfl, rdI_at h hv.n0 hv.n1, ← typed_int ht]
  · rw [if_neg hk] at h ⊢
    rw [if_neg hk, rdX_at h hv.s, ← typed_text hk ht]

theorem readR_at (keys : Nat) (ks vs : ByteArray) : ∀ (cols : List Int) (r : List Vl) (i a b : Nat), r.length = cols.length →
    (∀ v ∈ r, v.Ok) → (∀ (j : Nat) c v, cols[j]? = some c → r[j]? = some v → typedV c v = true) → (∀ (j : Nat) v, i + j < keys → r[j]? = some v → bareP v.s = true) →
    ks.data.toList.drop a = ((cols.zip r).take (keys - i)).flatMap (fun p => formV p.1 p.2) → vs.data.toList.drop b = ((cols.zip r).drop (keys - i)).flatMap (fun p => packV p.1 p.2) →
    readR keys ks vs i cols a b = some r
  | [], [] => fun i a b _ _ _ _ _ _ => rfl
  | [], v :: r => fun i a b h => by simp at h
  | c :: cols, [] => fun i a b h => by simp at h
  | c :: cols, v :: r => fun i a b hl hv ht hb hk hs => by
    have h1 : typedV c v = true := ht 0 c v rfl rfl
    have h2 : v.Ok := hv v (by simp)
    have ih := fun a b => readR_at keys ks vs cols r (i + 1) a b (by simpa using hl) (fun x hx => hv x (by simp [hx])) (fun j c' v' hc hv' => ht (j + 1) c' v' hc hv') (fun j v' hj hv' => hb (j + 1) v' (by omega) hv')
    rw [readR]
    by_cases hi : i < keys
    · rw [if_pos hi]
      obtain ⟨m, hm⟩ : ∃ m, keys - i = m + 1 := ⟨keys - i - 1, by omega⟩
      have hm' : keys - (i + 1) = m := by omega
      rw [hm, List.zip_cons_cons, List.take_succ_cons, List.flatMap_cons] at hk
      rw [hm, List.zip_cons_cons, List.drop_succ_cons] at hs
      rw [hm'] at ih
      have hu := unform_at hk h2 h1 (hb 0 v (by omega) rfl)
      have hd := drop_after hk
      rw [hu]
      simp only [if_true]
      rw [ih _ _ hd hs]
      rfl
    · rw [if_neg hi]
      have hm : keys - i = 0 := by omega
      have hm' : keys - (i + 1) = 0 := by omega
      rw [hm, List.take_zero] at hk
      rw [hm, List.drop_zero, List.zip_cons_cons, List.flatMap_cons] at hs
      rw [hm', List.take_zero, List.drop_zero] at ih
      have hu := unpack_at hs h2 h1
      have hd := drop_after hs
      rw [hu]
      simp only [if_true]
      rw [ih _ _ hk hd]
      rfl

/-- A row is read back from its pair. -/
theorem readR_pair {name : Int} {cols : List Int} {keys idx : Int} {r : List Vl} {p : PX} (hv : ∀ v ∈ r, v.Ok) (h : pairO name cols keys idx r = some p) : readR keys.toNat (ba p.k) (ba p.v) 0 cols 2 0 = some r := by
  obtain ⟨hg, _, rfl⟩ := pairO_inv h
  refine readR_at keys.toNat _ _ cols r 0 2 0 hg.len hv hg.typed (fun j v hj hr => hg.bare j v (.inl (by omega)) hr) ?_ ?_
  · rw [ba_data]; rfl
  · rw [ba_data]
    unfold pxOf pvalL valL
    rw [List.take_of_length_le (by rw [List.length_zip, hg.len]; omega)]
    rfl

end Go.Proofs.Ytoclecpedhbokaa
