/- Journals with the power on, plain -/
import Derived.Test.YtbfdmglmolkloaaGreatDoorJrL
namespace Go.Proofs.YtbfdmglmolkloaaGreatDoor
open Go Go.RowKit

/-- What stands in a sector. -/
def sec (D : Dsk) (i : Nat) : ByteArray := full ((D.secs[i]?).getD ⟨#[]⟩)

/-- The power is on and no cut is set. -/
structure Lit (D : Dsk) (k : Nat) : Prop where
  b : Bud D k
  off : D.off = false
  left : D.left = 0

theorem Lit.le {D : Dsk} {k m : Nat} (h : Lit D k) (hm : k ≤ m) : Lit D m := ⟨h.b.le hm, h.off, h.left⟩
theorem lit_new (n : Int) : Lit (newD n) 0 := ⟨bud_new n, rfl, rfl⟩

theorem Lit.put {D : Dsk} {k : Nat} (h : Lit D k) (i : Nat) (hi : i < D.secs.length) {s : ByteArray} (hs : s.size ≤ 1024) : Lit (D.put i s) (k + 1) :=
  ⟨h.b.put i hi hs, h.off, by simp [Dsk.put, h.left]⟩

theorem Lit.write {D : Dsk} {k : Nat} (h : Lit D k) (i : Nat) (hi : i < D.secs.length) {s : ByteArray} (hs : s.size ≤ 1024) : writeF D (i : Int) s = (0, D.put i s) := by
  rw [writeF_up h.off h.left, if_neg (by omega), if_neg (by omega)]
  rfl

theorem sec_put (D : Dsk) (i j : Nat) (s : ByteArray) (hi : i < D.secs.length) (hs : s.size ≤ 1024) : sec (D.put i s) j = if j = i then pad s else sec D j := put_full D i j s hi hs

theorem put_writes (D : Dsk) (i : Nat) (s : ByteArray) : (D.put i s).writes = D.writes + 1 := rfl

theorem Lit.read {D : Dsk} {k : Nat} (h : Lit D k) (i : Nat) (hi : i < D.secs.length) : readF D (i : Int) = (sec D i, 0) := by
  have : readyF D i = 0 := by unfold readyF; rw [h.off]; simp; omega
  rw [readF_eq, if_neg (by simp [this])]
  rfl

theorem pad_pad {s : ByteArray} (h : s.size ≤ 1024) : pad (pad s) = pad s := by
  apply ba_ext
  rw [pad_list (pad s), pad_size h]
  simp

theorem full_size {s : ByteArray} (h : s.size ≤ 1024) : (full s).size ≤ 1024 := by
  unfold full
  split
  · exact Nat.le_of_eq Z_size
  · exact h

theorem sec_size {D : Dsk} {k : Nat} (h : Bud D k) (i : Nat) : (sec D i).size ≤ 1024 := by
  unfold sec
  apply full_size
  cases hx : D.secs[i]? with
  | none => exact Nat.zero_le _
  | some x => exact h.s x (List.mem_of_getElem? hx)

theorem one_size : (ba [0]).size ≤ 1024 := by rw [ba_size]; decide

/-- The copies are brought to their sectors, with the power on. -/
theorem fin_lit (room : Nat) : ∀ (l : List Nat) (i k : Nat) (D : Dsk), Lit D k → 0 < D.secs.length → (∀ n ∈ l, room + 1 + n < D.secs.length) → i + l.length ≤ room → l.Nodup →
    (finF room i l D).1 = 0 ∧ Lit (finF room i l D).2 (k + l.length + 1) ∧ (finF room i l D).2.writes = D.writes + (l.length : Int) + 1 ∧ sec (finF room i l D).2 0 = pad (ba [0]) ∧
      (∀ (m n : Nat), l[m]? = some n → sec (finF room i l D).2 (room + 1 + n) = pad (sec D (1 + i + m))) ∧ (∀ q, q ∉ l → sec (finF room i l D).2 (room + 1 + q) = sec D (room + 1 + q))
  | [], i, k, D => fun h h0 _ _ _ => by
    have e : finF room i [] D = (0, D.put 0 (ba [0])) := by rw [finF]; exact h.write 0 h0 one_size
    rw [e]
    refine ⟨rfl, h.put 0 h0 one_size, by rw [put_writes]; simp, by rw [sec_put _ _ _ _ h0 one_size, if_pos rfl], (fun m n hm => by simp at hm), fun q _ => by rw [sec_put _ _ _ _ h0 one_size, if_neg (by omega)]⟩
  | n :: l, i, k, D => fun h h0 hp hr hn => by
    have hi : 1 + i < D.secs.length := by
      have := hp n List.mem_cons_self
      simp only [List.length_cons] at hr
      omega
    have hr1 := h.read (1 + i) hi
    have hs := sec_size h.b (1 + i)
    have hn1 := hp n List.mem_cons_self
    have hw := h.write (room + 1 + n) hn1 hs
    have e : finF room i (n :: l) D = finF room (i + 1) l (D.put (room + 1 + n) (sec D (1 + i))) := by
      rw [finF, hr1]
      simp only [if_true]
      rw [hw]
      simp only [if_true]
    simp only [List.length_cons] at hr
    obtain ⟨f1, f2, f3, f4, f5, f6⟩ := fin_lit room l (i + 1) (k + 1) (D.put (room + 1 + n) (sec D (1 + i))) (h.put _ hn1 hs) (by rw [put_len]; exact h0) (fun x hx => by rw [put_len]; exact hp x (List.mem_cons_of_mem _ hx)) (by omega) (List.nodup_cons.1 hn).2
    rw [e]
    refine ⟨f1, f2.le (by simp only [List.length_cons]; omega), by rw [f3, put_writes]; simp only [List.length_cons]; omega, f4, fun m x hm => ?_, fun q hq => ?_⟩
    · cases m with
      | zero =>
        simp only [List.getElem?_cons_zero, Option.some.injEq] at hm
        subst hm
        rw [f6 n (List.nodup_cons.1 hn).1, sec_put _ _ _ _ hn1 hs, if_pos rfl, Nat.add_zero]
      | succ m =>
        simp only [List.getElem?_cons_succ] at hm
        have hm2 := (List.getElem?_eq_some_iff.1 hm).1
        rw [f5 m x hm, sec_put _ _ _ _ hn1 hs, if_neg (by omega), show 1 + (i + 1) + m = 1 + i + (m + 1) by omega]
    · rw [f6 q (fun h => hq (List.mem_cons_of_mem _ h)), sec_put _ _ _ _ hn1 hs, if_neg (by intro hh; exact hq (by rw [show q = n by omega]; exact List.mem_cons_self))]

/-- The copies are written, with the power on. -/
theorem put_lit : ∀ (cs : List Chg) (i k : Nat) (D : Dsk), Lit D k → i + cs.length < D.secs.length → (∀ c ∈ cs, c.data.size ≤ 1024) →
    (putF i cs D).1 = 0 ∧ Lit (putF i cs D).2 (k + cs.length) ∧ (putF i cs D).2.writes = D.writes + (cs.length : Int) ∧
      (∀ (m : Nat) (c : Chg), cs[m]? = some c → sec (putF i cs D).2 (1 + i + m) = pad c.data) ∧ (∀ j, j ≤ i ∨ i + cs.length < j → sec (putF i cs D).2 j = sec D j)
  | [], i, k, D => fun h _ _ => ⟨rfl, h, by simp [putF], (fun m c hm => by simp at hm), fun j _ => rfl⟩
  | c :: r, i, k, D => fun h hl hs => by
    simp only [List.length_cons] at hl
    have hsc := hs c List.mem_cons_self
    have hw := h.write (1 + i) (by omega) hsc
    have e : putF i (c :: r) D = putF (i + 1) r (D.put (1 + i) c.data) := by
      rw [putF, hw]
      simp only [if_true]
    obtain ⟨f1, f2, f3, f4, f5⟩ := put_lit r (i + 1) (k + 1) (D.put (1 + i) c.data) (h.put _ (by omega) hsc) (by rw [put_len]; omega) (fun x hx => hs x (List.mem_cons_of_mem _ hx))
    rw [e]
    refine ⟨f1, f2.le (by simp only [List.length_cons]; omega), by rw [f3, put_writes]; simp only [List.length_cons]; omega, fun m x hm => ?_, fun j hj => ?_⟩
    · cases m with
      | zero =>
        simp only [List.getElem?_cons_zero, Option.some.injEq] at hm
        subst hm
        rw [f5 _ (.inl (by omega)), sec_put _ _ _ _ (by omega) hsc, if_pos (by omega)]
      | succ m =>
        simp only [List.getElem?_cons_succ] at hm
        rw [show 1 + i + (m + 1) = 1 + (i + 1) + m by omega, f4 m x hm]
    · simp only [List.length_cons] at hj
      rw [f5 j (by omega), sec_put _ _ _ _ (by omega) hsc, if_neg (by omega)]

/-- What is asked of changes that are taken. -/
theorem check_zero {len : Nat} : ∀ (cs : List Chg) (met : List Nat), checkL len met cs = 0 → (∀ c ∈ cs, 0 ≤ c.pos ∧ c.pos.toNat < len ∧ c.data.size ≤ 1024) ∧ (places cs).Nodup ∧ (∀ c ∈ cs, c.pos.toNat ∉ met)
  | [], met => fun _ => ⟨(fun c h => by cases h), List.nodup_nil, (fun c h => by cases h)⟩
  | c :: r, met => fun h => by
    rw [checkL] at h
    split at h
    · cases h
    · split at h
      · cases h
      · split at h
        · cases h
        · rename_i h1 h2 h3
          obtain ⟨i1, i2, i3⟩ := check_zero r _ h
          refine ⟨fun x hx => ?_, ?_, fun x hx => ?_⟩
          · rcases List.mem_cons.1 hx with rfl | hx
            · omega
            · exact i1 x hx
          · show (c.pos.toNat :: places r).Nodup
            refine List.nodup_cons.2 ⟨fun hm => ?_, i2⟩
            obtain ⟨y, hy, e⟩ := List.mem_map.1 hm
            exact i3 y hy (by rw [e]; simp)
          · rcases List.mem_cons.1 hx with rfl | hx
            · exact h3
            · exact fun hm => i3 x hx (List.mem_append.2 (.inl hm))

theorem check_err {len : Nat} : ∀ (cs : List Chg) (met : List Nat), checkL len met cs = 0 ∨ checkL len met cs = 10 ∨ checkL len met cs = 11 ∨ checkL len met cs = 30
  | [], met => .inl rfl
  | c :: r, met => by
    rw [checkL]
    split
    · exact .inr (.inl rfl)
    · split
      · exact .inr (.inr (.inl rfl))
      · split
        · exact .inr (.inr (.inr rfl))
        · exact check_err r _

theorem uvar_le2' {k : Nat} (h : k < 16384) : (uvar k).length ≤ 2 := uvar_len 1 k (by omega)

theorem flat_uvar : ∀ (l : List Nat), (∀ n ∈ l, n < 16384) → (l.flatMap uvar).length ≤ 2 * l.length
  | [], _ => by simp
  | n :: l, h => by
    have h1 := uvar_le2' (h n List.mem_cons_self)
    have h2 := flat_uvar l (fun x hx => h x (List.mem_cons_of_mem _ hx))
    rw [List.flatMap_cons, List.length_append, List.length_cons]
    omega

theorem head_size {l : List Nat} (h : ∀ n ∈ l, n < 16384) (hl : l.length ≤ 500) : (ba (hdL l)).size ≤ 1024 := by
  have h1 := uvar_le2' (k := l.length) (by omega)
  have h2 := flat_uvar l h
  rw [ba_size]
  unfold hdL
  rw [List.length_append]
  omega

/-- What a commit that is taken leaves, with the power on. -/
structure Took (room : Nat) (cs : List Chg) (D D' : Dsk) (k : Nat) : Prop where
  lit : Lit D' (k + 2 * cs.length + 2)
  writes : D'.writes = D.writes + 2 * (cs.length : Int) + 2
  len : D'.secs.length = D.secs.length
  head : sec D' 0 = pad (ba [0])
  new : ∀ c ∈ cs, sec D' (room + 1 + c.pos.toNat) = pad c.data
  old : ∀ q, q ∉ places cs → sec D' (room + 1 + q) = sec D (room + 1 + q)

theorem commit_lit {D : Dsk} {k room : Nat} (h : Lit D k) (hr : room ≤ 500) (cs : List Chg) :
    ((commitF room cs D).1 ≠ 0 ∧ (commitF room cs D).2 = D ∧ ((commitF room cs D).1 = 31 ∨ (commitF room cs D).1 = 10 ∨ (commitF room cs D).1 = 11 ∨ (commitF room cs D).1 = 30)) ∨
    ((commitF room cs D).1 = 0 ∧ ((cs = [] ∧ (commitF room cs D).2 = D) ∨ (cs ≠ [] ∧ checkL (jlen room D) [] cs = 0 ∧ cs.length ≤ room ∧ Took room cs D (commitF room cs D).2 k))) := by
  by_cases h1 : room < cs.length
  · left
    have e : commitF room cs D = (31, D) := by unfold commitF; rw [if_pos h1]
    rw [e]
    exact ⟨by simp, rfl, .inl rfl⟩
  · by_cases h2 : cs = []
    · right
      have e : commitF room cs D = (0, D) := by unfold commitF; rw [if_neg h1, if_pos h2]
      rw [e]
      exact ⟨rfl, .inl ⟨h2, rfl⟩⟩
    · by_cases h3 : checkL (jlen room D) [] cs = 0
      · right
        obtain ⟨c1, c2, _⟩ := check_zero cs [] h3
        obtain ⟨c, hc⟩ := List.exists_mem_of_ne_nil cs h2
        have hj := (c1 c hc).2.1
        unfold jlen at hj c1
        obtain ⟨p1, p2, p3, p4, p5⟩ := put_lit cs 0 k D h (by omega) (fun c hc => (c1 c hc).2.2)
        have hlen : (putF 0 cs D).2.secs.length = D.secs.length := putF_len _ _ _
        have hplen : ∀ n ∈ places cs, n < D.secs.length - room - 1 := fun n hn => by
          obtain ⟨y, hy, rfl⟩ := List.mem_map.1 hn
          exact (c1 y hy).2.1
        have hN := h.b.n
        have hsz : (ba (hdL (places cs))).size ≤ 1024 := head_size (fun n hn => by have := hplen n hn; omega) (by rw [places_len]; omega)
        have hw : writeF (putF 0 cs D).2 0 (ba (hdL (places cs))) = (0, (putF 0 cs D).2.put 0 (ba (hdL (places cs)))) := p2.write 0 (by rw [hlen]; omega) hsz
        have h0 : 0 < (putF 0 cs D).2.secs.length := by rw [hlen]; omega
        have e : commitF room cs D = finF room 0 (places cs) ((putF 0 cs D).2.put 0 (ba (hdL (places cs)))) := by
          unfold commitF
          rw [if_neg h1, if_neg h2, if_pos h3, if_pos p1]
          unfold headF
          rw [hw]
          simp only [if_true]
        obtain ⟨f1, f2, f3, f4, f5, f6⟩ := fin_lit room (places cs) 0 (k + cs.length + 1) ((putF 0 cs D).2.put 0 (ba (hdL (places cs)))) (p2.put 0 h0 hsz) (by rw [put_len]; exact h0) (fun n hn => by rw [put_len, hlen]; have := hplen n hn; omega) (by rw [places_len]; omega) c2
        rw [e]
        refine ⟨f1, .inr ⟨h2, h3, by omega, ⟨f2.le (by rw [places_len]; omega), by rw [f3, put_writes, p3, places_len]; omega, by rw [finF_len, put_len, hlen], f4, fun c hc => ?_, fun q hq => ?_⟩⟩⟩
        · obtain ⟨m, hm⟩ := List.mem_iff_getElem?.1 hc
          have hm1 := (List.getElem?_eq_some_iff.1 hm).1
          rw [f5 m c.pos.toNat (by unfold places; rw [List.getElem?_map, hm]; rfl), sec_put _ _ _ _ h0 hsz, if_neg (by omega), p4 m c hm, pad_pad (c1 c hc).2.2]
        · rw [f6 q hq, sec_put _ _ _ _ h0 hsz, if_neg (by omega), p5 _ (by omega)]
      · left
        have e : commitF room cs D = (checkL (jlen room D) [] cs, D) := by unfold commitF; rw [if_neg h1, if_neg h2, if_neg h3]
        rw [e]
        refine ⟨h3, rfl, .inr ?_⟩
        rcases check_err (len := jlen room D) cs [] with h | h
        · exact absurd h h3
        · exact h

/-- Changes that may be taken are taken. -/
theorem commit_ok {D : Dsk} {k room : Nat} (h : Lit D k) (hr : room ≤ 500) (cs : List Chg) (h1 : cs.length ≤ room) (h2 : cs ≠ []) (h3 : checkL (jlen room D) [] cs = 0) :
    (commitF room cs D).1 = 0 ∧ Took room cs D (commitF room cs D).2 k := by
  rcases commit_lit h hr cs with ⟨a, _, _⟩ | ⟨a, ⟨rfl, _⟩ | ⟨_, _, _, c⟩⟩
  · exfalso
    have e : commitF room cs D = (if (putF 0 cs D).1 = 0 then headF room (places cs) (putF 0 cs D).2 else putF 0 cs D) := by unfold commitF; rw [if_neg (by omega), if_neg h2, if_pos h3]
    obtain ⟨c1, c2, _⟩ := check_zero cs [] h3
    obtain ⟨x, hx⟩ := List.exists_mem_of_ne_nil cs h2
    have hj := (c1 x hx).2.1
    unfold jlen at hj c1
    obtain ⟨p1, p2, p3, p4, p5⟩ := put_lit cs 0 k D h (by omega) (fun c hc => (c1 c hc).2.2)
    have hlen : (putF 0 cs D).2.secs.length = D.secs.length := putF_len _ _ _
    have hplen : ∀ n ∈ places cs, n < D.secs.length - room - 1 := fun n hn => by
      obtain ⟨y, hy, rfl⟩ := List.mem_map.1 hn
      exact (c1 y hy).2.1
    have hN := h.b.n
    have hsz : (ba (hdL (places cs))).size ≤ 1024 := head_size (fun n hn => by have := hplen n hn; omega) (by rw [places_len]; omega)
    have hw : writeF (putF 0 cs D).2 0 (ba (hdL (places cs))) = (0, (putF 0 cs D).2.put 0 (ba (hdL (places cs)))) := p2.write 0 (by rw [hlen]; omega) hsz
    have h0 : 0 < (putF 0 cs D).2.secs.length := by rw [hlen]; omega
    obtain ⟨f1, _⟩ := fin_lit room (places cs) 0 (k + cs.length + 1) ((putF 0 cs D).2.put 0 (ba (hdL (places cs)))) (p2.put 0 h0 hsz) (by rw [put_len]; exact h0) (fun n hn => by rw [put_len, hlen]; have := hplen n hn; omega) (by rw [places_len]; omega) c2
    rw [if_pos p1] at e
    have e2 : headF room (places cs) (putF 0 cs D).2 = finF room 0 (places cs) ((putF 0 cs D).2.put 0 (ba (hdL (places cs)))) := by
      unfold headF
      rw [hw]
      simp only [if_true]
    rw [e, e2] at a
    exact a f1
  · exact absurd rfl h2
  · exact ⟨a, c⟩

/-- A clean head names nothing. -/
theorem num_clean {room len : Nat} {s : ByteArray} {r : List UInt8} (h : s.data.toList = 0 :: r) (hr : AllZ r) : numF room len s = some [] := by
  have e : rdU 0 s.data.toList = ⟨0, 1, 0⟩ := by rw [h, rdU_end (by omega) (by omega) (by omega) (by decide)]; rfl
  unfold numF
  rw [e, if_pos ⟨rfl, Nat.zero_le _⟩]
  exact numsL_zero (by rw [h]; exact hr)

theorem allZ_rep (n : Nat) : AllZ (List.replicate n (0 : UInt8)) := fun _ hb => (List.mem_replicate.1 hb).2

theorem num_one {room len : Nat} : numF room len (pad (ba [0])) = some [] := by
  refine num_clean (r := List.replicate 1023 0) ?_ (allZ_rep _)
  rw [pad_list, ba_data, ba_size]
  rfl
theorem num_Z {room len : Nat} : numF room len Z1024 = some [] := by
  refine num_clean (r := List.replicate 1023 0) ?_ (allZ_rep _)
  rw [Z1024_data]
  rfl

/-- The head names nothing. -/
def Clear (D : Dsk) : Prop := sec D 0 = Z1024 ∨ sec D 0 = pad (ba [0])

theorem open_lit {D : Dsk} {k room : Nat} (h : Lit D k) (h0 : 0 < D.secs.length) (hc : Clear D) : openF room D = (0, D) := by
  unfold openF
  have hr : readF D 0 = (sec D 0, 0) := h.read 0 h0
  rw [hr]
  simp only [if_true]
  rcases hc with hc | hc
  · rw [hc, num_Z]; rfl
  · rw [hc, num_one]; rfl

theorem sec_new (n : Int) (i : Nat) : sec (newD n) i = Z1024 := by
  unfold sec newD
  simp only
  rw [List.getElem?_replicate]
  split <;> exact full_nil

theorem clear_new (n : Int) : Clear (newD n) := .inl (sec_new n 0)

end Go.Proofs.YtbfdmglmolkloaaGreatDoor
