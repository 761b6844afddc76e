/- Journals whose power goes off, plain -/
import Derived.Test.YtbfdmglmolkloaaDoorJrX
namespace Go.Proofs.YtbfdmglmolkloaaDoor
open Go Go.RowKit

theorem read_on {D : Dsk} (h : D.off = false) (i : Nat) (hi : i < D.secs.length) : readF D (i : Int) = (sec D i, 0) := by
  have : readyF D i = 0 := by unfold readyF; rw [h]; simp; omega
  rw [readF_eq, if_neg (by simp [this])]
  rfl

/-- A write is done, or the power goes off. -/
theorem write_on {D : Dsk} (h : D.off = false) (i : Nat) (hi : i < D.secs.length) {s : ByteArray} (hs : s.size ≤ 1024) : writeF D (i : Int) s = (12, { D with off := true }) ∨ writeF D (i : Int) s = (0, D.put i s) := by
  have hr : readyF D i = 0 := by unfold readyF; rw [h]; simp; omega
  unfold writeF
  rw [if_neg (by simp [hr]), if_neg (by omega)]
  split
  · exact .inl rfl
  · exact .inr rfl

/-- No sector is too long. -/
def Sm (D : Dsk) : Prop := ∀ x ∈ D.secs, x.size ≤ 1024
theorem Sm.sec {D : Dsk} (h : Sm D) (i : Nat) : (sec D i).size ≤ 1024 := by
  unfold Go.Proofs.YtbfdmglmolkloaaDoor.sec
  apply full_size
  cases hx : D.secs[i]? with
  | none => exact Nat.zero_le _
  | some x => exact h x (List.mem_of_getElem? hx)
theorem Sm.put {D : Dsk} (h : Sm D) (i : Nat) {s : ByteArray} (hs : s.size ≤ 1024) : Sm (D.put i s) := fun x hx => by
  rcases List.mem_or_eq_of_mem_set hx with hx | rfl
  · exact h x hx
  · exact Nat.le_of_eq (pad_size hs)

/-- The head names nothing, and the sectors are these. -/
def Cln (room : Nat) (c : Nat → ByteArray) (D : Dsk) : Prop := Clear D ∧ ∀ q, q < jlen room D → sec D (room + 1 + q) = c q

/-- The head names copies that stand: brought to their sectors, these are new. -/
def Mdl (room : Nat) (old new : Nat → ByteArray) (D : Dsk) : Prop :=
  ∃ l : List Nat, numF room (jlen room D) (sec D 0) = some l ∧ l ≠ [] ∧ (∀ (m n : Nat), l[m]? = some n → new n = pad (sec D (1 + m))) ∧ ∀ q, q < jlen room D → q ∉ l → sec D (room + 1 + q) = old q ∧ new q = old q

def Inv (room : Nat) (old new : Nat → ByteArray) (D : Dsk) : Prop := Cln room old D ∨ Mdl room old new D ∨ Cln room new D

/-- The sectors alone count. -/
theorem Inv.same {room : Nat} {old new : Nat → ByteArray} {D D' : Dsk} (h : Inv room old new D) (hs : D'.secs = D.secs) : Inv room old new D' := by
  have e1 : ∀ i, sec D' i = sec D i := fun i => by unfold sec; rw [hs]
  have e2 : jlen room D' = jlen room D := by unfold jlen; rw [hs]
  rcases h with ⟨a, b⟩ | ⟨l, a, b, c, d⟩ | ⟨a, b⟩
  · exact .inl ⟨by unfold Clear; rw [e1]; exact a, fun q hq => by rw [e1]; exact b q (by rw [← e2]; exact hq)⟩
  · refine .inr (.inl ⟨l, by rw [e1, e2]; exact a, b, fun m n hm => by rw [e1]; exact c m n hm, fun q hq hn => by rw [e1]; exact d q (by rw [← e2]; exact hq) hn⟩)
  · exact .inr (.inr ⟨by unfold Clear; rw [e1]; exact a, fun q hq => by rw [e1]; exact b q (by rw [← e2]; exact hq)⟩)

theorem off_secs (D : Dsk) : ({ D with off := true } : Dsk).secs = D.secs := rfl

/-- Bringing the copies: either all is new, or the power went off and the head still names them. -/
theorem fin_cut {room : Nat} {old new : Nat → ByteArray} {D0 : Dsk} (l : List Nat) (hN : D0.secs.length ≤ 16384) (hnum : numF room (jlen room D0) (sec D0 0) = some l) (hne : l ≠ []) :
    ∀ (r l0 : List Nat) (D : Dsk), l = l0 ++ r → D.secs.length = D0.secs.length → Sm D → D.off = false → sec D 0 = sec D0 0 → (∀ m, m < l.length → sec D (1 + m) = sec D0 (1 + m)) →
      (∀ (m n : Nat), l[m]? = some n → new n = pad (sec D0 (1 + m))) → (∀ q, q < jlen room D0 → q ∉ l → sec D (room + 1 + q) = old q ∧ new q = old q) → (∀ q ∈ l0, sec D (room + 1 + q) = new q) →
      ((finF room l0.length r D).1 = 0 ∧ (finF room l0.length r D).2.off = false ∧ Cln room new (finF room l0.length r D).2) ∨
      ((finF room l0.length r D).1 = 12 ∧ (finF room l0.length r D).2.off = true ∧ Mdl room old new (finF room l0.length r D).2) := by
  obtain ⟨n1, n2, n3⟩ := numF_spec hnum
  have hjl : jlen room D0 = D0.secs.length - room - 1 := rfl
  have hmdl : ∀ (l0 : List Nat) (D : Dsk), D.secs.length = D0.secs.length → sec D 0 = sec D0 0 → (∀ m, m < l.length → sec D (1 + m) = sec D0 (1 + m)) → (∀ (m n : Nat), l[m]? = some n → new n = pad (sec D0 (1 + m))) → (∀ q, q < jlen room D0 → q ∉ l → sec D (room + 1 + q) = old q ∧ new q = old q) → Mdl room old new { D with off := true } := by
    intro l0 D h1 h2 h3 h4 h5
    have ej : jlen room ({ D with off := true } : Dsk) = jlen room D0 := by unfold jlen; simp only [h1]
    have es : ∀ i, sec ({ D with off := true } : Dsk) i = sec D i := fun i => rfl
    refine ⟨l, by rw [ej, es, h2]; exact hnum, hne, fun m n hm => ?_, fun q hq hn => ?_⟩
    · rw [es, h3 m (List.getElem?_eq_some_iff.1 hm).1]; exact h4 m n hm
    · rw [ej] at hq; rw [es]; exact h5 q hq hn
  intro r
  induction r with
  | nil =>
    intro l0 D hl hlen hb hoff h0 hcp hnew hold hl0
    rw [List.append_nil] at hl
    subst hl
    have hp0 : 0 < D.secs.length := by
      obtain ⟨x, hx⟩ := List.exists_mem_of_ne_nil l hne
      have := n3 x hx
      omega
    show ((finF room l.length [] D).1 = 0 ∧ _) ∨ _
    rw [show finF room l.length [] D = writeF D ((0 : Nat) : Int) (ba [0]) from rfl]
    rcases write_on hoff 0 hp0 one_size with e | e
    · rw [e]
      exact .inr ⟨rfl, rfl, hmdl l D hlen h0 hcp hnew hold⟩
    · rw [e]
      refine .inl ⟨rfl, hoff, .inr (by rw [sec_put _ _ _ _ hp0 one_size, if_pos rfl]), fun q hq => ?_⟩
      have hq2 : q < jlen room D0 := by unfold jlen at hq ⊢; rw [put_len, hlen] at hq; exact hq
      rw [sec_put _ _ _ _ hp0 one_size, if_neg (by omega)]
      by_cases hm : q ∈ l
      · exact hl0 q hm
      · rw [(hold q hq2 hm).1, (hold q hq2 hm).2]
  | cons n r ih =>
    intro l0 D hl hlen hb hoff h0 hcp hnew hold hl0
    have hm : l[l0.length]? = some n := by rw [hl, List.getElem?_append_right (Nat.le_refl _), Nat.sub_self]; rfl
    have hml := (List.getElem?_eq_some_iff.1 hm).1
    have hnl := n3 n (List.mem_of_getElem? hm)
    have hi : 1 + l0.length < D.secs.length := by omega
    have hr := read_on hoff (1 + l0.length) hi
    have hs := hb.sec (1 + l0.length)
    have hn1 : room + 1 + n < D.secs.length := by omega
    have e : finF room l0.length (n :: r) D = if (writeF D ((room + 1 + n : Nat) : Int) (sec D (1 + l0.length))).1 = 0 then finF room (l0.length + 1) r (writeF D ((room + 1 + n : Nat) : Int) (sec D (1 + l0.length))).2 else writeF D ((room + 1 + n : Nat) : Int) (sec D (1 + l0.length)) := by
      rw [finF, hr]
      simp only [if_true]
    rw [e]
    rcases write_on hoff (room + 1 + n) hn1 hs with w | w
    · rw [w, if_neg (show ¬ (12 : Int) = 0 by decide)]
      exact .inr ⟨rfl, rfl, hmdl l0 D hlen h0 hcp hnew hold⟩
    · rw [w, if_pos rfl]
      have hln : (l0 ++ [n]).length = l0.length + 1 := by simp
      rw [← hln]
      refine ih (l0 ++ [n]) (D.put (room + 1 + n) (sec D (1 + l0.length))) (by rw [hl]; simp) (by rw [put_len]; exact hlen) (hb.put _ hs) hoff ?_ ?_ hnew ?_ ?_
      · rw [sec_put _ _ _ _ hn1 hs, if_neg (by omega)]; exact h0
      · intro m hm2
        rw [sec_put _ _ _ _ hn1 hs, if_neg (by omega)]; exact hcp m hm2
      · intro q hq hnq
        rw [sec_put _ _ _ _ hn1 hs, if_neg (by intro hh; exact hnq (by rw [show q = n by omega]; exact List.mem_of_getElem? hm))]
        exact hold q hq hnq
      · intro q hq
        rw [sec_put _ _ _ _ hn1 hs]
        split
        · rename_i hqq
          have hqn : q = n := by omega
          subst hqn
          rw [hnew _ _ hm, hcp _ hml]
        · rename_i hqq
          rcases List.mem_append.1 hq with h | h
          · exact hl0 q h
          · simp at h; subst h; exact absurd rfl hqq

/-- Open, with the power on: it is as it was or new; or the power goes off. -/
theorem open_cut {room : Nat} {old new : Nat → ByteArray} {D : Dsk} (hN : D.secs.length ≤ 16384) (h0 : 0 < D.secs.length) (hs : Sm D) (hoff : D.off = false) (h : Inv room old new D) :
    ((openF room D).1 = 0 ∧ (openF room D).2.off = false ∧ (Cln room old (openF room D).2 ∨ Cln room new (openF room D).2)) ∨ ((openF room D).1 = 12 ∧ (openF room D).2.off = true ∧ Inv room old new (openF room D).2) := by
  have hr : readF D 0 = (sec D 0, 0) := read_on hoff 0 h0
  have e : openF room D = openL room D (numF room (jlen room D) (sec D 0)) := by
    unfold openF
    rw [hr]
    rfl
  have hcl : Clear D → openF room D = (0, D) := fun hc => by
    rw [e]
    rcases hc with hc | hc
    · rw [hc, num_Z]; rfl
    · rw [hc, num_one]; rfl
  rcases h with ⟨a, b⟩ | ⟨l, a, b, c, d⟩ | ⟨a, b⟩
  · rw [hcl a]; exact .inl ⟨rfl, hoff, .inl ⟨a, b⟩⟩
  · have e2 : openF room D = finF room 0 l D := by
      rw [e, a]
      cases l with
      | nil => exact absurd rfl b
      | cons n l => rfl
    rw [e2]
    rcases fin_cut (old := old) (new := new) l hN a b l [] D rfl rfl hs hoff rfl (fun _ _ => rfl) c d (fun q hq => by cases hq) with ⟨x, y, z⟩ | ⟨x, y, z⟩
    · exact .inl ⟨x, y, .inr z⟩
    · exact .inr ⟨x, y, .inr (.inl z)⟩
  · rw [hcl a]; exact .inl ⟨rfl, hoff, .inr ⟨a, b⟩⟩

/-- The copies are written, or the power goes off. -/
theorem put_cut : ∀ (cs : List Chg) (i : Nat) (D : Dsk), D.off = false → Sm D → i + cs.length < D.secs.length → (∀ c ∈ cs, c.data.size ≤ 1024) →
    (∀ j, j ≤ i ∨ i + cs.length < j → sec (putF i cs D).2 j = sec D j) ∧ Sm (putF i cs D).2 ∧
    (((putF i cs D).1 = 12 ∧ (putF i cs D).2.off = true) ∨
     ((putF i cs D).1 = 0 ∧ (putF i cs D).2.off = false ∧ ∀ (m : Nat) (c : Chg), cs[m]? = some c → sec (putF i cs D).2 (1 + i + m) = pad c.data))
  | [], i, D => fun h hs _ _ => ⟨fun _ _ => rfl, hs, .inr ⟨rfl, h, fun m c hm => by simp at hm⟩⟩
  | c :: r, i, D => fun h hsm hl hs => by
    simp only [List.length_cons] at hl
    have hsc := hs c List.mem_cons_self
    have e : putF i (c :: r) D = if (writeF D ((1 + i : Nat) : Int) c.data).1 = 0 then putF (i + 1) r (writeF D ((1 + i : Nat) : Int) c.data).2 else writeF D ((1 + i : Nat) : Int) c.data := by rw [putF]
    rw [e]
    rcases write_on h (1 + i) (by omega) hsc with w | w
    · rw [w, if_neg (show ¬ (12 : Int) = 0 by decide)]
      exact ⟨fun _ _ => rfl, hsm, .inl ⟨rfl, rfl⟩⟩
    · rw [w, if_pos rfl]
      obtain ⟨f1, f2, f3⟩ := put_cut r (i + 1) (D.put (1 + i) c.data) h (hsm.put _ hsc) (by rw [put_len]; omega) (fun x hx => hs x (List.mem_cons_of_mem _ hx))
      refine ⟨fun j hj => ?_, f2, ?_⟩
      · simp only [List.length_cons] at hj
        rw [f1 j (by omega), sec_put _ _ _ _ (by omega) hsc, if_neg (by omega)]
      · rcases f3 with f3 | ⟨f3, f4, f5⟩
        · exact .inl f3
        · refine .inr ⟨f3, f4, fun m x hm => ?_⟩
          cases m with
          | zero =>
            simp only [List.getElem?_cons_zero, Option.some.injEq] at hm
            subst hm
            rw [f1 _ (.inl (by omega)), sec_put _ _ _ _ (by omega) hsc, if_pos (by omega)]
          | succ m =>
            simp only [List.getElem?_cons_succ] at hm
            rw [show 1 + i + (m + 1) = 1 + (i + 1) + m by omega, f5 m x hm]

theorem drop_more {s : ByteArray} {a : Nat} {p r : List UInt8} (h : s.data.toList.drop a = p ++ r) : s.data.toList.drop (a + p.length) = r := drop_after h

/-- The numbers of a head that was written are read back. -/
theorem nums_back {len : Nat} {s : ByteArray} (hlen : len ≤ 16384) {z : List UInt8} (hz : AllZ z) : ∀ (r : List Nat) (a : Nat) (out : List Nat), s.data.toList.drop a = r.flatMap uvar ++ z → (∀ n ∈ r, n < len) → (out ++ r).Nodup → numsL len s r.length a out = some (out ++ r)
  | [], a, out => fun h _ _ => by
    rw [List.append_nil]
    exact numsL_zero (by rw [h]; exact hz)
  | n :: r, a, out => fun h hn hd => by
    rw [List.flatMap_cons, List.append_assoc] at h
    have t6 : two64 = 18446744073709551616 := by decide
    have hnl := hn n List.mem_cons_self
    have u := rdU_at h (by rw [t6]; omega)
    have hout : n ∉ out := fun hm => by
      have := (List.nodup_append.1 hd).2.2 n hm n List.mem_cons_self
      exact this rfl
    rw [List.length_cons, numsL_succ (by rw [u]) (by rw [u]; exact hnl) (by rw [u]; exact hout), u]
    simp only
    rw [nums_back hlen hz r (a + (uvar n).length) (out ++ [n]) (drop_after h) (fun x hx => hn x (List.mem_cons_of_mem _ hx)) (by rw [List.append_assoc]; exact hd), List.append_assoc]
    rfl

theorem num_head {room len : Nat} {l : List Nat} (hlen : len ≤ 16384) (hl : l.length ≤ room) (hr : room ≤ 500) (hn : ∀ n ∈ l, n < len) (hd : l.Nodup) : numF room len (pad (ba (hdL l))) = some l := by
  have e : (pad (ba (hdL l))).data.toList = uvar l.length ++ (l.flatMap uvar ++ List.replicate (1024 - (ba (hdL l)).size) 0) := by
    rw [pad_list, ba_data]
    unfold hdL
    rw [List.append_assoc]
  have t6 : two64 = 18446744073709551616 := by decide
  have u : rdU 0 (pad (ba (hdL l))).data.toList = ⟨l.length, (uvar l.length).length, 0⟩ := by
    have := rdU_at (s := pad (ba (hdL l))) (a := 0) (n := l.length) (by rw [List.drop_zero]; exact e) (by rw [t6]; omega)
    rwa [List.drop_zero] at this
  unfold numF
  rw [u, if_pos ⟨rfl, hl⟩]
  have := nums_back (s := pad (ba (hdL l))) hlen (allZ_rep (1024 - (ba (hdL l)).size)) l (0 + (uvar l.length).length) [] (drop_after (by rw [List.drop_zero]; exact e)) hn hd
  rw [Nat.zero_add] at this
  exact this

/-- The sectors behind the changes. -/
def upc (c : Nat → ByteArray) (cs : List Chg) (q : Nat) : ByteArray := match cs.find? (fun x => x.pos.toNat == q) with
  | some x => pad x.data
  | none => c q

theorem upc_none {c : Nat → ByteArray} {cs : List Chg} {q : Nat} (h : q ∉ places cs) : upc c cs q = c q := by
  unfold upc
  rw [List.find?_eq_none.2 (fun x hx => by
    intro he
    exact h (List.mem_map.2 ⟨x, hx, by simpa using he⟩))]

theorem upc_some {c : Nat → ByteArray} : ∀ {cs : List Chg} {m : Nat} {x : Chg}, (places cs).Nodup → cs[m]? = some x → upc c cs x.pos.toNat = pad x.data
  | [], m, x => fun _ h => by simp at h
  | y :: r, m, x => fun hd h => by
    have hd2 : (y.pos.toNat :: places r).Nodup := hd
    cases m with
    | zero =>
      simp only [List.getElem?_cons_zero, Option.some.injEq] at h
      subst h
      unfold upc
      rw [List.find?_cons]
      simp
    | succ m =>
      simp only [List.getElem?_cons_succ] at h
      have hne : y.pos.toNat ≠ x.pos.toNat := fun e => (List.nodup_cons.1 hd2).1 (by rw [e]; exact List.mem_map.2 ⟨x, List.mem_of_getElem? h, rfl⟩)
      have ih := upc_some (c := c) (List.nodup_cons.1 hd2).2 h
      unfold upc at *
      rw [List.find?_cons]
      have hb : (y.pos.toNat == x.pos.toNat) = false := by rw [beq_eq_false_iff_ne]; exact hne
      rw [hb]
      exact ih

/-- Commit, with the power on, whenever it goes off. -/
theorem commit_cut {room : Nat} {c : Nat → ByteArray} {D : Dsk} (hN : D.secs.length ≤ 16384) (hr : room ≤ 500) (hsm : Sm D) (hoff : D.off = false) (h : Cln room c D) (cs : List Chg) :
    ((commitF room cs D).2.off = false ∧ (((commitF room cs D).1 ≠ 0 ∧ (commitF room cs D).2 = D) ∨ ((commitF room cs D).1 = 0 ∧ checkL (jlen room D) [] cs = 0 ∧ Cln room (upc c cs) (commitF room cs D).2))) ∨
    ((commitF room cs D).2.off = true ∧ checkL (jlen room D) [] cs = 0 ∧ Inv room c (upc c cs) (commitF room cs D).2) := by
  by_cases h1 : room < cs.length
  · have e : commitF room cs D = (31, D) := by unfold commitF; rw [if_pos h1]
    rw [e]
    exact .inl ⟨hoff, .inl ⟨show (31 : Int) ≠ 0 by decide, rfl⟩⟩
  · by_cases h2 : cs = []
    · have e : commitF room cs D = (0, D) := by unfold commitF; rw [if_neg h1, if_pos h2]
      rw [e, h2]
      exact .inl ⟨hoff, .inr ⟨rfl, rfl, h⟩⟩
    · by_cases h3 : checkL (jlen room D) [] cs = 0
      · obtain ⟨c1, c2, _⟩ := check_zero cs [] h3
        obtain ⟨x, hx⟩ := List.exists_mem_of_ne_nil cs h2
        have hj := (c1 x hx).2.1
        have hjd : jlen room D = D.secs.length - room - 1 := rfl
        obtain ⟨p1, p2, p3⟩ := put_cut cs 0 D hoff hsm (by omega) (fun c hc => (c1 c hc).2.2)
        have hlen : (putF 0 cs D).2.secs.length = D.secs.length := putF_len _ _ _
        have hplen : ∀ n ∈ places cs, n < jlen room D := fun n hn => by
          obtain ⟨y, hy, rfl⟩ := List.mem_map.1 hn
          exact (c1 y hy).2.1
        have hsz : (ba (hdL (places cs))).size ≤ 1024 := head_size (fun n hn => by have := hplen n hn; omega) (by rw [places_len]; omega)
        have e : commitF room cs D = if (putF 0 cs D).1 = 0 then headF room (places cs) (putF 0 cs D).2 else putF 0 cs D := by unfold commitF; rw [if_neg h1, if_neg h2, if_pos h3]
        rw [e]
        have hcln : ∀ D' : Dsk, D'.secs.length = D.secs.length → (∀ j, j ≤ 0 ∨ 0 + cs.length < j → sec D' j = sec D j) → Cln room c D' := fun D' hl hj => by
          refine ⟨by unfold Clear; rw [hj 0 (.inl (Nat.le_refl _))]; exact h.1, fun q hq => ?_⟩
          rw [hj _ (.inr (by omega))]
          exact h.2 q (by unfold jlen at hq ⊢; rw [hl] at hq; exact hq)
        rcases p3 with ⟨p3, p4⟩ | ⟨p3, p4, p5⟩
        · rw [if_neg (by rw [p3]; decide)]
          exact .inr ⟨p4, h3, .inl (hcln _ hlen p1)⟩
        · rw [if_pos p3]
          unfold headF
          have h0 : 0 < (putF 0 cs D).2.secs.length := by omega
          rcases write_on p4 0 h0 hsz with w | w
          · rw [show writeF (putF 0 cs D).2 0 (ba (hdL (places cs))) = _ from w, if_neg (show ¬ (12 : Int) = 0 by decide)]
            exact .inr ⟨rfl, h3, .inl (hcln _ hlen p1)⟩
          · rw [show writeF (putF 0 cs D).2 0 (ba (hdL (places cs))) = _ from w, if_pos rfl]
            obtain ⟨D1, hD1⟩ : ∃ D1, (putF 0 cs D).2.put 0 (ba (hdL (places cs))) = D1 := ⟨_, rfl⟩
            have hl1 : D1.secs.length = D.secs.length := by rw [← hD1, put_len, hlen]
            have hj1 : jlen room D1 = jlen room D := by unfold jlen; rw [hl1]
            have hs1 : sec D1 0 = pad (ba (hdL (places cs))) := by rw [← hD1, sec_put _ _ _ _ h0 hsz, if_pos rfl]
            have hso : ∀ j, 0 < j → sec D1 j = sec (putF 0 cs D).2 j := fun j hj => by rw [← hD1, sec_put _ _ _ _ h0 hsz, if_neg (by omega)]
            have hnum : numF room (jlen room D1) (sec D1 0) = some (places cs) := by
              rw [hs1, hj1]
              exact num_head (by omega) (by rw [places_len]; omega) hr hplen c2
            have hne : places cs ≠ [] := fun hh => h2 (List.eq_nil_of_length_eq_zero (by rw [← places_len, hh]; rfl))
            have hnew : ∀ (m n : Nat), (places cs)[m]? = some n → upc c cs n = pad (sec D1 (1 + m)) := fun m n hm => by
              unfold places at hm
              rw [List.getElem?_map, Option.map_eq_some_iff] at hm
              obtain ⟨x, hx, rfl⟩ := hm
              have hxs := (c1 x (List.mem_of_getElem? hx)).2.2
              rw [upc_some c2 hx, hso _ (by omega), show 1 + m = 1 + 0 + m by omega, p5 m x hx, pad_pad hxs]
            have hold : ∀ q, q < jlen room D1 → q ∉ places cs → sec D1 (room + 1 + q) = c q ∧ upc c cs q = c q := fun q hq hn => by
              refine ⟨?_, upc_none hn⟩
              rw [hso _ (by omega), p1 _ (.inr (by omega))]
              exact h.2 q (by rw [← hj1]; exact hq)
            rw [hD1]
            have hoff1 : D1.off = false := by rw [← hD1]; exact p4
            have hsm1 : Sm D1 := by rw [← hD1]; exact p2.put _ hsz
            rcases fin_cut (old := c) (new := upc c cs) (places cs) (by omega) hnum hne (places cs) [] D1 rfl rfl hsm1 hoff1 rfl (fun _ _ => rfl) hnew hold (fun q hq => by cases hq) with ⟨x, y, z⟩ | ⟨x, y, z⟩
            · exact .inl ⟨y, .inr ⟨x, h3, z⟩⟩
            · exact .inr ⟨y, h3, .inr (.inl z)⟩
      · have e : commitF room cs D = (checkL (jlen room D) [] cs, D) := by unfold commitF; rw [if_neg h1, if_neg h2, if_neg h3]
        rw [e]
        exact .inl ⟨hoff, .inl ⟨h3, rfl⟩⟩

end Go.Proofs.YtbfdmglmolkloaaDoor
