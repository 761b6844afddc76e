/- merged: TrC TrD -/
import Derived.Test.YtgbcibdfeeiilaaGreatDoorMa11
namespace Go.Proofs.YtgbcibdfeeiilaaGreatDoor
section
open Go Go.RowKit
def lf : Nat -> Bool
 | 0 => true
 | _ + 1 => false
def entsOf : (h : Nat) -> Tr h -> List Ent
 | 0, l => List.map (fun p : KV => ⟨p.1, p.2, 0⟩) l
 | h + 1, l => List.map (fun e : TE (Tr h) => ⟨e.key, emp, e.spot⟩) l
def ksecs : (h : Nat) -> Tr h -> List Int
 | 0, _ => []
 | h + 1, l => List.flatMap (fun e : TE (Tr h) => secs h e.spot e.sub) l
theorem secs_eq : ∀ (h : Nat) (s : Int) (t : Tr h), secs h s t = s :: ksecs h t
 | 0, _, _ => rfl
 | _ + 1, _, _ => rfl
def ttake (i : Nat) : (h : Nat) -> Tr h -> Tr h
 | 0, l => List.take (α := KV) i l
 | h + 1, l => List.take (α := TE (Tr h)) i l
def tdrop (i : Nat) : (h : Nat) -> Tr h -> Tr h
 | 0, l => List.drop (α := KV) i l
 | h + 1, l => List.drop (α := TE (Tr h)) i l
def tapp : (h : Nat) -> Tr h -> Tr h -> Tr h
 | 0, a, b => List.append (α := KV) a b
 | h + 1, a, b => List.append (α := TE (Tr h)) a b
theorem ents_take (i : Nat) : ∀ (h : Nat) (t : Tr h), entsOf h (ttake i h t) = (entsOf h t).take i
 | 0, _ => List.map_take
 | _ + 1, _ => List.map_take
theorem ents_drop (i : Nat) : ∀ (h : Nat) (t : Tr h), entsOf h (tdrop i h t) = (entsOf h t).drop i
 | 0, _ => List.map_drop
 | _ + 1, _ => List.map_drop
theorem ents_app : ∀ (h : Nat) (a b : Tr h), entsOf h (tapp h a b) = entsOf h a ++ entsOf h b
 | 0, _, _ => List.map_append
 | _ + 1, _, _ => List.map_append
theorem flat_cut (i : Nat) : ∀ (h : Nat) (t : Tr h), flat h (ttake i h t) ++ flat h (tdrop i h t) = flat h t
 | 0, l => List.take_append_drop (α := KV) i l
 | h + 1, l => by
  have e := List.take_append_drop (α := TE (Tr h)) i l
  have := (flats_append (h := h) (List.take i l) (List.drop i l)).symm
  rw [e] at this
  exact this
theorem flat_app : ∀ (h : Nat) (a b : Tr h), flat h (tapp h a b) = flat h a ++ flat h b
 | 0, _, _ => rfl
 | h + 1, a, b => flats_append (h := h) a b
theorem ksecs_cut (i : Nat) : ∀ (h : Nat) (t : Tr h), ksecs h (ttake i h t) ++ ksecs h (tdrop i h t) = ksecs h t
 | 0, _ => rfl
 | h + 1, l => by
  have e := List.take_append_drop (α := TE (Tr h)) i l
  show List.flatMap _ (List.take i l) ++ List.flatMap _ (List.drop i l) = List.flatMap _ l
  rw [← List.flatMap_append, e]
theorem ksecs_app : ∀ (h : Nat) (a b : Tr h), ksecs h (tapp h a b) = ksecs h a ++ ksecs h b
 | 0, _, _ => rfl
 | _ + 1, _, _ => List.flatMap_append
def wtN (h : Nat) (t : Tr h) : Nat := (bytesL (lf h) (entsOf h t)).length
def Sd (look : Int -> Option NP) (m : Nat) : (h : Nat) -> Int -> Tr h -> Prop
 | 0, s, l => look s = some (true, entsOf 0 l) /\ GoodE true (entsOf 0 l)
 | h + 1, s, l => (look s = some (false, entsOf (h + 1) l) /\ GoodE false (entsOf (h + 1) l)) /\ ∀ e : TE (Tr h), List.Mem e l -> Sd look m h e.spot e.sub /\ fkey h e.sub = some e.key /\ m <= wtN h e.sub
def Lowr (look : Int -> Option NP) (m : Nat) : (h : Nat) -> Tr h -> Prop
 | 0, _ => True
 | h + 1, l => ∀ e : TE (Tr h), List.Mem e l -> Sd look m h e.spot e.sub /\ fkey h e.sub = some e.key /\ m <= wtN h e.sub
theorem sd_iff {look : Int -> Option NP} {m : Nat} : ∀ {h : Nat} {s : Int} {t : Tr h}, Sd look m h s t ↔ (look s = some (lf h, entsOf h t) /\ GoodE (lf h) (entsOf h t)) /\ Lowr look m h t
 | 0, _, _ => ⟨fun h => ⟨h, trivial⟩, fun h => h.1⟩
 | _ + 1, _, _ => Iff.rfl
theorem below_take {look : Int -> Option NP} {m : Nat} (i : Nat) : ∀ {h : Nat} {t : Tr h}, Lowr look m h t -> Lowr look m h (ttake i h t)
 | 0, _, _ => trivial
 | _h + 1, l, k => fun e he => k e (List.mem_of_mem_take (l := l) (i := i) he)
theorem below_drop {look : Int -> Option NP} {m : Nat} (i : Nat) : ∀ {h : Nat} {t : Tr h}, Lowr look m h t -> Lowr look m h (tdrop i h t)
 | 0, _, _ => trivial
 | _h + 1, l, k => fun e he => k e (List.mem_of_mem_drop (l := l) (i := i) he)
theorem below_app {look : Int -> Option NP} {m : Nat} : ∀ {h : Nat} {a b : Tr h}, Lowr look m h a -> Lowr look m h b -> Lowr look m h (tapp h a b)
 | 0, _, _, _, _ => trivial
 | _h + 1, a, b, k1, k2 => fun e he => (List.mem_append (s := a) (t := b).1 he).elim (k1 e) (k2 e)
theorem sd_congr {look look' : Int -> Option NP} {m : Nat} : ∀ {h : Nat} {s : Int} {t : Tr h}, Sd look m h s t -> (∀ x ∈ secs h s t, look' x = look x) -> Sd look' m h s t
 | 0, s, _t, ⟨h1, h2⟩, k => ⟨(k s List.mem_cons_self).trans h1, h2⟩
 | _h + 1, s, _l, ⟨⟨h1, h2⟩, h3⟩, k => ⟨⟨(k s List.mem_cons_self).trans h1, h2⟩, fun e he => ⟨sd_congr (h3 e he).1 (fun x hx => k x (List.mem_cons_of_mem _ (List.mem_flatMap.2 ⟨e, he, hx⟩))), (h3 e he).2⟩⟩
theorem below_congr {look look' : Int -> Option NP} {m : Nat} : ∀ {h : Nat} {t : Tr h}, Lowr look m h t -> (∀ x ∈ ksecs h t, look' x = look x) -> Lowr look' m h t
 | 0, _, _, _ => trivial
 | _h + 1, _l, h3, k => fun e he => ⟨sd_congr (h3 e he).1 (fun x hx => k x (List.mem_flatMap.2 ⟨e, he, hx⟩)), (h3 e he).2⟩
theorem wf_sd {look : Int -> Option NP} {m : Nat} : ∀ {h : Nat} {s : Int} {t : Tr h}, Sd look m h s t -> Wf h t
 | 0, _, l, k => fun e => k.2.ne (by rw [show l = ([] : List KV) from e]; rfl)
 | h + 1, _, l, k => ⟨fun e => k.1.2.ne (by rw [e]; rfl), fun e he => ⟨wf_sd (k.2 e he).1, (k.2 e he).2.1⟩⟩
structure FlatOk (l : List KV) : Prop where
 asc : Asc l
 ok : ∀ p ∈ l, (p.1.toList ≠ [] /\ p.1.size <= 48) /\ p.2.size <= 200
theorem FlatOk.sub {l k : List KV} (h : FlatOk l) (hs : k.Sublist l) : FlatOk k := ⟨h.asc.sublist hs, fun p hp => h.ok p (hs.subset hp)⟩
structure CgOk (c : Cg) : Prop where
 ne : c.key.toList ≠ []
 key : c.key.size <= 48
 value : c.value.size <= 200
theorem chg_sub {c : Cg} {l : List KV} {p : KV} (hp : p ∈ chg c l) : p ∈ l \/ p ∈ c.put := by
 unfold chg at hp
 rcases List.mem_append.1 hp with h | h
 ·exact .inl ((List.mem_filter.1 h).1)
 ·rcases List.mem_append.1 h with h | h
  ·exact .inr h
  ·exact .inl ((List.mem_filter.1 h).1)
theorem FlatOk.chg {c : Cg} {l : List KV} (h : FlatOk l) (hc : CgOk c) : FlatOk (chg c l) := ⟨asc_chg h.asc, fun p hp => by
 rcases chg_sub hp with hp | hp
 ·exact h.ok p hp
 ·unfold Cg.put at hp
  split at hp
  ·cases hp
  ·rw [List.mem_singleton] at hp
   subst hp
   exact ⟨⟨hc.ne, hc.key⟩, hc.value⟩⟩
theorem keys_asc {h : Nat} : ∀ {l : List (TE (Tr h))}, Ok l -> Asc (flats l) -> l.Pairwise (fun a b => kl a.key b.key = true)
 | [], _, _ => List.Pairwise.nil
 | e :: r, k, ha => by
  have ha' : Asc (flats ([e] ++ r)) := ha
  rw [flats_append] at ha'
  obtain ⟨_, h2, h3⟩ := asc_append.1 ha'
  have hr : Ok r := fun x hx => k x (List.mem_cons_of_mem _ hx)
  refine List.pairwise_cons.2 ⟨fun b hb => ?_, keys_asc hr h2⟩
  obtain ⟨v, q, hf⟩ := ok_mem k (e := e) List.mem_cons_self
  obtain ⟨v', q', hf'⟩ := ok_mem hr hb
  refine h3 (e.key, v) ?_ (b.key, v') ?_
  ·have : flats [e] = flat h e.sub := by simp [flats]
   rw [this, hf]
   exact List.mem_cons_self
  ·unfold flats
   exact List.mem_flatMap.2 ⟨b, hb, by rw [hf']; exact List.mem_cons_self⟩
theorem ok_below {look : Int -> Option NP} {m h : Nat} {l : List (TE (Tr h))} (k : Lowr look m (h + 1) l) : Ok l := fun e he => ⟨wf_sd (k e he).1, (k e he).2.1⟩
theorem size_of {look : Int -> Option NP} {m : Nat} : ∀ {h : Nat} {t : Tr h}, FlatOk (flat h t) -> Lowr look m h t -> (∀ x ∈ ksecs h t, 1 <= x /\ x <= 1152921504606846976) -> wt (lf h) (entsOf h t) <= 1380 -> SizeE (lf h) (entsOf h t)
 | 0, l, hf, _, _, hw => by
  have hk : (entsOf 0 l).map (·.key) = List.map (·.1) (l : List KV) := by
   exact List.map_map
  refine ⟨?_, fun x hx => ?_, fun x hx => ?_, fun h => (by cases h), hw⟩
  ·rw [hk]
   refine keysOk_iff.2 ⟨List.Pairwise.map _ (fun _ _ h => h) hf.asc, fun k hk => ?_⟩
   obtain ⟨p, hp, rfl⟩ := List.mem_map.1 hk
   exact (hf.ok p hp).1
  ·obtain ⟨p, hp, rfl⟩ := List.mem_map.1 hx
   exact ⟨fun _ => rfl, fun h => by cases h⟩
  ·obtain ⟨p, hp, rfl⟩ := List.mem_map.1 hx
   exact (hf.ok p hp).2
 | h + 1, l, hf, hB, hs, hw => by
  have hok : Ok (h := h) l := ok_below hB
  have hk : (entsOf (h + 1) l).map (·.key) = List.map (·.key) (l : List (TE (Tr h))) := by
   exact List.map_map
  refine ⟨?_, fun x hx => ?_, fun x hx => ?_, fun _ x hx => ?_, hw⟩
  ·rw [hk]
   refine keysOk_iff.2 ⟨List.Pairwise.map _ (fun _ _ h => h) (keys_asc hok hf.asc), fun k hk => ?_⟩
   obtain ⟨e, he, rfl⟩ := List.mem_map.1 hk
   obtain ⟨v, r, hfl⟩ := ok_mem hok he
   exact (hf.ok (e.key, v) (by
    show _ ∈ flats l
    unfold flats
    exact List.mem_flatMap.2 ⟨e, he, by rw [hfl]; exact List.mem_cons_self⟩)).1
  ·obtain ⟨p, hp, rfl⟩ := List.mem_map.1 hx
   exact ⟨fun h => (by cases h), fun _ => rfl⟩
  ·obtain ⟨p, hp, rfl⟩ := List.mem_map.1 hx
   exact Nat.zero_le _
  ·obtain ⟨e, he, rfl⟩ := List.mem_map.1 hx
   exact hs e.spot (List.mem_flatMap.2 ⟨e, he, by rw [secs_eq]; exact List.mem_cons_self⟩)
def pt {h : Nat} (e : TE (Tr h)) : ByteArray × Int := (e.key, e.spot)
def psecs {h : Nat} (ps : List (TE (Tr h))) : List Int := ps.flatMap fun e => secs h e.spot e.sub
def Fo (look : Int -> Option NP) (m h : Nat) (ps : List (TE (Tr h))) : Prop := ∀ e ∈ ps, Sd look m h e.spot e.sub /\ fkey h e.sub = some e.key
theorem fkey_fk : ∀ {h : Nat} {t : Tr h}, entsOf h t ≠ [] -> fkey h t = some (fk (entsOf h t))
 | 0, [], h => absurd rfl h
 | 0, _ :: _, _ => rfl
 | _ + 1, [], h => absurd rfl h
 | _ + 1, _ :: _, _ => rfl
theorem flat_empty : ∀ {h : Nat} {t : Tr h}, entsOf h t = [] -> flat h t = [] /\ ksecs h t = []
 | 0, [], _ => ⟨rfl, rfl⟩
 | 0, _ :: _, h => by cases h
 | _ + 1, [], _ => ⟨rfl, rfl⟩
 | _ + 1, _ :: _, h => by cases h
theorem keepT {T : TM} {W : WM} {L : Int} {m h : Nat} {t : Tr h} {R ss F : List Int} (hA : Acc T W ss (ksecs h t ++ R) F) (hB : Lowr (W.look T) m h t) (hf : FlatOk (flat h t)) (hw : wt (lf h) (entsOf h t) <= 1380) (hn : W.next + 2 <= 1152921504606846976) :
  ∃ (W' : WM) (ps : List (TE (Tr h))) (F' : List Int), keepM T L W (lf h) (entsOf h t) ss = some (W', ps.map pt) /\ Fo (W'.look T) m h ps /\ flats ps = flat h t /\ ps.length <= 2 /\ (∀ e, ps = [e] -> e.sub = t) /\ (ps.length = 2 -> ∀ e ∈ ps, 250 <= wtN h e.sub) ∧
   ((bytesL (lf h) (entsOf h t)).length <= 1024 -> ps.length <= 1) ∧
   Acc T W' (psecs ps) R F' /\ Kept T W W' L R (ps.length - ss.length) ((psecs ps).length + R.length) (ss ++ (ps.map (·.spot)).drop ss.length) /\ W'.count = W.count /\ (∀ e ∈ ps, e.spot ∈ ss ++ (ps.map (·.spot)).drop ss.length) /\ (psecs ps).length = (ksecs h t).length + ps.length := by
 have hspot : ∀ x ∈ ksecs h t, 1 <= x /\ x <= 1152921504606846976 := fun x hx => by
  have := hA.spot (x := x) (.inr (.inr (List.mem_append_left _ hx)))
  omega
 have hS := size_of hf hB hspot hw
 have hat : ∀ (ats : List Int), ats.take ss.length = ss.take ats.length -> ∀ x ∈ ats, x ∈ ss ++ ats.drop ss.length := fun ats hq x hx => by
  rw [← List.take_append_drop ss.length ats] at hx
  rcases List.mem_append.1 hx with hx | hx
  ·rw [hq] at hx
   exact List.mem_append_left _ (List.mem_of_mem_take hx)
  ·exact List.mem_append_right _ hx
 have hkeep : ∀ {W' : WM} {k n : Nat} {ats : List Int}, ats.take ss.length = ss.take ats.length -> Kept T W W' L (ksecs h t ++ R) k n (ss ++ ats) -> Kept T W W' L R k n (ss ++ ats.drop ss.length) := fun {W' k n ats} hq hk => by
  refine ⟨fun x hx => hk.other x (List.mem_append_right _ hx), hk.root, hk.lo, hk.hi, hk.mono, hk.full, hk.top, hk.room, fun x hx => ?_⟩
  rcases hk.touch x hx with h1 | h1
  ·rcases List.mem_append.1 h1 with h1 | h1
   ·exact .inl (List.mem_append_left _ h1)
   ·exact .inl (hat ats hq x h1)
  ·exact .inr h1
 by_cases hne : entsOf h t = []
 ·obtain ⟨W', ats, F', h1, h2, h3, h4, _, h6, h7⟩ := keepGo_law (T := T) (L := L) (leaf := lf h) [] ss W (ksecs h t ++ R) F hA (fun x hx => by cases hx) (by show W.next + 0 <= _; omega)
  have h0 : ats = [] := List.eq_nil_of_length_eq_zero h2
  subst h0
  obtain ⟨e1, e2⟩ := flat_empty hne
  rw [e2] at h4
  refine ⟨W', [], F', ?_, fun e he => (by cases he), by rw [e1]; rfl, by simp, fun e he => (by cases he), fun h => by simp at h, fun _ => by simp, h4, ?_, h7, fun e he => (by cases he), by rw [e2]; rfl⟩
  ·unfold keepM
   rw [if_pos hne, h1]
   rfl
  ·have := hkeep h3 h6
   rw [e2, List.nil_append] at this
   show Kept T W W' L R _ (0 + R.length) _
   rw [Nat.zero_add]
   exact this
 ·rcases split_law hS hne with ⟨h1, hg⟩ | ⟨i, h1, hlo, hhi, hg1, hg2, hb1, hb2⟩
  ·obtain ⟨W', ats, F', k1, k2, k3, k4, k5, k6, k7⟩ := keepGo_law (T := T) (L := L) (leaf := lf h) [entsOf h t] ss W (ksecs h t ++ R) F hA (fun x hx => by rw [List.mem_singleton] at hx; subst hx; exact hg) (by simp only [List.length_cons, List.length_nil]; omega)
   match ats, k2 with
   | [a], _ =>
    have hlk := k5 (entsOf h t, a) List.mem_cons_self
    have hB' : Lowr (W'.look T) m h t := below_congr hB (fun x hx => k6.other x (List.mem_append_left _ hx))
    have hp : psecs [(⟨fk (entsOf h t), a, t⟩ : TE (Tr h))] = a :: ksecs h t := by unfold psecs; simp [secs_eq]
    refine ⟨W', [⟨fk (entsOf h t), a, t⟩], F', ?_, ?_, by simp [flats], by simp, fun e he => by cases he; rfl, fun h => by simp at h, fun _ => by simp, ?_, ?_, k7, fun e he => ?_, by rw [hp]; simp⟩
    ·unfold keepM
     rw [if_neg hne, h1, k1]
     rfl
    ·intro e he
     rw [List.mem_singleton] at he
     subst he
     exact ⟨sd_iff.2 ⟨⟨hlk, hg⟩, hB'⟩, fkey_fk hne⟩
    ·rw [hp]
     exact k4.move (fun x => by simp only [List.count_cons, List.count_append, List.count_nil]; omega)
    ·have := hkeep k3 k6
     rw [hp]
     refine ⟨this.other, this.root, this.lo, this.hi, this.mono, fun hx => (this.full hx).imp id (fun h => ?_), this.top.imp id (fun h => ?_), this.room, this.touch⟩ <;>
     (simp only [List.length_append, List.length_cons, List.length_nil] at h ⊢; omega)
    ·rw [List.mem_singleton] at he
     subst he
     exact hat [a] k3 a List.mem_cons_self
  ·obtain ⟨W', ats, F', k1, k2, k3, k4, k5, k6, k7⟩ := keepGo_law (T := T) (L := L) (leaf := lf h) [(entsOf h t).take i, (entsOf h t).drop i] ss W (ksecs h t ++ R) F hA (fun x hx => by
    rcases List.mem_cons.1 hx with rfl | hx
    ·exact hg1
    ·rw [List.mem_singleton] at hx; subst hx; exact hg2) (by simp only [List.length_cons, List.length_nil]; omega)
   match ats, k2 with
   | [a, b], _ =>
    have hl1 := k5 ((entsOf h t).take i, a) List.mem_cons_self
    have hl2 := k5 ((entsOf h t).drop i, b) (List.mem_cons_of_mem _ List.mem_cons_self)
    have hB' : Lowr (W'.look T) m h t := below_congr hB (fun x hx => k6.other x (List.mem_append_left _ hx))
    have hp : psecs [(⟨fk ((entsOf h t).take i), a, ttake i h t⟩ : TE (Tr h)), ⟨fk ((entsOf h t).drop i), b, tdrop i h t⟩] = (a :: ksecs h (ttake i h t)) ++ (b :: ksecs h (tdrop i h t)) := by unfold psecs; simp [secs_eq]
    have hcut := ksecs_cut i h t
    have hlen : (ksecs h (ttake i h t)).length + (ksecs h (tdrop i h t)).length = (ksecs h t).length := by rw [← hcut, List.length_append]
    have h2 : 1024 < (bytesL (lf h) (entsOf h t)).length \/ True := .inr trivial
    have hpl : (psecs [(⟨fk ((entsOf h t).take i), a, ttake i h t⟩ : TE (Tr h)), ⟨fk ((entsOf h t).drop i), b, tdrop i h t⟩]).length = (ksecs h t).length + 2 := by
     rw [hp, List.length_append, List.length_cons, List.length_cons]
     omega
    refine ⟨W', [⟨fk ((entsOf h t).take i), a, ttake i h t⟩, ⟨fk ((entsOf h t).drop i), b, tdrop i h t⟩], F', ?_, ?_, ?_, by simp, fun e he => (by cases he), fun _ e he => ?_, fun hle => ?_, ?_, ?_, k7, fun e he => ?_, by rw [hpl]; rfl⟩
    ·unfold keepM
     rw [if_neg hne, h1, k1]
     rfl
    ·intro e he
     rcases List.mem_cons.1 he with rfl | he
     ·exact ⟨sd_iff.2 ⟨⟨by rw [ents_take]; exact hl1, by rw [ents_take]; exact hg1⟩, below_take i hB'⟩, by rw [fkey_fk (by rw [ents_take]; exact hg1.ne), ents_take]⟩
     ·rw [List.mem_singleton] at he
      subst he
      exact ⟨sd_iff.2 ⟨⟨by rw [ents_drop]; exact hl2, by rw [ents_drop]; exact hg2⟩, below_drop i hB'⟩, by rw [fkey_fk (by rw [ents_drop]; exact hg2.ne), ents_drop]⟩
    ·have := flat_cut i h t
     simpa [flats] using this
    ·rcases List.mem_cons.1 he with rfl | he
     ·show 250 <= (bytesL (lf h) (entsOf h (ttake i h t))).length
      rw [ents_take]; exact hb1
     ·rw [List.mem_singleton] at he
      subst he
      show 250 <= (bytesL (lf h) (entsOf h (tdrop i h t))).length
      rw [ents_drop]; exact hb2
    ·exfalso
     have : splitM (lf h) (entsOf h t) = [entsOf h t] := by unfold splitM; rw [if_pos (.inr hle)]
     rw [this] at h1
     have := congrArg List.length h1
     simp at this
    ·rw [hp]
     exact k4.move (fun x => by
      rw [← hcut]
      simp only [List.count_cons, List.count_append, List.count_nil]
      omega)
    ·have := hkeep k3 k6
     rw [hpl]
     refine ⟨this.other, this.root, this.lo, this.hi, this.mono, fun hx => (this.full hx).imp id (fun h => ?_), this.top.imp id (fun h => ?_), this.room, this.touch⟩ <;>
     (simp only [List.length_append, List.length_cons, List.length_nil] at h ⊢; omega)
    ·rcases List.mem_cons.1 he with rfl | he
     ·exact hat [a, b] k3 a List.mem_cons_self
     ·rw [List.mem_singleton] at he
      subst he
      exact hat [a, b] k3 b (List.mem_cons_of_mem _ List.mem_cons_self)
end
section
open Go Go.RowKit
def hasK (c : Cg) (l : List KV) : Bool := l.any (fun p => decide (p.1 = c.key))
theorem has_ents (c : Cg) (l : List KV) : hasE c (entsOf 0 l) = hasK c l := by
 show List.any (List.map _ l) _ = _
 rw [List.any_map]
 rfl
theorem chgE_ents (c : Cg) (l : List KV) : chgE c (entsOf 0 l) = entsOf 0 (chg c l) := by
 show chgE c (List.map _ l) = List.map _ (chg c l)
 unfold chgE chg
 rw [List.filter_map, List.filter_map, List.map_append, List.map_append]
 congr 1
 congr 1
 unfold Cg.putE Cg.put
 cases c.gone <;> rfl
theorem kinds {c : Cg} {p : KV} {r : List KV} (h : Asc (p :: r)) : (kl p.1 c.key = true /\ kl c.key p.1 = false /\ p.1 ≠ c.key) ∨
  (kl p.1 c.key = false /\ (kl c.key p.1 = true \/ p.1 = c.key) /\ ∀ q ∈ r, kl q.1 c.key = false /\ kl c.key q.1 = true /\ q.1 ≠ c.key) := by
 obtain ⟨hp, _⟩ := List.pairwise_cons.1 h
 cases hk : kl p.1 c.key with
 | true => exact .inl ⟨rfl, kl_asymm hk, kl_ne hk⟩
 | false =>
  have h2 : kl c.key p.1 = true \/ p.1 = c.key := by
   cases hh : kl c.key p.1 with
   | true => exact .inl rfl
   | false => exact .inr (kl_total hk hh)
  refine .inr ⟨rfl, h2, fun q hq => ?_⟩
  have h3 := hp q hq
  have h4 : kl c.key q.1 = true := by
   rcases h2 with h2 | h2
   ·exact kl_trans h2 h3
   ·rw [← h2]; exact h3
  exact ⟨kl_asymm h4, h4, fun e => kl_ne h4 e.symm⟩
theorem len_kinds {c : Cg} : ∀ {l : List KV}, Asc l -> (l.filter (fun p => kl p.1 c.key)).length + (l.filter (fun p => kl c.key p.1)).length + (if hasK c l then 1 else 0) = l.length
 | [], _ => rfl
 | p :: r, h => by
  rcases kinds (c := c) h with ⟨h1, h2, h3⟩ | ⟨h1, h2, h3⟩
  ·have ih := len_kinds (c := c) (List.pairwise_cons.1 h).2
   have e : hasK c (p :: r) = hasK c r := by unfold hasK; rw [List.any_cons, decide_eq_false h3, Bool.false_or]
   rw [e, List.filter_cons, List.filter_cons, h1, h2]
   simp only [if_true, Bool.false_eq_true, if_false, List.length_cons]
   omega
  ·have e1 : r.filter (fun p => kl p.1 c.key) = [] := filter_none (fun q hq => (h3 q hq).1)
   have e2 : r.filter (fun p => kl c.key p.1) = r := filter_all (fun q hq => (h3 q hq).2.1)
   have e3 : r.any (fun p => decide (p.1 = c.key)) = false := List.any_eq_false.2 (fun q hq => by simp [(h3 q hq).2.2])
   unfold hasK
   rw [List.any_cons, e3, List.filter_cons, List.filter_cons, e1, e2, h1, Bool.or_false]
   rcases h2 with h2 | h2
   ·have : p.1 ≠ c.key := fun e => kl_ne h2 e.symm
    simp [h2, this]
   ·rw [h2]
    simp [kl_irrefl]
theorem kvchg_len {c : Cg} {l : List KV} (h : Asc l) (hk : ¬ (c.gone && !hasE c (entsOf 0 l)) = true) : ((chg c l).length : Int) = l.length + chgN c (entsOf 0 l) := by
 have h1 := len_kinds (c := c) h
 have h2 : c.put.length = if c.gone then 0 else 1 := by unfold Cg.put; cases c.gone <;> rfl
 unfold chg chgN
 rw [has_ents, List.length_append, List.length_append, h2]
 rw [has_ents] at hk
 cases hh : hasK c l <;> cases hg : c.gone <;> simp only [hh, hg, if_true, Bool.false_eq_true, if_false, Bool.not_false, Bool.not_true, Bool.and_true, Bool.and_false, not_true] at h1 hk ⊢ <;> omega
theorem chg_id {c : Cg} (hg : c.gone = true) : ∀ {l : List KV}, Asc l -> hasK c l = false -> chg c l = l
 | [], _, _ => by unfold chg Cg.put; rw [hg]; rfl
 | p :: r, h, hk => by
  have hk' : p.1 ≠ c.key /\ hasK c r = false := by
   unfold hasK at hk ⊢
   rw [List.any_cons, Bool.or_eq_false_iff] at hk
   exact ⟨fun e => by simp [e] at hk, hk.2⟩
  rcases kinds (c := c) h with ⟨h1, h2, h3⟩ | ⟨h1, h2, h3⟩
  ·have ih := chg_id hg (List.pairwise_cons.1 h).2 hk'.2
   unfold chg at ih ⊢
   rw [List.filter_cons, List.filter_cons, h1, h2]
   simp only [if_true, Bool.false_eq_true, if_false, List.cons_append]
   rw [ih]
  ·have e1 : r.filter (fun p => kl p.1 c.key) = [] := filter_none (fun q hq => (h3 q hq).1)
   have e2 : r.filter (fun p => kl c.key p.1) = r := filter_all (fun q hq => (h3 q hq).2.1)
   have h4 : kl c.key p.1 = true := h2.resolve_right hk'.1
   unfold chg Cg.put
   rw [List.filter_cons, List.filter_cons, e1, e2, h1, h4, hg]
   rfl
theorem wt_filter (leaf : Bool) {p q : Ent -> Bool} (hpq : ∀ x, p x = true -> q x = false) : ∀ es : List Ent, wt leaf (es.filter p) + wt leaf (es.filter q) <= wt leaf es
 | [] => by simp [wt]
 | x :: r => by
  have ih := wt_filter leaf hpq r
  rw [List.filter_cons, List.filter_cons, wt_cons]
  cases hp : p x with
  | true =>
   rw [hpq x hp]
   simp only [if_true, Bool.false_eq_true, if_false]
   rw [wt_cons]
   omega
  | false =>
   cases hq : q x with
   | true =>
    simp only [if_true, Bool.false_eq_true, if_false]
    rw [wt_cons]
    omega
   | false =>
    simp only [Bool.false_eq_true, if_false]
    omega
theorem wt_chg {c : Cg} (hc : CgOk c) (es : List Ent) : wt true (chgE c es) <= wt true es + 251 := by
 have h1 := wt_filter true (p := fun x => kl x.key c.key) (q := fun x => kl c.key x.key) (fun x h => kl_asymm h) es
 have h2 : wt true c.putE <= 251 := by
  unfold Cg.putE
  split
  ·exact Nat.zero_le _
  ·rw [wt_one]
   exact ent_len (leaf := true) hc.key hc.value (fun h => by cases h)
 unfold chgE
 rw [wt_append, wt_append]
 omega
theorem kept_trans {T : TM} {W W1 W2 : WM} {L : Int} {R R1 R2 : List Int} {k1 k2 k n1 n2 n : Nat} {X1 X2 X : List Int} (a : Kept T W W1 L R1 k1 n1 X1) (b : Kept T W1 W2 L R2 k2 n2 X2)
  (h1 : ∀ x ∈ R, x ∈ R1) (h2 : ∀ x ∈ R, x ∈ R2) (hk : k1 + k2 <= k) (hn1 : n1 <= n) (hn2 : n2 <= n) (hX1 : ∀ x ∈ X1, x ∈ X) (hX2 : ∀ x ∈ X2, x ∈ X) : Kept T W W2 L R k n X := by
 have a1 := a.lo
 have a2 := a.hi
 have b1 := b.lo
 have b2 := b.hi
 refine ⟨fun x hx => (b.other x (h2 x hx)).trans (a.other x (h1 x hx)), b.root.trans a.root, by omega, by omega, fun h => b.mono (a.mono h), fun h => ?_, ?_, fun h => ?_, fun x hx => ?_⟩
 ·rcases b.full h with h3 | h3
  ·rcases a.full h3 with h4 | h4
   ·exact .inl h4
   ·exact .inr (by omega)
  ·exact .inr (by omega)
 ·rcases b.top with h3 | h3
  ·rcases a.top with h4 | h4
   ·exact .inl (by omega)
   ·exact .inr (by omega)
  ·exact .inr (by omega)
 ·have h1f : W1.full = false := by
   cases hh : W1.full with
   | false => rfl
   | true => have := b.mono hh; rw [h] at this; cases this
  rcases b.room h with h3 | h3
  ·rcases a.room h1f with h4 | h4
   ·exact .inl (by omega)
   ·exact .inr (by omega)
  ·exact .inr h3
 ·rcases b.touch x hx with h3 | h3
  ·exact .inl (hX2 x h3)
  ·rcases a.touch x h3 with h4 | h4
   ·exact .inl (hX1 x h4)
   ·exact .inr h4
structure Chd (T : TM) (L : Int) (m h : Nat) (W : WM) (R : List Int) (old new : List KV) (n : Nat) (W' : WM) (ps : List (TE (Tr h))) (F' X : List Int) : Prop where
 fo : Fo (W'.look T) m h ps
 fl : flats ps = new
 two : ps.length <= 2
 big : ps.length = 2 -> ∀ e ∈ ps, 250 <= wtN h e.sub
 acc : Acc T W' (psecs ps) R F'
 kept : Kept T W W' L R (h + 1) n X
 use : (psecs ps).length + R.length <= n
 cnt : W'.count = W.count + ((new.length : Int) - old.length)
 x : X.length <= 3 * h + 2
 xs : ∀ e ∈ ps, e.spot ∈ X
theorem psecs_append {h : Nat} (a b : List (TE (Tr h))) : psecs (a ++ b) = psecs a ++ psecs b := by unfold psecs; rw [List.flatMap_append]
theorem psecs_cons {h : Nat} (e : TE (Tr h)) (b : List (TE (Tr h))) : psecs (e :: b) = secs h e.spot e.sub ++ psecs b := by unfold psecs; rw [List.flatMap_cons]
theorem psecs_nil {h : Nat} : psecs ([] : List (TE (Tr h))) = [] := rfl
theorem ksecs_succ {h : Nat} (l : List (TE (Tr h))) : ksecs (h + 1) l = psecs l := rfl
theorem fin_law {T : TM} {L : Int} {m h : Nat} {W W2 : WM} {s : Int} {l2 : List (TE (Tr h))} {R F2 X2 : List Int} {old : List KV} {n2 n : Nat} (hA : Acc T W2 [s] (psecs l2 ++ R) F2) (hB : Lowr (W2.look T) m (h + 1) l2) (hf : FlatOk (flats l2))
  (hw : wt false (entsOf (h + 1) l2) <= 1380) (hn : W2.next + 2 <= 1152921504606846976) (hk : Kept T W W2 L R (h + 1) n2 X2) (hc : W2.count = W.count + (((flats l2).length : Int) - old.length)) (hx : X2.length <= 3 * h + 3) (hn2 : n2 <= n)
  (hu : (psecs l2).length + R.length + 2 <= n) :
  ∃ W' ps F' X, keepM T L W2 false (entsOf (h + 1) l2) [s] = some (W', ps.map pt) /\ Chd T L m (h + 1) W R old (flats l2) n W' ps F' X := by
 obtain ⟨W', ps, F', k1, k2, k3, k4, _, k6, _, k7, k8, k9, k10, k11⟩ := keepT (L := L) (h := h + 1) (t := l2) hA hB hf hw hn
 rw [ksecs_succ] at k11
 refine ⟨W', ps, F', X2 ++ ([s] ++ (ps.map (·.spot)).drop [s].length), k1, k2, k3, k4, k6, k7, kept_trans hk k8 (fun x h => h) (fun x h => h) (by simp only [List.length_cons, List.length_nil]; omega) hn2 (by omega) (fun x h => List.mem_append_left _ h) (fun x h => List.mem_append_right _ h), by omega, by rw [k9, hc], ?_, fun e he => List.mem_append_right _ (k10 e he)⟩
 rw [List.length_append, List.length_append, List.length_drop, List.length_map]
 simp only [List.length_cons, List.length_nil]
 omega
theorem place_split {α : Type} (g : α -> ByteArray) (key : ByteArray) : ∀ (l : List α), l ≠ [] -> l.Pairwise (fun a b => kl (g a) (g b) = true) →
  ∃ a e b, l = a ++ e :: b /\ (l.filter (fun x => !kl key (g x))).length - 1 = a.length /\ (a = [] \/ g e = key \/ kl (g e) key = true) /\ ∀ x ∈ b, kl key (g x) = true
 | [], h, _ => absurd rfl h
 | [e], _, _ => ⟨[], e, [], rfl, by
   have := List.length_filter_le (fun x => !kl key (g x)) [e]
   simp only [List.length_cons, List.length_nil] at this ⊢
   omega, .inl rfl, fun x hx => by cases hx⟩
 | e1 :: e2 :: r, _, hp => by
  obtain ⟨h1, h2⟩ := List.pairwise_cons.1 hp
  have h12 := h1 e2 List.mem_cons_self
  cases hk : kl key (g e2) with
  | true =>
   have hall : ∀ x ∈ e2 :: r, kl key (g x) = true := fun x hx => by
    rcases List.mem_cons.1 hx with rfl | hx
    ·exact hk
    ·exact kl_trans hk ((List.pairwise_cons.1 h2).1 x hx)
   refine ⟨[], e1, e2 :: r, rfl, ?_, .inl rfl, hall⟩
   rw [List.filter_cons, filter_none (l := e2 :: r) (fun x hx => by rw [hall x hx]; rfl)]
   split <;> rfl
  | false =>
   have hk1 : kl key (g e1) = false := by
    cases hh : kl key (g e1) with
    | false => rfl
    | true => have := kl_trans hh h12; rw [hk] at this; cases this
   obtain ⟨a, e, b, he, hlen, hle, hb⟩ := place_split g key (e2 :: r) (by simp) h2
   refine ⟨e1 :: a, e, b, by rw [he]; rfl, ?_, .inr ?_, hb⟩
   ·have hpos : 1 <= ((e2 :: r).filter (fun x => !kl key (g x))).length := by
     rw [List.filter_cons, hk]
     simp
    rw [List.filter_cons, hk1]
    simp only [Bool.not_false, if_true, List.length_cons]
    omega
   ·rcases hle with h | h
    ·subst h
     cases he
     cases hh : kl (g e2) key with
     | true => exact .inr rfl
     | false => exact .inl (kl_total hh hk)
    ·exact h
theorem place_ents {h : Nat} (key : ByteArray) (l : List (TE (Tr h))) : placeE key (entsOf (h + 1) l) = (l.filter (fun e => !kl key e.key)).length - 1 := by
 unfold placeE
 show (List.filter _ (List.map _ l)).length - 1 = _
 rw [List.filter_map, List.length_map]
 rfl
def eE {h : Nat} (e : TE (Tr h)) : Ent := ⟨e.key, emp, e.spot⟩
theorem ents_succ {h : Nat} (l : List (TE (Tr h))) : entsOf (h + 1) l = l.map eE := rfl
theorem inner_ents {h : Nat} (a z b ps : List (TE (Tr h))) : innerM (entsOf (h + 1) (a ++ (z ++ b))) a.length (a.length + z.length) (ps.map pt) = entsOf (h + 1) (a ++ (ps ++ b)) := by
 unfold innerM
 rw [ents_succ, ents_succ, List.map_append, List.map_append, List.map_append, List.map_append, List.map_map]
 have e1 : (a.map eE ++ (z.map eE ++ b.map eE)).take a.length = a.map eE := by
  rw [List.take_append_of_le_length (by simp), List.take_of_length_le (by simp)]
 have e2 : (a.map eE ++ (z.map eE ++ b.map eE)).drop (a.length + z.length) = b.map eE := by
  rw [← List.append_assoc, List.drop_append_of_le_length (by simp), List.drop_of_length_le (by simp), List.nil_append]
 rw [e1, e2]
 rfl
theorem bytes_mono {leaf : Bool} {a es : List Ent} (h1 : a.length <= es.length) (h2 : es.length < 16384) (h3 : wt leaf a <= wt leaf es) : (bytesL leaf a).length <= (bytesL leaf es).length := by
 rw [bytes_wt (by omega), bytes_wt h2]
 split <;> split <;> omega
theorem changeM_leaf {T : TM} {L : Int} {c : Cg} {f : Nat} {W : WM} {s : Int} {es : List Ent} (h : W.look T s = some (true, es)) :
  changeM T L c (f + 1) W s = if c.gone && !hasE c es then some (W, [(fk es, s)]) else keepM T L (W.add (chgN c es)) true (chgE c es) [s] := by
 simp only [changeM, h]
theorem changeM_node {T : TM} {L : Int} {c : Cg} {f : Nat} {W : WM} {s : Int} {es : List Ent} {x : Ent} (h : W.look T s = some (false, es)) (hx : es[placeE c.key es]? = some x) :
  changeM T L c (f + 1) W s = (changeM T L c f W x.kid).bind fun r => ifP (∀ p ∈ r.2, 1 <= p.2 /\ p.2 <= 1152921504606846976) (backM T L r.1 s es (placeE c.key es) r.2) none := by
 simp only [changeM, h, hx]
def tlen (h : Nat) (t : Tr h) : Nat := (entsOf h t).length
end
end Go.Proofs.YtgbcibdfeeiilaaGreatDoor
