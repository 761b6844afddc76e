/- merged: TrR JrKp -/
import Derived.Test.YtgbcibdfeeiilaaGreatDoorMe14
import Derived.Test.YtgbcibdfeeiilaaGreatDoorMe15
import Derived.Test.YtgbcibdfeeiilaaGreatDoorMe04
namespace Go.Proofs.YtgbcibdfeeiilaaGreatDoor
section
open Go Go.RowKit
open Classical in
noncomputable def qGq (s : ByteArray) : Nat -> Nat -> List Nat -> Option (List Nat)
 | 0, a, out => if AllZ (s.data.toList.drop a) then some out else none
 | c + 1, a, out => if (rdU 0 (s.data.toList.drop a)).e = 0 /\ (rdU 0 (s.data.toList.drop a)).v <= 16777216 then qGq s c (a + (rdU 0 (s.data.toList.drop a)).n) (out ++ [(rdU 0 (s.data.toList.drop a)).v]) else none
theorem qJy {s : ByteArray} {a : Nat} {out : List Nat} (h : AllZ (s.data.toList.drop a)) : qGq s 0 a out = some out := by unfold qGq; rw [if_pos h]
theorem qRj {s : ByteArray} {a : Nat} {out : List Nat} (h : ¬ AllZ (s.data.toList.drop a)) : qGq s 0 a out = none := by unfold qGq; rw [if_neg h]
theorem qJz {s : ByteArray} {c a : Nat} {out : List Nat} (h1 : (rdU 0 (s.data.toList.drop a)).e = 0) (h2 : (rdU 0 (s.data.toList.drop a)).v <= 16777216) :
  qGq s (c + 1) a out = qGq s c (a + (rdU 0 (s.data.toList.drop a)).n) (out ++ [(rdU 0 (s.data.toList.drop a)).v]) := by rw [qGq, if_pos ⟨h1, h2⟩]
theorem qRk {s : ByteArray} {c a : Nat} {out : List Nat} (h : ¬ ((rdU 0 (s.data.toList.drop a)).e = 0 /\ (rdU 0 (s.data.toList.drop a)).v <= 16777216)) : qGq s (c + 1) a out = none := by rw [qGq, if_neg h]
noncomputable def qAz (s : ByteArray) (b : UInt8) (n : Nat) : Option (List Nat) :=
 match s.data.toList with
 | [] => none
 | x :: _ => if x = b then qGq s n 1 [] else none
theorem qRi {s : ByteArray} : ∀ (c a : Nat) (out l : List Nat), qGq s c a out = some l -> l.length = out.length + c /\ ((∀ x ∈ out, x <= 16777216) -> ∀ x ∈ l, x <= 16777216)
 | 0, a, out, l, h => by
  by_cases hz : AllZ (s.data.toList.drop a)
  ·rw [qJy hz] at h; cases h; exact ⟨rfl, fun h => h⟩
  ·rw [qRj hz] at h; cases h
 | c + 1, a, out, l, h => by
  by_cases hc : (rdU 0 (s.data.toList.drop a)).e = 0 /\ (rdU 0 (s.data.toList.drop a)).v <= 16777216
  ·rw [qJz hc.1 hc.2] at h; obtain ⟨h1, h2⟩ := qRi c _ _ l h; refine ⟨by rw [h1, List.length_append, List.length_singleton]; omega, fun h3 => h2 (fun x hx => ?_)⟩
   rcases List.mem_append.1 hx with hx | hx
   ·exact h3 x hx
   ·rw [List.mem_singleton] at hx; rw [hx]; exact hc.2
  ·rw [qRk hc] at h; cases h
theorem qFc {s : ByteArray} {b : UInt8} {n : Nat} {l : List Nat} (h : qAz s b n = some l) : l.length = n /\ ∀ x ∈ l, x <= 16777216 := by
 unfold qAz at h; split at h
 ·cases h
 ·split at h
  ·obtain ⟨h1, h2⟩ := qRi _ _ _ _ h; exact ⟨by simpa using h1, h2 (fun x hx => by cases hx)⟩
  ·cases h
theorem qVj {s : ByteArray} {r : List UInt8} (hr : AllZ r) : ∀ (l : List Nat) (a : Nat) (out : List Nat), s.data.toList.drop a = l.flatMap uvar ++ r -> (∀ x ∈ l, x <= 16777216) -> qGq s l.length a out = some (out ++ l)
 | [], a, out, h, _ => by
  rw [List.flatMap_nil, List.nil_append] at h; rw [List.length_nil, qJy (by rw [h]; exact hr), List.append_nil]
 | x :: l, a, out, h, hl => by
  rw [List.flatMap_cons, List.append_assoc] at h; have hx := hl x List.mem_cons_self; have hu := qVb h (by unfold qEg; omega)
  rw [List.length_cons, qJz (by rw [hu]) (by rw [hu]; exact hx), hu]
  show qGq s l.length (a + (uvar x).length) (out ++ [x]) = _; rw [qVj hr l _ _ (qEq h) (fun y hy => hl y (List.mem_cons_of_mem _ hy)), List.append_assoc]
  rfl
theorem qMg {s : ByteArray} {b : UInt8} {l : List Nat} {r : List UInt8} (h : s.data.toList = b :: (l.flatMap uvar ++ r)) (hr : AllZ r) (hl : ∀ x ∈ l, x <= 16777216) : qAz s b l.length = some l := by
 unfold qAz; rw [h]; simp only [if_true]; have := qVj hr l 1 [] (by rw [h]; rfl) hl
 simpa using this
def fkN (o : Option NP) : ByteArray := match o with | some n => fk n.2 | none => emp
def qId (o : Option NP) : Bool := match o with | some n => n.1 | none => false
def lk (es : List Ent) : ByteArray := match es.getLast? with | some x => x.key | none => emp
structure RS where
 nodes : Int -> Option NP
 dom : List Int
 least : ByteArray
def RS.add (R : RS) (s : Int) (n : NP) : RS := ⟨fset R.nodes s (some n), R.dom ++ [s], R.least⟩
def RS.rise (R : RS) (k : ByteArray) : RS := ⟨R.nodes, R.dom, k⟩
def qHs (f : Int -> RS -> Option (RS × Nat)) (first : Int) : List Ent -> RS -> Nat -> Option (RS × Nat)
 | [], R, all => some (R, all)
 | x :: r, R, all => (f x.kid R).bind fun q => if fkN (q.1.nodes x.kid) = x.key /\ qId (q.1.nodes x.kid) = qId (q.1.nodes first) then qHs f first r q.1 (all + q.2) else none
def fkid (es : List Ent) : Int := match es with | [] => 0 | x :: _ => x.kid
noncomputable def qDc (rd : Int -> ByteArray) (next : Int) : Nat -> Int -> RS -> Option (RS × Nat)
 | 0, _, _ => none
 | d + 1, s, R =>
  if (R.nodes s).isSome \/ s < 1 \/ next <= s then none else
  match decP (rd s) with
  | none => none
  | some (leaf, es) =>
   if es.isEmpty \/ kl R.least (fk es) = false then none else
   if leaf then some ((R.add s (leaf, es)).rise (lk es), es.length)
   else qHs (qDc rd next d) (fkid es) es (R.add s (leaf, es)) 0
noncomputable def qGd (rd : Int -> ByteArray) (next : Int) (nodes : Int -> Option NP) : Nat -> Int -> (Int -> Option Int) -> List Int -> Option ((Int -> Option Int) × List Int)
 | 0, s, A, dom => if s = 0 then some (A, dom) else none
 | f + 1, s, A, dom =>
  if s = 0 then some (A, dom) else
  match qAz (rd s) 70 1 with
  | some (y :: _) => if (A s).isSome \/ (nodes s).isSome \/ s < 1 \/ next <= s then none else qGd rd next nodes f (y : Int) (fset A s (some (y : Int))) (dom ++ [s])
  | _ => none
theorem qOi (rd : Int -> ByteArray) (next : Int) (nodes : Int -> Option NP) (f : Nat) (A : Int -> Option Int) (dom : List Int) : qGd rd next nodes f 0 A dom = some (A, dom) := by
 cases f <;> (unfold qGd; rw [if_pos rfl])
noncomputable def qIc (rd : Int -> ByteArray) (root next free count : Int) : Option TM :=
 (if root ≠ 0 then (qDc rd next 16 root ⟨fun _ => none, [], emp⟩).bind fun q => if (q.2 : Int) = count then some q.1 else none else some ⟨fun _ => none, [], emp⟩).bind fun R =>
  (qGd rd next R.nodes 20000 free (fun _ => none) []).bind fun A =>
   if (R.dom.length : Int) + A.2.length + 1 = next /\ ¬ (root = 0 /\ count ≠ 0) then some ⟨root, next, free, count, R.nodes, A.1⟩ else none
theorem qMo {leaf : Bool} {es : List Ent} (h : qAu leaf es) (hk : leaf = false -> ∀ x ∈ es, x.kid < 16384) : qDi (cn leaf es) = true := by
 have hh : Has (cn leaf es) leaf es := ⟨rfl, rfl, rfl, rfl⟩; unfold qDi; rw [Bool.and_eq_true, qHl, decide_eq_true_eq, hh.ents h.clean]; refine ⟨⟨h.keys, ?_⟩, h.bytes⟩; have hpos : 0 < es.length := List.length_pos_iff.2 h.ne; unfold qKy cn; cases leaf with
 | true =>
  simp only [if_true, List.length_map, List.length_nil, decide_true, Bool.true_and, Bool.not_eq_true']; rw [List.any_eq_false]; intro s hs; obtain ⟨x, hx, rfl⟩ := List.mem_map.1 hs; have := h.values x hx; unfold qLb; simp
  omega
 | false =>
  simp only [Bool.false_eq_true, if_false, List.length_map, List.length_nil, decide_true, Bool.true_and, Bool.not_eq_true', Bool.and_eq_true, decide_eq_true_eq]; refine ⟨hpos, ?_⟩; rw [List.any_eq_false]; intro s hs; obtain ⟨x, hx, rfl⟩ := List.mem_map.1 hs; have h1 := h.kids rfl x hx; have h2 := hk rfl x hx; unfold outB; simp
  omega
theorem jBh {leaf : Bool} {es : List Ent} (h : qDi (cn leaf es) = true) (hc : qEb leaf es) (hne : es ≠ []) : qAu leaf es := by
 have hh : Has (cn leaf es) leaf es := ⟨rfl, rfl, rfl, rfl⟩; have hk := qVu h; unfold qDi at h; rw [Bool.and_eq_true, qHl, decide_eq_true_eq, hh.ents hc] at h; obtain ⟨⟨h1, h2⟩, h3⟩ := h; refine ⟨hne, h1, hc, fun x hx => ?_, fun hl x hx => ?_, h3⟩
 ·cases leaf with
  | true =>
   unfold qKy cn at h2; simp only [if_true, Bool.and_eq_true, Bool.not_eq_true'] at h2; have := List.any_eq_false.1 h2.2 x.value (List.mem_map.2 ⟨x, hx, rfl⟩); unfold qLb at this; simp at this
   exact this
  | false => rw [(hc x hx).2 rfl]; exact Nat.zero_le _
 ·subst hl; unfold qKy cn at h2; simp only [Bool.false_eq_true, if_false, Bool.and_eq_true, Bool.not_eq_true'] at h2; have := List.any_eq_false.1 h2.2 x.kid (List.mem_map.2 ⟨x, hx, rfl⟩); unfold outB at this; simp at this
  have := hk x hx rfl; omega
theorem jBp {s : ByteArray} {leaf : Bool} {es : List Ent} {r : List UInt8} (h : qAu leaf es) (hk : leaf = false -> ∀ x ∈ es, x.kid < 16384) (hs : s.data.toList = qAg leaf es ++ r) (hz : s.size < qEg) (hr : AllZ r) : decP s = some (leaf, es) := by
 have hh : Has (cn leaf es) leaf es := ⟨rfl, rfl, rfl, rfl⟩; have he := hh.ents h.clean; have := jIa (n := cn leaf es) (qMo h hk) (by rw [he]; exact hs) hz hr
 rw [he] at this; exact this
structure jJv (rd : Int -> ByteArray) (T : TM) : Prop where
 nodes : ∀ x n, T.nodes x = some n -> ∃ r, (rd x).data.toList = qAg n.1 n.2 ++ r /\ AllZ r
 after : ∀ x y, T.after x = some y -> ∃ r, (rd x).data.toList = 70 :: (uvar y.toNat ++ r) /\ AllZ r
 size : ∀ x, (rd x).size <= 1024
def qQp (b : ByteArray) (l : List KV) : Prop := ∀ p ∈ l, kl b p.1 = true
def qIe (l : List KV) (b : ByteArray) : ByteArray := match l.getLast? with | some p => p.1 | none => b
theorem qRr {l : List KV} (h : l ≠ []) (b : ByteArray) : lk (l.map fun p => ⟨p.1, p.2, 0⟩) = qIe l b := by
 unfold lk qIe; rw [List.getLast?_map]; cases hg : l.getLast? with
 | none => rw [List.getLast?_eq_none_iff] at hg; exact absurd hg h
 | some p => rfl
theorem qKr (a b : List KV) (x : ByteArray) : qIe (a ++ b) x = qIe b (qIe a x) := by
 unfold qIe; rw [List.getLast?_append]; cases b.getLast? <;> simp
theorem jAf {l : List KV} (h : l ≠ []) (b : ByteArray) : ∃ p ∈ l, qIe l b = p.1 := by
 unfold qIe; rw [List.getLast?_eq_some_getLast h]; exact ⟨_, List.getLast_mem h, rfl⟩
structure qNp (look : Int -> Option NP) (R R' : RS) (ss : List Int) (fl : List KV) : Prop where
 nodes : ∀ x, R'.nodes x = if x ∈ ss then look x else R.nodes x
 dom : R'.dom = R.dom ++ ss
 least : R'.least = qIe fl R.least
theorem qNp.nil (look : Int -> Option NP) (R : RS) : qNp look R R [] [] := ⟨fun x => by rw [if_neg (by simp)], by simp, rfl⟩
theorem qNp.trans {look : Int -> Option NP} {R R1 R2 : RS} {a b : List Int} {f g : List KV} (h : qNp look R R1 a f) (k : qNp look R1 R2 b g) : qNp look R R2 (a ++ b) (f ++ g) := by
 refine ⟨fun x => ?_, by rw [k.dom, h.dom, List.append_assoc], by rw [k.least, h.least, qKr]⟩
 rw [k.nodes, h.nodes]; by_cases h1 : x ∈ b
 ·rw [if_pos h1, if_pos (List.mem_append_right _ h1)]
 ·rw [if_neg h1]; by_cases h2 : x ∈ a
  ·rw [if_pos h2, if_pos (List.mem_append_left _ h2)]
  ·rw [if_neg h2, if_neg (fun h => (List.mem_append.1 h).elim h2 h1)]
theorem jHt {look : Int -> Option NP} {m : Nat} : ∀ {h : Nat} {s : Int} {t : Tr h}, Sd look m h s t -> fkey h t = some (fk (eOf h t))
 | 0, _, l, k => by
  cases l with
  | nil => exact absurd rfl k.2.ne
  | cons p r => rfl
 | h + 1, _, l, k => by
  cases l with
  | nil => exact absurd rfl k.1.2.ne
  | cons p r => rfl
theorem qXe {look : Int -> Option NP} {m : Nat} {h : Nat} {s : Int} {t : Tr h} (k : Sd look m h s t) : look s = some (lf h, eOf h t) /\ qAu (lf h) (eOf h t) := (qIv.1 k).1
theorem qUu {look : Int -> Option NP} {rd : Int -> ByteArray} {next : Int} {m : Nat} (hnx : next <= 16384) : ∀ (h d : Nat) (s : Int) (t : Tr h) (R : RS), h < d -> Sd look m h s t -> (∀ x ∈ secs h s t, ∀ n, look x = some n -> decP (rd x) = some n) -> (secs h s t).Nodup →
  (∀ x ∈ secs h s t, R.nodes x = none /\ 1 <= x /\ x < next) -> qAy (flat h t) -> qQp R.least (flat h t) →
  ∃ R', qDc rd next d s R = some (R', (flat h t).length) /\ qNp look R R' (secs h s t) (flat h t)
 | _, 0, _, _, _, hlt, _, _, _, _, _, _ => absurd hlt (Nat.not_lt_zero _)
 | 0, d + 1, s, l, R, _, hS, hd, _, hR, _, hab => by
  obtain ⟨h1, h2, h3⟩ := hR s List.mem_cons_self; have hl := hS.1; have hdd := hd s List.mem_cons_self _ hl; have hne : l ≠ ([] : List KV) := fun e => hS.2.ne (by rw [e]; rfl)
  have hc1 : ¬ ((R.nodes s).isSome \/ s < 1 \/ next <= s) := by rw [h1]; simp; omega
  have hfk : kl R.least (fk (eOf 0 l)) = true := by
   cases l with
   | nil => exact absurd rfl hne
   | cons p r => exact hab p List.mem_cons_self
  have hem : (eOf 0 l).isEmpty = false := by
   cases l with
   | nil => exact absurd rfl hne
   | cons p r => rfl
  have hc2 : ¬ ((eOf 0 l).isEmpty \/ kl R.least (fk (eOf 0 l)) = false) := by rw [hem, hfk]; simp
  refine ⟨(R.add s (true, eOf 0 l)).rise (lk (eOf 0 l)), ?_, ⟨fun x => ?_, rfl, ?_⟩⟩
  ·rw [qDc, if_neg hc1, hdd]; simp only; rw [if_neg hc2]; simp only [if_true]; congr 2
   exact List.length_map ..
  ·show fset R.nodes s (some (true, eOf 0 l)) x = _; unfold secs; by_cases hx : x = s
   ·subst hx; rw [qAq, if_pos (List.mem_singleton.2 rfl), hl]
   ·rw [qAd _ _ hx, if_neg (by simpa using hx)]
  ·exact qRr hne _
 | h + 1, d + 1, s, l0, R, hlt, hS, hd, hnd, hR, hfl, hab => by
  obtain ⟨l, hl⟩ : ∃ l : List (TE (Tr h)), l = l0 := ⟨l0, rfl⟩; subst hl; obtain ⟨h1, h2, h3⟩ := hR s List.mem_cons_self; have hlk := hS.1.1; have hdd := hd s List.mem_cons_self _ hlk; have hne : l ≠ ([] : List (TE (Tr h))) := fun e => hS.1.2.ne (by rw [e]; rfl)
  have hc1 : ¬ ((R.nodes s).isSome \/ s < 1 \/ next <= s) := by rw [h1]; simp; omega
  have hall : ∀ e ∈ l, Sd look m h e.spot e.sub /\ fkey h e.sub = some e.key := fun e he => ⟨(hS.2 e he).1, (hS.2 e he).2.1⟩
  have hflat : qAy (qAf l) := hfl; have habs : qQp R.least (qAf l) := hab; have hsec : (s :: qAi l).Nodup := hnd; obtain ⟨hs0, hnd2⟩ := List.nodup_cons.1 hsec; have hem : (eOf (h + 1) l).isEmpty = false := by
   cases l with
   | nil => exact absurd rfl hne
   | cons p r => rfl
  have hfk : kl R.least (fk (eOf (h + 1) l)) = true := by
   cases l with
   | nil => exact absurd rfl hne
   | cons e r =>
    obtain ⟨k, v, q, e1, e2⟩ := qFr h e.sub (qLr (hall e List.mem_cons_self).1); rw [(hall e List.mem_cons_self).2] at e1; cases e1
    refine habs (e.key, v) ?_; unfold qAf; exact List.mem_flatMap.2 ⟨e, List.mem_cons_self, by rw [e2]; exact List.mem_cons_self⟩
  have hc2 : ¬ ((eOf (h + 1) l).isEmpty \/ kl R.least (fk (eOf (h + 1) l)) = false) := by rw [hem, hfk]; simp
  have aux : ∀ (r : List (TE (Tr h))) (R1 : RS) (all : Nat) (first : Int), (∀ e ∈ r, e ∈ l) -> (qAi r).Nodup -> (∀ x ∈ qAi r, R1.nodes x = none) -> qAy (qAf r) -> qQp R1.least (qAf r) →
    ((∃ n, R1.nodes first = some n /\ n.1 = lf h) /\ first ∉ qAi r \/ ∃ e r', r = e :: r' /\ e.spot = first) →
    ∃ R', qHs (qDc rd next d) first (r.map eE) R1 all = some (R', all + (qAf r).length) /\ qNp look R1 R' (qAi r) (qAf r) := by
   intro r; induction r with
   | nil =>
    intro R1 all first _ _ _ _ _ _; exact ⟨R1, rfl, qNp.nil look R1⟩
   | cons e r ih =>
    intro R1 all first hin hnd3 hn1 hf1 ha1 hfirst; have hel := hin e List.mem_cons_self; obtain ⟨s1, s2⟩ := hall e hel; have hfe : qAf (e :: r) = flat h e.sub ++ qAf r := by unfold qAf; rw [List.flatMap_cons]
    rw [hfe] at hf1 ha1; rw [qBi] at hnd3 hn1; obtain ⟨n1, n2, n3⟩ := List.nodup_append.1 hnd3; obtain ⟨a1, a2, a3⟩ := qBv.1 hf1.asc; have hsub : ∀ x ∈ secs h e.spot e.sub, x ∈ secs (h + 1) s l := fun x hx => by
     show x ∈ s :: qAi l; unfold qAi; exact List.mem_cons_of_mem _ (List.mem_flatMap.2 ⟨e, hel, hx⟩)
    obtain ⟨R2, k1, k2⟩ := qUu hnx h d e.spot e.sub R1 (by omega) s1 (fun x hx => hd x (hsub x hx)) n1 (fun x hx => ⟨hn1 x (List.mem_append_left _ hx), (hR x (hsub x hx)).2⟩) (hf1.sub (List.sublist_append_left _ _)) (fun p hp => ha1 p (List.mem_append_left _ hp))
    have hself : e.spot ∈ secs h e.spot e.sub := by rw [qCx]; exact List.mem_cons_self
    have hnode : R2.nodes e.spot = some (lf h, eOf h e.sub) := by rw [k2.nodes, if_pos hself]; exact (qXe s1).1
    have hfne : flat h e.sub ≠ [] := by
     obtain ⟨k, v, q, _, e2⟩ := qFr h e.sub (qLr s1); rw [e2]; exact List.cons_ne_nil _ _
    have hkey : fkN (R2.nodes e.spot) = e.key := by
     rw [hnode]; have hk := jHt s1; rw [s2] at hk; exact (Option.some.inj hk).symm
    have hnext : (∃ n, R2.nodes first = some n /\ n.1 = lf h) /\ first ∉ qAi r := by
     rcases hfirst with ⟨⟨n, q1, q2⟩, q3⟩ | ⟨e', r', q1, q2⟩
     ·rw [qBi] at q3; exact ⟨⟨n, by rw [k2.nodes, if_neg (fun hh => q3 (List.mem_append_left _ hh))]; exact q1, q2⟩, fun hh => q3 (List.mem_append_right _ hh)⟩
     ·cases q1
      rw [<- q2]; exact ⟨⟨_, hnode, rfl⟩, fun hh => n3 _ hself _ hh rfl⟩
    have hleaf : qId (R2.nodes e.spot) = qId (R2.nodes first) := by
     obtain ⟨⟨n, q1, q2⟩, _⟩ := hnext; rw [hnode, q1]; exact q2.symm
    have hab2 : qQp R2.least (qAf r) := fun p hp => by
     rw [k2.least]; obtain ⟨q, q1, q2⟩ := jAf hfne R1.least; rw [q2]; exact a3 q q1 p hp
    obtain ⟨R3, j1, j2⟩ := ih R2 (all + (flat h e.sub).length) first (fun x hx => hin x (List.mem_cons_of_mem _ hx)) n2 (fun x hx => by
     rw [k2.nodes, if_neg (fun hh => n3 x hh x hx rfl)]
     exact hn1 x (List.mem_append_right _ hx)) (hf1.sub (List.sublist_append_right _ _)) hab2 (.inl hnext)
    refine ⟨R3, ?_, ?_⟩
    ·show (qDc rd next d e.spot R1).bind _ = _; rw [k1]; show (if fkN (R2.nodes e.spot) = e.key /\ qId (R2.nodes e.spot) = qId (R2.nodes first) then _ else _) = _
     rw [if_pos ⟨hkey, hleaf⟩, j1, hfe, List.length_append, Nat.add_assoc]
    ·rw [hfe, qBi]; exact k2.trans j2
  have hes : eOf (h + 1) l = l.map eE := rfl; obtain ⟨R', k1, k2⟩ := aux l (R.add s (false, eOf (h + 1) l)) 0 (fkid (eOf (h + 1) l)) (fun e he => he) hnd2 (fun x hx => by
   show fset R.nodes s _ x = none; rw [qAd _ _ (fun e => hs0 (by rw [<- e]; exact hx))]
   exact (hR x (List.mem_cons_of_mem _ hx)).1) hflat habs (.inr (by
    cases l with
    | nil => exact absurd rfl hne
    | cons e r => exact ⟨e, r, rfl, rfl⟩))
  refine ⟨R', ?_, ?_⟩
  ·rw [qDc, if_neg hc1, hdd]; simp only; rw [if_neg hc2]; simp only [Bool.false_eq_true, if_false]; rw [hes, <- hes]; rw [Nat.zero_add] at k1; exact k1
  ·have hadd : qNp look R (R.add s (false, eOf (h + 1) l)) [s] [] := ⟨fun x => by
    show fset R.nodes s _ x = _; by_cases hx : x = s
    ·subst hx; rw [qAq, if_pos (List.mem_singleton.2 rfl)]; exact hlk.symm
    ·rw [qAd _ _ hx, if_neg (by simpa using hx)], rfl, rfl⟩
   exact hadd.trans k2
theorem qFu {link : Int -> Option Int} : ∀ {l : List Int} {s : Int}, qKn link s l -> (s = 0 /\ l = []) \/ (s ∈ l /\ s ≠ 0)
 | [], _, h => .inl ⟨h, rfl⟩
 | _ :: _, _, h => .inr ⟨by rw [h.1]; exact List.mem_cons_self, by rw [h.1]; exact h.2.1⟩
theorem qPx {rd : Int -> ByteArray} {next : Int} {nodes : Int -> Option NP} {link : Int -> Option Int} (hnx : next <= 16384) : ∀ (F : List Int) (f : Nat) (s : Int) (A : Int -> Option Int) (dom : List Int), F.length <= f -> qKn link s F -> F.Nodup →
  (∀ x ∈ F, A x = none /\ nodes x = none /\ 1 <= x /\ x < next) -> (∀ x ∈ F, ∀ y, link x = some y -> ∃ r, (rd x).data.toList = 70 :: (uvar y.toNat ++ r) /\ AllZ r) →
  ∃ A', qGd rd next nodes f s A dom = some (A', dom ++ F) /\ ∀ x, A' x = if x ∈ F then link x else A x
 | [], f, s, A, dom, _, hc, _, _, _ => by
  have hc : s = 0 := hc; refine ⟨A, ?_, fun x => by rw [if_neg (by simp)]⟩
  rw [hc, qOi, List.append_nil]
 | x :: F, 0, s, A, dom, hf, _, _, _, _ => by simp at hf
 | x :: F, f + 1, s, A, dom, hf, hc, hn, hA, hr => by
  obtain ⟨rfl, h0, y, hy, hc2⟩ := hc; obtain ⟨a1, a2, a3, a4⟩ := hA s List.mem_cons_self; obtain ⟨r, hr1, hr2⟩ := hr s List.mem_cons_self y hy; obtain ⟨n1, n2⟩ := List.nodup_cons.1 hn; have hy0 : 0 <= y /\ y < 16384 := by
   rcases qFu hc2 with ⟨h, _⟩ | ⟨h, _⟩
   ·omega
   ·have := (hA y (List.mem_cons_of_mem _ h)).2.2; omega
  have hnum : qAz (rd s) 70 1 = some [y.toNat] := qMg (l := [y.toNat]) (by rw [hr1]; simp) hr2 (fun z hz => by rw [List.mem_singleton] at hz; omega)
  have hyy : ((y.toNat : Nat) : Int) = y := by omega
  obtain ⟨A', k1, k2⟩ := qPx hnx F f y (fset A s (some y)) (dom ++ [s]) (by simpa using hf) hc2 n2 (fun z hz => by
   have hzs : z ≠ s := fun e => n1 (by rw [<- e]; exact hz)
   rw [qAd _ _ hzs]; exact hA z (List.mem_cons_of_mem _ hz)) (fun z hz => hr z (List.mem_cons_of_mem _ hz))
  refine ⟨A', ?_, fun z => ?_⟩
  ·rw [qGd, if_neg h0]; simp only [hnum]; rw [hyy, if_neg (by rw [a1, a2]; simp; omega), k1, List.append_assoc]
   rfl
  ·rw [k2]; by_cases hz : z ∈ F
   ·rw [if_pos hz, if_pos (List.mem_cons_of_mem _ hz)]
   ·rw [if_neg hz]; by_cases hzs : z = s
    ·subst hzs; rw [qAq, if_pos List.mem_cons_self, hy]
    ·rw [qAd _ _ hzs, if_neg (fun hh => (List.mem_cons.1 hh).elim hzs hz)]
theorem qEc : ∀ {l : List Int}, (∀ x, l.count x <= 1) -> l.Nodup
 | [], _ => List.nodup_nil
 | a :: l, h => by
  refine List.nodup_cons.2 ⟨fun hm => ?_, qEc (fun x => ?_)⟩
  ·have h1 := h a; rw [List.count_cons_self] at h1; have := List.count_pos_iff.2 hm; omega
  ·have h1 := h x; rw [List.count_cons] at h1; omega
theorem TM.ext' {T T' : TM} (h1 : T.root = T'.root) (h2 : T.next = T'.next) (h3 : T.free = T'.free) (h4 : T.count = T'.count) (h5 : T.nodes = T'.nodes) (h6 : T.after = T'.after) : T = T' := by
 cases T
 cases T'
 simp only at h1 h2 h3 h4 h5 h6; subst h1 h2 h3 h4 h5 h6; rfl
theorem jEm {rd : Int -> ByteArray} {T : TM} {m : Nat} {l : List KV} {H N : Nat} (hT : TI T m l H N) (hH : H < 16) (hnx : T.next <= 16384) (hs : jJv rd T) (hsz : ∀ x, (rd x).size <= 1024) : qIc rd T.root T.next T.free T.count = some T := by
 obtain ⟨h1, h2, h3⟩ := hT; have hlook : T.begin.look T = T.nodes := rfl; have hlink : T.begin.link T = T.after := rfl; have hcount : T.count = l.length := h2; rcases h3 with ⟨h4, rfl, rfl, F, hA⟩ | ⟨h, t, F, hR, hN⟩
 ·have h4 : T.root = 0 := h4; have hnd : F.Nodup := qEc (fun x => by have := hA.cnt x; split at this <;> omega)
  have hlen := hA.len; have hnb : T.begin.next = T.next := rfl; rw [hnb] at hlen; simp only [List.length_nil] at hlen; obtain ⟨A', k1, k2⟩ := qPx (rd := rd) (next := T.next) (nodes := fun _ => none) (link := T.after) hnx F 20000 T.free (fun _ => none) [] (by omega) (by rw [<- hlink]; exact hA.chain) hnd (fun x hx => ⟨rfl, rfl, hA.spot (.inr (.inl hx))⟩) (fun x _ y hy => hs.after x y hy)
  unfold qIc; rw [if_neg (fun h => h h4)]
  simp only [Option.bind_some]; rw [k1]; simp only [Option.bind_some, List.nil_append, List.length_nil]; rw [if_pos ⟨by omega, fun h => h.2 (by rw [hcount]; rfl)⟩]
  refine congrArg some (TM.ext' rfl rfl rfl rfl (funext fun x => ?_) (funext fun x => ?_))
  ·show none = T.nodes x; by_cases hx : x ∈ F
   ·exact ((hA.free x hx).2 rfl).2.symm
   ·have hc := hA.cnt x; rw [List.count_eq_zero.2 hx] at hc; have hout : ¬ (1 <= x /\ x < T.begin.next) := fun h => by rw [if_pos h] at hc; simp at hc
    exact (hA.out x hout).2.2.2.1.symm
  ·show A' x = T.after x; rw [k2]; by_cases hx : x ∈ F
   ·rw [if_pos hx]
   ·rw [if_neg hx]; have hc := hA.cnt x; rw [List.count_eq_zero.2 hx] at hc; have hout : ¬ (1 <= x /\ x < T.begin.next) := fun h => by rw [if_pos h] at hc; simp at hc
    exact (hA.out x hout).2.2.2.2.symm
 ·have hA := hR.acc; have hnz : T.root ≠ 0 := hR.nz; have hnds : (secs h T.root t ++ F).Nodup := qEc (fun x => by
   have := hA.cnt x; rw [List.count_append]; have e : T.begin.root = T.root := rfl; rw [e] at this; split at this <;> omega)
  obtain ⟨nd1, nd2, nd3⟩ := List.nodup_append.1 hnds; have hlen := hA.len; have hnb : T.begin.next = T.next := rfl; have hrb : T.begin.root = T.root := rfl; rw [hnb, hrb] at hlen; simp only [List.length_nil] at hlen; have hsd : Sd T.nodes m h T.root t := hR.sd; have hfl : flat h t = l := hR.fl; have hin : ∀ x ∈ secs h T.root t, 1 <= x /\ x < T.next := fun x hx => hA.spot (.inl hx)
  have hkids : ∀ (x : Int) (n : NP), T.nodes x = some n -> x ∈ secs h T.root t -> qAu n.1 n.2 /\ (n.1 = false -> ∀ e ∈ n.2, e.kid < 16384) := by
   have aux : ∀ (g : Nat) (s : Int) (u : Tr g), Sd T.nodes m g s u -> (∀ x ∈ secs g s u, 1 <= x /\ x < T.next) -> ∀ x ∈ secs g s u, ∀ n, T.nodes x = some n -> qAu n.1 n.2 /\ (n.1 = false -> ∀ e ∈ n.2, e.kid < 16384) := by
    intro g; induction g with
    | zero =>
     intro s u hu _ x hx n hn; have hx : x ∈ [s] := hx; rw [List.mem_singleton] at hx; subst hx; rw [hu.1] at hn; cases hn
     exact ⟨hu.2, fun h => by cases h⟩
    | succ g ih =>
     intro s u hu hb x hx n hn; have hx : x ∈ s :: qAi u := hx; rcases List.mem_cons.1 hx with hx | hx
     ·subst hx; rw [hu.1.1] at hn; cases hn
      refine ⟨hu.1.2, fun _ e he => ?_⟩
      have he : e ∈ List.map eE u := he; obtain ⟨y, hy, rfl⟩ := List.mem_map.1 he; have := hb y.spot (by
       show y.spot ∈ x :: qAi u; unfold qAi; exact List.mem_cons_of_mem _ (List.mem_flatMap.2 ⟨y, hy, by rw [qCx]; exact List.mem_cons_self⟩))
      show y.spot < 16384; omega
     ·unfold qAi at hx; obtain ⟨y, hy, hx⟩ := List.mem_flatMap.1 hx; refine ih y.spot y.sub (hu.2 y hy).1 (fun z hz => hb z ?_) x hx n hn
      show z ∈ s :: qAi u; unfold qAi; exact List.mem_cons_of_mem _ (List.mem_flatMap.2 ⟨y, hy, hz⟩)
   exact fun x n hn hx => aux h T.root t hsd hin x hx n hn
  obtain ⟨R', r1, r2⟩ := qUu (look := T.nodes) (rd := rd) (next := T.next) (m := m) hnx h 16 T.root t ⟨fun _ => none, [], emp⟩ (by have := hR.le; omega) hsd (fun x hx n hn => by
   obtain ⟨g1, g2⟩ := hkids x n hn hx; obtain ⟨r, q1, q2⟩ := hs.nodes x n hn; exact jBp g1 g2 q1 (by have := hsz x; unfold qEg; omega) q2) nd1 (fun x hx => ⟨rfl, hin x hx⟩) (by rw [hfl]; exact h1) (fun p hp => by
    have := (h1.ok p (by rw [<- hfl]; exact hp)).1.1
    show Op.bytesLess emp.toList p.1.toList = true; cases hq : p.1.toList with
    | nil => exact absurd hq this
    | cons b r =>
     have e0 : emp.toList = [] := ByteArray.toList_eq _; rw [e0]; rfl)
  have hRn : ∀ x, R'.nodes x = T.nodes x := fun x => by
   rw [r2.nodes]; by_cases hx : x ∈ secs h T.root t
   ·rw [if_pos hx]
   ·rw [if_neg hx]; show none = T.nodes x; by_cases hxF : x ∈ F
    ·exact ((hA.free x hxF).2 rfl).2.symm
    ·have hc := hA.cnt x; rw [hrb, List.count_eq_zero.2 hx, List.count_eq_zero.2 hxF] at hc; have hout : ¬ (1 <= x /\ x < T.begin.next) := fun h => by rw [if_pos h] at hc; simp at hc
     exact (hA.out x hout).2.2.2.1.symm
  obtain ⟨A', k1, k2⟩ := qPx (rd := rd) (next := T.next) (nodes := R'.nodes) (link := T.after) hnx F 20000 T.free (fun _ => none) [] (by omega) (by rw [<- hlink]; exact hA.chain) nd2 (fun x hx => ⟨rfl, by rw [hRn]; exact ((hA.free x hx).2 rfl).2, hA.spot (.inr (.inl hx))⟩) (fun x _ y hy => hs.after x y hy)
  unfold qIc; rw [if_pos hnz, r1]; simp only [Option.bind_some]; rw [if_pos (by rw [hfl, hcount])]
  simp only [Option.bind_some]; rw [k1]; simp only [Option.bind_some, List.nil_append]; have hd : R'.dom = secs h T.root t := r2.dom; rw [hd, if_pos ⟨by omega, fun h => hnz h.1⟩]
  refine congrArg some (TM.ext' rfl rfl rfl rfl (funext hRn) (funext fun x => ?_))
  show A' x = T.after x; rw [k2]; by_cases hx : x ∈ F
  ·rw [if_pos hx]
  ·rw [if_neg hx]; show none = T.after x; by_cases hxs : x ∈ secs h T.root t
   ·exact ((hA.used x (.inl hxs)).2 rfl).2.symm
   ·have hc := hA.cnt x; rw [hrb, List.count_eq_zero.2 hx, List.count_eq_zero.2 hxs] at hc; have hout : ¬ (1 <= x /\ x < T.begin.next) := fun h => by rw [if_pos h] at hc; simp at hc
    exact (hA.out x hout).2.2.2.2.symm
end
section
open Go Go.RowKit
theorem qNy {len : Nat} {s : ByteArray} : ∀ (c a : Nat) (out l : List Nat), qHr len s c a out = some l -> out.Nodup -> (∀ n ∈ out, n < len) -> l.Nodup /\ ∀ n ∈ l, n < len
 | 0, a, out, l => fun h h1 h2 => by
  by_cases hz : AllZ (s.data.toList.drop a)
  ·rw [qHj hz] at h; cases h; exact ⟨h1, h2⟩
  ·rw [qMe hz] at h; cases h
 | c + 1, a, out, l => fun h h1 h2 => by
  by_cases hc : (rdU 0 (s.data.toList.drop a)).e = 0 /\ (rdU 0 (s.data.toList.drop a)).v < len /\ (rdU 0 (s.data.toList.drop a)).v ∉ out
  ·rw [qKa hc.1 hc.2.1 hc.2.2] at h; refine qNy c _ _ l h ?_ ?_
   ·rw [List.nodup_append]; exact ⟨h1, by simp, fun a ha b hb e => by simp at hb; subst hb; subst e; exact hc.2.2 ha⟩
   ·intro n hn; rcases List.mem_append.1 hn with h | h
    ·exact h2 n h
    ·simp at h; rw [h]; exact hc.2.1
  ·rw [qMf hc] at h; cases h
theorem qRn {room len : Nat} {s : ByteArray} {l : List Nat} (h : numF room len s = some l) : l.length <= room /\ l.Nodup /\ ∀ n ∈ l, n < len := by
 refine ⟨qVk h, ?_⟩; unfold numF at h; split at h
 ·exact qNy _ _ _ _ h List.nodup_nil (fun n hn => by cases hn)
 ·cases h
theorem jHc {D : Dsk} (h : D.off = false) (i : Nat) (hi : i < D.secs.length) : qDa D (i : Int) = (sec D i, 0) := by
 have : qBc D i = 0 := by unfold qBc; rw [h]; simp; omega
 rw [qLe, if_neg (by simp [this])]
 rfl
def upc (c : Nat -> ByteArray) (cs : List Chg) (q : Nat) : ByteArray := match cs.find? (fun x => x.pos.toNat == q) with
 | some x => pad x.data
 | none => c q
theorem qUh {c : Nat -> ByteArray} {cs : List Chg} {q : Nat} (h : q ∉ places cs) : upc c cs q = c q := by
 unfold upc; rw [List.find?_eq_none.2 (fun x hx => by
  intro he; exact h (List.mem_map.2 ⟨x, hx, by simpa using he⟩))]
theorem qOy {c : Nat -> ByteArray} : ∀ {cs : List Chg} {m : Nat} {x : Chg}, (places cs).Nodup -> cs[m]? = some x -> upc c cs x.pos.toNat = pad x.data
 | [], m, x => fun _ h => by simp at h
 | y :: r, m, x => fun hd h => by
  have hd2 : (y.pos.toNat :: places r).Nodup := hd; cases m with
  | zero =>
   simp only [List.getElem?_cons_zero, Option.some.injEq] at h; subst h; unfold upc; rw [List.find?_cons]; simp
  | succ m =>
   simp only [List.getElem?_cons_succ] at h; have hne : y.pos.toNat ≠ x.pos.toNat := fun e => (List.nodup_cons.1 hd2).1 (by rw [e]; exact List.mem_map.2 ⟨x, List.mem_of_getElem? h, rfl⟩)
   have ih := qOy (c := c) (List.nodup_cons.1 hd2).2 h; unfold upc at *; rw [List.find?_cons]; have hb : (y.pos.toNat == x.pos.toNat) = false := by rw [beq_eq_false_iff_ne]; exact hne
   rw [hb]; exact ih
end
end Go.Proofs.YtgbcibdfeeiilaaGreatDoor
