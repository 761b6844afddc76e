/- merged: TrS TrX TuD -/
import Derived.Test.YtgbcibdfeeiilaaGreatDoorMe16
import Derived.Test.YtgbcibdfeeiilaaGreatDoorMe15
import Derived.Test.YtgbcibdfeeiilaaGreatDoorMe14
namespace Go.Proofs.YtgbcibdfeeiilaaGreatDoor
section
open Go Go.RowKit
def stL (root next free count : Int) : List UInt8 := 84 :: [root.toNat, next.toNat, free.toNat, count.toNat].flatMap uvar
def stB (W : WM) : ByteArray := ba (stL W.root W.next W.free W.count)
def frB (y : Int) : ByteArray := ba (70 :: uvar y.toNat)
noncomputable def ndB (n : NP) : ByteArray := if qDi (cn n.1 n.2) then ba (qAg n.1 n.2) else ⟨#[]⟩
noncomputable def qDu (W : WM) (x : Int) : Option ByteArray := if x = 0 then some (stB W) else match W.nodes x with | some n => some (ndB n) | none => (W.after x).map frB
structure Laid (W : WM) (cs : List Chg) (ln : List (Int × NP)) (la : List (Int × Int)) : Prop where
 n1 : (ln.map (·.1)).Nodup
 n2 : ∀ x n, (x, n) ∈ ln ↔ W.nodes x = some n
 a1 : (la.map (·.1)).Nodup
 a2 : ∀ x y, (x, y) ∈ la ↔ W.after x = some y
 perm : cs.Perm (ln.map (fun p => ⟨p.1, ndB p.2⟩) ++ (la.map (fun p => ⟨p.1, frB p.2⟩) ++ [⟨0, stB W⟩]))
 sort : cs.Pairwise (fun a b => a.pos <= b.pos)
structure qHy (W : WM) (cs : List Chg) : Prop where
 mem : ∀ c : Chg, c ∈ cs ↔ qDu W c.pos = some c.data
 nodup : (cs.map (·.pos)).Nodup
theorem qTs {α : Type} {l : List (Int × α)} {x : Int} (h : x ∈ l.map (·.1)) : ∃ y, (x, y) ∈ l := by
 obtain ⟨p, hp, rfl⟩ := List.mem_map.1 h; exact ⟨p.2, hp⟩
theorem qEv {T : TM} {W : WM} {U F : List Int} {cs : List Chg} {ln : List (Int × NP)} {la : List (Int × Int)} (hA : Acc T W U [] F) (h : Laid W cs ln la) : qHy W cs := by
 have h0 : W.nodes 0 = none /\ W.after 0 = none := by
  have := hA.out 0 (by omega)
  exact ⟨this.1, this.2.1⟩
 have hx : ∀ x n, W.nodes x = some n -> W.after x = none := fun x n hn => by
  by_cases hu : x ∈ U
  ·exact (hA.used x (.inl hu)).1
  ·by_cases hf : x ∈ F
   ·have := (hA.free x hf).1; rw [hn] at this; cases this
   ·have hc := hA.cnt x; rw [List.count_eq_zero.2 hu, List.count_eq_zero.2 hf] at hc; have hout : ¬ (1 <= x /\ x < W.next) := fun h => by rw [if_pos h] at hc; simp at hc
    exact (hA.out x hout).2.1
 constructor
 ·intro c; obtain ⟨x, d⟩ := c; rw [h.perm.mem_iff, List.mem_append, List.mem_append]; show _ ↔ qDu W x = some d; unfold qDu; constructor
  ·rintro (hm | hm | hm)
   ·obtain ⟨p, hp, he⟩ := List.mem_map.1 hm; cases he
    have hn := (h.n2 p.1 p.2).1 hp; have hz : p.1 ≠ 0 := fun e => by rw [e, h0.1] at hn; cases hn
    rw [if_neg hz, hn]
   ·obtain ⟨p, hp, he⟩ := List.mem_map.1 hm; cases he
    have ha := (h.a2 p.1 p.2).1 hp; have hz : p.1 ≠ 0 := fun e => by rw [e, h0.2] at ha; cases ha
    rw [if_neg hz]; cases hn : W.nodes p.1 with
    | some n => rw [hx _ _ hn] at ha; cases ha
    | none => simp only; rw [ha]; rfl
   ·rw [List.mem_singleton] at hm; cases hm
    rw [if_pos rfl]
  ·intro hd; by_cases hz : x = 0
   ·rw [if_pos hz] at hd; cases hd
    exact .inr (.inr (by rw [hz]; exact List.mem_singleton.2 rfl))
   ·rw [if_neg hz] at hd; cases hn : W.nodes x with
    | some n =>
     rw [hn] at hd; cases hd
     exact .inl (List.mem_map.2 ⟨(x, n), (h.n2 x n).2 hn, rfl⟩)
    | none =>
     rw [hn] at hd; obtain ⟨y, hy, rfl⟩ := Option.map_eq_some_iff.1 hd; exact .inr (.inl (List.mem_map.2 ⟨(x, y), (h.a2 x y).2 hy, rfl⟩))
 ·have hp := h.perm.map (·.pos); refine hp.nodup_iff.2 ?_; rw [List.map_append, List.map_append, List.map_map, List.map_map]; show ((ln.map (fun p : Int × NP => p.1)) ++ ((la.map (fun p : Int × Int => p.1)) ++ [0])).Nodup
  refine List.nodup_append.2 ⟨h.n1, List.nodup_append.2 ⟨h.a1, by simp, fun a ha b hb e => ?_⟩, fun a ha b hb e => ?_⟩
  ·rw [List.mem_singleton] at hb; obtain ⟨y, hy⟩ := qTs ha; have := (h.a2 _ _).1 hy; rw [e, hb, h0.2] at this; cases this
  ·subst e; obtain ⟨n, hn⟩ := qTs ha; have hn := (h.n2 _ _).1 hn; rcases List.mem_append.1 hb with hb | hb
   ·obtain ⟨y, hy⟩ := qTs hb; have := (h.a2 _ _).1 hy; rw [hx _ _ hn] at this; cases this
   ·rw [List.mem_singleton] at hb; rw [hb, h0.1] at hn; cases hn
theorem qVn {W : WM} {cs : List Chg} {ln : List (Int × NP)} {la : List (Int × Int)} (h : Laid W cs ln la) : cs.length = ln.length + la.length + 1 := by
 rw [h.perm.length_eq]; simp
 omega
theorem qEs : ∀ {l m : List Int}, l.Nodup -> (∀ x ∈ l, x ∈ m) -> l.length <= m.length
 | [], _, _, _ => Nat.zero_le _
 | a :: l, m, hn, hs => by
  obtain ⟨h1, h2⟩ := List.nodup_cons.1 hn; have ha := hs a List.mem_cons_self; have ih := qEs (m := m.erase a) h2 (fun x hx => (List.mem_erase_of_ne (fun e => h1 (by rw [<- e]; exact hx))).2 (hs x (List.mem_cons_of_mem _ hx)))
  have hp := List.length_pos_of_mem ha; rw [List.length_erase_of_mem ha] at ih; rw [List.length_cons]; omega
theorem qOa {W : WM} {cs : List Chg} {X : List Int} (h : qHy W cs) (hX : ∀ y, qNg W y -> y ∈ X) : cs.length <= X.length + 1 := by
 have h1 : (cs.map (·.pos)).length <= (0 :: X).length := by
  refine qEs h.nodup (fun x hx => ?_)
  obtain ⟨c, hc, rfl⟩ := List.mem_map.1 hx; have hd := (h.mem c).1 hc; unfold qDu at hd; by_cases hz : c.pos = 0
  ·rw [hz]; exact List.mem_cons_self
  ·rw [if_neg hz] at hd; refine List.mem_cons_of_mem _ (hX _ ?_); cases hn : W.nodes c.pos with
   | some n => exact .inl (by rw [hn]; exact fun e => by cases e)
   | none =>
    rw [hn] at hd; obtain ⟨y, hy, _⟩ := Option.map_eq_some_iff.1 hd; exact .inr (by rw [hy]; exact fun e => by cases e)
 rw [List.length_map, List.length_cons] at h1; exact h1
theorem qOn {len : Nat} : ∀ (cs : List Chg) (met : List Nat), (∀ c ∈ cs, 0 <= c.pos /\ c.pos < len /\ c.data.size <= 1024) -> (places cs).Nodup -> (∀ c ∈ cs, c.pos.toNat ∉ met) -> qCm len met cs = 0
 | [], _, _, _, _ => rfl
 | c :: r, met, h, hn, hm => by
  obtain ⟨h1, h2, h3⟩ := h c List.mem_cons_self; have hn : (c.pos.toNat :: places r).Nodup := hn; obtain ⟨n1, n2⟩ := List.nodup_cons.1 hn; rw [qCm, if_neg (by omega), if_neg (by omega), if_neg (hm c List.mem_cons_self)]
  refine qOn r _ (fun x hx => h x (List.mem_cons_of_mem _ hx)) n2 (fun x hx hh => ?_)
  rcases List.mem_append.1 hh with hh | hh
  ·exact hm x (List.mem_cons_of_mem _ hx) hh
  ·rw [List.mem_singleton] at hh; exact n1 (by rw [<- hh]; exact List.mem_map.2 ⟨x, hx, rfl⟩)
def rdOf (c : Nat -> ByteArray) (x : Int) : ByteArray := c x.toNat
structure DT (L : Nat) (c : Nat -> ByteArray) (T : TM) : Prop where
 size : ∀ q, q < L -> (c q).size <= 1024
 nodes : ∀ x n, T.nodes x = some n -> ∃ r, (rdOf c x).data.toList = qAg n.1 n.2 ++ r /\ AllZ r
 after : ∀ x y, T.after x = some y -> ∃ r, (rdOf c x).data.toList = 70 :: (uvar y.toNat ++ r) /\ AllZ r
 state : (T = newT /\ AllZ (c 0).data.toList) \/ ∃ r, (c 0).data.toList = stL T.root T.next T.free T.count ++ r /\ AllZ r
open Classical in
noncomputable def qLa (c : Nat -> ByteArray) (L : Nat) : Option TM :=
 if AllZ (c 0).data.toList then some newT else
 match qAz (c 0) 84 4 with
 | some [a, b, d, e] => if 1 <= b /\ b <= L then qIc (rdOf c) a b d e else none
 | _ => none
theorem qEf {n : Nat} (h : n <= 16777216) : (uvar n).length <= 4 := qIo 3 n (by omega)
theorem jGx {a b c d : Int} (ha : a <= 16777216) (hb : b <= 16777216) (hc : c <= 16777216) (hd : d <= 16777216) : (stL a b c d).length <= 17 := by
 have h1 := qEf (n := a.toNat) (by omega)
 have h2 := qEf (n := b.toNat) (by omega)
 have h3 := qEf (n := c.toNat) (by omega)
 have h4 := qEf (n := d.toNat) (by omega)
 unfold stL; simp
 omega
theorem qPy {look : Int -> Option NP} {m : Nat} : ∀ {h : Nat} {s : Int} {t : Tr h}, Sd look m h s t -> (flat h t).length <= 511 * (secs h s t).length
 | 0, s, l, k => by
  have h1 := k.2.len; have h2 : (eOf 0 l).length = List.length (α := KV) l := List.length_map ..; show List.length (α := KV) l <= 511 * 1; omega
 | h + 1, s, l, k => by
  have aux : ∀ r : List (TE (Tr h)), (∀ e ∈ r, Sd look m h e.spot e.sub) -> (qAf r).length <= 511 * (qAi r).length := by
   intro r; induction r with
   | nil => intro _; exact Nat.zero_le _
   | cons e r ih =>
    intro hr; have h1 := qPy (hr e List.mem_cons_self); have h2 := ih (fun x hx => hr x (List.mem_cons_of_mem _ hx))
    have h3 : qAf (e :: r) = flat h e.sub ++ qAf r := by unfold qAf; rw [List.flatMap_cons]
    rw [h3, qBi, List.length_append, List.length_append]; omega
  have h1 := aux l (fun e he => (k.2 e he).1)
  show (qAf l).length <= 511 * (s :: qAi l).length; rw [List.length_cons]; omega
theorem TI.nums {T : TM} {m : Nat} {l : List KV} {H N : Nat} (h : TI T m l H N) (hn : T.next <= 16384) : 0 <= T.root /\ T.root <= 16384 /\ 1 <= T.next /\ 0 <= T.free /\ T.free <= 16384 /\ 0 <= T.count /\ T.count <= 16777216 := by
 obtain ⟨h1, h2, h3⟩ := h; have h2 : T.count = l.length := h2; rcases h3 with ⟨h4, rfl, _, F, hA⟩ | ⟨ht, t, F, hR, hN⟩
 ·have h4 : T.root = 0 := h4; have hp : 1 <= T.next := hA.pos; have hF : T.free = 0 \/ (1 <= T.free /\ T.free < T.next) := by
   have hc : qKn _ T.free F := hA.chain; rcases qFu hc with ⟨h, _⟩ | ⟨h, _⟩
   ·exact .inl h
   ·exact .inr (hA.spot (.inr (.inl h)))
  have : ([] : List KV).length = 0 := rfl; rw [this] at h2; omega
 ·have hA := hR.acc; have hp : 1 <= T.next := hA.pos; have hr : 1 <= T.root /\ T.root < T.next := hA.spot (.inl (by rw [qCx]; exact List.mem_cons_self))
  have hF : T.free = 0 \/ (1 <= T.free /\ T.free < T.next) := by
   have hc : qKn _ T.free F := hA.chain; rcases qFu hc with ⟨h, _⟩ | ⟨h, _⟩
   ·exact .inl h
   ·exact .inr (hA.spot (.inr (.inl h)))
  have hl := hA.len; have hb : T.begin.next = T.next := rfl; rw [hb] at hl; have hf := qPy hR.sd; rw [hR.fl] at hf; simp only [List.length_nil] at hl; omega
theorem qTd {L : Nat} {c : Nat -> ByteArray} {T : TM} {m : Nat} {l : List KV} {H N : Nat} (hT : TI T m l H N) (hH : H < 16) (hL : T.next <= (L : Int)) (hL2 : L <= 16384) (h : DT L c T) (hsz : ∀ x, (c x).size <= 1024) : qLa c L = some T := by
 obtain ⟨n1, n2, n3, n4, n5, n6, n7⟩ := hT.nums (by omega)
 unfold qLa; rcases h.state with ⟨rfl, hz⟩ | ⟨r, hr1, hr2⟩
 ·rw [if_pos hz]
 ·have hnz : ¬ AllZ (c 0).data.toList := fun hz => by
   have := hz 84 (by rw [hr1]; exact List.mem_append_left _ List.mem_cons_self)
   exact absurd this (by decide)
  have hnum : qAz (c 0) 84 4 = some [T.root.toNat, T.next.toNat, T.free.toNat, T.count.toNat] := qMg (l := [T.root.toNat, T.next.toNat, T.free.toNat, T.count.toNat]) (r := r) (by rw [hr1]; rfl) hr2 (fun x hx => by
   simp only [List.mem_cons, List.not_mem_nil, or_false] at hx; omega)
  rw [if_neg hnz, hnum]; simp only; rw [if_pos ⟨by omega, by omega⟩]
  have e1 : ((T.root.toNat : Nat) : Int) = T.root := by omega
  have e2 : ((T.next.toNat : Nat) : Int) = T.next := by omega
  have e3 : ((T.free.toNat : Nat) : Int) = T.free := by omega
  have e4 : ((T.count.toNat : Nat) : Int) = T.count := by omega
  rw [e1, e2, e3, e4]; exact jEm hT hH (by omega) ⟨h.nodes, h.after, fun x => hsz _⟩ (fun x => hsz _)
theorem qPg {s : ByteArray} : ∃ r, (pad s).data.toList = s.data.toList ++ r /\ AllZ r := ⟨_, qPh s, qLo _⟩
structure qQo (W : WM) (L : Nat) : Prop where
 next : W.next <= (L : Int)
 le : L <= 16384
 nodes : ∀ x n, W.nodes x = some n -> qDi (cn n.1 n.2) = true /\ qEb n.1 n.2 /\ 1 <= x /\ x < W.next
 after : ∀ x y, W.after x = some y -> 1 <= x /\ x < W.next /\ 0 <= y /\ y <= 16384
 nums : 0 <= W.root /\ W.root <= 16384 /\ 1 <= W.next /\ 0 <= W.free /\ W.free <= 16384 /\ 0 <= W.count /\ W.count <= 16777216
theorem qQo.data {W : WM} {L : Nat} (h : qQo W L) {x : Int} {d : ByteArray} (hd : qDu W x = some d) : 0 <= x /\ x < L /\ d.size <= 1024 := by
 have hn := h.next; have hl := h.le; obtain ⟨n1, n2, n3, n4, n5, n6, n7⟩ := h.nums; unfold qDu at hd; by_cases hz : x = 0
 ·rw [if_pos hz] at hd; cases hd
  refine ⟨by omega, by omega, ?_⟩
  unfold stB; rw [qBd]; have := jGx (a := W.root) (b := W.next) (c := W.free) (d := W.count) (by omega) (by omega) (by omega) (by omega)
  omega
 ·rw [if_neg hz] at hd; cases hn : W.nodes x with
  | some n =>
   rw [hn] at hd; cases hd
   obtain ⟨h1, h2, h3, h4⟩ := h.nodes x n hn; refine ⟨by omega, by omega, ?_⟩
   unfold ndB; rw [if_pos h1, qBd]; have hh : Has (cn n.1 n.2) n.1 n.2 := ⟨rfl, rfl, rfl, rfl⟩; unfold qDi at h1; rw [Bool.and_eq_true, decide_eq_true_eq, hh.ents h2] at h1; exact h1.2
  | none =>
   rw [hn] at hd; obtain ⟨y, hy, rfl⟩ := Option.map_eq_some_iff.1 hd; obtain ⟨h1, h2, h3, h4⟩ := h.after x y hy; refine ⟨by omega, by omega, ?_⟩
   unfold frB; rw [qBd, List.length_cons]; have := qEf (n := y.toNat) (by omega)
   omega
theorem qGp {W : WM} {L : Nat} {cs : List Chg} (hf : qQo W L) (h : qHy W cs) : (places cs).Nodup := by
 have h1 : places cs = (cs.map (·.pos)).map Int.toNat := by unfold places; rw [List.map_map]; rfl
 rw [h1]; refine List.Pairwise.map _ (fun a b hab => hab) ?_
 refine (List.pairwise_iff_getElem.1 h.nodup |> fun hp => List.pairwise_iff_getElem.2 (fun i j hi hj hij he => ?_))
 have h2 := hp i j hi hj hij; rw [List.length_map] at hi hj; rw [List.getElem_map, List.getElem_map] at h2 he; have p1 := (hf.data ((h.mem cs[i]).1 (List.getElem_mem hi))).1; have p2 := (hf.data ((h.mem cs[j]).1 (List.getElem_mem hj))).1; omega
theorem qOb {W : WM} {L : Nat} {cs : List Chg} (hf : qQo W L) (h : qHy W cs) : qCm L [] cs = 0 :=
 qOn cs [] (fun c hc => hf.data ((h.mem c).1 hc)) (qGp hf h) (fun _ _ h => by cases h)
theorem qHf {W : WM} {L : Nat} {cs : List Chg} (hf : qQo W L) (h : qHy W cs) (c : Nat -> ByteArray) {x : Int} (hx : 0 <= x) : rdOf (upc c cs) x = match qDu W x with | some d => pad d | none => rdOf c x := by
 cases hd : qDu W x with
 | some d =>
  have hm := (h.mem ⟨x, d⟩).2 hd; obtain ⟨m, hm⟩ := List.mem_iff_getElem?.1 hm; exact qOy (qGp hf h) hm
 | none =>
  refine qUh (fun hh => ?_)
  obtain ⟨y, hy, he⟩ := List.mem_map.1 hh; have hy2 := (h.mem y).1 hy; have p1 := (hf.data hy2).1; have : y.pos = x := by omega
  rw [this, hd] at hy2; cases hy2
theorem jHx {T : TM} {W : WM} {L : Nat} {cs : List Chg} {c : Nat -> ByteArray} (hT : DT L c T) (hf : qQo W L) (h : qHy W cs) (ho : ∀ x, ¬ 1 <= x -> T.nodes x = none /\ T.after x = none) : DT L (upc c cs) (W.done T) := by
 refine ⟨fun q hq => ?_, fun x n hn => ?_, fun x y hy => ?_, .inr ?_⟩
 ·have := qHf hf h c (x := (q : Int)) (by omega)
  unfold rdOf at this; rw [Int.toNat_natCast] at this; rw [this]; cases hd : qDu W (q : Int) with
  | some d => exact Nat.le_of_eq (qLg (hf.data hd).2.2)
  | none => exact hT.size q hq
 ·
  unfold WM.done at hn; simp only at hn; cases hw : W.nodes x with
  | some n' =>
   rw [hw] at hn; cases hn
   obtain ⟨h1, h2, h3, h4⟩ := hf.nodes x n hw; have hd : qDu W x = some (ba (qAg n.1 n.2)) := by
    unfold qDu; rw [if_neg (by omega), hw]
    show some (ndB n) = _; unfold ndB; rw [if_pos h1]
   rw [qHf hf h c (by omega), hd]
   obtain ⟨r, k1, k2⟩ := qPg (s := ba (qAg n.1 n.2)); exact ⟨r, by rw [k1, qNc], k2⟩
  | none =>
   rw [hw] at hn; simp only at hn; cases ha : W.after x with
   | some y => rw [ha] at hn; simp at hn
   | none =>
    rw [ha] at hn; simp at hn
    have hx : 1 <= x := by
     by_cases hx : 1 <= x
     ·exact hx
     ·rw [(ho x hx).1] at hn; cases hn
    have hd : qDu W x = none := by unfold qDu; rw [if_neg (by omega), hw]; simp only; rw [ha]; rfl
    rw [qHf hf h c (by omega), hd]
    exact hT.nodes x n hn
 ·unfold WM.done at hy; simp only at hy; cases hw : W.nodes x with
  | some n' => rw [hw] at hy; simp at hy
  | none =>
   rw [hw] at hy; simp at hy
   cases ha : W.after x with
   | some z =>
    rw [ha] at hy; simp at hy
    subst hy; obtain ⟨h1, h2, h3, h4⟩ := hf.after x z ha; have hd : qDu W x = some (frB z) := by unfold qDu; rw [if_neg (by omega), hw]; simp only; rw [ha]; rfl
    rw [qHf hf h c (by omega), hd]
    obtain ⟨r, k1, k2⟩ := qPg (s := frB z); refine ⟨r, ?_, k2⟩; rw [k1]; unfold frB; rw [qNc]; rfl
   | none =>
    rw [ha] at hy; simp at hy
    have hx : 1 <= x := by
     by_cases hx : 1 <= x
     ·exact hx
     ·rw [(ho x hx).2] at hy; simp at hy
    have hd : qDu W x = none := by unfold qDu; rw [if_neg (by omega), hw]; simp only; rw [ha]; rfl
    rw [qHf hf h c (by omega), hd]
    exact hT.after x y hy.2
 ·have hd : qDu W 0 = some (stB W) := by unfold qDu; rw [if_pos rfl]
  have := qHf hf h c (x := 0) (by omega)
  rw [hd] at this; obtain ⟨r, k1, k2⟩ := qPg (s := stB W); refine ⟨r, ?_, k2⟩; have e : upc c cs 0 = pad (stB W) := this; rw [e, k1]; unfold stB; rw [qNc]; rfl
theorem WI.fits {T : TM} {W : WM} {m : Nat} {l : List KV} {H N L : Nat} (h : WI T m W l H N) (hn : W.next <= (L : Int)) (hL : L <= 16384) (hg : ∀ x n, W.nodes x = some n -> qAu n.1 n.2) : qQo W L := by
 have hT := (qVv h).nums (by show W.next <= _; omega)
 have aux : ∀ (U F : List Int), Acc T W U [] F -> (∀ x ∈ U, ∀ n, W.nodes x = some n -> n.1 = false -> ∀ e ∈ n.2, e.kid < 16384) -> qQo W L := fun U F hA hk => by
  have hin : ∀ x, (W.nodes x ≠ none \/ W.after x ≠ none) -> 1 <= x /\ x < W.next := fun x hx => by
   by_cases hc : 1 <= x /\ x < W.next
   ·exact hc
   ·have := hA.out x hc; exact hx.elim (fun h => absurd this.1 h) (fun h => absurd this.2.1 h)
  refine ⟨hn, hL, fun x n hx => ?_, fun x y hy => ?_, hT⟩
  ·have h1 := hin x (.inl (by rw [hx]; exact fun e => by cases e))
   have hgx := hg x n hx; refine ⟨qMo hgx (fun hl => ?_), hgx.clean, h1.1, h1.2⟩
   by_cases hu : x ∈ U
   ·exact hk x hu n hx hl
   ·exfalso
    by_cases hf : x ∈ F
    ·have := (hA.free x hf).1; rw [hx] at this; cases this
    ·have hc := hA.cnt x; rw [List.count_eq_zero.2 hu, List.count_eq_zero.2 hf, if_pos h1] at hc; simp at hc
  ·have h1 := hin x (.inr (by rw [hy]; exact fun e => by cases e))
   have hxf : x ∈ F := by
    by_cases hf : x ∈ F
    ·exact hf
    ·exfalso
     have hc := hA.cnt x; rw [List.count_eq_zero.2 hf, if_pos h1] at hc; have hu : x ∈ U := List.count_pos_iff.1 (by simp at hc; omega)
     have := (hA.used x (.inl hu)).1; rw [hy] at this; cases this
   have hlink : W.link T x = some y := by unfold WM.link; rw [hy]
   have haux : ∀ (G : List Int) (f : Int), qKn (W.link T) f G -> x ∈ G -> y = 0 \/ y ∈ G := by
    intro G; induction G with
    | nil => intro f _ hx; cases hx
    | cons z G ih =>
     intro f hc hx; obtain ⟨rfl, _, w, q1, q2⟩ := hc; rcases List.mem_cons.1 hx with rfl | hx
     ·rw [hlink] at q1; cases q1
      rcases qFu q2 with ⟨h, _⟩ | ⟨h, _⟩
      ·exact .inl h
      ·exact .inr (List.mem_cons_of_mem _ h)
     ·exact (ih w q2 hx).imp id (List.mem_cons_of_mem _)
   refine ⟨h1.1, h1.2, ?_⟩; rcases haux F W.free hA.chain hxf with h | h
   ·omega
   ·have := hA.spot (.inr (.inl h)); omega
 obtain ⟨_, _, h3⟩ := h; rcases h3 with ⟨_, _, _, F, hA⟩ | ⟨ht, t, F, hR, _⟩
 ·exact aux [] F hA (fun x hx => by cases hx)
 ·refine aux _ F hR.acc (fun x hx n hx2 hl => ?_)
  have hsp : ∀ x ∈ secs ht W.root t, x < 16384 := fun x hx => by have := hR.acc.spot (.inl hx); omega
  have haux : ∀ (g : Nat) (s : Int) (u : Tr g), Sd (W.look T) m g s u -> (∀ x ∈ secs g s u, x < 16384) -> ∀ x ∈ secs g s u, ∀ n, W.look T x = some n -> n.1 = false -> ∀ e ∈ n.2, e.kid < 16384 := by
   intro g; induction g with
   | zero =>
    intro s u hu _ x hx n hn hl; have hx : x ∈ [s] := hx; rw [List.mem_singleton] at hx; subst hx; rw [hu.1] at hn; cases hn
    cases hl
   | succ g ih =>
    intro s u hu hb x hx n hn hl; have hx : x ∈ s :: qAi u := hx; rcases List.mem_cons.1 hx with hx | hx
    ·subst hx; rw [hu.1.1] at hn; cases hn
     intro e he; have he : e ∈ List.map eE u := he; obtain ⟨y, hy, rfl⟩ := List.mem_map.1 he; exact hb y.spot (by
      show y.spot ∈ x :: qAi u; unfold qAi; exact List.mem_cons_of_mem _ (List.mem_flatMap.2 ⟨y, hy, by rw [qCx]; exact List.mem_cons_self⟩))
    ·unfold qAi at hx; obtain ⟨y, hy, hx⟩ := List.mem_flatMap.1 hx; refine ih y.spot y.sub (hu.2 y hy).1 (fun z hz => hb z ?_) x hx n hn hl
     show z ∈ s :: qAi u; unfold qAi; exact List.mem_cons_of_mem _ (List.mem_flatMap.2 ⟨y, hy, hz⟩)
  exact haux ht W.root t hR.sd hsp x hx n (by unfold WM.look; rw [hx2]) hl
end
section
open Go Go.RowKit
theorem qFs {s : ByteArray} {leaf : Bool} {es : List Ent} (h : decP s = some (leaf, es)) (hne : es ≠ []) : qAu leaf es := by
 have hc := (qSc h).1; refine jBh ?_ hc hne; unfold decP at h; split at h
 ·cases h
 ·split at h
  ·unfold qMu at h; split at h
   ·unfold qKt at h; obtain ⟨q, _, hq⟩ := Option.bind_eq_some_iff.1 h; split at hq
    ·rename_i hb
     rw [Bool.and_eq_true] at hb; cases hq
     exact hb.2
    ·cases hq
   ·cases h
  ·cases h
structure RI (next : Int) (R : RS) : Prop where
 nodup : R.dom.Nodup
 mem : ∀ x, x ∈ R.dom ↔ (R.nodes x).isSome = true
 rng : ∀ x ∈ R.dom, 1 <= x /\ x < next
 good : ∀ x n, R.nodes x = some n -> qAu n.1 n.2
theorem RI.start (next : Int) (b : ByteArray) : RI next ⟨fun _ => none, [], b⟩ := ⟨List.nodup_nil, (fun x => ⟨(fun h => by cases h), (fun h => by cases h)⟩), (fun x h => by cases h), (fun x n h => by cases h)⟩
theorem RI.len {next : Int} {R : RS} (h : RI next R) (hn : 1 <= next) : (R.dom.length : Int) <= next - 1 := by
 have h1 := qEs (m := (List.range (next - 1).toNat).map (fun i : Nat => (i : Int) + 1)) h.nodup (fun x hx => by
  obtain ⟨a, b⟩ := h.rng x hx; exact List.mem_map.2 ⟨(x - 1).toNat, List.mem_range.2 (by omega), by omega⟩)
 rw [List.length_map, List.length_range] at h1; omega
theorem RI.rise {next : Int} {R : RS} (h : RI next R) (k : ByteArray) : RI next (R.rise k) := ⟨h.nodup, h.mem, h.rng, h.good⟩
theorem RI.add {next : Int} {R : RS} (h : RI next R) {s : Int} {n : NP} (hs : R.nodes s = none) (h1 : 1 <= s) (h2 : s < next) (hg : qAu n.1 n.2) : RI next (R.add s n) := by
 have hnm : s ∉ R.dom := fun hm => by rw [h.mem, hs] at hm; cases hm
 refine ⟨?_, fun x => ?_, fun x hx => ?_, fun x k hk => ?_⟩
 ·show (R.dom ++ [s]).Nodup; rw [List.nodup_append]; exact ⟨h.nodup, by simp, fun a ha b hb e => by rw [List.mem_singleton] at hb; rw [e, hb] at ha; exact hnm ha⟩
 ·show x ∈ R.dom ++ [s] ↔ (fset R.nodes s (some n) x).isSome = true; by_cases e : x = s
  ·rw [e, qAq]; simp
  ·rw [qAd _ _ e, <- h.mem]; simp [e]
 ·rcases List.mem_append.1 (show x ∈ R.dom ++ [s] from hx) with hx | hx
  ·exact h.rng x hx
  ·rw [List.mem_singleton] at hx; rw [hx]; exact ⟨h1, h2⟩
 ·by_cases e : x = s
  ·have hk : fset R.nodes s (some n) x = some k := hk; rw [e, qAq] at hk; cases hk; exact hg
  ·have hk : fset R.nodes s (some n) x = some k := hk; rw [qAd _ _ e] at hk; exact h.good x k hk
def RLe (R R' : RS) : Prop := ∀ x n, R.nodes x = some n -> R'.nodes x = some n
theorem RLe.trans {A B C : RS} (h : RLe A B) (k : RLe B C) : RLe A C := fun x n hx => k x n (h x n hx)
theorem RLe.add {R : RS} {s : Int} {n : NP} (hs : R.nodes s = none) : RLe R (R.add s n) := fun x k hx => by
 have hne : x ≠ s := fun e => by rw [e, hs] at hx; cases hx
 show fset R.nodes s (some n) x = some k; rw [qAd _ _ hne]; exact hx
theorem qWw {rd : Int -> ByteArray} {next : Int} {d : Nat} {s : Int} {R R' : RS} {c : Nat} (h : qDc rd next (d + 1) s R = some (R', c)) :
  R.nodes s = none /\ 1 <= s /\ s < next /\ ∃ leaf es, decP (rd s) = some (leaf, es) /\ es ≠ [] /\ kl R.least (fk es) = true ∧
   ((leaf = true /\ R' = (R.add s (leaf, es)).rise (lk es) /\ c = es.length) \/ (leaf = false /\ qHs (qDc rd next d) (fkid es) es (R.add s (leaf, es)) 0 = some (R', c))) := by
 unfold qDc at h; split at h
 ·cases h
 ·rename_i hg
  split at h
  ·cases h
  ·rename_i leaf es hd
   split at h
   ·cases h
   ·rename_i he
    refine ⟨?_, by omega, by omega, leaf, es, hd, ?_, ?_, ?_⟩
    ·cases hn : R.nodes s with
     | none => rfl
     | some n => rw [hn] at hg; exact absurd (.inl rfl) hg
    ·intro e; rw [e] at he; exact he (.inl rfl)
    ·cases hk : kl R.least (fk es) with
     | true => rfl
     | false => exact absurd (.inr hk) he
    ·cases leaf with
     | true => simp only [if_true, Option.some.injEq, Prod.mk.injEq] at h; exact .inl ⟨rfl, h.1.symm, h.2.symm⟩
     | false => simp only [Bool.false_eq_true, if_false] at h; exact .inr ⟨rfl, h⟩
def jJx (next : Int) (s : Int) (R R' : RS) (c : Nat) : Prop := RI next R' /\ RLe R R' /\ (R'.nodes s).isSome = true /\ c + 511 * R.dom.length <= 511 * R'.dom.length
theorem qRu {next : Int} {f : Int -> RS -> Option (RS × Nat)} (hf : ∀ s R R' c, RI next R -> f s R = some (R', c) -> jJx next s R R' c) (first : Int) : ∀ (es : List Ent) (R R' : RS) (a c : Nat), RI next R -> qHs f first es R a = some (R', c) →
  RI next R' /\ RLe R R' /\ c + 511 * R.dom.length <= a + 511 * R'.dom.length
 | [], R, R', a, c, hR, h => by
  have h : some (R, a) = some (R', c) := h; cases h
  exact ⟨hR, fun _ _ h => h, Nat.le_refl _⟩
 | x :: r, R, R', a, c, hR, h => by
  obtain ⟨q, hq, h2⟩ := Option.bind_eq_some_iff.1 (show (f x.kid R).bind _ = some (R', c) from h)
  obtain ⟨k1, k2, _, k4⟩ := hf x.kid R q.1 q.2 hR hq; split at h2
  ·obtain ⟨m1, m2, m3⟩ := qRu hf first r q.1 R' (a + q.2) c k1 h2; exact ⟨m1, k2.trans m2, by omega⟩
  ·cases h2
theorem qLz {rd : Int -> ByteArray} {next : Int} : ∀ (d : Nat) (s : Int) (R R' : RS) (c : Nat), RI next R -> qDc rd next d s R = some (R', c) -> jJx next s R R' c
 | 0, _, _, _, _, _, h => by cases h
 | d + 1, s, R, R', c, hR, h => by
  obtain ⟨hs, h1, h2, leaf, es, hd, hne, _, h3⟩ := qWw h; have hg := qFs hd hne; have hA := hR.add hs h1 h2 (n := (leaf, es)) hg; have hlen := hg.len; have hdl : (R.add s (leaf, es)).dom.length = R.dom.length + 1 := by
   show (R.dom ++ [s]).length = _; simp
  have hsm : (R.add s (leaf, es)).nodes s = some (leaf, es) := by
   show fset R.nodes s (some (leaf, es)) s = _; exact qAq _ _ _
  rcases h3 with ⟨_, rfl, rfl⟩ | ⟨_, h3⟩
  ·refine ⟨hA.rise _, RLe.add hs, ?_, ?_⟩
   ·show ((R.add s (leaf, es)).nodes s).isSome = true; rw [hsm]; rfl
   ·show es.length + 511 * R.dom.length <= 511 * (R.add s (leaf, es)).dom.length; rw [hdl]; omega
  ·obtain ⟨k1, k2, k3⟩ := qRu (fun s R R' c => qLz d s R R' c) (fkid es) es _ R' 0 c hA h3
   rw [hdl] at k3; refine ⟨k1, (RLe.add hs).trans k2, ?_, by omega⟩
   rw [k2 s _ hsm]; rfl
end
section
open Go Go.RowKit
structure RdU (next : Int) (d : Nat) (R R' : RS) (x : UK) (n : Nat) : Prop where
 su : Su R'.nodes true d x
 n : x.fl.length = n
 dom : R'.dom = R.dom ++ x.us
 old : ∀ z, z ∉ x.us -> R'.nodes z = R.nodes z
 new : ∀ z ∈ x.us, R.nodes z = none /\ (1 <= z /\ z < next) /\ R'.nodes z ≠ none
 nd : x.us.Nodup
 fl : qAy x.fl
 up : qQp R.least x.fl
 least : R'.least = qIe x.fl R.least
structure RdUs (next : Int) (d : Nat) (R R' : RS) (k : List UK) : Prop where
 su : ∀ x ∈ k, Su R'.nodes true d x
 dom : R'.dom = R.dom ++ uus k
 old : ∀ z, z ∉ uus k -> R'.nodes z = R.nodes z
 new : ∀ z ∈ uus k, R.nodes z = none /\ (1 <= z /\ z < next) /\ R'.nodes z ≠ none
 nd : (uus k).Nodup
 fl : qAy (ufl k)
 up : qQp R.least (ufl k)
 least : R'.least = qIe (ufl k) R.least
theorem qTk {l m : List KV} {b : ByteArray} (h1 : qQp b l) (ha : Asc l) (h2 : qQp (qIe l b) m) : qQp b m /\ ∀ p ∈ l, ∀ q ∈ m, kl p.1 q.1 = true := by
 cases hl : l with
 | nil => subst hl; exact ⟨h2, fun p hp => by cases hp⟩
 | cons y r =>
  have hne : l ≠ [] := by rw [hl]; simp
  have hlast : qIe l b = (l.getLast hne).1 := by unfold qIe; rw [List.getLast?_eq_some_getLast hne]
  rw [hlast] at h2; have hle : ∀ p ∈ l, p = l.getLast hne \/ kl p.1 (l.getLast hne).1 = true := fun p hp => by
   have e := List.dropLast_concat_getLast hne; rw [<- e] at hp ha; rcases List.mem_append.1 hp with hp | hp
   ·exact .inr ((qBv.1 ha).2.2 p hp _ (List.mem_singleton.2 rfl))
   ·exact .inl (List.mem_singleton.1 hp)
  rw [<- hl]; refine ⟨fun q hq => qCa (h1 _ (List.getLast_mem hne)) (h2 q hq), fun p hp q hq => ?_⟩
  rcases hle p hp with e | e
  ·rw [e]; exact h2 q hq
  ·exact qCa e (h2 q hq)
theorem qPz {a b : List KV} (h1 : qAy a) (h2 : qAy b) (h3 : ∀ p ∈ a, ∀ q ∈ b, kl p.1 q.1 = true) : qAy (a ++ b) :=
 ⟨qBv.2 ⟨h1.asc, h2.asc, h3⟩, fun p hp => (List.mem_append.1 hp).elim (h1.ok p) (h2.ok p)⟩
theorem jGg {rd : Int -> ByteArray} {next : Int} {d : Nat} (ih : ∀ (s : Int) (R R' : RS) (n : Nat), qDc rd next d s R = some (R', n) -> ∃ x : UK, x.spot = s /\ RdU next d R R' x n) {first : Int} :
  ∀ (es : List Ent) (R R' : RS) (all n : Nat), (∀ x ∈ es, x.value = emp) -> ((R.nodes first).isSome = true \/ ∃ x r, es = x :: r /\ x.kid = first) -> qHs (qDc rd next d) first es R all = some (R', n) →
  ∃ k : List UK, es = k.map ueE /\ all + (ufl k).length = n /\ RdUs next d R R' k /\ ∀ x ∈ k, qId (R'.nodes x.spot) = qId (R'.nodes first)
 | [], R, R', all, n, _, _, h => by
  cases h
  refine ⟨[], rfl, by rw [qLv]; rfl, ⟨(fun x hx => by cases hx), by rw [qHz, List.append_nil], fun _ _ => rfl, (fun z hz => by cases hz), List.nodup_nil, ⟨List.Pairwise.nil, fun p hp => by cases hp⟩, (fun p hp => by cases hp), rfl⟩, fun x hx => by cases hx⟩
 | y :: r, R, R', all, n, hv, hf, h => by
  rw [qHs, Option.bind_eq_some_iff] at h; obtain ⟨⟨R1, m⟩, h1, h2⟩ := h; simp only at h2; split at h2
  ·rename_i hc
   obtain ⟨x, hx, hX⟩ := ih _ _ _ _ h1; have hsp : x.spot ∈ x.us := hX.su.mem; have hfirst : (R1.nodes first).isSome = true := by
    rcases hf with hf | ⟨z, t, e, hz⟩
    ·by_cases hm : first ∈ x.us
     ·have := (hX.new first hm).1; rw [this] at hf; cases hf
     ·rw [hX.old first hm]; exact hf
    ·cases e
     rw [<- hz, <- hx]; have := (hX.new _ hsp).2.2; cases hq : R1.nodes x.spot with
     | none => exact absurd hq this
     | some q => rfl
   obtain ⟨k, k1, k2, k3, k4⟩ := jGg ih r R1 R' (all + m) n (fun z hz => hv z (List.mem_cons_of_mem _ hz)) (.inl hfirst) h2
   have hkeep : ∀ z, R1.nodes z ≠ none -> R'.nodes z = R1.nodes z := fun z hz => k3.old z (fun hm => hz (k3.new z hm).1)
   have hxs : ∀ z ∈ x.us, R'.nodes z = R1.nodes z := fun z hz => hkeep z (hX.new z hz).2.2
   obtain ⟨b', es', ks', q1, q2, q3, q4, q5⟩ := id hX.su; have hkey : x.key = y.key := by
    have h3 := hc.1; rw [<- hx, q1] at h3; rw [<- q5]; exact h3
   have hab := qTk hX.up hX.fl.asc (by have := k3.up; rwa [hX.least] at this)
   refine ⟨x :: k, ?_, ?_, ⟨?_, ?_, fun z hz => ?_, fun z hz => ?_, ?_, ?_, ?_, ?_⟩, ?_⟩
   ·rw [List.map_cons, k1]; congr 1
    have h4 := hv y List.mem_cons_self; unfold ueE; rw [hkey, hx, <- h4]
   ·rw [qBo, List.length_append, hX.n]; omega
   ·intro z hz; rcases List.mem_cons.1 hz with rfl | hz
    ·exact hX.su.congr hxs
    ·exact k3.su z hz
   ·rw [k3.dom, hX.dom, qDf, List.append_assoc]
   ·rw [qDf, List.mem_append, not_or] at hz; rw [k3.old z hz.2, hX.old z hz.1]
   ·rw [qDf] at hz; rcases List.mem_append.1 hz with hz | hz
    ·obtain ⟨a1, a2, a3⟩ := hX.new z hz; exact ⟨a1, a2, by rw [hxs z hz]; exact a3⟩
    ·obtain ⟨a1, a2, a3⟩ := k3.new z hz; refine ⟨?_, a2, a3⟩; by_cases hm : z ∈ x.us
     ·exact absurd a1 (hX.new z hm).2.2
     ·rw [<- hX.old z hm]; exact a1
   ·rw [qDf, List.nodup_append]; exact ⟨hX.nd, k3.nd, fun a ha b hb e => by
     subst e; exact (hX.new a ha).2.2 (k3.new a hb).1⟩
   ·rw [qBo]; exact qPz hX.fl k3.fl hab.2
   ·rw [qBo]; intro p hp; rcases List.mem_append.1 hp with hp | hp
    ·exact hX.up p hp
    ·exact hab.1 p hp
   ·rw [qBo, qKr, k3.least, hX.least]
   ·intro z hz; have hf2 : R'.nodes first = R1.nodes first := hkeep first (fun e => by rw [e] at hfirst; cases hfirst)
    rcases List.mem_cons.1 hz with rfl | hz
    ·rw [hxs _ hsp, hf2, hx]; exact hc.2
    ·exact k4 z hz
  ·cases h2
theorem jGf {rd : Int -> ByteArray} {next : Int} : ∀ (d : Nat) (s : Int) (R R' : RS) (n : Nat), qDc rd next d s R = some (R', n) -> ∃ x : UK, x.spot = s /\ RdU next d R R' x n
 | 0, s, R, R', n, h => by cases h
 | d + 1, s, R, R', n, h => by
  rw [qDc] at h; split at h
  ·cases h
  ·rename_i hg
   rw [not_or, not_or] at hg; obtain ⟨g1, g2, g3⟩ := hg; have g1' : R.nodes s = none := by
    cases hq : R.nodes s with
    | none => rfl
    | some q => rw [hq] at g1; exact absurd rfl g1
   split at h
   ·cases h
   ·rename_i leaf es hdec
    split at h
    ·cases h
    ·rename_i hc
     rw [not_or] at hc; obtain ⟨c1, c2⟩ := hc; have hne : es ≠ [] := fun e => c1 (by rw [e]; rfl)
     have hge := qFs hdec hne; have hcl := (qSc hdec).1; cases leaf with
     | true =>
      simp only [if_true] at h; cases h
      have hes : es = eOf 0 (es.map fun e => (e.key, e.value)) := by
       show es = List.map _ (es.map _); rw [List.map_map]; refine (List.map_id es).symm.trans (List.map_congr_left (fun e he => ?_))
       have := (hcl e he).1 rfl; obtain ⟨a, b, c⟩ := e; simp only at this; subst this; rfl
      have hfl : qAy (es.map fun e => (e.key, e.value)) := by
       obtain ⟨w1, w2⟩ := qBt.1 hge.keys; refine ⟨?_, fun p hp => ?_⟩
       ·unfold Asc; rw [List.pairwise_map] at w1 ⊢; exact w1
       ·obtain ⟨e, he, rfl⟩ := List.mem_map.1 hp; exact ⟨w2 _ (List.mem_map.2 ⟨e, he, rfl⟩), hge.values e he⟩
      have hfk : kl R.least (fk es) = true := by simpa using c2
      have hlk : ((R.add s (true, es)).rise (lk es)).nodes s = some (true, es) := qAq _ _ _; refine ⟨⟨fk es, s, es.map fun e => (e.key, e.value), [s]⟩, rfl, ⟨⟨true, es, [], hlk, hge, ?_, rfl, rfl⟩, by simp, rfl, fun z hz => ?_, fun z hz => ?_, by simp, hfl, ?_, ?_⟩⟩
      ·have := qIi (look := ((R.add s (true, es)).rise (lk es)).nodes) (u := true) (d + 1) (es.map fun e => (e.key, e.value))
       rw [<- hes] at this; exact this
      ·exact qAd _ _ (fun e => hz (by rw [e]; exact List.mem_singleton.2 rfl))
      ·rw [List.mem_singleton] at hz; subst hz; exact ⟨g1', by omega, by rw [hlk]; simp⟩
      ·cases hq : es with
       | nil => exact absurd hq hne
       | cons e0 r0 =>
        rw [hq] at hfk hfl; intro p hp; rcases List.mem_cons.1 hp with rfl | hp
        ·exact hfk
        ·exact qCa hfk ((List.pairwise_cons.1 hfl.asc).1 p hp)
      ·show lk es = qIe _ _; have h7 := qRr (l := es.map fun e => (e.key, e.value)) (by simpa using hne) R.least
       rw [<- h7]; congr 1
     | false =>
      simp only [Bool.false_eq_true, if_false] at h; have hcons : ∃ x r, es = x :: r := by
       cases es with
       | nil => exact absurd rfl hne
       | cons x r => exact ⟨x, r, rfl⟩
      obtain ⟨e0, r0, he0⟩ := hcons; obtain ⟨k, k1, k2, k3, k4⟩ := jGg (rd := rd) (next := next) (d := d) (jGf d) (first := fkid es) es (R.add s (false, es)) R' 0 n (fun x hx => (hcl x hx).2 rfl) (.inr ⟨e0, r0, he0, by rw [he0]; rfl⟩) h
      have hs0 : (R.add s (false, es)).nodes s = some (false, es) := qAq _ _ _; have hsn : s ∉ uus k := fun hm => by
       have := (k3.new s hm).1; rw [hs0] at this; cases this
      have hlk : R'.nodes s = some (false, es) := (k3.old s hsn).trans hs0; have hoth : ∀ z, z ≠ s -> (R.add s (false, es)).nodes z = R.nodes z := fun z hz => qAd _ _ hz
      refine ⟨⟨fk es, s, ufl k, s :: uus k⟩, rfl, ⟨⟨false, es, uus k, hlk, hge, .inr ⟨rfl, k, k1, rfl, rfl, fun _ => ⟨qId (R'.nodes (fkid es)), fun x hx => ?_⟩, k3.su⟩, rfl, rfl⟩, ?_, ?_, fun z hz => ?_, fun z hz => ?_, ?_, k3.fl, k3.up, k3.least⟩⟩
      ·obtain ⟨b', es', ks', q1, _⟩ := k3.su x hx; have h5 := k4 x hx; rw [q1] at h5; exact ⟨es', by rw [q1, <- h5]; rfl⟩
      ·show (ufl k).length = n; omega
      ·show R'.dom = R.dom ++ (s :: uus k); rw [k3.dom]; show R.dom ++ [s] ++ uus k = _; rw [List.append_assoc]; rfl
      ·have h5 : z ≠ s := fun e => hz (by rw [e]; exact List.mem_cons_self)
       rw [k3.old z (fun hm => hz (List.mem_cons_of_mem _ hm)), hoth z h5]
      ·rcases List.mem_cons.1 hz with rfl | hz
       ·exact ⟨g1', by omega, by rw [hlk]; simp⟩
       ·obtain ⟨a1, a2, a3⟩ := k3.new z hz; refine ⟨?_, a2, a3⟩; rw [<- hoth z (fun e => hsn (by rw [<- e]; exact hz))]
        exact a1
      ·exact List.nodup_cons.2 ⟨hsn, k3.nd⟩
theorem jGj {rd : Int -> ByteArray} {next : Int} {nodes : Int -> Option NP} : ∀ (f : Nat) (s : Int) (A A' : Int -> Option Int) (dom dom' : List Int), qGd rd next nodes f s A dom = some (A', dom') →
  ∃ F, dom' = dom ++ F /\ F.Nodup /\ qKn A' s F /\ (∀ z ∈ F, A z = none /\ nodes z = none /\ (1 <= z /\ z < next) /\ A' z ≠ none) /\ ∀ z, z ∉ F -> A' z = A z
 | 0, s, A, A', dom, dom', h => by
  rw [qGd] at h; split at h
  ·rename_i hs
   cases h
   exact ⟨[], by simp, List.nodup_nil, hs, (fun z hz => by cases hz), fun _ _ => rfl⟩
  ·cases h
 | f + 1, s, A, A', dom, dom', h => by
  rw [qGd] at h; split at h
  ·rename_i hs
   cases h
   exact ⟨[], by simp, List.nodup_nil, hs, (fun z hz => by cases hz), fun _ _ => rfl⟩
  ·rename_i hs
   split at h
   ·rename_i y t hn
    split at h
    ·cases h
    ·rename_i hg
     rw [not_or, not_or, not_or] at hg; obtain ⟨g1, g2, g3, g4⟩ := hg; have a1 : A s = none := by
      cases hq : A s with
      | none => rfl
      | some q => rw [hq] at g1; exact absurd rfl g1
     have a2 : nodes s = none := by
      cases hq : nodes s with
      | none => rfl
      | some q => rw [hq] at g2; exact absurd rfl g2
     obtain ⟨F, h1, h2, h3, h4, h5⟩ := jGj f _ _ _ _ _ h; have hsn : s ∉ F := fun hm => by
      have := (h4 s hm).1; rw [qAq] at this; cases this
     have hA' : A' s = some (y : Int) := (h5 s hsn).trans (qAq _ _ _); refine ⟨s :: F, by rw [h1, List.append_assoc]; rfl, List.nodup_cons.2 ⟨hsn, h2⟩, ⟨rfl, hs, (y : Int), hA', h3⟩, fun z hz => ?_, fun z hz => ?_⟩
     ·rcases List.mem_cons.1 hz with rfl | hz
      ·exact ⟨a1, a2, by omega, by rw [hA']; simp⟩
      ·obtain ⟨b1, b2, b3, b4⟩ := h4 z hz; rw [qAd _ _ (fun e => hsn (by rw [<- e]; exact hz))] at b1
       exact ⟨b1, b2, b3, b4⟩
     ·rw [h5 z (fun hm => hz (List.mem_cons_of_mem _ hm)), qAd _ _ (fun e => hz (by rw [e]; exact List.mem_cons_self))]
   ·cases h
theorem jBv {l : List Int} {n : Int} (h1 : l.Nodup) (h2 : ∀ x ∈ l, 1 <= x /\ x < n) (h3 : (l.length : Int) + 1 = n) (x : Int) : l.count x = if 1 <= x /\ x < n then 1 else 0 := by
 rw [h1.count]; by_cases hx : x ∈ l
 ·rw [if_pos hx, if_pos (h2 x hx)]
 ·rw [if_neg hx]; by_cases hc : 1 <= x /\ x < n
  ·exfalso
   have h4 := qEs (l := x :: l) (m := (List.range (n - 1).toNat).map (fun i : Nat => (i : Int) + 1)) (List.nodup_cons.2 ⟨hx, h1⟩) (fun y hy => by
    have h5 : 1 <= y /\ y < n := (List.mem_cons.1 hy).elim (fun e => by rw [e]; exact hc) (h2 y)
    exact List.mem_map.2 ⟨(y - 1).toNat, List.mem_range.2 (by omega), by omega⟩)
   rw [List.length_cons, List.length_map, List.length_range] at h4; omega
  ·rw [if_neg hc]
theorem jJe {rd : Int -> ByteArray} {root next free count : Int} {T : TM} (hn : 1 <= next) (h : qIc rd root next free count = some T) : ∃ l, WU T true T.begin l 16 /\ T.root = root /\ T.next = next /\ T.free = free /\ T.count = count := by
 unfold qIc at h; rw [Option.bind_eq_some_iff] at h; obtain ⟨R, hR, h⟩ := h; rw [Option.bind_eq_some_iff] at h; obtain ⟨⟨A, FD⟩, hF, h⟩ := h; simp only at h; split at h
 ·rename_i hc
  cases h
  obtain ⟨F, f1, f2, f3, f4, f5⟩ := jGj _ _ _ _ _ _ hF; rw [List.nil_append] at f1; subst f1; have aux : ∀ (us : List Int), us.Nodup -> R.dom = us -> (∀ z ∈ us, 1 <= z /\ z < next) -> (∀ z, z ∉ us -> R.nodes z = none) -> (∀ z ∈ us, R.nodes z ≠ none) →
    Acc ⟨root, next, free, count, R.nodes, A⟩ (TM.begin ⟨root, next, free, count, R.nodes, A⟩) us [] FD := fun us u1 u2 u3 u4 u5 => by
   have hdis : ∀ z ∈ us, z ∉ FD := fun z hz hm => u5 z hz (f4 z hm).2.1
   have hcnt := jBv (l := us ++ FD) (n := next) (List.nodup_append.2 ⟨u1, f2, fun a ha b hb e => hdis a ha (by rw [e]; exact hb)⟩) (fun x hx => (List.mem_append.1 hx).elim (u3 x) (fun hm => (f4 x hm).2.2.1)) (by rw [List.length_append, <- u2]; have := hc.1; omega)
   refine ⟨qEx f3 (fun x _ => rfl), fun x => ?_, fun x hx => ?_, fun x hx => ?_, fun x hx => ?_, hn⟩
   ·have := hcnt x; rw [List.count_append] at this; simp only [List.count_nil]; exact this
   ·rcases hx with hx | hx
    ·exact ⟨rfl, fun _ => ⟨rfl, f5 x (hdis x hx)⟩⟩
    ·cases hx
   ·exact ⟨rfl, fun _ => ⟨rfl, (f4 x hx).2.1⟩⟩
   ·refine ⟨rfl, rfl, rfl, u4 x (fun hm => hx (u3 x hm)), f5 x (fun hm => hx (f4 x hm).2.2.1)⟩
  by_cases h0 : root = 0
  ·rw [if_neg (fun e => e h0)] at hR
   cases hR
   have hcz : count = 0 := by
    by_cases hz : count = 0
    ·exact hz
    ·exact absurd ⟨h0, hz⟩ hc.2
   refine ⟨[], ⟨⟨List.Pairwise.nil, fun p hp => by cases hp⟩, hcz, .inl ⟨h0, rfl, FD, aux [] List.nodup_nil rfl (fun z hz => by cases hz) (fun _ _ => rfl) (fun z hz => by cases hz)⟩⟩, rfl, rfl, rfl, rfl⟩
  ·rw [if_pos h0, Option.bind_eq_some_iff] at hR; obtain ⟨⟨R1, m⟩, hr, hR⟩ := hR; simp only at hR; split at hR
   ·rename_i hm
    cases hR
    obtain ⟨x, hx, hX⟩ := jGf _ _ _ _ _ hr; refine ⟨x.fl, ⟨hX.fl, ?_, .inr ⟨x, FD, hx.symm, hX.su, rfl, aux x.us hX.nd ?_ (fun z hz => (hX.new z hz).2.1) (fun z hz => hX.old z hz) (fun z hz => (hX.new z hz).2.2)⟩⟩, rfl, rfl, rfl, rfl⟩
    ·show count = _; rw [hX.n, hm]
    ·rw [hX.dom]; rfl
   ·cases hR
 ·cases h
end
end Go.Proofs.YtgbcibdfeeiilaaGreatDoor
