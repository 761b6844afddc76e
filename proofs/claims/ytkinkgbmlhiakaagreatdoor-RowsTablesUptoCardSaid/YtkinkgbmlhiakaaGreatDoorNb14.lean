/- merged: TrS JrF JrO -/
import Derived.Test.YtkinkgbmlhiakaaGreatDoorNb13
import Derived.Test.YtkinkgbmlhiakaaGreatDoorNb04
import Derived.Test.YtkinkgbmlhiakaaGreatDoorNb05
namespace Go.Proofs.YtkinkgbmlhiakaaGreatDoor
section
open Go Go.RowKit
def stL (root next free count : Int) : List UInt8 := 84 :: [root.toNat, next.toNat, free.toNat, count.toNat].flatMap uvar
def stB (W : WM) : ByteArray := ba (stL W.root W.next W.free W.count)
def frB (y : Int) : ByteArray := ba (70 :: uvar y.toNat)
noncomputable def ndB (n : NP) : ByteArray := if qIt (cn n.1 n.2) then ba (qAn n.1 n.2) else ⟨#[]⟩
noncomputable def qDq (W : WM) (x : Int) : Option ByteArray := if x = 0 then some (stB W) else match W.nodes x with | some n => some (ndB n) | none => (W.after x).map frB
structure Laid (W : WM) (cs : List Chg) (ln : List (Int × NP)) (la : List (Int × Int)) : Prop where
 n1 : (ln.map (·.1)).Nodup
 n2 : ∀ x n, (x, n) ∈ ln ↔ W.nodes x = some n
 a1 : (la.map (·.1)).Nodup
 a2 : ∀ x y, (x, y) ∈ la ↔ W.after x = some y
 perm : cs.Perm (ln.map (fun p => ⟨p.1, ndB p.2⟩) ++ (la.map (fun p => ⟨p.1, frB p.2⟩) ++ [⟨0, stB W⟩]))
 sort : cs.Pairwise (fun a b => a.pos <= b.pos)
structure qKk (W : WM) (cs : List Chg) : Prop where
 mem : ∀ c : Chg, c ∈ cs ↔ qDq W c.pos = some c.data
 nodup : (cs.map (·.pos)).Nodup
theorem qSu {α : Type} {l : List (Int × α)} {x : Int} (h : x ∈ l.map (·.1)) : ∃ y, (x, y) ∈ l := by
 obtain ⟨p, hp, rfl⟩ := List.mem_map.1 h; exact ⟨p.2, hp⟩
theorem qIl {T : TM} {W : WM} {U F : List Int} {cs : List Chg} {ln : List (Int × NP)} {la : List (Int × Int)} (hA : Acc T W U [] F) (h : Laid W cs ln la) : qKk W cs := by
 have h0 : W.nodes 0 = none /\ W.after 0 = none := by
  have := hA.out 0 (by omega)
  exact ⟨this.1, this.2.1⟩
 have hx : ∀ x n, W.nodes x = some n -> W.after x = none := fun x n hn => by
  by_cases hu : x ∈ U
  ·exact (hA.used x (.inl hu)).1
  ·by_cases hf : x ∈ F
   ·have := (hA.free x hf).1; rw [hn] at this; cases this
   ·have hc := hA.cnt x; rw [List.count_eq_zero.2 hu, List.count_eq_zero.2 hf] at hc; have hout : ¬ (1 <= x /\ x < W.next) := fun h => by rw [if_pos h] at hc; simp at hc
    exact (hA.out x hout).2.1
 constructor
 ·intro c; obtain ⟨x, d⟩ := c; rw [h.perm.mem_iff, List.mem_append, List.mem_append]; show _ ↔ qDq W x = some d; unfold qDq; constructor
  ·rintro (hm | hm | hm)
   ·obtain ⟨p, hp, he⟩ := List.mem_map.1 hm; cases he
    have hn := (h.n2 p.1 p.2).1 hp; have hz : p.1 ≠ 0 := fun e => by rw [e, h0.1] at hn; cases hn
    rw [if_neg hz, hn]
   ·obtain ⟨p, hp, he⟩ := List.mem_map.1 hm; cases he
    have ha := (h.a2 p.1 p.2).1 hp; have hz : p.1 ≠ 0 := fun e => by rw [e, h0.2] at ha; cases ha
    rw [if_neg hz]; cases hn : W.nodes p.1 with
    | some n => rw [hx _ _ hn] at ha; cases ha
    | none => simp only; rw [ha]; rfl
   ·rw [List.mem_singleton] at hm; cases hm
    rw [if_pos rfl]
  ·intro hd; by_cases hz : x = 0
   ·rw [if_pos hz] at hd; cases hd
    exact .inr (.inr (by rw [hz]; exact List.mem_singleton.2 rfl))
   ·rw [if_neg hz] at hd; cases hn : W.nodes x with
    | some n =>
     rw [hn] at hd; cases hd
     exact .inl (List.mem_map.2 ⟨(x, n), (h.n2 x n).2 hn, rfl⟩)
    | none =>
     rw [hn] at hd; obtain ⟨y, hy, rfl⟩ := Option.map_eq_some_iff.1 hd; exact .inr (.inl (List.mem_map.2 ⟨(x, y), (h.a2 x y).2 hy, rfl⟩))
 ·have hp := h.perm.map (·.pos); refine hp.nodup_iff.2 ?_; rw [List.map_append, List.map_append, List.map_map, List.map_map]; show ((ln.map (fun p : Int × NP => p.1)) ++ ((la.map (fun p : Int × Int => p.1)) ++ [0])).Nodup
  refine List.nodup_append.2 ⟨h.n1, List.nodup_append.2 ⟨h.a1, by simp, fun a ha b hb e => ?_⟩, fun a ha b hb e => ?_⟩
  ·rw [List.mem_singleton] at hb; obtain ⟨y, hy⟩ := qSu ha; have := (h.a2 _ _).1 hy; rw [e, hb, h0.2] at this; cases this
  ·subst e; obtain ⟨n, hn⟩ := qSu ha; have hn := (h.n2 _ _).1 hn; rcases List.mem_append.1 hb with hb | hb
   ·obtain ⟨y, hy⟩ := qSu hb; have := (h.a2 _ _).1 hy; rw [hx _ _ hn] at this; cases this
   ·rw [List.mem_singleton] at hb; rw [hb, h0.1] at hn; cases hn
theorem jEv {W : WM} {cs : List Chg} {ln : List (Int × NP)} {la : List (Int × Int)} (h : Laid W cs ln la) : cs.length = ln.length + la.length + 1 := by
 rw [h.perm.length_eq]; simp
 omega
theorem qLj : ∀ {l m : List Int}, l.Nodup -> (∀ x ∈ l, x ∈ m) -> l.length <= m.length
 | [], _, _, _ => Nat.zero_le _
 | a :: l, m, hn, hs => by
  obtain ⟨h1, h2⟩ := List.nodup_cons.1 hn; have ha := hs a List.mem_cons_self; have ih := qLj (m := m.erase a) h2 (fun x hx => (List.mem_erase_of_ne (fun e => h1 (by rw [<- e]; exact hx))).2 (hs x (List.mem_cons_of_mem _ hx)))
  have hp := List.length_pos_of_mem ha; rw [List.length_erase_of_mem ha] at ih; rw [List.length_cons]; omega
theorem qWt {W : WM} {cs : List Chg} {X : List Int} (h : qKk W cs) (hX : ∀ y, qMv W y -> y ∈ X) : cs.length <= X.length + 1 := by
 have h1 : (cs.map (·.pos)).length <= (0 :: X).length := by
  refine qLj h.nodup (fun x hx => ?_)
  obtain ⟨c, hc, rfl⟩ := List.mem_map.1 hx; have hd := (h.mem c).1 hc; unfold qDq at hd; by_cases hz : c.pos = 0
  ·rw [hz]; exact List.mem_cons_self
  ·rw [if_neg hz] at hd; refine List.mem_cons_of_mem _ (hX _ ?_); cases hn : W.nodes c.pos with
   | some n => exact .inl (by rw [hn]; exact fun e => by cases e)
   | none =>
    rw [hn] at hd; obtain ⟨y, hy, _⟩ := Option.map_eq_some_iff.1 hd; exact .inr (by rw [hy]; exact fun e => by cases e)
 rw [List.length_map, List.length_cons] at h1; exact h1
theorem qNv {len : Nat} : ∀ (cs : List Chg) (met : List Nat), (∀ c ∈ cs, 0 <= c.pos /\ c.pos < len /\ c.data.size <= 1024) -> (places cs).Nodup -> (∀ c ∈ cs, c.pos.toNat ∉ met) -> qCh len met cs = 0
 | [], _, _, _, _ => rfl
 | c :: r, met, h, hn, hm => by
  obtain ⟨h1, h2, h3⟩ := h c List.mem_cons_self; have hn : (c.pos.toNat :: places r).Nodup := hn; obtain ⟨n1, n2⟩ := List.nodup_cons.1 hn; rw [qCh, if_neg (by omega), if_neg (by omega), if_neg (hm c List.mem_cons_self)]
  refine qNv r _ (fun x hx => h x (List.mem_cons_of_mem _ hx)) n2 (fun x hx hh => ?_)
  rcases List.mem_append.1 hh with hh | hh
  ·exact hm x (List.mem_cons_of_mem _ hx) hh
  ·rw [List.mem_singleton] at hh; exact n1 (by rw [<- hh]; exact List.mem_map.2 ⟨x, hx, rfl⟩)
def rdOf (c : Nat -> ByteArray) (x : Int) : ByteArray := c x.toNat
structure DT (L : Nat) (c : Nat -> ByteArray) (T : TM) : Prop where
 size : ∀ q, q < L -> (c q).size <= 1024
 nodes : ∀ x n, T.nodes x = some n -> ∃ r, (rdOf c x).data.toList = qAn n.1 n.2 ++ r /\ AllZ r
 after : ∀ x y, T.after x = some y -> ∃ r, (rdOf c x).data.toList = 70 :: (uvar y.toNat ++ r) /\ AllZ r
 state : (T = newT /\ AllZ (c 0).data.toList) \/ ∃ r, (c 0).data.toList = stL T.root T.next T.free T.count ++ r /\ AllZ r
theorem qDz {n : Nat} (h : n <= 16777216) : (uvar n).length <= 4 := qHz 3 n (by omega)
theorem jHf {a b c d : Int} (ha : a <= 16777216) (hb : b <= 16777216) (hc : c <= 16777216) (hd : d <= 16777216) : (stL a b c d).length <= 17 := by
 have h1 := qDz (n := a.toNat) (by omega)
 have h2 := qDz (n := b.toNat) (by omega)
 have h3 := qDz (n := c.toNat) (by omega)
 have h4 := qDz (n := d.toNat) (by omega)
 unfold stL; simp
 omega
theorem qPd {look : Int -> Option NP} {m : Nat} : ∀ {h : Nat} {s : Int} {t : Tr h}, Sd look m h s t -> (flat h t).length <= 511 * (secs h s t).length
 | 0, s, l, k => by
  have h1 := k.2.len; have h2 : (eOf 0 l).length = List.length (α := KV) l := List.length_map ..; show List.length (α := KV) l <= 511 * 1; omega
 | h + 1, s, l, k => by
  have aux : ∀ r : List (TE (Tr h)), (∀ e ∈ r, Sd look m h e.spot e.sub) -> (qAf r).length <= 511 * (qAl r).length := by
   intro r; induction r with
   | nil => intro _; exact Nat.zero_le _
   | cons e r ih =>
    intro hr; have h1 := qPd (hr e List.mem_cons_self); have h2 := ih (fun x hx => hr x (List.mem_cons_of_mem _ hx))
    have h3 : qAf (e :: r) = flat h e.sub ++ qAf r := by unfold qAf; rw [List.flatMap_cons]
    rw [h3, qBn, List.length_append, List.length_append]; omega
  have h1 := aux l (fun e he => (k.2 e he).1)
  show (qAf l).length <= 511 * (s :: qAl l).length; rw [List.length_cons]; omega
theorem TI.nums {T : TM} {m : Nat} {l : List KV} {H N : Nat} (h : TI T m l H N) (hn : T.next <= 16384) : 0 <= T.root /\ T.root <= 16384 /\ 1 <= T.next /\ 0 <= T.free /\ T.free <= 16384 /\ 0 <= T.count /\ T.count <= 16777216 := by
 obtain ⟨h1, h2, h3⟩ := h; have h2 : T.count = l.length := h2; rcases h3 with ⟨h4, rfl, _, F, hA⟩ | ⟨ht, t, F, hR, hN⟩
 ·have h4 : T.root = 0 := h4; have hp : 1 <= T.next := hA.pos; have hF : T.free = 0 \/ (1 <= T.free /\ T.free < T.next) := by
   have hc : qMl _ T.free F := hA.chain; rcases qGm hc with ⟨h, _⟩ | ⟨h, _⟩
   ·exact .inl h
   ·exact .inr (hA.spot (.inr (.inl h)))
  have : ([] : List KV).length = 0 := rfl; rw [this] at h2; omega
 ·have hA := hR.acc; have hp : 1 <= T.next := hA.pos; have hr : 1 <= T.root /\ T.root < T.next := hA.spot (.inl (by rw [qDe]; exact List.mem_cons_self))
  have hF : T.free = 0 \/ (1 <= T.free /\ T.free < T.next) := by
   have hc : qMl _ T.free F := hA.chain; rcases qGm hc with ⟨h, _⟩ | ⟨h, _⟩
   ·exact .inl h
   ·exact .inr (hA.spot (.inr (.inl h)))
  have hl := hA.len; have hb : T.begin.next = T.next := rfl; rw [hb] at hl; have hf := qPd hR.sd; rw [hR.fl] at hf; simp only [List.length_nil] at hl; omega
theorem qOo {s : ByteArray} : ∃ r, (pad s).data.toList = s.data.toList ++ r /\ AllZ r := ⟨_, qOq s, qJb _⟩
structure qRp (W : WM) (L : Nat) : Prop where
 next : W.next <= (L : Int)
 le : L <= 16384
 nodes : ∀ x n, W.nodes x = some n -> qIt (cn n.1 n.2) = true /\ qEp n.1 n.2 /\ 1 <= x /\ x < W.next
 after : ∀ x y, W.after x = some y -> 1 <= x /\ x < W.next /\ 0 <= y /\ y <= 16384
 nums : 0 <= W.root /\ W.root <= 16384 /\ 1 <= W.next /\ 0 <= W.free /\ W.free <= 16384 /\ 0 <= W.count /\ W.count <= 16777216
theorem qRp.data {W : WM} {L : Nat} (h : qRp W L) {x : Int} {d : ByteArray} (hd : qDq W x = some d) : 0 <= x /\ x < L /\ d.size <= 1024 := by
 have hn := h.next; have hl := h.le; obtain ⟨n1, n2, n3, n4, n5, n6, n7⟩ := h.nums; unfold qDq at hd; by_cases hz : x = 0
 ·rw [if_pos hz] at hd; cases hd
  refine ⟨by omega, by omega, ?_⟩
  unfold stB; rw [qAd]; have := jHf (a := W.root) (b := W.next) (c := W.free) (d := W.count) (by omega) (by omega) (by omega) (by omega)
  omega
 ·rw [if_neg hz] at hd; cases hn : W.nodes x with
  | some n =>
   rw [hn] at hd; cases hd
   obtain ⟨h1, h2, h3, h4⟩ := h.nodes x n hn; refine ⟨by omega, by omega, ?_⟩
   unfold ndB; rw [if_pos h1, qAd]; have hh : Has (cn n.1 n.2) n.1 n.2 := ⟨rfl, rfl, rfl, rfl⟩; unfold qIt at h1; rw [Bool.and_eq_true, decide_eq_true_eq, hh.ents h2] at h1; exact h1.2
  | none =>
   rw [hn] at hd; obtain ⟨y, hy, rfl⟩ := Option.map_eq_some_iff.1 hd; obtain ⟨h1, h2, h3, h4⟩ := h.after x y hy; refine ⟨by omega, by omega, ?_⟩
   unfold frB; rw [qAd, List.length_cons]; have := qDz (n := y.toNat) (by omega)
   omega
theorem qGd {W : WM} {L : Nat} {cs : List Chg} (hf : qRp W L) (h : qKk W cs) : (places cs).Nodup := by
 have h1 : places cs = (cs.map (·.pos)).map Int.toNat := by unfold places; rw [List.map_map]; rfl
 rw [h1]; refine List.Pairwise.map _ (fun a b hab => hab) ?_
 refine (List.pairwise_iff_getElem.1 h.nodup |> fun hp => List.pairwise_iff_getElem.2 (fun i j hi hj hij he => ?_))
 have h2 := hp i j hi hj hij; rw [List.length_map] at hi hj; rw [List.getElem_map, List.getElem_map] at h2 he; have p1 := (hf.data ((h.mem cs[i]).1 (List.getElem_mem hi))).1; have p2 := (hf.data ((h.mem cs[j]).1 (List.getElem_mem hj))).1; omega
theorem qWu {W : WM} {L : Nat} {cs : List Chg} (hf : qRp W L) (h : qKk W cs) : qCh L [] cs = 0 :=
 qNv cs [] (fun c hc => hf.data ((h.mem c).1 hc)) (qGd hf h) (fun _ _ h => by cases h)
theorem qGq {W : WM} {L : Nat} {cs : List Chg} (hf : qRp W L) (h : qKk W cs) (c : Nat -> ByteArray) {x : Int} (hx : 0 <= x) : rdOf (upc c cs) x = match qDq W x with | some d => pad d | none => rdOf c x := by
 cases hd : qDq W x with
 | some d =>
  have hm := (h.mem ⟨x, d⟩).2 hd; obtain ⟨m, hm⟩ := List.mem_iff_getElem?.1 hm; exact qOc (qGd hf h) hm
 | none =>
  refine qTp (fun hh => ?_)
  obtain ⟨y, hy, he⟩ := List.mem_map.1 hh; have hy2 := (h.mem y).1 hy; have p1 := (hf.data hy2).1; have : y.pos = x := by omega
  rw [this, hd] at hy2; cases hy2
theorem jIm {T : TM} {W : WM} {L : Nat} {cs : List Chg} {c : Nat -> ByteArray} (hT : DT L c T) (hf : qRp W L) (h : qKk W cs) (ho : ∀ x, ¬ 1 <= x -> T.nodes x = none /\ T.after x = none) : DT L (upc c cs) (W.done T) := by
 refine ⟨fun q hq => ?_, fun x n hn => ?_, fun x y hy => ?_, .inr ?_⟩
 ·have := qGq hf h c (x := (q : Int)) (by omega)
  unfold rdOf at this; rw [Int.toNat_natCast] at this; rw [this]; cases hd : qDq W (q : Int) with
  | some d => exact Nat.le_of_eq (qKq (hf.data hd).2.2)
  | none => exact hT.size q hq
 ·
  unfold WM.done at hn; simp only at hn; cases hw : W.nodes x with
  | some n' =>
   rw [hw] at hn; cases hn
   obtain ⟨h1, h2, h3, h4⟩ := hf.nodes x n hw; have hd : qDq W x = some (ba (qAn n.1 n.2)) := by
    unfold qDq; rw [if_neg (by omega), hw]
    show some (ndB n) = _; unfold ndB; rw [if_pos h1]
   rw [qGq hf h c (by omega), hd]
   obtain ⟨r, k1, k2⟩ := qOo (s := ba (qAn n.1 n.2)); exact ⟨r, by rw [k1, qBt], k2⟩
  | none =>
   rw [hw] at hn; simp only at hn; cases ha : W.after x with
   | some y => rw [ha] at hn; simp at hn
   | none =>
    rw [ha] at hn; simp at hn
    have hx : 1 <= x := by
     by_cases hx : 1 <= x
     ·exact hx
     ·rw [(ho x hx).1] at hn; cases hn
    have hd : qDq W x = none := by unfold qDq; rw [if_neg (by omega), hw]; simp only; rw [ha]; rfl
    rw [qGq hf h c (by omega), hd]
    exact hT.nodes x n hn
 ·unfold WM.done at hy; simp only at hy; cases hw : W.nodes x with
  | some n' => rw [hw] at hy; simp at hy
  | none =>
   rw [hw] at hy; simp at hy
   cases ha : W.after x with
   | some z =>
    rw [ha] at hy; simp at hy
    subst hy; obtain ⟨h1, h2, h3, h4⟩ := hf.after x z ha; have hd : qDq W x = some (frB z) := by unfold qDq; rw [if_neg (by omega), hw]; simp only; rw [ha]; rfl
    rw [qGq hf h c (by omega), hd]
    obtain ⟨r, k1, k2⟩ := qOo (s := frB z); refine ⟨r, ?_, k2⟩; rw [k1]; unfold frB; rw [qBt]; rfl
   | none =>
    rw [ha] at hy; simp at hy
    have hx : 1 <= x := by
     by_cases hx : 1 <= x
     ·exact hx
     ·rw [(ho x hx).2] at hy; simp at hy
    have hd : qDq W x = none := by unfold qDq; rw [if_neg (by omega), hw]; simp only; rw [ha]; rfl
    rw [qGq hf h c (by omega), hd]
    exact hT.after x y hy.2
 ·have hd : qDq W 0 = some (stB W) := by unfold qDq; rw [if_pos rfl]
  have := qGq hf h c (x := 0) (by omega)
  rw [hd] at this; obtain ⟨r, k1, k2⟩ := qOo (s := stB W); refine ⟨r, ?_, k2⟩; have e : upc c cs 0 = pad (stB W) := this; rw [e, k1]; unfold stB; rw [qBt]; rfl
theorem WI.fits {T : TM} {W : WM} {m : Nat} {l : List KV} {H N L : Nat} (h : WI T m W l H N) (hn : W.next <= (L : Int)) (hL : L <= 16384) (hg : ∀ x n, W.nodes x = some n -> qBj n.1 n.2) : qRp W L := by
 have hT := (qVc h).nums (by show W.next <= _; omega)
 have aux : ∀ (U F : List Int), Acc T W U [] F -> (∀ x ∈ U, ∀ n, W.nodes x = some n -> n.1 = false -> ∀ e ∈ n.2, e.kid < 16384) -> qRp W L := fun U F hA hk => by
  have hin : ∀ x, (W.nodes x ≠ none \/ W.after x ≠ none) -> 1 <= x /\ x < W.next := fun x hx => by
   by_cases hc : 1 <= x /\ x < W.next
   ·exact hc
   ·have := hA.out x hc; exact hx.elim (fun h => absurd this.1 h) (fun h => absurd this.2.1 h)
  refine ⟨hn, hL, fun x n hx => ?_, fun x y hy => ?_, hT⟩
  ·have h1 := hin x (.inl (by rw [hx]; exact fun e => by cases e))
   have hgx := hg x n hx; refine ⟨jBd hgx (fun hl => ?_), hgx.clean, h1.1, h1.2⟩
   by_cases hu : x ∈ U
   ·exact hk x hu n hx hl
   ·exfalso
    by_cases hf : x ∈ F
    ·have := (hA.free x hf).1; rw [hx] at this; cases this
    ·have hc := hA.cnt x; rw [List.count_eq_zero.2 hu, List.count_eq_zero.2 hf, if_pos h1] at hc; simp at hc
  ·have h1 := hin x (.inr (by rw [hy]; exact fun e => by cases e))
   have hxf : x ∈ F := by
    by_cases hf : x ∈ F
    ·exact hf
    ·exfalso
     have hc := hA.cnt x; rw [List.count_eq_zero.2 hf, if_pos h1] at hc; have hu : x ∈ U := List.count_pos_iff.1 (by simp at hc; omega)
     have := (hA.used x (.inl hu)).1; rw [hy] at this; cases this
   have hlink : W.link T x = some y := by unfold WM.link; rw [hy]
   have haux : ∀ (G : List Int) (f : Int), qMl (W.link T) f G -> x ∈ G -> y = 0 \/ y ∈ G := by
    intro G; induction G with
    | nil => intro f _ hx; cases hx
    | cons z G ih =>
     intro f hc hx; obtain ⟨rfl, _, w, q1, q2⟩ := hc; rcases List.mem_cons.1 hx with rfl | hx
     ·rw [hlink] at q1; cases q1
      rcases qGm q2 with ⟨h, _⟩ | ⟨h, _⟩
      ·exact .inl h
      ·exact .inr (List.mem_cons_of_mem _ h)
     ·exact (ih w q2 hx).imp id (List.mem_cons_of_mem _)
   refine ⟨h1.1, h1.2, ?_⟩; rcases haux F W.free hA.chain hxf with h | h
   ·omega
   ·have := hA.spot (.inr (.inl h)); omega
 obtain ⟨_, _, h3⟩ := h; rcases h3 with ⟨_, _, _, F, hA⟩ | ⟨ht, t, F, hR, _⟩
 ·exact aux [] F hA (fun x hx => by cases hx)
 ·refine aux _ F hR.acc (fun x hx n hx2 hl => ?_)
  have hsp : ∀ x ∈ secs ht W.root t, x < 16384 := fun x hx => by have := hR.acc.spot (.inl hx); omega
  have haux : ∀ (g : Nat) (s : Int) (u : Tr g), Sd (W.look T) m g s u -> (∀ x ∈ secs g s u, x < 16384) -> ∀ x ∈ secs g s u, ∀ n, W.look T x = some n -> n.1 = false -> ∀ e ∈ n.2, e.kid < 16384 := by
   intro g; induction g with
   | zero =>
    intro s u hu _ x hx n hn hl; have hx : x ∈ [s] := hx; rw [List.mem_singleton] at hx; subst hx; rw [hu.1] at hn; cases hn
    cases hl
   | succ g ih =>
    intro s u hu hb x hx n hn hl; have hx : x ∈ s :: qAl u := hx; rcases List.mem_cons.1 hx with hx | hx
    ·subst hx; rw [hu.1.1] at hn; cases hn
     intro e he; have he : e ∈ List.map eE u := he; obtain ⟨y, hy, rfl⟩ := List.mem_map.1 he; exact hb y.spot (by
      show y.spot ∈ x :: qAl u; unfold qAl; exact List.mem_cons_of_mem _ (List.mem_flatMap.2 ⟨y, hy, by rw [qDe]; exact List.mem_cons_self⟩))
    ·unfold qAl at hx; obtain ⟨y, hy, hx⟩ := List.mem_flatMap.1 hx; refine ih y.spot y.sub (hu.2 y hy).1 (fun z hz => hb z ?_) x hx n hn hl
     show z ∈ s :: qAl u; unfold qAl; exact List.mem_cons_of_mem _ (List.mem_flatMap.2 ⟨y, hy, hz⟩)
  exact haux ht W.root t hR.sd hsp x hx n (by unfold WM.look; rw [hx2]) hl
end
section
open Go Go.RowKit
set_option maxRecDepth 100000
set_option maxHeartbeats 1000000 in
theorem jAu {w : World} {j d room : Nat} {sa : Option Addr} {D : Dsk} (hD : qAp w d sa D) (hj : JAt w j d room) (hne : ¬ qBi d sa j) (hn : D.secs.length <= 16384) (hr : room <= 500) (i : Int) :
  Calls Tryz.prog 24 #[.pointer (some ⟨j, 0, none⟩), .int .i64 i] w fun e w' => e = .returned (.tuple #[.string (qEj room D i).1, .int .i64 (qEj room D i).2]) /\ qAp w' d sa D /\ Mod (qBi d sa) w w' := by
 have HD := hid hD; by_cases h0 : i < 0
 ·have e : qEj room D i = (⟨#[]⟩, 10) := by unfold qEj; rw [if_pos (.inl h0)]
  rw [e]; have d0 : decide (i < 0) = true := by simpa using h0
  clear hj hD; go_enter Tryz.func24, Tryz.ntmps24
  go_wp2
  go_ret2; exact ⟨rfl, HD.out, Mod.refl _ _⟩
 ·have d0 : decide (i < 0) = false := by simpa using h0
  have HJl := hid (qKt hD hj hn hr); have HJ := hid hj; by_cases h1 : (jlen room D : Int) <= i
  ·have e : qEj room D i = (⟨#[]⟩, 10) := by unfold qEj; rw [if_pos (.inr h1)]
   rw [e]; have d1 : decide ((jlen room D : Int) <= i) = true := by simpa using h1
   clear hj hD; go_enter Tryz.func24, Tryz.ntmps24
   go_wp2_with fail
   refine HJl.out.mono ?_; rintro e w1 ⟨rfl, hm⟩; have HM := hid hm; clear hm; go_wp2
   go_ret2; exact ⟨rfl, HD.out.mod HM.out (fun _ _ h => h), HM.out.mono (fun _ _ h => h.elim)⟩
  ·have e : qEj room D i = qDf D ((room : Int) + 1 + i) := by unfold qEj; rw [if_neg (by omega)]
   rw [e]; have d1 : decide ((jlen room D : Int) <= i) = false := by simpa using h1
   have hi : i <= 16384 := by unfold jlen at h1; omega
   obtain ⟨n, rfl⟩ := Int.eq_ofNat_of_zero_le (show 0 <= i by omega)
   have e2 : ((room + 1 + n : Nat) : Int) = (room : Int) + 1 + (n : Int) := by omega
   have HRa := hid (fun (v : World) (h : qAp v d sa D) => qOi h ((room : Int) + 1 + (n : Int)))
   generalize qDf D ((room : Int) + 1 + (n : Int)) = r at *; clear hj hD e; go_enter Tryz.func24, Tryz.ntmps24
   go_wp2_with fail
   refine HJl.out.mono ?_; rintro e w1 ⟨rfl, hm⟩; have HP := hid (qNm (w := w1.drew) (HJ.out.mod hm.drew (fun h => h)) hr n (by omega))
   have HR := hid (HRa.out w1.drew (HD.out.mod hm.drew (fun _ _ h => h)))
   rw [e2] at HP; have HJ1 := hid (HJ.out.mod hm.drew (fun h => h))
   obtain ⟨c0, c1⟩ := HJ1.out.cells; have HM := hid (hm.drew.mono (T := qBi d sa) (fun _ _ h => h.elim))
   clear hm e2; go_wp2_with fail
   go_region_held3 (fun w' => w'.cell? ⟨j, 0, none⟩ = some (.pointer (some ⟨d, 0, none⟩)))
    (first | exact x0 | exact c0 | go_keep)
    (first
     | (go_at_call 46; (with_reducible refine HP.out.mono ?_); rintro e v1 ⟨rfl, rfl⟩)
     | (go_at_call 43; (with_reducible refine HR.out.mono ?_); rintro e v2 ⟨rfl, hd2, hm2⟩; have HD2 := hid hd2; obtain ⟨x0, x1⟩ := (HJ1.out.mod hm2 hne).cells; have HM2 := hid hm2; clear hd2 hm2))
   all_goals
    go_wp2_with fail
    go_ret2; exact ⟨rfl, HD2.out, HM.out.trans HM2.out⟩
theorem jEl (w : World) : Own w 3 1 none 0 0 (nums []) := Own.nil w 3 1
theorem jIk (room i : Nat) (D : Dsk) : finF room i [] D = qBb D 0 (ba [0]) := rfl
theorem jFt (room i n : Nat) (l : List Nat) (D : Dsk) : finF room i (n :: l) D =
  if (qDf D (1 + (i : Int))).2 = 0 then
   (if (qBb D ((room : Int) + 1 + (n : Int)) (qDf D (1 + (i : Int))).1).1 = 0 then finF room (i + 1) l (qBb D ((room : Int) + 1 + (n : Int)) (qDf D (1 + (i : Int))).1).2
    else qBb D ((room : Int) + 1 + (n : Int)) (qDf D (1 + (i : Int))).1)
  else ((qDf D (1 + (i : Int))).2, D) := by
 rw [finF, show ((1 + i : Nat) : Int) = 1 + (i : Int) by omega, show ((room + 1 + n : Nat) : Int) = (room : Int) + 1 + (n : Int) by omega]
theorem jIh : hdL [] = [0] := by unfold hdL; rw [List.length_nil, qCk (by omega)]; rfl
def FinR (room : Nat) (l : List Nat) (D : Dsk) (k : Nat) (D' : Dsk) : Prop := finF room 0 l D = finF room k (l.drop k) D' /\ D'.secs.length = D.secs.length
set_option maxHeartbeats 2000000 in
theorem qNr {w : World} {j d room k0 : Nat} {sa : Option Addr} {D : Dsk} (hD : qAp w d sa D) (hj : JAt w j d room) (hne : ¬ qBi d sa j) (hb : Bud D k0) (hk0 : k0 <= 2305843009213693952) (hr : room <= 500)
  {la : Option Addr} {cap : Nat} {l : List Nat} (hl : Own w 3 1 la l.length cap (nums l)) (hlen : l.length <= 500) (hln : ∀ n ∈ l, n <= 16384) (hls : ∀ k, blk la k -> ¬ qBi d sa k) :
  Calls Tryz.prog 45 #[.pointer (some ⟨j, 0, none⟩), .slice la l.length cap] w fun e w' => e = .returned (.int .i64 (finF room 0 l D).1) /\ qAp w' d sa (finF room 0 l D).2 /\ Mod (qBi d sa) w w' := by
 have HD := hid hD; have HJ := hid hj; have HB := hid hb; have HL := hid hl; have HLn := hid hln; have HLs := hid hls; have HR0 : Hid (FinR room l D 0 D) := ⟨rfl, rfl⟩; obtain ⟨F, hF⟩ : ∃ F, finF room 0 l D = F := ⟨_, rfl⟩; rw [hF]; have HF := hid hF; clear hD hj hb hl hln hls hF; go_enter Tryz.func45, Tryz.ntmps45
 go_wp2_with fail
 go_loopw [11] (fun c wr => ∃ (k : Nat) (D' : Dsk), k <= l.length /\ c = .int .i64 k /\ qAp wr d sa D' /\ Bud D' (k0 + k) /\ FinR room l D k D' /\ Mod (qBi d sa) w wr) (fun c _ => l.length - (intOf c).toNat)
 case atStart => exact ⟨0, D, Nat.zero_le _, rfl, HD.out, HB.out, HR0.out, Mod.refl _ _⟩
 case round =>
  obtain ⟨k, D', hk, rfl, hd, hbd, hfr, hm⟩ := hrel; have HDk := hid hd; have HBk := hid hbd; have HFk := hid hfr; have HM := hid hm; have HJk := hid (HJ.out.mod hm hne); obtain ⟨c0, c1⟩ := HJk.out.cells; clear hd hbd hfr hm; by_cases hlt : k < l.length
  ·obtain ⟨g, off, rfl⟩ := HL.out.some_lit (by omega)
   have hc := (HL.out.mod HM.out HLs.out).num hlt; have hx := HLn.out l[k] (List.getElem_mem hlt); have hS : F = finF room k (l[k] :: l.drop (k + 1)) D' := by rw [<- List.drop_eq_getElem_cons hlt, <- HFk.out.1]; exact HF.out.symm
   rw [jFt] at hS; have HRd := hid (qOi HDk.out (1 + (k : Int))); have hrs := HBk.out.read (1 + (k : Int)); generalize l[k] = x at *; generalize qDf D' (1 + (k : Int)) = r at *; have HRs := hid hrs; by_cases hz : r.2 = 0
   ·rw [if_pos hz] at hS; have HS := hid hS; have hz2 : (r.2 == 0) = true := by simpa using hz
    clear hS hrs; go_wp2_with fail
    refine HRd.out.mono ?_; rintro e w1 ⟨rfl, hd1, hm1⟩; have hJ1 := HJk.out.mod hm1 hne; have hP := (qNm (w := w1.drew) (hJ1.mod (Mod.refl (fun _ => False) w1).drew (fun h => h)) hr x hx)
    rw [show ((room + 1 + x : Nat) : Int) = (room : Int) + 1 + (x : Int) by omega] at hP
    have HP := hid hP; clear hP; have HW := hid (qHv (w := w1.drew) (hd1.mod (Mod.refl (fun _ => False) w1).drew (fun _ _ h => h)) (HBk.out.ok (by omega)) ((room : Int) + 1 + (x : Int)) r.1 (by unfold maxLen; have := HRs.out; omega))
    have HBw := hid (HBk.out.write ((room : Int) + 1 + (x : Int)) r.1); have hwl := qCs D' ((room : Int) + 1 + (x : Int)) r.1; rw [HFk.out.2] at hwl; have HWl := hid hwl; have HJ2 := hid (hJ1.mod (Mod.refl (fun _ => False) w1).drew (fun h => h))
    have HM2 := hid ((HM.out.trans hm1).drew); obtain ⟨v0, v1⟩ := HJ2.out.cells; generalize qBb D' ((room : Int) + 1 + (x : Int)) r.1 = q at *; clear hd1 hm1 hJ1 hc c0 c1 hwl; go_wp2_with fail
    go_region_held3 (fun w' => w'.cell? ⟨j, 0, none⟩ = some (.pointer (some ⟨d, 0, none⟩)))
     (first | exact x0 | exact v0 | go_keep)
     (first
      | (go_at_call 46; (with_reducible refine HP.out.mono ?_); rintro e v1 ⟨rfl, rfl⟩)
      | (go_at_call 71; (with_reducible refine HW.out.mono ?_); rintro e w2 ⟨rfl, hd2, hm2⟩; have HD3 := hid hd2; obtain ⟨x0, x1⟩ := (HJ2.out.mod hm2 hne).cells; have HM3 := hid (HM2.out.trans hm2); clear hd2 hm2))
    all_goals
     by_cases hq : q.1 = 0
     ·have hq2 : (q.1 == 0) = true := by simpa using hq
      have hs2 := HS.out; rw [if_pos hq] at hs2; have HS2 : Hid (FinR room l D (k + 1) q.2) := ⟨HF.out.trans hs2, HWl.out⟩; clear hs2 hq; go_wp2_with fail
      go_roundw
      case rel => exact ⟨k + 1, q.2, by omega, by go_num, HD3.out, HBw.out, HS2.out, HM3.out⟩
      case measure => simp [intOf]; omega
     ·have hq2 : (q.1 == 0) = false := by simpa using hq
      have hs2 := HS.out; rw [if_neg hq] at hs2; clear hq; go_wp2_with fail
      go_ret; rw [hs2]; exact ⟨rfl, HD3.out, HM3.out⟩
   ·rw [if_neg hz] at hS; have HS := hid hS; have hz2 : (r.2 == 0) = false := by simpa using hz
    clear hS hrs hz; go_wp2_with fail
    refine HRd.out.mono ?_; rintro e w1 ⟨rfl, hd1, hm1⟩; have HD1 := hid hd1; have HM1 := hid (HM.out.trans hm1); clear hd1 hm1 hc c0 c1; go_wp2_with fail
    go_ret; rw [HS.out]; exact ⟨rfl, HD1.out, HM1.out⟩
  ·have hke : k = l.length := by omega
   subst hke; have hS : F = qBb D' 0 (ba [0]) := by rw [<- jIk room l.length, <- HF.out, HFk.out.1, List.drop_length]
   have HH : Hid (Calls Tryz.prog 72 #[.slice none 0 0] wr.drew fun e w' => e = .returned (.string (ba [0])) /\ Mod (fun _ => False) wr.drew w') := hid (by
    have := qUy (w := wr.drew) (cap := 0) (jEl wr.drew) (by simp) (by simp)
    rw [jIh] at this; exact this)
   have HWa : Hid (∀ v, Mod (fun _ => False) wr v -> Calls Tryz.prog 71 #[.pointer (some ⟨d, 0, none⟩), .int .i64 0, .string (ba [0])] v fun e w' => e = .returned (.int .i64 F.1) /\ qAp w' d sa F.2 /\ Mod (qBi d sa) v w') := hid (fun v hv => by
    have := qHv (HDk.out.mod hv (fun _ _ h => h)) (HBk.out.ok (by omega)) 0 (ba [0]) (by have := qIh; unfold maxLen; omega)
    rw [<- hS] at this; exact this)
   have HJd : Hid (∀ v, Mod (fun _ => False) wr v -> v.cell? ⟨j, 0, none⟩ = some (.pointer (some ⟨d, 0, none⟩))) := hid (fun v hv => (HJk.out.mod hv (fun h => h)).cells.1)
   have hw0 : Mod (fun _ => False) wr wr.drew := (Mod.refl _ _).drew
   have HW0 := hid hw0; have z0 := HJd.out _ hw0; clear hS c0 c1 hw0; go_wp2_with fail
   go_region_held3 (fun w' => w'.cell? ⟨j, 0, none⟩ = some (.pointer (some ⟨d, 0, none⟩)))
    (first | exact x0 | exact y0 | exact z0 | go_keep)
    (first
     | (go_at_call 72; (with_reducible refine HH.out.mono ?_); rintro e v1 ⟨rfl, hm1⟩; have HV1 := hid (HW0.out.trans hm1); have y0 := HJd.out v1 HV1.out; clear hm1)
     | (go_at_call 71; (with_reducible refine (HWa.out _ HV1.out).mono ?_); rintro e w2 ⟨rfl, hd2, hm2⟩; have HD3 := hid hd2; obtain ⟨x0, x1⟩ := ((HJk.out.mod HV1.out (fun h => h)).mod hm2 hne).cells; have HM3 := hid (HM.out.trans ((HV1.out.mono (fun _ _ h => h.elim)).trans hm2)); clear hd2 hm2))
   all_goals
    go_wp2_with fail
    go_ret; exact ⟨rfl, HD3.out, HM3.out⟩
end
section
open Go Go.RowKit
def jJe (w : World) (d : Nat) (sa : Option Addr) (room : Nat) (R : Int × Dsk) (e : Ending) (w' : World) : Prop :=
 qAp w' d sa R.2 /\ Mod (qBi d sa) w w' ∧
  ((R.1 = 0 /\ ∃ j, e = .returned (.tuple #[.pointer (some ⟨j, 0, none⟩), .int .i64 0]) /\ JAt w' j d room /\ w.heap.size <= j) \/ (R.1 ≠ 0 /\ e = .returned (.tuple #[.pointer none, .int .i64 R.1])))
theorem jBm (room : Nat) (l : List Nat) (D : Dsk) (n : Nat) (r : List Nat) (h : l = n :: r) : jHq room D (some l) = finF room 0 l D := by subst h; rfl
set_option maxRecDepth 100000
set_option maxHeartbeats 2000000 in
theorem jEk {w : World} {d k0 room : Nat} {sa : Option Addr} {D : Dsk} (hD : qAp w d sa D) (hb : Bud D k0) (hk0 : k0 <= 2305843009213693952) (h1 : 1 <= room) (hr : room <= 500) :
  Calls Tryz.prog 23 #[.pointer (some ⟨d, 0, none⟩), .int .i64 (room : Int)] w fun e w' => jJe w d sa room (qJj room D) e w' := by
 have d1 : decide ((room : Int) < 1) = false := by rw [decide_eq_false_iff_not]; omega
 have d2 : decide (500 < (room : Int)) = false := by rw [decide_eq_false_iff_not]; omega
 have HD := hid hD; have HLt := hid hD.lt; have HOF : Hid (qJj room D = if (qDf D 0).2 = 0 then jHq room D (numF room (jlen room D) (qDf D 0).1) else ((qDf D 0).2, D)) := hid rfl
 have HRd := hid (fun (v : World) (hv : qAp v d sa D) => qOi hv 0)
 have HRs := hid (hb.read 0); have HB := hid hb; have hn := hb.n; generalize qJj room D = F at *; generalize qDf D 0 = r at *; clear hD hb; go_enter Tryz.func23, Tryz.ntmps23
 go_wp2_with fail
 have hma : Mod (fun _ => False) w (w.alloc (.cells #[.pointer (some ⟨d, 0, none⟩), .int .i64 (room : Int)] 135)) := (Mod.refl _ _).alloc _
 have hja : JAt (w.alloc (.cells #[.pointer (some ⟨d, 0, none⟩), .int .i64 (room : Int)] 135)) w.heap.size d room := heap_alloc_new _ _; have HD1 := hid (HD.out.mod hma (fun _ _ h => h))
 have hne : ¬ qBi d sa w.heap.size := fun h => by have := HLt.out _ h; omega
 generalize w.alloc (.cells #[.pointer (some ⟨d, 0, none⟩), .int .i64 (room : Int)] 135) = W at *; have HM := hid (hma.mono (T := qBi d sa) (fun _ _ h => h.elim))
 have HJ := hid hja; clear hma hja; refine (HRd.out _ HD1.out).mono ?_; rintro e w1 ⟨rfl, hd1, hm1⟩; have HD2 := hid hd1; have HM1 := hid (HM.out.trans hm1); have HJ1 := hid (HJ.out.mod hm1 hne); clear hd1 hm1; by_cases hz : r.2 = 0
 ·have hof := HOF.out; rw [if_pos hz] at hof; rw [hz]; have HN := hid (qSk HD2.out HJ1.out hn hr r.1 (by have := HRs.out; omega))
  cases hnum : numF room (jlen room D) r.1 with
  | none =>
   rw [hnum] at hof HN; have HO := hid hof; clear hof hnum hz; go_wp2_with fail
   refine HN.out.mono ?_; rintro e w2 ⟨hm2, rfl⟩; have HM2 := hid (HM1.out.trans (hm2.mono (fun _ _ h => h.elim)))
   have HD3 := hid (HD2.out.mod hm2 (fun _ _ h => h))
   clear hm2; go_wp2_with fail
   go_ret2; rw [HO.out]; exact ⟨HD3.out, HM2.out, .inr ⟨(show (32 : Int) ≠ 0 by decide), rfl⟩⟩
  | some l =>
   rw [hnum] at hof HN; have HO := hid hof; clear hof hnum hz; go_wp2_with fail
   refine HN.out.mono ?_; rintro e w2 ⟨hm2, la, cap, rfl, hol, hbl, hl5, hln⟩; have HM2 := hid (HM1.out.trans (hm2.mono (fun _ _ h => h.elim)))
   have HD3 := hid (HD2.out.mod hm2 (fun _ _ h => h))
   have HJ2 := hid (HJ1.out.mod hm2 (fun h => h))
   have HL := hid hol; have HLn := hid hln; have HBl : Hid (∀ k, blk la k -> ¬ qBi d sa k) := hid (fun k hk h => by have := HD2.out.lt k h; have := hbl k hk; omega)
   clear hm2 hol hbl hln; cases l with
   | nil =>
    clear hl5; simp only [List.length_nil] at *; go_wp2_with fail
    go_ret2; rw [HO.out]; exact ⟨HD3.out, HM2.out, .inl ⟨rfl, _, rfl, HJ2.out, Nat.le_refl _⟩⟩
   | cons n l =>
    have hpos : 0 < (n :: l).length := by simp
    have HFi := hid (qNr HD3.out HJ2.out hne HB.out hk0 hr HL.out hl5 HLn.out HBl.out); rw [<- jBm room (n :: l) D n l rfl, <- HO.out] at HFi; generalize (n :: l).length = len at *; have c1 : decide (0 < (len : Int)) = true := by rw [decide_eq_true_iff]; omega
    go_wp2_with fail
    refine HFi.out.mono ?_; rintro e w3 ⟨rfl, hd3, hm3⟩; have HM3 := hid (HM2.out.trans hm3); have HD4 := hid hd3; have HJ3 := hid (HJ2.out.mod hm3 hne); clear hd3 hm3; by_cases hf : F.1 = 0
    ·have hf2 : (F.1 == 0) = true := by simpa using hf
     have HF0 := hid hf; clear hf; go_wp2_with fail
     go_ret2; exact ⟨HD4.out, HM3.out, .inl ⟨HF0.out, _, rfl, HJ3.out, Nat.le_refl _⟩⟩
    ·have hf2 : (F.1 == 0) = false := by simpa using hf
     have HF0 := hid hf; clear hf; go_wp2_with fail
     go_ret2; exact ⟨HD4.out, HM3.out, .inr ⟨HF0.out, rfl⟩⟩
 ·have hz2 : (r.2 == 0) = false := by simpa using hz
  have hof := HOF.out; rw [if_neg hz] at hof; have HO := hid hof; have HZ := hid hz; clear hof hz; go_wp2_with fail
  go_ret2; rw [HO.out]; exact ⟨HD2.out, HM1.out, .inr ⟨HZ.out, rfl⟩⟩
end
end Go.Proofs.YtkinkgbmlhiakaaGreatDoor
