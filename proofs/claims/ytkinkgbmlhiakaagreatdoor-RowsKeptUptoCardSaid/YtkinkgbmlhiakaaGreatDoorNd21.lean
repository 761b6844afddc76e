/- merged: TrS TwN -/
import Derived.Test.YtkinkgbmlhiakaaGreatDoorNd20
import Derived.Test.YtkinkgbmlhiakaaGreatDoorNd19
import Derived.Test.YtkinkgbmlhiakaaGreatDoorNd08
import Derived.Deep.DeepCutAuto
import Derived.Deep.CutBlock
namespace Go.Proofs.YtkinkgbmlhiakaaGreatDoor
section
open Go Go.RowKit
def stL (root next free count : Int) : List UInt8 := 84 :: [root.toNat, next.toNat, free.toNat, count.toNat].flatMap uvar
def stB (W : WM) : ByteArray := ba (stL W.root W.next W.free W.count)
def frB (y : Int) : ByteArray := ba (70 :: uvar y.toNat)
noncomputable def ndB (n : NP) : ByteArray := if qJp (cn n.1 n.2) then ba (qAo n.1 n.2) else ⟨#[]⟩
noncomputable def qDy (W : WM) (x : Int) : Option ByteArray := if x = 0 then some (stB W) else match W.nodes x with | some n => some (ndB n) | none => (W.after x).map frB
structure Laid (W : WM) (cs : List Chg) (ln : List (Int × NP)) (la : List (Int × Int)) : Prop where
 n1 : (ln.map (·.1)).Nodup
 n2 : ∀ x n, (x, n) ∈ ln ↔ W.nodes x = some n
 a1 : (la.map (·.1)).Nodup
 a2 : ∀ x y, (x, y) ∈ la ↔ W.after x = some y
 perm : cs.Perm (ln.map (fun p => ⟨p.1, ndB p.2⟩) ++ (la.map (fun p => ⟨p.1, frB p.2⟩) ++ [⟨0, stB W⟩]))
 sort : cs.Pairwise (fun a b => a.pos <= b.pos)
structure qLh (W : WM) (cs : List Chg) : Prop where
 mem : ∀ c : Chg, c ∈ cs ↔ qDy W c.pos = some c.data
 nodup : (cs.map (·.pos)).Nodup
theorem qTs {α : Type} {l : List (Int × α)} {x : Int} (h : x ∈ l.map (·.1)) : ∃ y, (x, y) ∈ l := by
 obtain ⟨p, hp, rfl⟩ := List.mem_map.1 h; exact ⟨p.2, hp⟩
theorem qJf {T : TM} {W : WM} {U F : List Int} {cs : List Chg} {ln : List (Int × NP)} {la : List (Int × Int)} (hA : Acc T W U [] F) (h : Laid W cs ln la) : qLh W cs := by
 have h0 : W.nodes 0 = none /\ W.after 0 = none := by
  have := hA.out 0 (by omega)
  exact ⟨this.1, this.2.1⟩
 have hx : ∀ x n, W.nodes x = some n -> W.after x = none := fun x n hn => by
  by_cases hu : x ∈ U
  ·exact (hA.used x (.inl hu)).1
  ·by_cases hf : x ∈ F
   ·have := (hA.free x hf).1; rw [hn] at this; cases this
   ·have hc := hA.cnt x; rw [List.count_eq_zero.2 hu, List.count_eq_zero.2 hf] at hc; have hout : ¬ (1 <= x /\ x < W.next) := fun h => by rw [if_pos h] at hc; simp at hc
    exact (hA.out x hout).2.1
 constructor
 ·intro c; obtain ⟨x, d⟩ := c; rw [h.perm.mem_iff, List.mem_append, List.mem_append]; show _ ↔ qDy W x = some d; unfold qDy; constructor
  ·rintro (hm | hm | hm)
   ·obtain ⟨p, hp, he⟩ := List.mem_map.1 hm; cases he
    have hn := (h.n2 p.1 p.2).1 hp; have hz : p.1 ≠ 0 := fun e => by rw [e, h0.1] at hn; cases hn
    rw [if_neg hz, hn]
   ·obtain ⟨p, hp, he⟩ := List.mem_map.1 hm; cases he
    have ha := (h.a2 p.1 p.2).1 hp; have hz : p.1 ≠ 0 := fun e => by rw [e, h0.2] at ha; cases ha
    rw [if_neg hz]; cases hn : W.nodes p.1 with
    | some n => rw [hx _ _ hn] at ha; cases ha
    | none => simp only; rw [ha]; rfl
   ·rw [List.mem_singleton] at hm; cases hm
    rw [if_pos rfl]
  ·intro hd; by_cases hz : x = 0
   ·rw [if_pos hz] at hd; cases hd
    exact .inr (.inr (by rw [hz]; exact List.mem_singleton.2 rfl))
   ·rw [if_neg hz] at hd; cases hn : W.nodes x with
    | some n =>
     rw [hn] at hd; cases hd
     exact .inl (List.mem_map.2 ⟨(x, n), (h.n2 x n).2 hn, rfl⟩)
    | none =>
     rw [hn] at hd; obtain ⟨y, hy, rfl⟩ := Option.map_eq_some_iff.1 hd; exact .inr (.inl (List.mem_map.2 ⟨(x, y), (h.a2 x y).2 hy, rfl⟩))
 ·have hp := h.perm.map (·.pos); refine hp.nodup_iff.2 ?_; rw [List.map_append, List.map_append, List.map_map, List.map_map]; show ((ln.map (fun p : Int × NP => p.1)) ++ ((la.map (fun p : Int × Int => p.1)) ++ [0])).Nodup
  refine List.nodup_append.2 ⟨h.n1, List.nodup_append.2 ⟨h.a1, by simp, fun a ha b hb e => ?_⟩, fun a ha b hb e => ?_⟩
  ·rw [List.mem_singleton] at hb; obtain ⟨y, hy⟩ := qTs ha; have := (h.a2 _ _).1 hy; rw [e, hb, h0.2] at this; cases this
  ·subst e; obtain ⟨n, hn⟩ := qTs ha; have hn := (h.n2 _ _).1 hn; rcases List.mem_append.1 hb with hb | hb
   ·obtain ⟨y, hy⟩ := qTs hb; have := (h.a2 _ _).1 hy; rw [hx _ _ hn] at this; cases this
   ·rw [List.mem_singleton] at hb; rw [hb, h0.1] at hn; cases hn
theorem jGi {W : WM} {cs : List Chg} {ln : List (Int × NP)} {la : List (Int × Int)} (h : Laid W cs ln la) : cs.length = ln.length + la.length + 1 := by
 rw [h.perm.length_eq]; simp
 omega
theorem qMc : ∀ {l m : List Int}, l.Nodup -> (∀ x ∈ l, x ∈ m) -> l.length <= m.length
 | [], _, _, _ => Nat.zero_le _
 | a :: l, m, hn, hs => by
  obtain ⟨h1, h2⟩ := List.nodup_cons.1 hn; have ha := hs a List.mem_cons_self; have ih := qMc (m := m.erase a) h2 (fun x hx => (List.mem_erase_of_ne (fun e => h1 (by rw [<- e]; exact hx))).2 (hs x (List.mem_cons_of_mem _ hx)))
  have hp := List.length_pos_of_mem ha; rw [List.length_erase_of_mem ha] at ih; rw [List.length_cons]; omega
theorem qYd {W : WM} {cs : List Chg} {X : List Int} (h : qLh W cs) (hX : ∀ y, qNo W y -> y ∈ X) : cs.length <= X.length + 1 := by
 have h1 : (cs.map (·.pos)).length <= (0 :: X).length := by
  refine qMc h.nodup (fun x hx => ?_)
  obtain ⟨c, hc, rfl⟩ := List.mem_map.1 hx; have hd := (h.mem c).1 hc; unfold qDy at hd; by_cases hz : c.pos = 0
  ·rw [hz]; exact List.mem_cons_self
  ·rw [if_neg hz] at hd; refine List.mem_cons_of_mem _ (hX _ ?_); cases hn : W.nodes c.pos with
   | some n => exact .inl (by rw [hn]; exact fun e => by cases e)
   | none =>
    rw [hn] at hd; obtain ⟨y, hy, _⟩ := Option.map_eq_some_iff.1 hd; exact .inr (by rw [hy]; exact fun e => by cases e)
 rw [List.length_map, List.length_cons] at h1; exact h1
theorem qOl {len : Nat} : ∀ (cs : List Chg) (met : List Nat), (∀ c ∈ cs, 0 <= c.pos /\ c.pos < len /\ c.data.size <= 1024) -> (places cs).Nodup -> (∀ c ∈ cs, c.pos.toNat ∉ met) -> qCk len met cs = 0
 | [], _, _, _, _ => rfl
 | c :: r, met, h, hn, hm => by
  obtain ⟨h1, h2, h3⟩ := h c List.mem_cons_self; have hn : (c.pos.toNat :: places r).Nodup := hn; obtain ⟨n1, n2⟩ := List.nodup_cons.1 hn; rw [qCk, if_neg (by omega), if_neg (by omega), if_neg (hm c List.mem_cons_self)]
  refine qOl r _ (fun x hx => h x (List.mem_cons_of_mem _ hx)) n2 (fun x hx hh => ?_)
  rcases List.mem_append.1 hh with hh | hh
  ·exact hm x (List.mem_cons_of_mem _ hx) hh
  ·rw [List.mem_singleton] at hh; exact n1 (by rw [<- hh]; exact List.mem_map.2 ⟨x, hx, rfl⟩)
def rdOf (c : Nat -> ByteArray) (x : Int) : ByteArray := c x.toNat
structure DT (L : Nat) (c : Nat -> ByteArray) (T : TM) : Prop where
 size : ∀ q, q < L -> (c q).size <= 1024
 nodes : ∀ x n, T.nodes x = some n -> ∃ r, (rdOf c x).data.toList = qAo n.1 n.2 ++ r /\ AllZ r
 after : ∀ x y, T.after x = some y -> ∃ r, (rdOf c x).data.toList = 70 :: (uvar y.toNat ++ r) /\ AllZ r
 state : (T = newT /\ AllZ (c 0).data.toList) \/ ∃ r, (c 0).data.toList = stL T.root T.next T.free T.count ++ r /\ AllZ r
theorem qEi {n : Nat} (h : n <= 16777216) : (uvar n).length <= 4 := qIs 3 n (by omega)
theorem jIs {a b c d : Int} (ha : a <= 16777216) (hb : b <= 16777216) (hc : c <= 16777216) (hd : d <= 16777216) : (stL a b c d).length <= 17 := by
 have h1 := qEi (n := a.toNat) (by omega)
 have h2 := qEi (n := b.toNat) (by omega)
 have h3 := qEi (n := c.toNat) (by omega)
 have h4 := qEi (n := d.toNat) (by omega)
 unfold stL; simp
 omega
theorem qQb {look : Int -> Option NP} {m : Nat} : ∀ {h : Nat} {s : Int} {t : Tr h}, Sd look m h s t -> (flat h t).length <= 511 * (secs h s t).length
 | 0, s, l, k => by
  have h1 := k.2.len; have h2 : (eOf 0 l).length = List.length (α := KV) l := List.length_map ..; show List.length (α := KV) l <= 511 * 1; omega
 | h + 1, s, l, k => by
  have aux : ∀ r : List (TE (Tr h)), (∀ e ∈ r, Sd look m h e.spot e.sub) -> (qAg r).length <= 511 * (qAl r).length := by
   intro r; induction r with
   | nil => intro _; exact Nat.zero_le _
   | cons e r ih =>
    intro hr; have h1 := qQb (hr e List.mem_cons_self); have h2 := ih (fun x hx => hr x (List.mem_cons_of_mem _ hx))
    have h3 : qAg (e :: r) = flat h e.sub ++ qAg r := by unfold qAg; rw [List.flatMap_cons]
    rw [h3, qBn, List.length_append, List.length_append]; omega
  have h1 := aux l (fun e he => (k.2 e he).1)
  show (qAg l).length <= 511 * (s :: qAl l).length; rw [List.length_cons]; omega
theorem TI.nums {T : TM} {m : Nat} {l : List KV} {H N : Nat} (h : TI T m l H N) (hn : T.next <= 16384) : 0 <= T.root /\ T.root <= 16384 /\ 1 <= T.next /\ 0 <= T.free /\ T.free <= 16384 /\ 0 <= T.count /\ T.count <= 16777216 := by
 obtain ⟨h1, h2, h3⟩ := h; have h2 : T.count = l.length := h2; rcases h3 with ⟨h4, rfl, _, F, hA⟩ | ⟨ht, t, F, hR, hN⟩
 ·have h4 : T.root = 0 := h4; have hp : 1 <= T.next := hA.pos; have hF : T.free = 0 \/ (1 <= T.free /\ T.free < T.next) := by
   have hc : qNe _ T.free F := hA.chain; rcases qHc hc with ⟨h, _⟩ | ⟨h, _⟩
   ·exact .inl h
   ·exact .inr (hA.spot (.inr (.inl h)))
  have : ([] : List KV).length = 0 := rfl; rw [this] at h2; omega
 ·have hA := hR.acc; have hp : 1 <= T.next := hA.pos; have hr : 1 <= T.root /\ T.root < T.next := hA.spot (.inl (by rw [qDl]; exact List.mem_cons_self))
  have hF : T.free = 0 \/ (1 <= T.free /\ T.free < T.next) := by
   have hc : qNe _ T.free F := hA.chain; rcases qHc hc with ⟨h, _⟩ | ⟨h, _⟩
   ·exact .inl h
   ·exact .inr (hA.spot (.inr (.inl h)))
  have hl := hA.len; have hb : T.begin.next = T.next := rfl; rw [hb] at hl; have hf := qQb hR.sd; rw [hR.fl] at hf; simp only [List.length_nil] at hl; omega
theorem qPh {s : ByteArray} : ∃ r, (pad s).data.toList = s.data.toList ++ r /\ AllZ r := ⟨_, qPi s, qJw _⟩
structure qSn (W : WM) (L : Nat) : Prop where
 next : W.next <= (L : Int)
 le : L <= 16384
 nodes : ∀ x n, W.nodes x = some n -> qJp (cn n.1 n.2) = true /\ qFb n.1 n.2 /\ 1 <= x /\ x < W.next
 after : ∀ x y, W.after x = some y -> 1 <= x /\ x < W.next /\ 0 <= y /\ y <= 16384
 nums : 0 <= W.root /\ W.root <= 16384 /\ 1 <= W.next /\ 0 <= W.free /\ W.free <= 16384 /\ 0 <= W.count /\ W.count <= 16777216
theorem qSn.data {W : WM} {L : Nat} (h : qSn W L) {x : Int} {d : ByteArray} (hd : qDy W x = some d) : 0 <= x /\ x < L /\ d.size <= 1024 := by
 have hn := h.next; have hl := h.le; obtain ⟨n1, n2, n3, n4, n5, n6, n7⟩ := h.nums; unfold qDy at hd; by_cases hz : x = 0
 ·rw [if_pos hz] at hd; cases hd
  refine ⟨by omega, by omega, ?_⟩
  unfold stB; rw [qAf]; have := jIs (a := W.root) (b := W.next) (c := W.free) (d := W.count) (by omega) (by omega) (by omega) (by omega)
  omega
 ·rw [if_neg hz] at hd; cases hn : W.nodes x with
  | some n =>
   rw [hn] at hd; cases hd
   obtain ⟨h1, h2, h3, h4⟩ := h.nodes x n hn; refine ⟨by omega, by omega, ?_⟩
   unfold ndB; rw [if_pos h1, qAf]; have hh : Has (cn n.1 n.2) n.1 n.2 := ⟨rfl, rfl, rfl, rfl⟩; unfold qJp at h1; rw [Bool.and_eq_true, decide_eq_true_eq, hh.ents h2] at h1; exact h1.2
  | none =>
   rw [hn] at hd; obtain ⟨y, hy, rfl⟩ := Option.map_eq_some_iff.1 hd; obtain ⟨h1, h2, h3, h4⟩ := h.after x y hy; refine ⟨by omega, by omega, ?_⟩
   unfold frB; rw [qAf, List.length_cons]; have := qEi (n := y.toNat) (by omega)
   omega
theorem qGp {W : WM} {L : Nat} {cs : List Chg} (hf : qSn W L) (h : qLh W cs) : (places cs).Nodup := by
 have h1 : places cs = (cs.map (·.pos)).map Int.toNat := by unfold places; rw [List.map_map]; rfl
 rw [h1]; refine List.Pairwise.map _ (fun a b hab => hab) ?_
 refine (List.pairwise_iff_getElem.1 h.nodup |> fun hp => List.pairwise_iff_getElem.2 (fun i j hi hj hij he => ?_))
 have h2 := hp i j hi hj hij; rw [List.length_map] at hi hj; rw [List.getElem_map, List.getElem_map] at h2 he; have p1 := (hf.data ((h.mem cs[i]).1 (List.getElem_mem hi))).1; have p2 := (hf.data ((h.mem cs[j]).1 (List.getElem_mem hj))).1; omega
theorem qYe {W : WM} {L : Nat} {cs : List Chg} (hf : qSn W L) (h : qLh W cs) : qCk L [] cs = 0 :=
 qOl cs [] (fun c hc => hf.data ((h.mem c).1 hc)) (qGp hf h) (fun _ _ h => by cases h)
theorem qHf {W : WM} {L : Nat} {cs : List Chg} (hf : qSn W L) (h : qLh W cs) (c : Nat -> ByteArray) {x : Int} (hx : 0 <= x) : rdOf (upc c cs) x = match qDy W x with | some d => pad d | none => rdOf c x := by
 cases hd : qDy W x with
 | some d =>
  have hm := (h.mem ⟨x, d⟩).2 hd; obtain ⟨m, hm⟩ := List.mem_iff_getElem?.1 hm; exact qOv (qGp hf h) hm
 | none =>
  refine qUs (fun hh => ?_)
  obtain ⟨y, hy, he⟩ := List.mem_map.1 hh; have hy2 := (h.mem y).1 hy; have p1 := (hf.data hy2).1; have : y.pos = x := by omega
  rw [this, hd] at hy2; cases hy2
theorem jKc {T : TM} {W : WM} {L : Nat} {cs : List Chg} {c : Nat -> ByteArray} (hT : DT L c T) (hf : qSn W L) (h : qLh W cs) (ho : ∀ x, ¬ 1 <= x -> T.nodes x = none /\ T.after x = none) : DT L (upc c cs) (W.done T) := by
 refine ⟨fun q hq => ?_, fun x n hn => ?_, fun x y hy => ?_, .inr ?_⟩
 ·have := qHf hf h c (x := (q : Int)) (by omega)
  unfold rdOf at this; rw [Int.toNat_natCast] at this; rw [this]; cases hd : qDy W (q : Int) with
  | some d => exact Nat.le_of_eq (qLk (hf.data hd).2.2)
  | none => exact hT.size q hq
 ·
  unfold WM.done at hn; simp only at hn; cases hw : W.nodes x with
  | some n' =>
   rw [hw] at hn; cases hn
   obtain ⟨h1, h2, h3, h4⟩ := hf.nodes x n hw; have hd : qDy W x = some (ba (qAo n.1 n.2)) := by
    unfold qDy; rw [if_neg (by omega), hw]
    show some (ndB n) = _; unfold ndB; rw [if_pos h1]
   rw [qHf hf h c (by omega), hd]
   obtain ⟨r, k1, k2⟩ := qPh (s := ba (qAo n.1 n.2)); exact ⟨r, by rw [k1, qBk], k2⟩
  | none =>
   rw [hw] at hn; simp only at hn; cases ha : W.after x with
   | some y => rw [ha] at hn; simp at hn
   | none =>
    rw [ha] at hn; simp at hn
    have hx : 1 <= x := by
     by_cases hx : 1 <= x
     ·exact hx
     ·rw [(ho x hx).1] at hn; cases hn
    have hd : qDy W x = none := by unfold qDy; rw [if_neg (by omega), hw]; simp only; rw [ha]; rfl
    rw [qHf hf h c (by omega), hd]
    exact hT.nodes x n hn
 ·unfold WM.done at hy; simp only at hy; cases hw : W.nodes x with
  | some n' => rw [hw] at hy; simp at hy
  | none =>
   rw [hw] at hy; simp at hy
   cases ha : W.after x with
   | some z =>
    rw [ha] at hy; simp at hy
    subst hy; obtain ⟨h1, h2, h3, h4⟩ := hf.after x z ha; have hd : qDy W x = some (frB z) := by unfold qDy; rw [if_neg (by omega), hw]; simp only; rw [ha]; rfl
    rw [qHf hf h c (by omega), hd]
    obtain ⟨r, k1, k2⟩ := qPh (s := frB z); refine ⟨r, ?_, k2⟩; rw [k1]; unfold frB; rw [qBk]; rfl
   | none =>
    rw [ha] at hy; simp at hy
    have hx : 1 <= x := by
     by_cases hx : 1 <= x
     ·exact hx
     ·rw [(ho x hx).2] at hy; simp at hy
    have hd : qDy W x = none := by unfold qDy; rw [if_neg (by omega), hw]; simp only; rw [ha]; rfl
    rw [qHf hf h c (by omega), hd]
    exact hT.after x y hy.2
 ·have hd : qDy W 0 = some (stB W) := by unfold qDy; rw [if_pos rfl]
  have := qHf hf h c (x := 0) (by omega)
  rw [hd] at this; obtain ⟨r, k1, k2⟩ := qPh (s := stB W); refine ⟨r, ?_, k2⟩; have e : upc c cs 0 = pad (stB W) := this; rw [e, k1]; unfold stB; rw [qBk]; rfl
theorem WI.fits {T : TM} {W : WM} {m : Nat} {l : List KV} {H N L : Nat} (h : WI T m W l H N) (hn : W.next <= (L : Int)) (hL : L <= 16384) (hg : ∀ x n, W.nodes x = some n -> qBg n.1 n.2) : qSn W L := by
 have hT := (qWj h).nums (by show W.next <= _; omega)
 have aux : ∀ (U F : List Int), Acc T W U [] F -> (∀ x ∈ U, ∀ n, W.nodes x = some n -> n.1 = false -> ∀ e ∈ n.2, e.kid < 16384) -> qSn W L := fun U F hA hk => by
  have hin : ∀ x, (W.nodes x ≠ none \/ W.after x ≠ none) -> 1 <= x /\ x < W.next := fun x hx => by
   by_cases hc : 1 <= x /\ x < W.next
   ·exact hc
   ·have := hA.out x hc; exact hx.elim (fun h => absurd this.1 h) (fun h => absurd this.2.1 h)
  refine ⟨hn, hL, fun x n hx => ?_, fun x y hy => ?_, hT⟩
  ·have h1 := hin x (.inl (by rw [hx]; exact fun e => by cases e))
   have hgx := hg x n hx; refine ⟨jCm hgx (fun hl => ?_), hgx.clean, h1.1, h1.2⟩
   by_cases hu : x ∈ U
   ·exact hk x hu n hx hl
   ·exfalso
    by_cases hf : x ∈ F
    ·have := (hA.free x hf).1; rw [hx] at this; cases this
    ·have hc := hA.cnt x; rw [List.count_eq_zero.2 hu, List.count_eq_zero.2 hf, if_pos h1] at hc; simp at hc
  ·have h1 := hin x (.inr (by rw [hy]; exact fun e => by cases e))
   have hxf : x ∈ F := by
    by_cases hf : x ∈ F
    ·exact hf
    ·exfalso
     have hc := hA.cnt x; rw [List.count_eq_zero.2 hf, if_pos h1] at hc; have hu : x ∈ U := List.count_pos_iff.1 (by simp at hc; omega)
     have := (hA.used x (.inl hu)).1; rw [hy] at this; cases this
   have hlink : W.link T x = some y := by unfold WM.link; rw [hy]
   have haux : ∀ (G : List Int) (f : Int), qNe (W.link T) f G -> x ∈ G -> y = 0 \/ y ∈ G := by
    intro G; induction G with
    | nil => intro f _ hx; cases hx
    | cons z G ih =>
     intro f hc hx; obtain ⟨rfl, _, w, q1, q2⟩ := hc; rcases List.mem_cons.1 hx with rfl | hx
     ·rw [hlink] at q1; cases q1
      rcases qHc q2 with ⟨h, _⟩ | ⟨h, _⟩
      ·exact .inl h
      ·exact .inr (List.mem_cons_of_mem _ h)
     ·exact (ih w q2 hx).imp id (List.mem_cons_of_mem _)
   refine ⟨h1.1, h1.2, ?_⟩; rcases haux F W.free hA.chain hxf with h | h
   ·omega
   ·have := hA.spot (.inr (.inl h)); omega
 obtain ⟨_, _, h3⟩ := h; rcases h3 with ⟨_, _, _, F, hA⟩ | ⟨ht, t, F, hR, _⟩
 ·exact aux [] F hA (fun x hx => by cases hx)
 ·refine aux _ F hR.acc (fun x hx n hx2 hl => ?_)
  have hsp : ∀ x ∈ secs ht W.root t, x < 16384 := fun x hx => by have := hR.acc.spot (.inl hx); omega
  have haux : ∀ (g : Nat) (s : Int) (u : Tr g), Sd (W.look T) m g s u -> (∀ x ∈ secs g s u, x < 16384) -> ∀ x ∈ secs g s u, ∀ n, W.look T x = some n -> n.1 = false -> ∀ e ∈ n.2, e.kid < 16384 := by
   intro g; induction g with
   | zero =>
    intro s u hu _ x hx n hn hl; have hx : x ∈ [s] := hx; rw [List.mem_singleton] at hx; subst hx; rw [hu.1] at hn; cases hn
    cases hl
   | succ g ih =>
    intro s u hu hb x hx n hn hl; have hx : x ∈ s :: qAl u := hx; rcases List.mem_cons.1 hx with hx | hx
    ·subst hx; rw [hu.1.1] at hn; cases hn
     intro e he; have he : e ∈ List.map eE u := he; obtain ⟨y, hy, rfl⟩ := List.mem_map.1 he; exact hb y.spot (by
      show y.spot ∈ x :: qAl u; unfold qAl; exact List.mem_cons_of_mem _ (List.mem_flatMap.2 ⟨y, hy, by rw [qDl]; exact List.mem_cons_self⟩))
    ·unfold qAl at hx; obtain ⟨y, hy, hx⟩ := List.mem_flatMap.1 hx; refine ih y.spot y.sub (hu.2 y hy).1 (fun z hz => hb z ?_) x hx n hn hl
     show z ∈ s :: qAl u; unfold qAl; exact List.mem_cons_of_mem _ (List.mem_flatMap.2 ⟨y, hy, hz⟩)
  exact haux ht W.root t hR.sd hsp x hx n (by unfold WM.look; rw [hx2]) hl
end
section
open Go Go.RowKit
def jKu (S : Nat -> Prop) (w : World) (n : NP) (e : Ending) (w' : World) : Prop := ∃ m : Nd, e = .returned m.val /\ Has m n.1 n.2 /\ NdC w' m /\ (∀ k, m.bs k -> ¬ S k /\ k < w.heap.size) /\ Mod (fun _ => False) w w'
set_option maxRecDepth 100000
set_option maxHeartbeats 1000000 in
theorem qEf {S : Nat -> Prop} {w : World} {B : TB} {C : WB} {T : TM} {D : Dsk} {W : WM} (h : Ws S w B C T D W) {s : Int} {n : NP} (hn : W.look T s = some n) :
  Calls Tryz.prog 96 #[.pointer (some ⟨C.wb, 0, none⟩), .int .i64 s] w fun e w' => jKu S w n e w' := by
 have hz : Mod (fun _ => False) w (w.alloc (.cells #[.bool false, .slice none 0 0, .slice none 0 0, .slice none 0 0] 123)) := (Mod.refl _ _).alloc _
 have h1 := h.ext hz; obtain ⟨_, _, _, _, c4, c5, _⟩ := h1.cells; unfold WM.look at hn; cases hw : W.nodes s with
 | some n' =>
  rw [hw] at hn; simp only [Option.some.injEq] at hn; subst hn; obtain ⟨m, hlk0, hh, hat, hbs⟩ := h.work.nodes.get hw; have hlk := hlk0 _ hz true; simp only [Nd.val, if_true] at hlk; clear hlk0; have HH := hid hh; have HAt := hid hat; have HB := hid hbs; clear h h1 hw hh hat hbs c4; go_enter Tryz.func96, Tryz.ntmps96
  go_wp2
  refine bodyPost_ret (v := .agg #[.bool m.leaf, .slice m.ka m.keys.length m.kc, .slice m.va m.values.length m.vc, .slice m.ia m.kids.length m.ic]) (by simp only [results, Tryz.results96]; go_simp) rfl ⟨m, rfl, HH.out, ?_, HB.out, ?_⟩
  ·exact HAt.out.ext (((Mod.refl _ _).alloc _).alloc _)
  ·exact ((Mod.refl _ _).alloc _).alloc _
 | none =>
  rw [hw] at hn; simp only at hn; have hlk := h1.work.nodes.miss hw true; simp only [jEf, if_true] at hlk; have hz2 : Mod (fun _ => False) w ((w.alloc (.cells #[.bool false, .slice none 0 0, .slice none 0 0, .slice none 0 0] 123)).alloc (.cells #[.bool false, .slice none 0 0, .slice none 0 0, .slice none 0 0] 123)) := hz.alloc _
  have h2 := h.ext hz2; obtain ⟨_, _, _, _, d4, _⟩ := h2.cells; obtain ⟨_, _, _, _, _, _, e6, _⟩ := h2.tree.cells; obtain ⟨m, hlk0, hh, hat, hbs⟩ := h.tree.nodes.get hn; have hlk2 := hlk0 _ hz2 false; simp only [Nd.val, Bool.false_eq_true, if_false] at hlk2; clear hlk0; have HH := hid hh; have HAt := hid hat; have HB := hid hbs; clear h h1 h2 hz2 hw hn hh hat hbs c4; go_enter Tryz.func96, Tryz.ntmps96
  go_wp2
  refine bodyPost_ret (v := .agg #[.bool m.leaf, .slice m.ka m.keys.length m.kc, .slice m.va m.values.length m.vc, .slice m.ia m.kids.length m.ic]) (by simp only [results, Tryz.results96]; go_simp) rfl ⟨m, rfl, HH.out, ?_, HB.out, ?_⟩
  ·exact HAt.out.ext (((Mod.refl _ _).alloc _).alloc _)
  ·exact ((Mod.refl _ _).alloc _).alloc _
theorem Ws.nb_lt {S : Nat -> Prop} {w : World} {B : TB} {C : WB} {T : TM} {D : Dsk} {W : WM} (h : Ws S w B C T D W) : C.nb < w.heap.size := by obtain ⟨l, h1, _⟩ := h.work.nodes; exact h1.lt
theorem Ws.ab_lt {S : Nat -> Prop} {w : World} {B : TB} {C : WB} {T : TM} {D : Dsk} {W : WM} (h : Ws S w B C T D W) : C.ab < w.heap.size := by obtain ⟨l, h1, _⟩ := h.work.after; exact h1.lt
theorem Ws.kb_lt {S : Nat -> Prop} {w : World} {B : TB} {C : WB} {T : TM} {D : Dsk} {W : WM} (h : Ws S w B C T D W) : C.kb < w.heap.size := by obtain ⟨l, h1, _⟩ := h.work.taken; exact h1.lt
theorem Ws.lt {S : Nat -> Prop} {w : World} {B : TB} {C : WB} {T : TM} {D : Dsk} {W : WM} (h : Ws S w B C T D W) {k : Nat} (hk : MS B C k) : k < w.heap.size := by
 rcases hk with (hk | hk | hk | hk | hk) | (hk | hk | hk | hk)
 ·rw [hk]; exact lth h.tree.box
 ·obtain ⟨l, h1, _⟩ := h.tree.nodes; rw [hk]; exact h1.lt
 ·obtain ⟨l, h1, _⟩ := h.tree.after; rw [hk]; exact h1.lt
 ·rw [hk]; exact h.tree.jr.lt
 ·exact h.tree.disk.lt k hk
 ·rw [hk]; exact lth h.work.box
 ·rw [hk]; exact h.nb_lt
 ·rw [hk]; exact h.ab_lt
 ·rw [hk]; exact h.kb_lt
theorem qAh {w : World} {b o : Nat} {cur : Array Value} {t : TypeId} (h : w.heap[b]? = some (.cells cur t (0, 0))) (v : Value) : (w.setCell ⟨b, o, none⟩ v).heap[b]? = some (.cells (cur.setIfInBounds o v) t (0, 0)) := heap_setCell_same w b o cur t v h
set_option maxHeartbeats 1000000 in
theorem qIc {S : Nat -> Prop} {w : World} {B : TB} {C : WB} {T : TM} {D : Dsk} {W : WM} (h : Ws S w B C T D W) (s : Int) :
  Calls Tryz.prog 97 #[.pointer (some ⟨C.wb, 0, none⟩), .int .i64 s] w fun e w' => e = .returned (.tuple #[]) /\ Ws S w' B C T D (W.release s) /\ Mod (WS C) w w' := by
 obtain ⟨_, _, _, _, _, c5, _⟩ := h.cells; obtain ⟨l, hl1, hl2, hl3⟩ := id h.work.nodes; have HL1 := hid hl1; have HL2 := hid hl2; have HL3 := hid hl3; obtain ⟨w1, hdel, hat1, hm1⟩ := qCy (P := Tryz.prog) 0 KI Tryz.underlying81 hl1 s; have hdel' : (Builtin.delete_ #[81, 3] 0 #[.map (some C.nb), .int .i64 s]).run Tryz.prog w = .ok (.tuple #[]) w1 := hdel; have H1 := hid (h.setNodes hm1 (qBm.del HL1.out HL2.out HL3.out (h.sub _ (.inr (.inr (.inl rfl)))) hat1 hm1)); have HM1 : Hid (Mod (WS C) w w1) := hid (hm1.mono (fun k _ e => .inr (.inl e)))
 clear hl1 hl2 hl3 h hdel HL1 HL2 HL3 hat1 hm1; go_enter Tryz.func97, Tryz.ntmps97
 go_wp2_with fail
 clear c5 hdel'; have h1 := H1.out; obtain ⟨_, _, d2, _, _, _, d6, _⟩ := h1.cells; obtain ⟨la, ha1, ha2⟩ := id h1.work.after; have g2 := fun x : Ext w1 => x.cell d2
 have g6 := fun x : Ext w1 => x.cell d6
 have HA1 := hid ha1; have HA2 := hid ha2; clear h1 ha1 ha2; refine qAt 10 (by kernel_rfl) (by kernel_rfl) ?_
 simp only [List.take_succ_cons, List.take_zero, List.drop_succ_cons, List.drop_zero]; repeat (go_big_quiet_step ((fail)))
 refine wpQuiet_nil ?_; rintro _ ⟨y, rfl⟩; obtain ⟨w2, hup, hat2, hm2⟩ := qBx (P := Tryz.prog) KI Tryz.underlying82 (HA1.out.mod y.mod (fun e => e)) s (.int .i64 W.free)
 have hup' : (Instr.mapUpdate 82 (.map (some C.ab)) (.int .i64 s) (.int .i64 W.free)).run Tryz.prog y.val = .ok () w2 := hup; have h2 := (H1.out.ext y.mod).setAfter hm2 (qCg.put HA2.out hat2); have HM2 : Hid (Mod (WS C) w w2) := hid (HM1.out.then ((y.mod.mono (fun _ _ e => e.elim)).trans (hm2.mono (fun k _ e => .inr (.inr (.inl e))))) (fun _ _ e => e))
 obtain ⟨_, _, e2, _⟩ := h2.cells; have f2 := frozen_of_row w2 C.wb 2 _ _ h2.work.box; have H2 := hid h2; clear g2 g6 hup hat2 hm2 h2 H1 HM1 HA1 HA2 d2 d6; go_wp2_with fail
 go_end0; refine ⟨rfl, ?_, HM2.out.setCell (p := ⟨C.wb, 2, none⟩) (fun _ => .inl rfl) _⟩
 exact H2.out.box (Mod.setCell (S := fun k => k = C.wb) (p := ⟨C.wb, 2, none⟩) (Mod.refl _ _) (fun _ => rfl) _) (qAh H2.out.work.box _) rfl rfl rfl H2.out.work.nx
theorem Ws.cell1 {S : Nat -> Prop} {w : World} {B : TB} {C : WB} {T : TM} {D : Dsk} {W W' : WM} {o : Nat} {v : Value} (h : Ws S w B C T D W) (hb : (qIq B C W).setIfInBounds o v = qIq B C W') (h1 : W'.nodes = W.nodes) (h2 : W'.after = W.after) (h3 : W'.taken = W.taken) (hn : 0 <= W'.next) : Ws S (w.setCell ⟨C.wb, o, none⟩ v) B C T D W' :=
 h.box (Mod.setCell (S := fun k => k = C.wb) (p := ⟨C.wb, o, none⟩) (Mod.refl _ _) (fun _ => rfl) _) (by rw [qAh h.work.box, hb]) h1 h2 h3 hn
set_option maxHeartbeats 1000000 in
theorem jEv {S : Nat -> Prop} {w : World} {B : TB} {C : WB} {T : TM} {D : Dsk} {W : WM} (h : Ws S w B C T D W) (h0 : W.free = 0) (hb : W.next <= 1152921504606846975) :
  Calls Tryz.prog 104 #[.pointer (some ⟨C.wb, 0, none⟩)] w fun e w' => e = .returned (.int .i64 (W.take T (jlen B.room D : Int)).1) /\ Ws S w' B C T D (W.take T (jlen B.room D : Int)).2 /\ Mod (WS C) w w' := by
 have ht : W.take T (jlen B.room D : Int) = (W.next, { W with next := W.next + 1, full := W.full || decide ((jlen B.room D : Int) <= W.next) }) := by unfold WM.take; rw [if_pos h0]
 rw [ht]; have h1 : Ws S (w.setCell ⟨C.wb, 1, none⟩ (.int .i64 (W.next + 1))) B C T D { W with next := W.next + 1 } := h.cell1 (W' := { W with next := W.next + 1 }) rfl rfl rfl rfl (by have := h.work.nx; show 0 <= W.next + 1; omega)
 have hm1 : Mod (WS C) w (w.setCell ⟨C.wb, 1, none⟩ (.int .i64 (W.next + 1))) := Mod.setCell (p := ⟨C.wb, 1, none⟩) (Mod.refl _ _) (fun _ => .inl rfl) _
 obtain ⟨_, c1, c2, _⟩ := h.cells; obtain ⟨_, _, _, _, d4, _, _, _, d8⟩ := h1.cells; have f1 := frozen_of_row w C.wb 1 _ _ h.work.box; obtain ⟨_, _, _, _, e4, _⟩ := h1.tree.cells; have s1 : IntKind.i64.wrap (W.next + 1) = W.next + 1 := by rw [IntKind.wrap_i64]; have := h.work.nx; omega
 have HJ := hid (qLo h1.tree.disk h1.tree.jr h1.tree.hn h1.tree.hr); have HM1 := hid hm1; have H1 := hid h1; have f8 := frozen_of_row _ C.wb 8 _ _ h1.work.box; simp only [h0] at c2; clear ht h h1 hm1 h0; cases hfull : W.full with
 | true =>
  simp only [hfull] at d8; go_enter Tryz.func104, Tryz.ntmps104
  go_wp2_with fail
  go_ret; refine ⟨rfl, ?_, HM1.out.setCell (p := ⟨C.wb, 8, none⟩) (fun _ => .inl rfl) _⟩
  exact H1.out.cell1 rfl rfl rfl rfl H1.out.work.nx
 | false =>
  simp only [hfull] at d8; go_enter Tryz.func104, Tryz.ntmps104
  go_wp2_with (go_at_call 27; refine HJ.out.mono ?_; rintro e w2 ⟨rfl, hm2⟩; have HM2 := hid hm2; have h2 := H1.out.ext hm2; have H2 := hid h2; have f82 := frozen_of_row _ C.wb 8 _ _ h2.work.box; obtain ⟨_, _, _, _, _, _, _, _, d82⟩ := h2.cells; clear hm2 h2)
  go_ret; refine ⟨rfl, H2.out.cell1 rfl rfl rfl rfl H2.out.work.nx, (HM1.out.then (HM2.out.mono (fun _ _ e => e.elim)) (fun _ _ e => e)).setCell (p := ⟨C.wb, 8, none⟩) (fun _ => .inl rfl) _⟩
set_option maxHeartbeats 1000000 in
theorem jEu {S : Nat -> Prop} {w : World} {B : TB} {C : WB} {T : TM} {D : Dsk} {W : WM} (h : Ws S w B C T D W) (h0 : W.free ≠ 0) (L : Int) :
  Calls Tryz.prog 104 #[.pointer (some ⟨C.wb, 0, none⟩)] w fun e w' => e = .returned (.int .i64 (W.take T L).1) /\ Ws S w' B C T D (W.take T L).2 /\ Mod (WS C) w w' := by
 have ht : W.take T L = (W.free, { W with after := fset W.after W.free none, taken := fun x => decide (x = W.free) || W.taken x, free := (W.link T W.free).getD 0 }) := by unfold WM.take; rw [if_neg h0]
 rw [ht]; obtain ⟨_, _, c2, _, c4, _, c6, c7, _⟩ := h.cells; obtain ⟨_, _, _, _, _, _, _, e7, _⟩ := h.tree.cells; have hlk := h.work.after.look W.free true; have hlt := h.tree.after.look W.free false; simp only [if_true, Bool.false_eq_true, if_false] at hlk hlt; have d0 : (W.free == 0) = false := by rw [beq_eq_false_iff_ne]; exact h0
 obtain ⟨l, hl1, hl2⟩ := id h.work.after; obtain ⟨w1, hdel, hat1, hm1⟩ := qCy (P := Tryz.prog) 0 KI Tryz.underlying82 hl1 W.free; have hdel' : (Builtin.delete_ #[82, 3] 0 #[.map (some C.ab), .int .i64 W.free]).run Tryz.prog w = .ok (.tuple #[]) w1 := hdel; have h1 := h.setAfter hm1 (qCg.del hl1 hl2 hat1); have hm1' : Mod (WS C) w w1 := hm1.mono (fun k _ e => .inr (.inr (.inl e)))
 obtain ⟨x, hlk1⟩ := h1.work.taken.look W.free; obtain ⟨lt, ht1, ht2⟩ := id h1.work.taken; obtain ⟨w2, hup, hat2, hm2⟩ := qBx (P := Tryz.prog) KI Tryz.underlying82 ht1 W.free (.int .i64 (wrap64 (x + 1))); have hup' : (Instr.mapUpdate 82 (.map (some C.kb)) (.int .i64 W.free) (.int .i64 (wrap64 (x + 1)))).run Tryz.prog w1 = .ok () w2 := hup; have h2 := h1.setTaken hm2 (qFn.put ht2 hat2); have hm2' : Mod (WS C) w w2 := hm1'.then (hm2.mono (fun k _ e => .inr (.inr (.inr e)))) (fun _ _ e => e)
 obtain ⟨_, _, _, _, _, _, _, g7, _⟩ := h1.cells; obtain ⟨_, _, k2, _⟩ := h2.cells; have f2 := frozen_of_row w2 C.wb 2 _ _ h2.work.box; have H2 := hid h2; have HM2 := hid hm2'; clear ht h h0 hl1 hl2 hdel hat1 hm1 h1 hm1' ht1 ht2 hup hat2 hm2 h2 hm2'; cases ha : W.after W.free with
 | some y =>
  rw [ha] at hlk; simp only [Option.getD_some, Option.isSome_some] at hlk; have hy : (W.link T W.free).getD 0 = y := by unfold WM.link; rw [ha]; rfl
  clear hlt; go_enter Tryz.func104, Tryz.ntmps104
  go_wp2_with fail
  go_ret; exact ⟨rfl, H2.out.cell1 rfl rfl rfl rfl H2.out.work.nx, HM2.out.setCell (p := ⟨C.wb, 2, none⟩) (fun _ => .inl rfl) _⟩
 | none =>
  rw [ha] at hlk; simp only [Option.getD_none, Option.isSome_none] at hlk; have hy : (W.link T W.free).getD 0 = (T.after W.free).getD 0 := by unfold WM.link; rw [ha]
  go_enter Tryz.func104, Tryz.ntmps104
  go_wp2_with fail
  go_ret; exact ⟨rfl, H2.out.cell1 rfl rfl rfl rfl H2.out.work.nx, HM2.out.setCell (p := ⟨C.wb, 2, none⟩) (fun _ => .inl rfl) _⟩
theorem jEw {S : Nat -> Prop} {w : World} {B : TB} {C : WB} {T : TM} {D : Dsk} {W : WM} (h : Ws S w B C T D W) (hb : W.next <= 1152921504606846975) :
  Calls Tryz.prog 104 #[.pointer (some ⟨C.wb, 0, none⟩)] w fun e w' => e = .returned (.int .i64 (W.take T (jlen B.room D : Int)).1) /\ Ws S w' B C T D (W.take T (jlen B.room D : Int)).2 /\ Mod (WS C) w w' := by
 by_cases h0 : W.free = 0
 ·exact jEv h h0 hb
 ·exact jEu h h0 _
end
end Go.Proofs.YtkinkgbmlhiakaaGreatDoor
