/- merged: TwY TrZ TwZ TeRef TeHolds -/
import Derived.Test.YtgbcibdfeeiilaaGreatDoorMc32
import Derived.Test.YtgbcibdfeeiilaaGreatDoorMc34
import Derived.Test.YtgbcibdfeeiilaaGreatDoorMc33
namespace Go.Proofs.YtgbcibdfeeiilaaGreatDoor
section
open Go Go.RowKit
structure Here (w : World) (B : TB) (T : TM) (D : Dsk) (k : Nat) (l : List KV) (N : Nat) : Prop where
 tree : qAp (TS B) w B T D false
 lit : Lit D k
 std : Std B.room D T l N
 ne : B.nb ≠ B.ab
theorem Here.ext {w w' : World} {B : TB} {T : TM} {D : Dsk} {k : Nat} {l : List KV} {N : Nat} (h : Here w B T D k l N) (hm : Mod (fun _ => False) w w') : Here w' B T D k l N := ⟨h.tree.mod hm (fun _ e => e.elim) (fun _ e => e.elim), h.lit, h.std, h.ne⟩
theorem Here.le {w : World} {B : TB} {T : TM} {D : Dsk} {k m : Nat} {l : List KV} {N : Nat} (h : Here w B T D k l N) (hm : k <= m) : Here w B T D m l N := ⟨h.tree, h.lit.le hm, h.std, h.ne⟩
def HApp (w : World) (B : TB) (T : TM) (D : Dsk) (k : Nat) (l : List KV) (N : Nat) (cs : List Cg) (e : Ending) (w' : World) : Prop :=
 (chkF [] cs ≠ 0 /\ e = .returned (.int .i64 (chkF [] cs)) /\ Here w' B T D k l N /\ Mod (fun _ => False) w w') ∨
 (chkF [] cs = 0 /\ ((e = .returned (.int .i64 52) /\ (jlen B.room D : Int) <= (N : Int) + 8 * cs.length /\ Here w' B T D k l N /\ Mod (fun _ => False) w w') ∨
  (e = .returned (.int .i64 31) /\ (B.room < 21 * cs.length + 1 /\ ∃ (W' : WM) (ls : List Chg) (ln : List (Int × NP)) (la : List (Int × Int)), allM T (jlen B.room D : Int) 70 cs T.begin = some W' /\ Laid W' ls ln la /\ B.room < ls.length) /\ Here w' B T D k l N /\ Mod (fun _ => False) w w') ∨
  (e = .returned (.int .i64 0) /\ ∃ (T' : TM) (D' : Dsk) (N' : Nat), Here w' B T' D' (k + 1002) (chgs cs l) N' /\ D'.secs.length = D.secs.length /\ Mod (TS B) w w')))
theorem qNz {w : World} {B : TB} {T : TM} {D : Dsk} {k : Nat} {l : List KV} {N : Nat} (h : Here w B T D k l N) (hk0 : k <= 1152921504606846976) {a : Option Addr} (cap : Nat) {cs : List Cg} (hc : Lies w 3 ccs a cs) (hcl : cs.length <= 1048576) (hs : ∀ c ∈ cs, c.key.size <= maxLen /\ c.value.size <= maxLen) :
  Calls Tryz.prog 15 #[.pointer (some ⟨B.tb, 0, none⟩), .slice a cs.length cap] w (HApp w B T D k l N cs) := by
 by_cases hchk : chkF [] cs = 0
 ·obtain ⟨W', N', h1, h2, h3, h4, h5, h6⟩ := qZc h.lit h.std cs (fun c hc => qHa hchk c hc) hcl
  obtain ⟨r1, r2, r3, r4, r5, r6, r7⟩ := h2.rng; have ht := h.std.ti.rng; have hj : jlen B.room D <= 16384 := by have := h.lit.b.n; unfold jlen; omega
  have hnx := h.std.next; obtain ⟨t1, t2, t3, t4, _⟩ := ht; have e1 : T.begin.count = T.count := rfl; have e2 : T.begin.next = T.next := rfl; rw [e1, e2] at t4; rw [e2] at t2; refine (jGk h.tree cap hc (by omega) hs hchk h1 (by omega) (by omega) (by omega) (fun x hx => by have := r5 x hx; omega) (fun x y hy => by have := r6 x y hy; omega) (fun ls hnd hls => ?_) h.lit.b hk0 h.ne).mono (fun e w' ha => ?_)
  ·have q1 := qGr (m := (List.range W'.next.toNat).map (fun i : Nat => (i : Int))) hnd (fun x hx => by
    have := r5 x (hls x hx); exact List.mem_map.2 ⟨x.toNat, List.mem_range.2 (by omega), by omega⟩)
   rw [List.length_map, List.length_range] at q1; omega
  ·obtain ⟨ls, ln, la, hlaid, hh⟩ := ha; refine .inr ⟨hchk, ?_⟩; rcases hh with ⟨a1, rfl, a3, a4⟩ | ⟨a1, a2, rfl, a3, a4⟩ | ⟨a1, a2, a3, rfl, a4, a5⟩ | ⟨a1, a2, a3, a4, _⟩ | ⟨a1, a2, a3, a4, rfl, a6, a7⟩
   ·exact .inl ⟨rfl, h3 a1, ⟨a3, h.lit, h.std, h.ne⟩, a4⟩
   ·refine .inr (.inl ⟨rfl, ⟨?_, W', ls, ln, la, h1, hlaid, a2⟩, ⟨a3, h.lit, h.std, h.ne⟩, a4⟩); have := h6 ls ln la hlaid a1; omega
   ·refine .inr (.inr ⟨rfl, T, D, N, ?_, rfl, a5.mono (fun _ _ e => e.elim)⟩)
    rw [a3]; exact ⟨a4, h.lit.le (by omega), h.std, h.ne⟩
   ·exact absurd (qNl h.lit h.std h2 (h4 a1) hlaid a2).1 a4
   ·obtain ⟨c1, c2, c3⟩ := qNl h.lit h.std h2 (h4 a1) hlaid a2; have hr := h.std.r2; exact .inr (.inr ⟨rfl, _, _, N', ⟨a6, c2.le (by omega), c3, h.ne⟩, qIb _ _ _, a7⟩)
 ·exact (jCu h.tree cap hc (by omega) hs hchk).mono (fun e w' ⟨he, hm⟩ => .inl ⟨hchk, he, h.ext hm, hm⟩)
theorem qJb {w : World} {d k room : Nat} {sa : Option Addr} {D : Dsk} {T : TM} {l : List KV} {N : Nat} (hD : qAl w d sa D) (hL : Lit D k) (hk : k <= 1152921504606846976) (hs : Std room D T l N) :
  Calls Tryz.prog 13 #[.pointer (some ⟨d, 0, none⟩), .int .i64 (room : Int)] w fun e w' => ∃ B : TB, e = .returned (.tuple #[.pointer (some ⟨B.tb, 0, none⟩), .int .i64 0]) /\ Here w' B T D k l N /\ B.d = d /\ B.sa = sa /\ B.room = room /\ (w.heap.size <= B.tb /\ w.heap.size <= B.nb /\ w.heap.size <= B.ab /\ w.heap.size <= B.j) /\ Mod (qAq d sa) w w' :=
 (qQp hD hL.b (by omega) hs.r1 hs.r2).mono (fun e w' ha => by
  rw [jDt hL hs] at ha; obtain ⟨_, h2, B, rfl, h4⟩ := ha; exact ⟨B, rfl, ⟨h4.tree, hL, by rw [h4.room]; exact hs, h4.ne⟩, h4.d, h4.sa, h4.room, h4.lo, h2⟩)
theorem Here.empty {w : World} {B : TB} {T : TM} {D : Dsk} {k : Nat} {l : List KV} {N : Nat} (h : Here w B T D k l N) : (T.root = 0 /\ l = []) \/ (T.root ≠ 0 /\ l ≠ [] /\ ∃ (g : Nat) (t : Tr g), g <= 26 /\ Sd T.nodes 250 g T.root t /\ flat g t = l) := by
 obtain ⟨_, _, h3⟩ := h.std.ti; rcases h3 with ⟨h4, h5, _⟩ | ⟨ht, t, F, hR, _⟩
 ·exact .inl ⟨h4, h5⟩
 ·refine .inr ⟨hR.nz, ?_, ht, t, hR.le, hR.sd, hR.fl⟩; rw [<- hR.fl]; obtain ⟨q, v, r, _, h6⟩ := qFp ht t (qLm hR.sd); rw [h6]; simp
theorem Here.len {w : World} {B : TB} {T : TM} {D : Dsk} {k : Nat} {l : List KV} {N : Nat} (h : Here w B T D k l N) : l.length <= 8388608 /\ T.count = l.length := by
 have h1 := h.std.ti.rng; have h2 : T.begin.count = l.length := h.std.ti.2.1; have e1 : T.begin.count = T.count := rfl; have e2 : T.begin.next = T.next := rfl; have hj : jlen B.room D <= 16384 := by have := h.lit.b.n; unfold jlen; omega
 have hnx := h.std.next; rw [e1] at h1 h2; rw [e2] at h1; omega
theorem qVy {w : World} {B : TB} {T : TM} {D : Dsk} {k : Nat} {l : List KV} {N : Nat} (h : Here w B T D k l N) : Calls Tryz.prog 11 #[.pointer (some ⟨B.tb, 0, none⟩)] w fun e w' => e = .returned (.int .i64 (l.length : Int)) /\ w = w' :=
 (jDp h.tree).mono (fun e w' ⟨he, hw⟩ => ⟨by rw [he, h.len.2], hw⟩)
theorem qKd {w : World} {B : TB} {T : TM} {D : Dsk} {k : Nat} {l : List KV} {N : Nat} (h : Here w B T D k l N) : Calls Tryz.prog 29 #[.pointer (some ⟨B.tb, 0, none⟩)] w fun e w' => e = .returned (.int .i64 ((N : Int) + 1)) /\ w = w' :=
 (qZj h.tree).mono (fun e w' ⟨⟨dom, h1, h2, he⟩, hw⟩ => ⟨by
  obtain ⟨_, _, U, u1, u2, u3⟩ := h.std.ti.secs; have hp : dom.Perm U := (List.perm_ext_iff_of_nodup h1 u1).2 (fun x => (h2 x).trans (u3 x).symm)
  have hl := hp.length_eq; have h4 := h.std.ti.spots; have h5 : (N : Int) <= T.next - 1 := h4.1; have hj : jlen B.room D <= 16384 := by have := h.lit.b.n; unfold jlen; omega
  have hnx := h.std.next; rw [he, hl, u2, IntWalk.wrap64_in _ (by omega)], hw⟩)
theorem qMi {w : World} {B : TB} {T : TM} {D : Dsk} {k : Nat} {l : List KV} {N : Nat} (h : Here w B T D k l N) (key : ByteArray) (most : Int) : Calls Tryz.prog 10 #[.pointer (some ⟨B.tb, 0, none⟩), .string key, .int .i64 most] w (qQf w (qGh l key most)) := by
 have hnil : ∀ e w', (e = .returned (.slice none 0 0) /\ Mod (fun _ => False) w w') -> qQf w [] e w' := fun e w' ⟨he, hm⟩ => ⟨none, 0, he, Own.nil _ _ _, (fun b hb => (qAg b hb).elim), hm⟩
 by_cases hm : most < 1
 ·have e : qGh l key most = [] := by unfold qGh; rw [show most.toNat = 0 by omega]; rfl
  rw [e]; exact (qUv h.tree (.inr hm) _).mono hnil
 ·rcases h.empty with ⟨h0, rfl⟩ | ⟨h0, _, g, t, hg, hS, hfl⟩
  ·have e : qGh [] key most = [] := by unfold qGh; simp
   rw [e]; exact (qUv h.tree (.inl h0) _).mono hnil
  ·have hasc : Asc (flat g t) := by rw [hfl]; exact h.std.ti.1.asc
   have hw := qUi key g T.root t hS hasc; rw [hfl] at hw; have hl := List.length_filter_le (geK key) l; exact jEa h.tree h0 (by omega) hw (by have := h.len.1; omega)
theorem jFn {w : World} {B : TB} {T : TM} {D : Dsk} {k : Nat} {l : List KV} {N : Nat} (h : Here w B T D k l N) (key : ByteArray) : Calls Tryz.prog 25 #[.pointer (some ⟨B.tb, 0, none⟩), .string key] w fun e w' => e = .returned (qOt l key) /\ Mod (fun _ => False) w w' := by
 have hasc := h.std.ti.1.asc; rcases h.empty with ⟨h0, rfl⟩ | ⟨h0, _, g, t, hg, hS, hfl⟩
 ·exact (jBf h.tree h0 key).mono (fun e w' ⟨he, hw⟩ => ⟨he, by rw [hw]; exact Mod.refl _ _⟩)
 ·obtain ⟨es, hd, hv⟩ := qWb key g T.root t hS (by rw [hfl]; exact hasc)
  rw [hfl] at hv; refine (jIb h.tree h0 (qGm.1 hS).1.1 hd).mono (fun e w' ⟨ha, hm⟩ => ⟨?_, hm⟩)
  rcases ha with ⟨x, hx, hk, he⟩ | ⟨hno, he⟩
  ·have h1 := (hv x.value).1 ⟨x, hx, hk, rfl⟩; have h2 : qOt l key = .tuple #[.string x.value, .bool true] := by
    obtain ⟨a, b, hab⟩ := List.append_of_mem h1; refine qQw (x := (key, x.value)) (k := a.length) (by rw [hab]; simp) rfl (fun p hp e => ?_)
    rw [hab, List.take_left' rfl] at hp; rw [hab] at hasc; have h3 : kl p.1 key = true := (qBz.1 hasc).2.2 p hp (key, x.value) List.mem_cons_self; rw [e, qCi] at h3; cases h3
   rw [he, h2]
  ·rw [he, qQx (fun p hp e => ?_)]
   obtain ⟨x, hx, hk, _⟩ := (hv p.2).2 (by rw [<- e]; exact hp)
   exact hno x hx hk
end
section
open Go Go.RowKit
theorem WI.bytes {T : TM} {W : WM} {l : List KV} {H N : Nat} (h : WI T 250 W l H N) : 190 * N <= qAt l + 190 := by
 obtain ⟨hf, _, h3⟩ := h; rcases h3 with ⟨_, rfl, rfl, _⟩ | ⟨ht, t, F, hR, rfl⟩
 ·omega
 ·have h1 := qQs hR.sd (by rw [hR.fl]; exact fun p hp => ⟨(hf.ok p hp).1.2, (hf.ok p hp).2⟩)
  rw [hR.fl] at h1; exact h1
theorem qNo {p q : KV -> Bool} (h : ∀ x, ¬ (p x = true /\ q x = true)) : ∀ l : List KV, qAt (l.filter p) + qAt (l.filter q) <= qAt l
 | [] => by simp [qAt]
 | x :: l => by
  have h1 := qNo h l; have h2 := h x; have e : ∀ r : List KV, qAt (x :: r) = x.1.size + x.2.size + 4 + qAt r := fun r => by unfold qAt; rw [List.map_cons, List.sum_cons]
  rw [List.filter_cons, List.filter_cons]; cases hp : p x with
  | true =>
   cases hq : q x with
   | true => exact absurd ⟨hp, hq⟩ h2
   | false =>
    simp only [if_true, Bool.false_eq_true, if_false]; rw [e, e]; omega
  | false =>
   cases hq : q x with
   | true =>
    simp only [if_true, Bool.false_eq_true, if_false]; rw [e, e]; omega
   | false =>
    simp only [Bool.false_eq_true, if_false]; rw [e]; omega
theorem qXg (c : Cg) (l : List KV) : qAt (chg c l) <= qAt l + (c.key.size + c.value.size + 4) := by
 have h1 := qNo (p := fun p => kl p.1 c.key) (q := fun p => kl c.key p.1) (fun x ⟨a, b⟩ => by
  have a : kl x.1 c.key = true := a; have b : kl c.key x.1 = true := b; rw [qCt a] at b; cases b) l
 have h2 : qAt c.put <= c.key.size + c.value.size + 4 := by
  unfold Cg.put; split
  ·exact Nat.zero_le _
  ·unfold qAt; simp
 unfold chg; rw [qEg, qEg]; omega
theorem qSl {T : TM} {L : Int} (hL : 4 <= L) : ∀ (cs : List Cg) (W : WM) (l : List KV) (N : Nat), (∀ c ∈ cs, CgOk c) -> WI T 250 W l 26 N -> qAt l + (cs.map (fun c => c.key.size + c.value.size + 4)).sum < 190 -> W.next <= 4 -> W.full = false →
  ∃ (W' : WM) (N' : Nat), allM T L 70 cs W = some W' /\ WI T 250 W' (chgs cs l) 26 N' /\ W'.next <= 4 /\ W'.full = false
 | [], W, l, N, _, hW, _, hn, hf => ⟨W, N, rfl, hW, hn, hf⟩
 | c :: cs, W, l, N, hc, hW, hb, hn, hf => by
  rw [List.map_cons, List.sum_cons] at hb; have hN := hW.bytes; have hW0 := hW.high 0 (by omega)
  obtain ⟨W1, N1, k1, k2, k3, k4⟩ := qTh (T := T) (L := L) (f := 70) (.inr rfl) (hc c List.mem_cons_self) hW0 (by omega) (by omega)
  have hN1 := k2.bytes; have hch := qXg c l; have hf1 : W1.full = false := by
   cases hq : W1.full with
   | false => rfl
   | true =>
    rcases k4.full hq with h | h
    ·rw [hf] at h; cases h
    ·omega
  obtain ⟨W', N', r1, r2, r3, r4⟩ := qSl hL cs W1 (chg c l) N1 (fun x hx => hc x (List.mem_cons_of_mem _ hx)) (k2.high 26 (by omega)) (by omega) (by have := k4.top; omega) hf1
  refine ⟨W', N', ?_, r2, r3, r4⟩; show (oneM T L 70 W c).bind _ = _; rw [k1]; exact r1
theorem jFd {T : TM} {W : WM} {l : List KV} {H N : Nat} {ls : List Chg} {ln : List (Int × NP)} {la : List (Int × Int)} (hW : WI T 250 W l H N) (hlaid : Laid W ls ln la) : (ls.length : Int) <= W.next := by
 obtain ⟨_, r2, _, _, r5, _⟩ := hW.rng; have hlo : qJo W ls := by
  obtain ⟨_, _, h3⟩ := hW; rcases h3 with ⟨_, _, _, F, hA⟩ | ⟨ht, t, F, hR, _⟩
  ·exact qFk hA hlaid
  ·exact qFk hR.acc hlaid
 have h1 := qNt hlo (X := (List.range (W.next - 1).toNat).map (fun i : Nat => (i : Int) + 1)) (fun y hy => by
  have := r5 y hy; exact List.mem_map.2 ⟨(y - 1).toNat, List.mem_range.2 (by omega), by omega⟩)
 rw [List.length_map, List.length_range] at h1; omega
end
section
open Go Go.RowKit
def wcs : List Cg := [⟨⟨#[98]⟩, ⟨#[50]⟩, false⟩, ⟨⟨#[97]⟩, ⟨#[49]⟩, false⟩]
def wl : List KV := [(⟨#[97]⟩, ⟨#[49]⟩), (⟨#[98]⟩, ⟨#[50]⟩)]
theorem qVp (b : UInt8) : (⟨#[b]⟩ : ByteArray).toList = [b] := ByteArray.toList_eq _
theorem qSs : chkF [] wcs = 0 := by
 unfold wcs; rw [qSe, if_neg (by rw [qVp]; decide), if_neg (by decide), if_neg (by simp), qSe, if_neg (by rw [qVp]; decide), if_neg (by decide), if_neg (by simp)]
 rfl
theorem jGz : chgs wcs [] = wl := by kernel_rfl
theorem jGy : qGh wl ⟨#[]⟩ 9 = wl := by kernel_rfl
theorem qTp : jlen 40 (newD 100) = 59 := by
 have h : (newD 100).secs.length = 100 := List.length_replicate ..; unfold jlen; rw [h]
theorem jDf {w w' : World} {B : TB} {e : Ending} (h : Here w B newT (newD 100) 0 [] 0) (hr : B.room = 40) (ha : HApp w B newT (newD 100) 0 [] 0 wcs e w') :
  e = .returned (.int .i64 0) /\ ∃ (T' : TM) (D' : Dsk), Here w' B T' D' 1002 wl 1 /\ Mod (TS B) w w' := by
 have hw : ∀ {N : Nat} {T' : TM} {D' : Dsk}, Here w' B T' D' 1002 wl N -> N = 1 := fun h1 => by
  obtain ⟨a1, a2, _⟩ := h1.std.ti.secs; have a3 : qAt wl = 12 := by kernel_rfl
  have a4 := a2 (by unfold wl; simp)
  omega
 rcases ha with ⟨h1, _⟩ | ⟨_, ⟨_, h2, _⟩ | ⟨_, ⟨_, W', ls, ln, la, h3, h4, h5⟩, _⟩ | ⟨rfl, T', D', N', h6, _, h7⟩⟩
 ·exact absurd qSs h1
 ·rw [hr, qTp] at h2; have : wcs.length = 2 := rfl; omega
 ·exfalso
  rw [hr, qTp] at h3; obtain ⟨W2, N2, k1, k2, k3, _⟩ := qSl (T := newT) (L := ((59 : Nat) : Int)) (by omega) wcs newT.begin [] 0 (fun c hc => qHa qSs c hc) h.std.ti (by decide) (by decide) rfl
  rw [k1] at h3; cases h3
  have h8 := jFd k2 h4; omega
 ·rw [jGz] at h6; have hN := hw h6; subst hN; exact ⟨rfl, T', D', h6, h7⟩
theorem qXk {w w1 : World} {d : Nat} {sa : Option Addr} {B : TB} (h1 : B.d = d) (h2 : B.sa = sa) (hd : w.heap.size <= d) (hs : ∀ k, blk sa k -> w.heap.size <= k) (hw : w.heap.size <= w1.heap.size) (h3 : w1.heap.size <= B.tb /\ w1.heap.size <= B.nb /\ w1.heap.size <= B.ab /\ w1.heap.size <= B.j) : ∀ i, TS B i -> w.heap.size <= i := fun i e => by
 rcases e with e | e | e | e | e
 ·omega
 ·omega
 ·omega
 ·omega
 ·rw [h1, h2] at e; rcases e with e | e
  ·omega
  ·exact hs i e
theorem jJe : ((wl.length : Nat) : Int) = 2 := rfl
theorem jGx {w : World} {B : TB} {T : TM} {D : Dsk} {k N : Nat} (h : Here w B T D k wl N) : Calls Tryz.prog 10 #[.pointer (some ⟨B.tb, 0, none⟩), .string ⟨#[]⟩, .int .i64 9] w fun e w' => ∃ g off cap, e = .returned (.slice (some ⟨g, off, none⟩) 2 cap) /\ w'.cell? ⟨g, off, none⟩ = some (.string ⟨#[97]⟩) /\ w'.cell? ⟨g, off + 1, none⟩ = some (.string ⟨#[49]⟩) /\ Mod (fun _ => False) w w' :=
 (qMi h ⟨#[]⟩ 9).mono fun e w' ha => by
  rw [jGy] at ha; obtain ⟨la, cap, rfl, ho, _, hm⟩ := ha; rcases ho.2.2.2 with ⟨rfl, h2⟩ | ⟨g, off, cur, rfl, _, _, _⟩
  ·have h3 := ho.2.1; have h4 : wl.length = 2 := rfl; omega
  ·have h5 := fun (j : Nat) (u : Value) (hj : (wl.flatMap kcs)[j]? = some u) => ho.src.2.2 _ rfl j u hj
   refine ⟨g, off, cap, rfl, ?_, ?_, hm⟩
   ·simpa [Addr.add] using h5 0 _ rfl
   ·simpa [Addr.add] using h5 1 _ rfl
set_option maxRecDepth 100000
set_option maxHeartbeats 4000000 in
theorem qIh (w : World) : Calls Tryz.prog 9 #[] w fun e w' => e = .returned (.bool true) /\ Mod (fun _ => False) w w' := by
 have HNw := hid (jAh (w := w) 100); go_enter Tryz.func9, Tryz.ntmps9
 go_upto_region 2 with (go_at_call 12; refine HNw.out.mono ?_; rintro e w1 ⟨d, sa, rfl, hd0, hs0, hD, hm1⟩; have HD0 := hid hd0; have HS0 := hid hs0; have HD := hid hD; have HM1 := hid hm1; clear hd0 hs0 hD hm1)
 have HO := hid (qJb HD.out (qPi 100) (by omega) (qZb (n := 100) (room := 40) (by omega) (by omega) (by rw [qTp]; omega)))
 go_upto_region 3 with (go_at_call 13; refine HO.out.mono ?_; rintro e w2 ⟨B, rfl, hh, hb1, hb2, hb3, hlo, hm2⟩; have HH := hid hh; have HB := hid (And.intro hb1 (And.intro hb2 hb3)); have HNb := hid (qXk hb1 hb2 HD0.out HS0.out HM1.out.size hlo); have HM2 : Hid (Mod (fun k => w.heap.size <= k) w w2) := hid (((HM1.out.mono (fun _ _ e => e.elim)) : Mod (fun k => w.heap.size <= k) w _).trans (hm2.mono (fun k _ e => by rcases e with e | e; (have := HD0.out; omega); (exact HS0.out k e)))); clear hh hb1 hb2 hb3 hlo hm2)
 have HA := hid (qNz (HH.out.ext ((Mod.refl (fun _ => False) w2).alloc (.cells #[.string ⟨#[98]⟩, .string ⟨#[50]⟩, .bool false, .string ⟨#[97]⟩, .string ⟨#[49]⟩, .bool false] 67))) (by omega) 2 (cs := wcs) (qFx qBp (heap_alloc_new w2 _)) (by show (2 : Nat) <= _; omega) (fun c hc => by have := qHa qSs c hc; have h1 := this.key; have h2 := this.value; unfold maxLen; omega))
 go_wp2_with (first
  | (go_at_call 15; refine HA.out.mono ?_; intro e w3 ha; have ha2 := jDf (HH.out.ext ((Mod.refl (fun _ => False) w2).alloc (.cells #[.string ⟨#[98]⟩, .string ⟨#[50]⟩, .bool false, .string ⟨#[97]⟩, .string ⟨#[49]⟩, .bool false] 67))) HB.out.2.2 ha; obtain ⟨rfl, T1, D1, hh1, hm3⟩ := ha2; have HH1 := hid hh1; have HS1 : Hid (Std 40 D1 T1 wl 1) := hid (by have h9 := hh1.std; rw [HB.out.2.2] at h9; exact h9); have HDk : Hid (qAl w3 d sa D1) := hid (by have h9 := hh1.tree.disk; rw [HB.out.1, HB.out.2.1] at h9; exact h9); have HM3 : Hid (Mod (fun k => w.heap.size <= k) w w3) := hid ((HM2.out.alloc _).trans (hm3.mono (fun k _ e => HNb.out k e))); clear ha hh1 hm3)
  | (go_at_call 11; refine (qVy HH1.out).mono ?_; rintro e w4 ⟨he, hw4⟩; rw [jJe] at he; subst he; subst w4)
  | (go_at_call 13; refine (qJb HDk.out HH1.out.lit (by omega) HS1.out).mono ?_; rintro e w5 ⟨B2, rfl, hh2, hb1, hb2, hb3, hlo, hm5⟩; have HH2 := hid hh2; clear hh2)
  | (go_at_call 10; refine (jGx HH2.out).mono ?_; rintro e w6 ⟨g, off, cap, rfl, hc0, hc1, hm6⟩; have HM6 := hid ((HM3.out.then hm5 (fun k hk e => by (rcases e with e | e); (have := HD0.out; omega); (exact HS0.out k e))).trans (hm6.mono (fun _ _ e => e.elim))))
  | (go_at_call 29; refine (qKd (HH2.out.ext hm6)).mono ?_; rintro e w7 ⟨rfl, hw7⟩; subst w7))
 go_ret; exact ⟨rfl, HM6.out.mono (fun k hk e => by omega)⟩
end
section
open Go Go.RowKit
theorem jJr : (Tryz.prog.info? 73).map (fun i => (i.zero, i.size, i.bytes)) = some (some (.agg #[.string ⟨#[]⟩, .string ⟨#[]⟩, .bool false]), 3, 40) := by kernel_rfl
theorem jGe (l : List Cg) (c : Cg) : (l ++ [c]).flatMap ccs = l.flatMap ccs ++ [.string c.key, .string c.value, .bool c.gone] := by simp [ccs]
theorem jDg (w : World) (c : Cg) (t : TypeId) : Src (w.alloc (.cells #[.string c.key, .string c.value, .bool c.gone] t)) 3 (some ⟨w.heap.size, 0, none⟩) 1 [.string c.key, .string c.value, .bool c.gone] :=
 qBn (heap_alloc_new _ _) rfl
theorem qUn {a b : ByteArray} {c : Bool} : ∀ u ∈ [Value.string a, .string b, .bool c], u.oneCell' = true := by simp [Value.oneCell']
set_option maxRecDepth 100000
set_option maxHeartbeats 1000000 in
theorem jHj {w : World} {a : Option Addr} (cap0 : Nat) {cs : List Cg} (hc : Lies w 3 ccs a cs) (hb : cs.length <= 1099511627776) :
  Calls Tryz.prog 17 #[.slice a cs.length cap0] w fun e w' => ∃ la cap, e = .returned (.slice la cs.length cap) /\ Own w' 73 3 la cs.length cap (cs.flatMap ccs) /\ (∀ b, blk la b -> w.heap.size <= b) /\ Mod (fun _ => False) w w' := by
 obtain ⟨i0, hi, hz0, hz1, hz2⟩ := info_parts jJr; have HL := hid hc; have HBd := hid hb; clear hc hb; go_enter Tryz.func17, Tryz.ntmps17
 go_upto_region 3 with fail
 go_loopw [3, 8] (fun sl si wr => ∃ (k : Nat) (la : Option Addr) (cap : Nat), k <= cs.length /\ sl = .slice la k cap /\ si = .int .i64 (k : Int) /\ Own wr 73 3 la k cap ((cs.take k).flatMap ccs) /\ (∀ b, blk la b -> w.heap.size <= b) /\ Mod (fun _ => False) w wr) (fun _ si _ => cs.length - (intOf si).toNat)
 case atStart => exact ⟨0, none, 0, Nat.zero_le _, rfl, rfl, Own.nil _ _ _, (fun k hk => (qAg k hk).elim), Mod.refl _ _⟩
 case round =>
  obtain ⟨k, la, cap, hk, rfl, rfl, r4, r5, r6⟩ := hrel; have HO := hid r4; have HB := hid r5; have HM := hid r6; clear r4 r5 r6; by_cases hlt : k < cs.length
  ·have d0 : decide ((k : Int) < (cs.length : Int)) = true := by simp; omega
   have d1 : decide (k < cs.length) = true := by simpa using hlt
   have hdi : ¬ cs.length <= k := by omega
   obtain ⟨⟨xk, xv, xg⟩, hx⟩ : ∃ x, cs[k]? = some x := ⟨_, List.getElem?_eq_getElem hlt⟩; obtain ⟨g, off, rfl⟩ := HL.out.some (by omega)
   have hq0 := (HL.out.ext HM.out).cell qBp hx (j := 0) rfl; have hq1 := (HL.out.ext HM.out).cell qBp hx (j := 1) rfl; have hq2 := (HL.out.ext HM.out).cell qBp hx (j := 2) rfl; simp only [Nat.add_zero] at hq0; have hkb : k + 1 <= 1099511627776 := by have := HBd.out; omega
   have HTk : Hid ((cs.take (k + 1)).flatMap ccs = (cs.take k).flatMap ccs ++ [.string xk, .string xv, .bool xg]) := hid (by
    rw [List.take_add_one, hx]; exact jGe _ _)
   have HS := hid (jDg (wr.alloc (.cells #[.string xk, .string xv, .bool xg] 67)) ⟨xk, xv, xg⟩ 73); have HOa := hid (qCz (qCz HO.out (.cells #[.string xk, .string xv, .bool xg] 67)) (.cells #[.string xk, .string xv, .bool xg] 73)); have HMa := hid ((HM.out.alloc (.cells #[.string xk, .string xv, .bool xg] 67)).alloc (.cells #[.string xk, .string xv, .bool xg] 73)); rw [World.size_alloc] at HS; clear hx
   go_wp2_with (at_builtin; refine qAc rfl (.tmp 12) (.tmp 20) 46 rfl 73 i0 _ 3 40 Tryz.underlying46 hi hz0 hz1 hz2 rfl la k cap _ rfl HOa.out (some ⟨wr.heap.size + 1, 0, none⟩) 1 1 _ rfl HS.out qUn (by unfold maxLen; omega) (by omega) ?_; intro la5 cap5 w5 hown hmo hbo hn5 hr5; have HO5 := hid hown; have HM5 : Hid (Mod (fun _ => False) w w5) := hid (HMa.out.then hmo (fun b hlt hb => by have h1 := HB.out b hb; omega)); have HB5 : Hid (∀ b, blk la5 b -> w.heap.size <= b) := hid (fun b hb => (hbo b hb).elim (fun e => HB.out b e) (fun e => by have h1 := HM.out.size; rw [World.size_alloc, World.size_alloc] at e; omega)); clear hown hmo hbo hn5 hr5)
   go_roundw
   case rel => exact ⟨k + 1, la5, cap5, by omega, rfl, by go_num, by rw [HTk.out]; exact HO5.out, HB5.out, HM5.out⟩
   case measure => simp [intOf]; omega
  ·have hke : k = cs.length := by omega
   subst hke; have d0 : decide ((cs.length : Int) < (cs.length : Int)) = false := by simp
   have d1 : decide (cs.length < cs.length) = false := by simp
   have HO5 : Hid (Own wr 73 3 la cs.length cap (cs.flatMap ccs)) := hid (by have := HO.out; rw [List.take_length] at this; exact this)
   clear HO; go_wp2_with fail
   go_ret; exact ⟨la, cap, rfl, HO5.out, HB.out, HM.out⟩
theorem jHu (b : ByteArray) : b.toList = [] ↔ b.size = 0 := by
 rw [ByteArray.toList_eq, Array.toList_eq_nil_iff, <- Array.size_eq_zero_iff]; rfl
open Classical in
set_option maxHeartbeats 4000000 in
theorem jEh {w : World} {a : Option Addr} (cap : Nat) {cs : List Cg} (hc : Lies w 3 ccs a cs) (hb : cs.length <= 1099511627776000) (hs : ∀ c ∈ cs, c.key.size <= maxLen /\ c.value.size <= maxLen) :
  Calls Tryz.prog 16 #[.slice a cs.length cap] w fun e w' => e = .returned (.int .i64 (chkF [] cs)) /\ Mod (fun _ => False) w w' := by
 have HC := hid hc; have HSz := hid hs; obtain ⟨F, hF⟩ : ∃ z, chkF [] cs = z := ⟨_, rfl⟩; rw [hF]; have HF := hid hF; clear hc hs hF; go_enter Tryz.func16, Tryz.ntmps16
 go_wp2_with fail
 go_loopw [3] (fun sc wr => ∃ k : Nat, k <= cs.length /\ sc = .int .i64 (k : Int) /\ F = chkF ((cs.take k).map (·.key)) (cs.drop k) /\ Mod (fun _ => False) w wr) (fun sc _ => cs.length - (intOf sc).toNat)
 case atStart => exact ⟨0, Nat.zero_le _, rfl, HF.out.symm, Mod.refl _ _⟩
 case round =>
  obtain ⟨k, hk, rfl, r1, r3⟩ := hrel; have HFk := hid r1; have HM := hid r3; clear r1 r3; by_cases hlt : k < cs.length
  ·obtain ⟨x, hx⟩ : ∃ x, cs[k]? = some x := ⟨_, List.getElem?_eq_getElem hlt⟩; have hxe : cs[k] = x := by rw [List.getElem?_eq_getElem hlt] at hx; exact Option.some.inj hx
   obtain ⟨g, off, rfl⟩ := HC.out.some (by omega)
   have hcw := HC.out.ext HM.out; have hq0 := hcw.cell qBp hx (j := 0) rfl; have hq1 := hcw.cell qBp hx (j := 1) rfl; have hq2 := hcw.cell qBp hx (j := 2) rfl; simp only [Nat.add_zero] at hq0; have hxs := HSz.out x (List.mem_of_getElem? hx); have HSt : Hid (F = if x.key.toList = [] \/ 48 < x.key.size then 50 else if 200 < x.value.size then 51 else if x.key ∈ (cs.take k).map (·.key) then 30 else chkF ((cs.take k).map (·.key) ++ [x.key]) (cs.drop (k + 1))) := hid (by
    rw [HFk.out, List.drop_eq_getElem_cons hlt, hxe]; rfl)
   have HTk := hid (qPl cs hx); obtain ⟨xk, xv, xg⟩ := x; simp only at hq0 hq1 hq2 hxs HSt HTk; have hma : Mod (fun _ => False) wr (wr.alloc (.cells #[.string xk, .string xv, .bool xg] 73)) := (Mod.refl _ _).alloc _
   have hcb : (wr.alloc (.cells #[.string xk, .string xv, .bool xg] 73)).heap[wr.heap.size]? = some (.cells #[.string xk, .string xv, .bool xg] 73 (0, 0)) := heap_alloc_new _ _; have HMa := hid (HM.out.trans hma); have HCb := hid hcb; obtain ⟨b0, b1, b2⟩ : (wr.alloc (.cells #[.string xk, .string xv, .bool xg] 73)).cell? ⟨wr.heap.size, 0, none⟩ = some (.string xk) /\ (wr.alloc (.cells #[.string xk, .string xv, .bool xg] 73)).cell? ⟨wr.heap.size, 1, none⟩ = some (.string xv) /\ (wr.alloc (.cells #[.string xk, .string xv, .bool xg] 73)).cell? ⟨wr.heap.size, 2, none⟩ = some (.bool xg) := by
    refine ⟨?_, ?_, ?_⟩ <;> (rw [cell_of_row _ _ _ _ _ _ hcb]; rfl)
   obtain ⟨hs1, hs2⟩ := hxs; unfold maxLen at hs1 hs2; clear hx hxe hma hcb hcw; have hnil := jHu xk; by_cases h1 : xk.size < 1
   ·have e1 : decide ((xk.size : Int) < 1) = true := by simp; omega
    have HE : Hid (F = 50) := hid (by rw [HSt.out, if_pos (.inl (hnil.2 (by omega)))])
    clear hnil; go_wp2_with fail
    go_ret; rw [HE.out]; exact ⟨rfl, HMa.out⟩
   ·have e1 : decide ((xk.size : Int) < 1) = false := by simp; omega
    by_cases h2 : 48 < xk.size
    ·have e2 : decide (48 < (xk.size : Int)) = true := by simp; omega
     have HE : Hid (F = 50) := hid (by rw [HSt.out, if_pos (.inr h2)])
     clear hnil; go_wp2_with fail
     go_ret; rw [HE.out]; exact ⟨rfl, HMa.out⟩
    ·have e2 : decide (48 < (xk.size : Int)) = false := by simp; omega
     have hn12 : ¬ (xk.toList = [] \/ 48 < xk.size) := fun e => e.elim (fun e => h1 (by rw [hnil.1 e]; decide)) h2
     by_cases h3 : 200 < xv.size
     ·have e3 : decide (200 < (xv.size : Int)) = true := by simp; omega
      have HE : Hid (F = 51) := hid (by rw [HSt.out, if_neg hn12, if_pos h3])
      clear hn12 hnil; go_wp2_with fail
      go_ret; rw [HE.out]; exact ⟨rfl, HMa.out⟩
     ·have e3 : decide (200 < (xv.size : Int)) = false := by simp; omega
      have HN : Hid (xk ∉ (cs.take k).map (·.key) -> F = chkF ((cs.take (k + 1)).map (·.key)) (cs.drop (k + 1))) := hid (fun h4 => by rw [HSt.out, if_neg hn12, if_neg h3, if_neg h4, HTk.out])
      have HY : Hid (xk ∈ (cs.take k).map (·.key) -> F = 30) := hid (fun h4 => by rw [HSt.out, if_neg hn12, if_neg h3, if_pos h4])
      clear hn12 HSt HTk hnil; go_wp2_with fail
      have b00 := b0; clear b0 b1 b2 hq0 hq1 hq2; have HAt := hid (fun y : Ext (wr.alloc (.cells #[.string xk, .string xv, .bool xg] 73)) => HM.out.trans (((Mod.refl (fun _ => False) wr).alloc _).trans y.mod))
      have HB0 := hid b00; generalize hV : wr.alloc (.cells #[.string xk, .string xv, .bool xg] 73) = V at *; generalize hwb : wr.heap.size = nb at *; clear b00; go_loopw [5] (fun sj wj => ∃ j : Nat, j <= k /\ sj = .int .i64 (j : Int) /\ xk ∉ (cs.take j).map (·.key) /\ Mod (fun _ => False) V wj) (fun sj _ => k - (intOf sj).toNat)
      case atStart => exact ⟨0, Nat.zero_le _, rfl, by simp, Mod.refl _ _⟩
      case round =>
       obtain ⟨j, hj, rfl, hn, hmj⟩ := hrel; have HNj := hid hn; have HMj := hid hmj; have HMw : Hid (Mod (fun _ => False) w wr) := hid (HAt.out ⟨wr, hmj⟩)
       clear hn; by_cases hjk : j < k
       ·have d0 : decide ((j : Int) < (k : Int)) = true := by simp; omega
        have d1 : decide (j < k) = true := by simpa using hjk
        obtain ⟨⟨yk, yv, yg⟩, hy⟩ : ∃ y, cs[j]? = some y := ⟨_, List.getElem?_eq_getElem (by omega)⟩
        have q0 := (HC.out.ext HMw.out).cell qBp hy (j := 0) rfl; have b0 : wr.cell? ⟨nb, 0, none⟩ = some (.string xk) := (⟨wr, hmj⟩ : Ext V).cell HB0.out; simp only [Nat.add_zero] at q0; have HTj := hid (qPl cs hy); have HMem : Hid (yk ∈ (cs.take k).map (·.key)) := hid (List.mem_map.2 ⟨_, List.mem_of_getElem? (by rw [List.getElem?_take, if_pos hjk]; exact hy), rfl⟩)
        have hjl : ¬ cs.length <= j := by omega
        clear hy hmj; by_cases he : yk = xk
        ·subst he; have HE := hid (HY.out HMem.out); have dv := qNg (rfl : yk = yk); go_wp2_with fail
         go_quiet (fail)
         go_wp2_with fail
         go_ret; rw [HE.out]; exact ⟨rfl, HMw.out.trans ⟨rfl, rfl, rfl, Nat.le_refl _, fun _ _ _ => rfl⟩⟩
        ·have dv := qYd he; have HN2 : Hid (xk ∉ (cs.take (j + 1)).map (·.key)) := hid (by
          rw [HTj.out, List.mem_append]; rintro (h | h)
          ·exact HNj.out h
          ·exact he (List.mem_singleton.1 h).symm)
         clear he; go_wp2_with fail
         go_quiet (fail)
         go_wp2_with fail
         go_roundw
         case rel => exact ⟨j + 1, by omega, by go_num, HN2.out, HMj.out.trans ⟨rfl, rfl, rfl, Nat.le_refl _, fun _ _ _ => rfl⟩⟩
         case measure => simp [intOf]; omega
       ·have hje : j = k := by omega
        subst hje; have d0 : decide ((j : Int) < (j : Int)) = false := by simp
        have d1 : decide (j < j) = false := by simp
        have HE := hid (HN.out HNj.out); clear hmj; go_wp2_with fail
        go_roundw
        case rel => exact ⟨j + 1, by omega, by go_num, HE.out, HMw.out⟩
        case measure => simp [intOf]; omega
  ·have hke : k = cs.length := by omega
   subst hke; have d0 : decide ((cs.length : Int) < (cs.length : Int)) = false := by simp
   have d1 : decide (cs.length < cs.length) = false := by simp
   have HE : Hid (F = 0) := hid (by rw [HFk.out, List.drop_length]; rfl)
   go_wp2_with fail
   go_ret; rw [HE.out]; exact ⟨rfl, HM.out⟩
set_option maxHeartbeats 1000000 in
theorem qUx {w : World} {a b : Option Addr} (cap cap2 : Nat) {l : List KV} (ha : Lies w 2 kcs a l) (hb : Lies w 2 kcs b l) (hl : l.length <= 1099511627776) :
  Calls Tryz.prog 27 #[.slice a l.length cap, .slice b l.length cap2] w fun e w' => e = .returned (.bool true) /\ Mod (fun _ => False) w w' := by
 have HA := hid ha; have HB := hid hb; clear ha hb; have dl : ((l.length : Int) != (l.length : Int)) = false := by simp
 go_enter Tryz.func27, Tryz.ntmps27
 go_upto_region 4 with fail
 go_loopw [13] (fun si wr => ∃ i : Nat, i <= l.length /\ si = .int .i64 (i : Int) /\ Mod (fun _ => False) w wr) (fun si _ => l.length - (intOf si).toNat)
 case atStart => exact ⟨0, Nat.zero_le _, rfl, Mod.refl _ _⟩
 case round =>
  obtain ⟨i, hi, rfl, hm⟩ := hrel; have HM := hid hm; by_cases hlt : i < l.length
  ·have d0 : decide ((i : Int) < (l.length : Int)) = true := by simp; omega
   have d1 : decide (i < l.length) = true := by simpa using hlt
   have hdi : ¬ l.length <= i := by omega
   obtain ⟨⟨xk, xv⟩, hx⟩ : ∃ x, l[i]? = some x := ⟨_, List.getElem?_eq_getElem hlt⟩; obtain ⟨g, off, rfl⟩ := HA.out.some (by omega)
   obtain ⟨g2, off2, rfl⟩ := HB.out.some (by omega)
   have q0 := (HA.out.ext hm).cell qEd hx (j := 0) rfl; have q1 := (HA.out.ext hm).cell qEd hx (j := 1) rfl; have r0 := (HB.out.ext hm).cell qEd hx (j := 0) rfl; have r1 := (HB.out.ext hm).cell qEd hx (j := 1) rfl; simp only [Nat.add_zero] at q0 r0; have dv := qNg (rfl : xv = xv); have dk := qNg (rfl : xk = xk); clear hx hm; go_upto_region 6 with fail
   go_quiet (fail)
   go_wp2_with fail
   go_roundw
   case rel => exact ⟨i + 1, by omega, by go_num, HM.out.trans ⟨rfl, rfl, rfl, Nat.le_refl _, fun _ _ _ => rfl⟩⟩
   case measure => simp [intOf]; omega
  ·have hie : i = l.length := by omega
   subst hie; have d0 : decide ((l.length : Int) < (l.length : Int)) = false := by simp
   have d1 : decide (l.length < l.length) = false := by simp
   clear hm; go_wp2_with fail
   go_ret; exact ⟨rfl, HM.out⟩
end
section
open Go Go.RowKit
theorem jJo (a : ByteArray) : kl a ⟨#[]⟩ = false := by
 unfold kl; rw [show (⟨#[]⟩ : ByteArray).toList = [] by rw [ByteArray.toList_eq]]
 cases a.toList <;> rfl
theorem qZp (l : List KV) {most : Int} (h : (l.length : Int) <= most) : qGh l ⟨#[]⟩ most = l := by
 have e : l.filter (geK ⟨#[]⟩) = l := List.filter_eq_self.2 (fun p _ => by unfold geK; rw [jJo]; rfl)
 unfold qGh; rw [e]; exact List.take_of_length_le (by omega)
set_option maxRecDepth 100000
set_option maxHeartbeats 1000000 in
theorem qGw {w : World} {B : TB} {T : TM} {D : Dsk} {k N : Nat} {l : List KV} {la : Option Addr} (lc : Nat) (h : Here w B T D k l N) (hl : Lies w 2 kcs la l) :
  Calls Tryz.prog 21 #[.pointer (some ⟨B.tb, 0, none⟩), .slice la l.length lc] w fun e w' => e = .returned (.bool true) /\ Mod (fun _ => False) w w' := by
 have hll : l.length <= 8388608 := h.len.1; have hN := h.std.ti.secs.1; have hok : ∀ p ∈ l, p.1.size <= 48 /\ p.2.size <= 200 := fun p hp => ⟨(h.std.ti.1.ok p hp).1.2, (h.std.ti.1.ok p hp).2⟩
 have hrb := qLw l hok; have HLn := hid (qVy h); have s1 : IntKind.i64.wrap ((l.length : Int) + 1) = (l.length : Int) + 1 := by rw [IntKind.wrap_i64]; omega
 have HS := hid (qMi h ⟨#[]⟩ ((l.length : Int) + 1)); rw [qZp l (Int.le_of_lt (Int.lt_succ _))] at HS; have HSe := hid (fun y : Ext w => qKd (h.ext y.mod))
 have HRb := hid (fun y : Ext w => qXh lc (hl.ext y.mod) (by omega) hok)
 have HSa := hid (fun (y : Ext w) (xa : Option Addr) (xc : Nat) (hx : Own y.val 32 2 xa l.length xc (l.flatMap kcs)) => qUx xc lc hx.lies (hl.ext y.mod) (by omega))
 obtain ⟨R, hR⟩ : ∃ R, qAt l = R := ⟨_, rfl⟩; rw [hR] at HRb hN hrb; have d0 : ((l.length : Int) == (l.length : Int)) = true := by simp
 have s3 : wrap64 ((R : Int) / 100) = (R : Int) / 100 := IntWalk.wrap64_in _ (by omega)
 have s4 : wrap64 (3 + (R : Int) / 100) = 3 + (R : Int) / 100 := IntWalk.wrap64_in _ (by omega)
 have d2 : decide ((N : Int) + 1 <= 3 + (R : Int) / 100) = true := by rw [decide_eq_true_iff]; omega
 clear hl h hR hN hrb hok; go_enter Tryz.func21, Tryz.ntmps21
 go_wp2_with (first
  | (go_at_call 11; refine HLn.out.mono ?_; rintro e w1 ⟨rfl, rfl⟩)
  | (go_at_call 10; refine HS.out.mono ?_; rintro e w2 ⟨xa, xc, rfl, ho, hb, hm2⟩; have HO := hid ho; have HM2 := hid hm2; clear ho hb hm2)
  | (go_at_call 27; refine (HSa.out ⟨_, HM2.out⟩ _ _ HO.out).mono ?_; rintro e w3 ⟨rfl, hm3⟩; have HM3 := hid (HM2.out.trans hm3); clear hm3)
  | (go_at_call 29; refine (HSe.out ⟨_, HM3.out⟩).mono ?_; rintro e w4 ⟨rfl, rfl⟩)
  | (go_at_call 45; refine (HRb.out ⟨_, HM3.out⟩).mono ?_; rintro e w5 ⟨rfl, hm5⟩; have HM5 := hid (HM3.out.trans hm5); clear hm5))
 go_ret; exact ⟨rfl, HM5.out⟩
end
end Go.Proofs.YtgbcibdfeeiilaaGreatDoor
