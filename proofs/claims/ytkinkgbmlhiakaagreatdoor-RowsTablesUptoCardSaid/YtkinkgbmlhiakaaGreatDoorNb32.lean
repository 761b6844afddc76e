/- merged: RoC RoK RoM RoT RoTab RoTbR RwU -/
import Derived.Test.YtkinkgbmlhiakaaGreatDoorNb31
import Derived.Test.YtkinkgbmlhiakaaGreatDoorNb05
import Derived.Test.YtkinkgbmlhiakaaGreatDoorNb29
namespace Go.Proofs.YtkinkgbmlhiakaaGreatDoor
section
open Go Go.RowKit
def RBad (R F : Option PK) (n m : Nat) : Prop := (R = none /\ 0 < n) \/ (F = none /\ 0 < m) \/ ∃ p q, R = some p /\ F = some q /\ p.k ≠ q.k
theorem qUd {P Q : Option PB} {n m : Nat} : RBad (P.map PB.pk) (Q.map PB.pk) n m ↔ qNu P Q n m := by
 unfold RBad qNu; rw [Option.map_eq_none_iff, Option.map_eq_none_iff]; refine or_congr Iff.rfl (or_congr Iff.rfl ⟨?_, ?_⟩)
 ·rintro ⟨p, q, hp, hq, hne⟩; obtain ⟨p', hp', rfl⟩ := Option.map_eq_some_iff.1 hp; obtain ⟨q', hq', rfl⟩ := Option.map_eq_some_iff.1 hq; exact ⟨p', q', hp', hq', fun e => hne (toList_inj e)⟩
 ·rintro ⟨p, q, hp, hq, hne⟩; exact ⟨_, _, by rw [hp]; rfl, by rw [hq]; rfl, fun e => hne (congrArg ByteArray.toList e)⟩
theorem qQm {R F : Option PK} {n m : Nat} (h : ¬ RBad R F n m) : ∀ p q, R = some p -> F = some q -> p.k = q.k := fun p q h1 h2 => Classical.byContradiction (fun e => h (.inr (.inr ⟨p, q, h1, h2, e⟩)))
theorem qKp (name : Int) (cols : List Int) (keys idx : Int) : rowK name cols keys idx [] = none := by
 unfold rowK; rw [qEg (fun hg => by
  obtain ⟨_, _, _, h1, h2, _⟩ := qKv hg.fit; have := hg.len; simp at this
  omega)]
 rfl
structure qPt (cols : List Int) (r : List Vl) : Prop where
 n : r.length <= 1048576
 ok : ∀ x ∈ r, x.Ok /\ x.s.size <= 1048576
theorem qPt.size {cols : List Int} {r : List Vl} (h : qPt cols r) (hc : cols.length <= 1048576) : (∀ k, (qDs cols r k).length <= 1152921504606846976) /\ ∀ j k, (valL cols r j k).length <= 1152921504606846976 :=
 qHk (by omega) (fun v hv => (h.ok v hv).1) (fun v hv => by have := (h.ok v hv).2; omega)
theorem qVg {w : World} {ca ra fa : Option Addr} {cols : List Int} {r f : List Vl} (name keys idx : Int) (cc rc fc : Nat) (hl : Lies w 1 oneI ca cols) (hr : Lies w 2 Vl.cs ra r) (hf : Lies w 2 Vl.cs fa f) (hn : cols.length <= 1048576) (h1 : qPt cols r) (h2 : qPt cols f) :
  Calls Tryz.prog 10 #[.agg #[.int .u8 name, .slice ca cols.length cc, .int .i64 keys, .int .i64 idx], .slice ra r.length rc, .slice fa f.length fc] w fun e w' => qVs w ((qBx name cols keys idx r).map PX.b) ((qBx name cols keys idx f).map PX.b) r.length f.length e w' := by
 have n1 := h1.n; have n2 := h2.n; exact qTa name keys idx cc rc fc hl hr hf (by omega) (by omega) (fun v hv => (h1.ok v hv).1) (h1.size hn) (by omega) (fun v hv => (h2.ok v hv).1) (h2.size hn)
theorem jIv {w : World} {ca ra fa : Option Addr} {cols : List Int} {r f : List Vl} {name keys idx : Int} {cc rc fc : Nat} (hl : Lies w 1 oneI ca cols) (hr : Lies w 2 Vl.cs ra r) (hf : Lies w 2 Vl.cs fa f) (hn : cols.length <= 1048576) (h1 : qPt cols r) (h2 : qPt cols f) (hb : RBad (rowK name cols keys idx r) (rowK name cols keys idx f) r.length f.length) :
  Calls Tryz.prog 10 #[.agg #[.int .u8 name, .slice ca cols.length cc, .int .i64 keys, .int .i64 idx], .slice ra r.length rc, .slice fa f.length fc] w fun e w' => e = .returned (.tuple #[.slice none 0 0, .int .i64 60]) /\ Mod (fun _ => False) w w' :=
 (qVg name keys idx cc rc fc hl hr hf hn h1 h2).mono fun _ _ ⟨hm, ha⟩ => ha.elim (fun ⟨_, he⟩ => ⟨he, hm⟩) (fun ⟨hx, _⟩ => absurd (qUd.1 hb) hx)
theorem jCc {w : World} {ca ra fa : Option Addr} {cols : List Int} {r f : List Vl} {name keys idx : Int} {cc rc fc : Nat} (hl : Lies w 1 oneI ca cols) (hr : Lies w 2 Vl.cs ra r) (hf : Lies w 2 Vl.cs fa f) (hn : cols.length <= 1048576) (h1 : qPt cols r) (h2 : qPt cols f) (hb : ¬ RBad (rowK name cols keys idx r) (rowK name cols keys idx f) r.length f.length)
  {cs : List Cg} (hcs : qFg (rowK name cols keys idx r) (rowK name cols keys idx f) = cs) :
  Calls Tryz.prog 10 #[.agg #[.int .u8 name, .slice ca cols.length cc, .int .i64 keys, .int .i64 idx], .slice ra r.length rc, .slice fa f.length fc] w fun e w' => ∃ la cap, e = .returned (.tuple #[.slice la cs.length cap, .int .i64 0]) /\ Lies w' 3 ccs la cs /\ Mod (fun _ => False) w w' :=
 (qVg name keys idx cc rc fc hl hr hf hn h1 h2).mono fun _ _ ⟨hm, ha⟩ => ha.elim (fun ⟨hx, _⟩ => absurd (qUd.2 hx) hb) (fun ⟨_, la, cap, he, hl⟩ => by
  have e := jCd ((qBx name cols keys idx r).map PX.b) ((qBx name cols keys idx f).map PX.b); have e2 : (chgL ((qBx name cols keys idx r).map PX.b) ((qBx name cols keys idx f).map PX.b)).map Rg.c = cs := e.trans hcs; have hl2 := jHv hl; rw [e2] at hl2; refine ⟨la, cap, ?_, hl2, hm⟩; rw [he, <- e2, List.length_map])
end
section
open Go Go.RowKit
theorem jGq {a b : List UInt8} (h : ba a = ba b) : a = b := by rw [<- qBt a, <- qBt b, h]
theorem qUm {a b : Int} {x y : List UInt8} (a0 : -9223372036854775808 <= a) (a1 : a <= 9223372036854775807) (b0 : -9223372036854775808 <= b) (b1 : b <= 9223372036854775807) (h : ordL a ++ x = ordL b ++ y) : a = b /\ x = y := by
 have e1 : (ordL a).length = 8 := qDi 8 _; have e2 : (ordL b).length = 8 := qDi 8 _; obtain ⟨h1, h2⟩ := List.append_inj h (e1.trans e2.symm); have h3 := qZp (s := ba (ordL a)) (a := 0) (n := a) (r := []) (by rw [qBt, List.drop_zero, List.append_nil]) a0 a1
 have h4 := qZp (s := ba (ordL a)) (a := 0) (n := b) (r := []) (by rw [qBt, List.drop_zero, List.append_nil, h1]) b0 b1
 rw [h3] at h4; injection h4 with h5
 injection h5 with h6
 exact ⟨h6, h2⟩
end
section
open Go Go.RowKit
theorem qOm {x y : List UInt8} {v : ByteArray} : preB (ba x) (ba y, v) = true ↔ x <+: y := by
 unfold preB; rw [List.isPrefixOf_iff_prefix, qBt, qBt]
end
section
open Go Go.RowKit
def hv (n : Int) : Int := n.tdiv 2
def kT (c n : Int) : ByteArray := ba (qAg c.toNat 0 ++ ordL n)
def vT (n : Int) : ByteArray := ba (intL (hv n))
def xT (c n : Int) : ByteArray := ba (qAg c.toNat 1 ++ ordL (hv n) ++ ordL n)
def rowT (n : Int) : List Vl := [⟨n, ⟨#[]⟩⟩, ⟨hv n, ⟨#[]⟩⟩]
def I64 (n : Int) : Prop := -9223372036854775808 <= n /\ n <= 9223372036854775807
def AB (c : Int) : Prop := c = 97 \/ c = 98
theorem qKl {n : Int} (h : I64 n) : I64 (hv n) := by
 obtain ⟨h1, h2⟩ := h; unfold I64 hv; rcases Int.le_total 0 n with h | h
 ·rw [Int.tdiv_eq_ediv_of_nonneg h]; omega
 ·obtain ⟨m, rfl⟩ : ∃ m : Int, n = -m := ⟨-n, by omega⟩
  rw [Int.neg_tdiv, Int.tdiv_eq_ediv_of_nonneg (by omega)]; omega
theorem qRv {c : Int} (hc : AB c) : qJt c [0, 0] 1 1 = true := by
 unfold qJt; rw [if_pos (by
  intro k hk; rcases List.mem_cons.1 hk with rfl | hk
  ·exact .inl rfl
  ·rw [List.mem_singleton] at hk; subst hk; exact .inl rfl)]
 rcases hc with rfl | rfl <;> rfl
theorem qOh {c n : Int} (hc : AB c) (hn : I64 n) : rowK c [0, 0] 1 1 (rowT n) = some ⟨kT c n, vT n, xT c n⟩ := by
 have e1 : pxOf c [0, 0] 1 1 (rowT n) = ⟨qAg c.toNat 0 ++ ordL n, intL (hv n), qAg c.toNat 1 ++ ordL (hv n) ++ ordL n⟩ := by
  unfold pxOf qFu qWn pxL qDs valL idxL rowT qEc qQz qJi; simp
 have hp : qBx c [0, 0] 1 1 (rowT n) = some ⟨qAg c.toNat 0 ++ ordL n, intL (hv n), qAg c.toNat 1 ++ ordL (hv n) ++ ordL n⟩ := by
  rw [<- e1]; refine qGt ⟨qRv hc, rfl, fun j k v hk hv' => ?_, fun j v hj hv' => ?_⟩ ?_
  ·match j with
   | 0 => cases hk; cases hv'; unfold qCu; rw [if_pos rfl, ByteArray.toList_eq]; rfl
   | 1 => cases hk; cases hv'; unfold qCu; rw [if_pos rfl, ByteArray.toList_eq]; rfl
   | j + 2 => cases hk
  ·match j, hv' with
   | 0, hv' => cases hv'; rfl
   | 1, hv' => cases hv'; rfl
   | j + 2, hv' => cases hv'
  ·rw [e1]; have h8 : (ordL n).length = 8 := qDi 8 _; have h9 : (ordL (hv n)).length = 8 := qDi 8 _; have h10 := qUu (qKl hn).1 (qKl hn).2; refine ⟨?_, ?_, ?_⟩
   ·show (qAg c.toNat 0 ++ ordL n).length <= 48; unfold qAg; simp only [List.length_append, List.length_cons, List.length_nil]; omega
   ·show (qAg c.toNat 1 ++ ordL (hv n) ++ ordL n).length <= 48; unfold qAg; simp only [List.length_append, List.length_cons, List.length_nil]; omega
   ·show (intL (hv n)).length <= 200; omega
 unfold rowK; rw [hp]; rfl
theorem jJb {c d : Int} (hc : AB c) (hd : AB d) (h : UInt8.ofNat c.toNat = UInt8.ofNat d.toNat) : c = d := by
 rcases hc with rfl | rfl <;> rcases hd with rfl | rfl
 ·rfl
 ·exact absurd h (by decide)
 ·exact absurd h (by decide)
 ·rfl
theorem qZw {a b : Int} (ha : I64 a) (hb : I64 b) (h : ordL a = ordL b) : a = b := (qUm (x := []) (y := []) ha.1 ha.2 hb.1 hb.2 (by rw [h])).1
theorem jGl {c d n m : Int} (hc : AB c) (hd : AB d) (hn : I64 n) (hm : I64 m) (h : kT c n = kT d m) : c = d /\ n = m := by
 have := jGq h; unfold qAg at this; simp only [List.cons_append, List.nil_append, List.cons.injEq, true_and] at this; exact ⟨jJb hc hd this.1, qZw hn hm this.2⟩
theorem jJk {c d n m : Int} (hc : AB c) (hd : AB d) (hn : I64 n) (hm : I64 m) (h : xT c n = xT d m) : c = d /\ n = m := by
 have := jGq h; unfold qAg at this; simp only [List.cons_append, List.nil_append, List.cons.injEq, true_and] at this; obtain ⟨h1, h2⟩ := this; obtain ⟨_, h3⟩ := qUm (qKl hn).1 (qKl hn).2 (qKl hm).1 (qKl hm).2 h2; exact ⟨jJb hc hd h1, qZw hn hm h3⟩
theorem jAo (c d n m : Int) : kT c n ≠ xT d m := jKn (by unfold qAg; simp)
theorem jGx (c n : Int) : (xT c n).toList.isEmpty = false := by rw [ByteArray.toList_eq]; unfold xT qAg; rw [qBt]; rfl
def tabP (c : Int) (A : List Int) (p : KV) : Prop := ∃ n ∈ A, p = (kT c n, vT n) \/ p = (xT c n, ⟨#[]⟩)
structure TabL (L : List KV) (A B : List Int) : Prop where
 asc : Asc L
 ka : ∀ n ∈ A, I64 n
 kb : ∀ n ∈ B, I64 n
 mem : ∀ p, p ∈ L ↔ tabP 97 A p \/ tabP 98 B p
theorem jHb : TabL [] [] [] := ⟨List.Pairwise.nil, (fun m hm => by cases hm), (fun m hm => by cases hm), fun p => ⟨(fun h => by cases h), fun h => by rcases h with ⟨_, h, _⟩ | ⟨_, h, _⟩ <;> cases h⟩⟩
theorem qYs {L : List KV} {c n : Int} (hc : AB c) (hn : I64 n) (h : ∀ p ∈ L, ∃ d m, AB d /\ I64 m /\ (p = (kT d m, vT m) \/ p = (xT d m, ⟨#[]⟩))) (p : KV) :
  p ∈ chgs (qFg none (rowK c [0, 0] 1 1 (rowT n))) L ↔ p ∈ L \/ (p = (kT c n, vT n) \/ p = (xT c n, ⟨#[]⟩)) := by
 rw [qOh hc hn]; unfold qFg; simp only; rw [if_neg (by rw [jGx]; decide)]
 show p ∈ chg _ (chg _ L) ↔ _; rw [jAg, jAg]; constructor
 ·rintro (⟨⟨h1, _⟩ | ⟨_, h1⟩, _⟩ | ⟨_, h1⟩)
  ·exact .inl h1
  ·exact .inr (.inl h1)
  ·exact .inr (.inr h1)
 ·rintro (h1 | h1 | h1)
  ·obtain ⟨d, m, hd, hm, e⟩ := h p h1; by_cases hx : p.1 = xT c n
   ·rcases e with e | e
    ·exact absurd (by rw [e] at hx; exact hx) (jAo d c m n)
    ·refine .inr ⟨rfl, ?_⟩; rw [e] at hx; obtain ⟨rfl, rfl⟩ := jJk hd hc hm hn hx; exact e
   ·refine .inl ⟨?_, hx⟩; by_cases hk : p.1 = kT c n
    ·rcases e with e | e
     ·refine .inr ⟨rfl, ?_⟩; rw [e] at hk; obtain ⟨rfl, rfl⟩ := jGl hd hc hm hn hk; exact e
     ·exact absurd (by rw [e] at hk; exact hk.symm) (jAo c d n m)
    ·exact .inl ⟨h1, hk⟩
  ·exact .inl ⟨.inr ⟨rfl, h1⟩, by rw [h1]; exact jAo c c n n⟩
  ·exact .inr ⟨rfl, h1⟩
theorem TabL.all {L : List KV} {A B : List Int} (h : TabL L A B) : ∀ p ∈ L, ∃ d m, AB d /\ I64 m /\ (p = (kT d m, vT m) \/ p = (xT d m, ⟨#[]⟩)) := fun p hp => by
 rcases (h.mem p).1 hp with ⟨n, hn, e⟩ | ⟨n, hn, e⟩
 ·exact ⟨97, n, .inl rfl, h.ka n hn, e⟩
 ·exact ⟨98, n, .inr rfl, h.kb n hn, e⟩
theorem qQf {c n : Int} {A : List Int} {p : KV} : tabP c (n :: A) p ↔ (p = (kT c n, vT n) \/ p = (xT c n, ⟨#[]⟩)) \/ tabP c A p := by
 constructor
 ·rintro ⟨m, hm, e⟩; rcases List.mem_cons.1 hm with rfl | hm
  ·exact .inl e
  ·exact .inr ⟨m, hm, e⟩
 ·rintro (e | ⟨m, hm, e⟩)
  ·exact ⟨n, List.mem_cons_self, e⟩
  ·exact ⟨m, List.mem_cons_of_mem _ hm, e⟩
theorem tab_a {L : List KV} {A B : List Int} (h : TabL L A B) {n : Int} (hn : I64 n) : TabL (chgs (qFg none (rowK 97 [0, 0] 1 1 (rowT n))) L) (n :: A) B := by
 refine ⟨qPo _ h.asc, fun m hm => (List.mem_cons.1 hm).elim (fun e => by rw [e]; exact hn) (h.ka m), h.kb, fun p => ?_⟩
 rw [qYs (.inl rfl) hn h.all p, h.mem, qQf]; constructor
 ·rintro ((e | e) | e)
  ·exact .inl (.inr e)
  ·exact .inr e
  ·exact .inl (.inl e)
 ·rintro ((e | e) | e)
  ·exact .inr e
  ·exact .inl (.inl e)
  ·exact .inl (.inr e)
theorem tab_b {L : List KV} {A B : List Int} (h : TabL L A B) {n : Int} (hn : I64 n) : TabL (chgs (qFg none (rowK 98 [0, 0] 1 1 (rowT n))) L) A (n :: B) := by
 refine ⟨qPo _ h.asc, h.ka, fun m hm => (List.mem_cons.1 hm).elim (fun e => by rw [e]; exact hn) (h.kb m), fun p => ?_⟩
 rw [qYs (.inr rfl) hn h.all p, h.mem, qQf]; constructor
 ·rintro ((e | e) | e)
  ·exact .inl e
  ·exact .inr (.inr e)
  ·exact .inr (.inl e)
 ·rintro (e | e | e)
  ·exact .inl (.inl e)
  ·exact .inr e
  ·exact .inl (.inr e)
theorem qLn {A : List Int} {f : Int -> KV} : ∀ (l : List KV), (∀ p ∈ l, ∃ n ∈ A, p = f n) -> ∃ ns : List Int, l = ns.map f /\ ∀ n ∈ ns, n ∈ A
 | [], _ => ⟨[], rfl, fun n hn => by cases hn⟩
 | p :: l, h => by
  obtain ⟨n, hn, rfl⟩ := h p List.mem_cons_self; obtain ⟨ns, rfl, h2⟩ := qLn l (fun q hq => h q (List.mem_cons_of_mem _ hq))
  exact ⟨n :: ns, rfl, fun m hm => (List.mem_cons.1 hm).elim (fun e => by rw [e]; exact hn) (h2 m)⟩
theorem qYv {L : List KV} {c : Int} {A : List Int} (hc : AB c) (ha : Asc L) (hA : ∀ n ∈ A, I64 n) (h1 : ∀ p ∈ L, preB (ba (qAg c.toNat 0)) p = true -> tabP c A p) (h2 : ∀ n ∈ A, (kT c n, vT n) ∈ L) :
  ∃ ns : List Int, L.filter (preB (ba (qAg c.toNat 0))) = ns.map (fun n => (kT c n, vT n)) /\ ns.Nodup /\ ∀ n, n ∈ ns ↔ n ∈ A := by
 obtain ⟨ns, e, h3⟩ := qLn (A := A) (f := fun n => (kT c n, vT n)) (L.filter (preB (ba (qAg c.toNat 0)))) (fun p hp => by
  obtain ⟨p1, p2⟩ := List.mem_filter.1 hp; obtain ⟨n, hn, e | e⟩ := h1 p p1 p2
  ·exact ⟨n, hn, e⟩
  ·exfalso
   rw [e] at p2; obtain ⟨t, ht⟩ := qOm.1 p2; unfold qAg at ht; simp at ht)
 refine ⟨ns, e, ?_, fun n => ⟨h3 n, fun hn => ?_⟩⟩
 ·have h4 := qGz (preB (ba (qAg c.toNat 0))) ha; rw [e] at h4; unfold Asc at h4; rw [List.pairwise_map] at h4; exact h4.imp (fun {a b} hab hE => by
   have h5 : kl (kT c a) (kT c b) = true := hab; rw [hE, qEn] at h5; cases h5)
 ·have h4 : (kT c n, vT n) ∈ L.filter (preB (ba (qAg c.toNat 0))) := List.mem_filter.2 ⟨h2 n hn, qOm.2 ⟨_, rfl⟩⟩; rw [e] at h4; obtain ⟨m, hm, hE⟩ := List.mem_map.1 h4; have h5 : kT c m = kT c n := congrArg (·.1) hE; obtain ⟨_, rfl⟩ := jGl hc hc (hA m (h3 m hm)) (hA n hn) h5; exact hm
theorem qQo {c d n : Int} (hc : AB c) (hd : AB d) (hne : c ≠ d) : preB (ba (qAg c.toNat 0)) (kT d n, vT n) = false /\ preB (ba (qAg c.toNat 0)) (xT d n, ⟨#[]⟩) = false := by
 have aux : ∀ y : List UInt8, ∀ v, preB (ba (qAg c.toNat 0)) (ba (UInt8.ofNat d.toNat :: y), v) = false := fun y v => by
  cases hp : preB (ba (qAg c.toNat 0)) (ba (UInt8.ofNat d.toNat :: y), v) with
  | false => rfl
  | true =>
   exfalso
   obtain ⟨t, ht⟩ := qOm.1 hp; unfold qAg at ht; simp only [List.cons_append, List.nil_append, List.cons.injEq] at ht; exact hne (jJb hc hd ht.1)
 exact ⟨aux _ _, aux _ _⟩
theorem TabL.seeA {L : List KV} {A B : List Int} (h : TabL L A B) : ∃ ns : List Int, L.filter (preB (ba (qAg 97 0))) = ns.map (fun n => (kT 97 n, vT n)) /\ ns.Nodup /\ ∀ n, n ∈ ns ↔ n ∈ A :=
 qYv (c := 97) (.inl rfl) h.asc h.ka (fun p hp hq => ((h.mem p).1 hp).resolve_right (fun ⟨n, _, e⟩ => by
  obtain ⟨o1, o2⟩ := qQo (c := 97) (d := 98) (n := n) (.inl rfl) (.inr rfl) (by decide)
  rcases e with e | e
  ·rw [e, o1] at hq; cases hq
  ·rw [e, o2] at hq; cases hq)) (fun n hn => (h.mem _).2 (.inl ⟨n, hn, .inl rfl⟩))
theorem TabL.seeB {L : List KV} {A B : List Int} (h : TabL L A B) : ∃ ns : List Int, L.filter (preB (ba (qAg 98 0))) = ns.map (fun n => (kT 98 n, vT n)) /\ ns.Nodup /\ ∀ n, n ∈ ns ↔ n ∈ B :=
 qYv (c := 98) (.inr rfl) h.asc h.kb (fun p hp hq => ((h.mem p).1 hp).resolve_left (fun ⟨n, _, e⟩ => by
  obtain ⟨o1, o2⟩ := qQo (c := 98) (d := 97) (n := n) (.inr rfl) (.inl rfl) (by decide)
  rcases e with e | e
  ·rw [e, o1] at hq; cases hq
  ·rw [e, o2] at hq; cases hq)) (fun n hn => (h.mem _).2 (.inr ⟨n, hn, .inl rfl⟩))
theorem qYu {c n : Int} (hc : AB c) (hn : I64 n) : qEs c [0, 0] 1 1 (kT c n) (vT n) (rowT n) := by
 have h1 := qOh hc hn; obtain ⟨p, hp, e, _, _⟩ := qId h1; have hv : ∀ v ∈ rowT n, v.Ok := by
  intro v hv; unfold rowT at hv; rcases List.mem_cons.1 hv with rfl | hv
  ·exact ⟨hn.1, hn.2, qIu⟩
  ·rw [List.mem_singleton] at hv; subst hv; exact ⟨(qKl hn).1, (qKl hn).2, qIu⟩
 have := qVf hv hp; injection e with e1 e2 _
 rw [<- e1, <- e2] at this; exact this
end
section
open Go Go.RowKit
theorem jHj {n : Int} (hn : I64 n) : qPt [0, 0] (rowT n) := ⟨by show 2 <= _; omega, fun x hx => by
 have h2 := qKl hn; unfold rowT at hx; simp only [List.mem_cons, List.not_mem_nil, or_false] at hx; rcases hx with rfl | rfl
 ·exact ⟨⟨hn.1, hn.2, by show (0 : Nat) <= _; omega⟩, by show (0 : Nat) <= _; omega⟩
 ·exact ⟨⟨h2.1, h2.2, by show (0 : Nat) <= _; omega⟩, by show (0 : Nat) <= _; omega⟩⟩
theorem qLd {c n : Int} (hc : AB c) (hn : I64 n) : ¬ RBad (rowK c [0, 0] 1 1 []) (rowK c [0, 0] 1 1 (rowT n)) ([] : List Vl).length (rowT n).length := by
 rw [qKp, qOh hc hn]; rintro (⟨_, h⟩ | ⟨h, _⟩ | ⟨p, q, h, _⟩)
 ·exact absurd h (by decide)
 ·cases h
 ·cases h
set_option maxRecDepth 100000
set_option maxHeartbeats 1000000 in
theorem qOl {V : World} {B : TB} {T : TM} {D : Dsk} {k : Nat} {L : List KV} {N : Nat} (h : Here V B T D k L N) {c n : Int} (hc : AB c) (hn : I64 n) {ca : Option Addr} {cc bx : Nat} (hl : Lies V 1 oneI ca [0, 0]) (hb : V.cell? ⟨bx, 0, none⟩ = some (.pointer (some ⟨B.tb, 0, none⟩)))
  (hL : L.length <= 480) (hk : k <= 1000000) (hr : B.room = 500) (hD : 1500 <= D.secs.length) :
  Calls Tryz.prog 13 #[.agg #[.int .u8 c, .slice ca 2 cc, .int .i64 1, .int .i64 1], .int .i64 n, .pointer (some ⟨bx, 0, none⟩)] V fun e w' => e = .returned (.bool true) /\ (∃ (T' : TM) (D' : Dsk) (N' : Nat), Here w' B T' D' (k + 1002) (chgs (qFg none (rowK c [0, 0] 1 1 (rowT n))) L) N' /\ D'.secs.length = D.secs.length) /\ Mod (TS B) V w' := by
 have hma : Mod (fun _ => False) V (V.alloc (.cells #[.int .u8 c, .slice ca 2 cc, .int .i64 1, .int .i64 1] 24)) := (Mod.refl _ _).alloc _
 have ha : (V.alloc (.cells #[.int .u8 c, .slice ca 2 cc, .int .i64 1, .int .i64 1] 24)).heap[V.heap.size]? = some (.cells #[.int .u8 c, .slice ca 2 cc, .int .i64 1, .int .i64 1] 24 (0, 0)) := heap_alloc_new _ _; have HM := hid hma; have HH := hid (h.ext hma); have HL := hid (hl.ext hma); have hbx : (V.alloc (.cells #[.int .u8 c, .slice ca 2 cc, .int .i64 1, .int .i64 1] 24)).cell? ⟨bx, 0, none⟩ = some (.pointer (some ⟨B.tb, 0, none⟩)) := (⟨_, hma⟩ : Ext V).cell hb; obtain ⟨b0, b1, b2, b3⟩ := row4 ha; clear hma ha h hl hb; obtain ⟨cs, hcs⟩ : ∃ cs, qFg none (rowK c [0, 0] 1 1 (rowT n)) = cs := ⟨_, rfl⟩
 have hck := qTs (name := c) (cols := [0, 0]) (keys := 1) (idx := 1) (r := []) (r' := rowT n) (qQm (qLd hc hn)); rw [qKp, hcs] at hck; have HCk := hid hck; have hc3 := hck.2; have HCs := hid hcs; have HG : Hid (∀ c ∈ cs, c.key.size <= maxLen /\ c.value.size <= maxLen) := hid (fun c hc => by
  have := qIw hck.1 c hc; have h1 := this.key; have h2 := this.value; unfold maxLen; omega)
 have HI := hid (⟨hc, hn⟩ : AB c /\ I64 n); obtain ⟨n2, hn2⟩ : ∃ m, hv n = m := ⟨_, rfl⟩; have HN2 := hid hn2; have hw : wrap64 n2 = n2 := by obtain ⟨h1, h2⟩ := qKl hn; rw [hn2] at h1 h2; unfold wrap64; omega
 clear hck hcs; go_enter Tryz.func13, Tryz.ntmps13
 go_upto_region 1 with fail
 generalize V.alloc (.cells #[.int .u8 c, .slice ca 2 cc, .int .i64 1, .int .i64 1] 24) = C at *; have hmv : Mod (fun _ => False) C (C.alloc (.cells #[.int .i64 n, .string ⟨#[]⟩, .int .i64 (hv n), .string ⟨#[]⟩] 46)) := (Mod.refl _ _).alloc _
 have hlv : Lies (C.alloc (.cells #[.int .i64 n, .string ⟨#[]⟩, .int .i64 (hv n), .string ⟨#[]⟩] 46)) 2 Vl.cs (some ⟨C.heap.size, 0, none⟩) (rowT n) := qDn qFe (heap_alloc_new _ _); have HC : Hid (Calls Tryz.prog 10 #[.agg #[.int .u8 c, .slice ca 2 cc, .int .i64 1, .int .i64 1], .slice none 0 0, .slice (some ⟨C.heap.size, 0, none⟩) 2 2] (C.alloc (.cells #[.int .i64 n, .string ⟨#[]⟩, .int .i64 (hv n), .string ⟨#[]⟩] 46)) fun e w' => ∃ la cap, e = .returned (.tuple #[.slice la cs.length cap, .int .i64 0]) /\ Lies w' 3 ccs la cs /\ Mod (fun _ => False) (C.alloc (.cells #[.int .i64 n, .string ⟨#[]⟩, .int .i64 (hv n), .string ⟨#[]⟩] 46)) w') :=
  hid (jCc (name := c) (keys := 1) (idx := 1) (cc := cc) (rc := 0) (fc := 2) (ra := none) (HL.out.ext hmv) (jEs _ _ _ _) hlv (by show 2 <= _; omega) ⟨Nat.zero_le _, fun x hx => by cases hx⟩ (jHj hn) (qLd hc hn) (by rw [qKp]; exact HCs.out))
 have HMv := hid hmv; clear hmv hlv; rw [hn2] at HC HMv; have hq : n.tdiv 2 = n2 := hn2; go_upto_region 2 with (go_at_call 10; refine HC.out.mono ?_; rintro e w2 ⟨la, cp, rfl, hl2, hm2⟩; have HL2 := hid hl2; have HM2 := hid (HMv.out.trans hm2); have HH2 := hid (HH.out.ext HM2.out); have hbx2 : w2.cell? ⟨bx, 0, none⟩ = some (.pointer (some ⟨B.tb, 0, none⟩)) := (⟨_, HM2.out⟩ : Ext C).cell hbx; clear hl2 hm2)
 have HA := hid (qXa HH2.out (by omega) cp HL2.out (by omega) HG.out)
 clear HC hq hw b0 b1 b2 b3; have HFew := hid (fun (W w' : World) (e : Ending) (ha : HApp W B T D k L N cs e w') => HApp.made HH2.out ha HCk.out.1 (by omega) (by omega) hr hD)
 go_wp2_with (go_at_call 11; refine HA.out.mono ?_; intro e w3 ha; obtain ⟨rfl, T3, D3, N3, h3, hd3, hm3⟩ := HFew.out _ _ _ ha; have HH3 := hid h3; have HD3 := hid hd3; have HM3 := hid ((HM.out.trans HM2.out).mono (fun _ _ e => e.elim) |>.trans hm3); clear ha h3 hd3 hm3)
 go_ret; exact ⟨rfl, ⟨T3, D3, N3, by rw [HCs.out]; exact HH3.out, HD3.out⟩, HM3.out⟩
end
section
open Go Go.RowKit
structure TbAt (w : World) (bx s : Nat) (tb : Nat) : Prop where
 x : w.cell? ⟨bx, 0, none⟩ = some (.pointer (some ⟨tb, 0, none⟩))
 ra : w.heap[s + 1]? = some (.cells #[.int .u8 97, .slice (some ⟨s, 0, none⟩) 2 2, .int .i64 1, .int .i64 1] 24 (0, 0))
 rb : w.heap[s + 1 + 1 + 1]? = some (.cells #[.int .u8 98, .slice (some ⟨s + 1 + 1, 0, none⟩) 2 2, .int .i64 1, .int .i64 1] 24 (0, 0))
 la : Lies w 1 oneI (some ⟨s, 0, none⟩) [0, 0]
 lb : Lies w 1 oneI (some ⟨s + 1 + 1, 0, none⟩) [0, 0]
 rr : w.heap[s + 1 + 1 + 1 + 1 + 1 + 1]? = some (.cells #[.map (some (s + 1 + 1 + 1 + 1)), .map (some (s + 1 + 1 + 1 + 1 + 1))] 49 (0, 0))
theorem qAq {S : Nat -> Prop} {w w' : World} (hm : Mod S w w') {a : Addr} {v : Value} (hs : ¬ S a.block) (h : w.cell? a = some v) : w'.cell? a = some v := by
 have hl : a.block < w.heap.size := by
  unfold World.cell? at h; cases hb : w.heap[a.block]? with
  | none => rw [hb] at h; cases h
  | some o => exact lth hb
 have := hm.block a.block hl hs; unfold World.cell? at h ⊢; rw [this]; exact h
theorem TbAt.mod {S : Nat -> Prop} {w w' : World} {bx s tb : Nat} (h : TbAt w bx s tb) (hm : Mod S w w') (h0 : ¬ S bx) (h1 : ∀ b, s <= b -> b ≠ s + 1 + 1 + 1 + 1 -> b ≠ s + 1 + 1 + 1 + 1 + 1 -> ¬ S b) : TbAt w' bx s tb := by
 refine ⟨qAq hm h0 h.x, ?_, ?_, h.la.mod hm (fun _ b hb => ?_), h.lb.mod hm (fun _ b hb => ?_), ?_⟩
 ·exact (hm.block _ (lth h.ra) (h1 _ (by omega) (by omega) (by omega))).trans h.ra
 ·exact (hm.block _ (lth h.rb) (h1 _ (by omega) (by omega) (by omega))).trans h.rb
 ·have : s = b := qAb.1 hb; exact h1 _ (by omega) (by omega) (by omega)
 ·have : s + 1 + 1 = b := qAb.1 hb; exact h1 _ (by omega) (by omega) (by omega)
 ·exact (hm.block _ (lth h.rr) (h1 _ (by omega) (by omega) (by omega))).trans h.rr
structure qGn (w : World) (b : Nat) (ls : List (Int × Value)) (j : Nat) (A : List Int) : Prop where
 map : qAs (Value.int IntKind.i64) w b ls
 nd : (ls.map (·.1)).Nodup
 keys : ∀ x, x ∈ ls.map (·.1) ↔ x ∈ A
 val : ∀ p ∈ ls, ∃ c : Int, 1 <= c /\ c <= j /\ p.2 = .int .i64 c
theorem qGn.le {w : World} {b : Nat} {ls : List (Int × Value)} {j j' : Nat} {A : List Int} (h : qGn w b ls j A) (hj : j <= j') : qGn w b ls j' A :=
 ⟨h.map, h.nd, h.keys, fun p hp => (h.val p hp).imp fun c ⟨h1, h2, h3⟩ => ⟨h1, by omega, h3⟩⟩
theorem qGn.mod {S : Nat -> Prop} {w w' : World} {b : Nat} {ls : List (Int × Value)} {j : Nat} {A : List Int} (h : qGn w b ls j A) (hm : Mod S w w') (hs : ¬ S b) : qGn w' b ls j A := ⟨h.map.mod hm hs, h.nd, h.keys, h.val⟩
theorem qGn.none {w : World} {b : Nat} (h : qAs (Value.int IntKind.i64) w b ([] : List (Int × Value))) : qGn w b [] 0 [] := ⟨h, List.nodup_nil, fun x => by simp, fun p hp => by cases hp⟩
theorem qGn.get {w : World} {b : Nat} {ls : List (Int × Value)} {j : Nat} {A : List Int} (h : qGn w b ls j A) (n : Int) : ∃ c : Int, (aget ls n).getD (.int .i64 0) = .int .i64 c /\ 0 <= c /\ c <= j /\ (n ∈ A -> 1 <= c) := by
 cases ha : aget ls n with
 | none =>
  refine ⟨0, rfl, by omega, by omega, fun hn => ?_⟩
  have := (qAw ls n).2 ((h.keys n).2 hn); rw [ha] at this; cases this
 | some v =>
  obtain ⟨c, h1, h2, h3⟩ := h.val _ (qVp ha); exact ⟨c, h3, by omega, h2, fun _ => h1⟩
theorem qXr {l : List (Int × Value)} {k : Int} {v : Value} (h : (l.map (·.1)).Nodup) : ((aput l k v).map (·.1)).Nodup := by
 unfold aput; split
 ·rw [List.map_map]; have : (fun p : Int × Value => (if p.1 = k then (k, v) else p).1) = (fun p => p.1) := by
   funext p
   split
   ·rename_i e; exact e.symm
   ·rfl
  have e2 : ((fun x : Int × Value => x.1) ∘ fun p => if p.1 = k then (k, v) else p) = (fun p => p.1) := this
  rw [e2]; exact h
 ·rename_i hn
  rw [List.map_append, List.nodup_append]; refine ⟨h, by simp, fun a ha b hb e => ?_⟩
  simp only [List.map_cons, List.map_nil, List.mem_singleton] at hb; rw [hb] at e; obtain ⟨p, hp, e1⟩ := List.mem_map.1 ha; apply hn; rw [List.any_eq_true]; exact ⟨p, hp, by simp [e1, e]⟩
theorem qGn.put {w w' : World} {b : Nat} {ls : List (Int × Value)} {j : Nat} {A : List Int} (h : qGn w b ls j A) {n c : Int} (h0 : 0 <= c) (hj : c <= j) (hm : qAs (Value.int IntKind.i64) w' b (aput ls n (.int .i64 (c + 1)))) : qGn w' b (aput ls n (.int .i64 (c + 1))) (j + 1) (n :: A) :=
 ⟨hm, qXr h.nd, fun x => by rw [jCo, h.keys, List.mem_cons], fun p hp => (jGd hp).elim (fun e => ⟨c + 1, by omega, by omega, by rw [e]⟩) (fun e => (h.le (Nat.le_succ j)).val p e)⟩
theorem qOt {α : Type} [DecidableEq α] : ∀ {a b : List α}, a.Nodup -> (∀ x ∈ a, x ∈ b) -> a.length <= b.length
 | [], _, _, _ => Nat.zero_le _
 | x :: a, b, h, hs => by
  have hx := hs x List.mem_cons_self; have h1 := qOt (b := b.erase x) (List.nodup_cons.1 h).2 (fun y hy => (List.mem_erase_of_ne (fun e => (List.nodup_cons.1 h).1 (by rw [<- e]; exact hy))).2 (hs y (List.mem_cons_of_mem _ hy)))
  rw [List.length_erase_of_mem hx] at h1; have : 0 < b.length := List.length_pos_of_mem hx; rw [List.length_cons]; omega
theorem qGn.len {w : World} {b : Nat} {ls : List (Int × Value)} {j : Nat} {A ns : List Int} (h : qGn w b ls j A) (hn : ns.Nodup) (hm : ∀ n, n ∈ ns ↔ n ∈ A) : ls.length = ns.length := by
 have h1 := qOt h.nd (b := ns) (fun x hx => (hm x).2 ((h.keys x).1 hx))
 have h2 := qOt hn (b := ls.map (·.1)) (fun x hx => (h.keys x).2 ((hm x).1 hx))
 rw [List.length_map] at h1 h2; omega
theorem qYt {c n : Int} (hc : AB c) (hn : I64 n) : (qFg none (rowK c [0, 0] 1 1 (rowT n))).length <= 3 := by
 have hck := qTs (name := c) (cols := [0, 0]) (keys := 1) (idx := 1) (r := []) (r' := rowT n) (qQm (qLd hc hn)); rw [qKp] at hck; exact hck.2
theorem qJk {α : Type} {w w' : World} {mb : Nat} {es : Array MapEntry} {c : Nat} (hmap : w.heap[mb]? = some (.map es c)) {f : α -> List Value} {a : Option Addr} {ls : List α} (h : Lies w 1 f a ls) (hf : ∀ x, (f x).length = 1) (hm : Mod (fun b => b = mb) w w') : Lies w' 1 f a ls :=
 h.mod hm (fun h0 k hk e => by
  obtain ⟨g, off, rfl⟩ := h.some h0; have hk := qAb.1 hk; obtain ⟨x, hx⟩ : ∃ x, ls[0]? = some x := ⟨_, List.getElem?_eq_getElem h0⟩; obtain ⟨u, hu⟩ : ∃ u, (f x)[0]? = some u := ⟨_, List.getElem?_eq_getElem (by rw [hf]; omega)⟩
  have hc := h.cell hf hx hu; rw [hk, e] at hc; unfold World.cell? at hc; simp only at hc; rw [hmap] at hc; cases hc)
theorem Here.aside {w w' : World} {B : TB} {T : TM} {D : Dsk} {k : Nat} {L : List KV} {N : Nat} {mb : Nat} {ls : List (Int × Value)} (h : Here w B T D k L N) (hmap : qAs (Value.int IntKind.i64) w mb ls) (hm : Mod (fun b => b = mb) w w') (hn : ¬ TS B mb) : Here w' B T D k L N := by
 obtain ⟨es, c, hb, _⟩ := hmap; have ht : ∀ k, k = mb -> ¬ TS B k := fun k e => by rw [e]; exact hn
 have t := h.tree; refine ⟨⟨(hm.block B.tb (lth t.box) (fun e => ht _ e (.inl rfl))).trans t.box, ?_, t.after.mod hm (fun e => ht _ e (.inr (.inr (.inl rfl)))), t.disk.mod hm (fun k hk e => ht k e (.inr (.inr (.inr (.inr hk))))), t.jr.mod hm (fun e => ht _ e (.inr (.inr (.inr (.inl rfl))))), t.sep, t.hn, t.hr⟩, h.lit, h.std, h.ne⟩
 obtain ⟨l, h1, h2, h3⟩ := t.nodes; refine ⟨l, h1.mod hm (fun e => ht _ e (.inr (.inl rfl))), h2, fun s n hs => ?_⟩
 obtain ⟨hg, m, k1, k2, k3, k4⟩ := h3 s n hs; have d := k3.nd; exact ⟨hg, m, k1, k2, ⟨⟨qJk hb d.k (fun _ => rfl) hm, qJk hb d.v (fun _ => rfl) hm, qJk hb d.i (fun _ => rfl) hm, d.bk, d.bv, d.bi, d.sk, d.sv, d.rk⟩, k3.ck, k3.cv, k3.ci⟩, fun k hk => ⟨(k4 k hk).1, Nat.lt_of_lt_of_le (k4 k hk).2 hm.size⟩⟩
structure TbOk (W : World) (B : TB) (bx s : Nat) : Prop where
 room : B.room = 500
 new : ∀ i, TS B i -> W.heap.size <= i
 lt : ∀ i, TS B i -> i < bx
 sx : bx < s
 wx : W.heap.size <= bx
structure qJc (W wr : World) (B : TB) (bx s j : Nat) (T : TM) (D : Dsk) (k : Nat) (L : List KV) (N : Nat) (A C : List Int) (ls ms : List (Int × Value)) : Prop where
 at' : TbAt wr bx s B.tb
 here : Here wr B T D k L N
 tab : TabL L A C
 kk : k <= 1002 * j
 ll : L.length <= 3 * j
 dd : D.secs.length = 3000
 m1 : qGn wr (s + 1 + 1 + 1 + 1) ls j A
 m2 : qGn wr (s + 1 + 1 + 1 + 1 + 1) ms j C
 mod : Mod (fun b => W.heap.size <= b) W wr
theorem qJc.ext {W wr w' : World} {B : TB} {bx s j : Nat} {T : TM} {D : Dsk} {k : Nat} {L : List KV} {N : Nat} {A C : List Int} {ls ms : List (Int × Value)} (h : qJc W wr B bx s j T D k L N A C ls ms) (hm : Mod (fun _ => False) wr w') : qJc W w' B bx s j T D k L N A C ls ms :=
 ⟨h.at'.mod hm (fun e => e) (fun _ _ _ _ e => e), h.here.ext hm, h.tab, h.kk, h.ll, h.dd, h.m1.mod hm (fun e => e), h.m2.mod hm (fun e => e), h.mod.trans (hm.mono (fun _ _ e => e.elim))⟩
theorem qJc.putA {W wr w1 w2 : World} {B : TB} {bx s j : Nat} {T T' : TM} {D D' : Dsk} {k : Nat} {L : List KV} {N N' : Nat} {A C : List Int} {ls ms : List (Int × Value)} (h : qJc W wr B bx s j T D k L N A C ls ms) (ok : TbOk W B bx s) {n c : Int} (hn : I64 n) (hm1 : Mod (TS B) wr w1)
  (hh : Here w1 B T' D' (k + 1002) (chgs (qFg none (rowK 97 [0, 0] 1 1 (rowT n))) L) N') (hd : D'.secs.length = D.secs.length) (hm2 : Mod (fun b => b = s + 1 + 1 + 1 + 1) w1 w2) (h0 : 0 <= c) (hj : c <= j) (hmap : qAs (Value.int IntKind.i64) w2 (s + 1 + 1 + 1 + 1) (aput ls n (.int .i64 (c + 1)))) :
  qJc W w2 B bx s (j + 1) T' D' (k + 1002) (chgs (qFg none (rowK 97 [0, 0] 1 1 (rowT n))) L) N' (n :: A) C (aput ls n (.int .i64 (c + 1))) ms := by
 have hx := ok.sx; have hlt := ok.lt; have hw := ok.wx; have hfew := qPl (qFg none (rowK 97 [0, 0] 1 1 (rowT n))) (l := L); have h3 := qYt (.inl rfl : AB 97) hn; have hk := h.kk; have hl := h.ll; refine ⟨(h.at'.mod hm1 (fun e => by have := hlt _ e; omega) (fun b hb _ _ e => by have := hlt _ e; omega)).mod hm2 (fun e => by omega) (fun b _ h1 _ e => h1 e), hh.aside (h.m1.map.mod hm1 (fun e => by have := hlt _ e; omega)) hm2 (fun e => by have := hlt _ e; omega), tab_a h.tab hn, by omega, by omega, hd.trans h.dd, h.m1.put h0 hj hmap, ((h.m2.mod hm1 (fun e => by have := hlt _ e; omega)).mod hm2 (fun e => by omega)).le (Nat.le_succ _), ?_⟩
 exact (h.mod.trans (hm1.mono (fun b _ e => ok.new b e))).trans (hm2.mono (fun b _ e => by omega))
theorem qJc.putB {W wr w1 w2 : World} {B : TB} {bx s j : Nat} {T T' : TM} {D D' : Dsk} {k : Nat} {L : List KV} {N N' : Nat} {A C : List Int} {ls ms : List (Int × Value)} (h : qJc W wr B bx s j T D k L N A C ls ms) (ok : TbOk W B bx s) {n c : Int} (hn : I64 n) (hm1 : Mod (TS B) wr w1)
  (hh : Here w1 B T' D' (k + 1002) (chgs (qFg none (rowK 98 [0, 0] 1 1 (rowT n))) L) N') (hd : D'.secs.length = D.secs.length) (hm2 : Mod (fun b => b = s + 1 + 1 + 1 + 1 + 1) w1 w2) (h0 : 0 <= c) (hj : c <= j) (hmap : qAs (Value.int IntKind.i64) w2 (s + 1 + 1 + 1 + 1 + 1) (aput ms n (.int .i64 (c + 1)))) :
  qJc W w2 B bx s (j + 1) T' D' (k + 1002) (chgs (qFg none (rowK 98 [0, 0] 1 1 (rowT n))) L) N' A (n :: C) ls (aput ms n (.int .i64 (c + 1))) := by
 have hx := ok.sx; have hlt := ok.lt; have hw := ok.wx; have hfew := qPl (qFg none (rowK 98 [0, 0] 1 1 (rowT n))) (l := L); have h3 := qYt (.inr rfl : AB 98) hn; have hk := h.kk; have hl := h.ll; refine ⟨(h.at'.mod hm1 (fun e => by have := hlt _ e; omega) (fun b hb _ _ e => by have := hlt _ e; omega)).mod hm2 (fun e => by omega) (fun b _ _ h1 e => h1 e), hh.aside (h.m2.map.mod hm1 (fun e => by have := hlt _ e; omega)) hm2 (fun e => by have := hlt _ e; omega), tab_b h.tab hn, by omega, by omega, hd.trans h.dd, ((h.m1.mod hm1 (fun e => by have := hlt _ e; omega)).mod hm2 (fun e => by omega)).le (Nat.le_succ _), h.m2.put h0 hj hmap, ?_⟩
 exact (h.mod.trans (hm1.mono (fun b _ e => ok.new b e))).trans (hm2.mono (fun b _ e => by omega))
end
section
open Go Go.RowKit
def rvV (x : RV) : Value := .tuple #[.agg #[.int .i64 x.v.n, .string x.v.s], .int .i64 (x.n : Int), .bool x.ok]
theorem qUv : ∀ (l : List UInt8) (c : UInt8), Lib.indexByte l c <= (l.length : Int)
 | [], c => by simp [Lib.indexByte]
 | b :: l, c => by
  have ih := qUv l c; rw [Lib.indexByte]; simp only [List.length_cons]; split
  ·omega
  ·split <;> omega
theorem jJr {s : ByteArray} {a : Nat} (h : (rdT s a).e = 0) : rtV (rdT s a) = .tuple #[.string (rdT s a).t, .int .i64 ((rdT s a).n : Int), .int .i64 0] := by unfold rtV; rw [h]; rfl
theorem jHi {s : ByteArray} {a : Nat} (h : (rdT s a).e ≠ 0) : rtV (rdT s a) = .tuple #[.string ⟨#[]⟩, .int .i64 0, .int .i64 ((rdT s a).e : Int)] := by
 unfold rtV rdT rtOf at *; by_cases h1 : (rdU 0 (s.data.toList.drop a)).e = 0
 ·rw [if_pos h1] at h ⊢; by_cases h2 : s.size < a + (rdU 0 (s.data.toList.drop a)).n + (rdU 0 (s.data.toList.drop a)).v
  ·rw [if_pos h2]; rfl
  ·rw [if_neg h2] at h; exact absurd rfl h
 ·rw [if_neg h1]; rfl
set_option maxRecDepth 100000
set_option maxHeartbeats 2000000 in
theorem qWc (s : ByteArray) (a : Nat) (w : World) (hs : s.size <= maxLen) (ha : a <= s.size) : Calls Tryz.prog 58 #[.int .i64 0, .string s, .int .i64 (a : Int)] w fun e w' => e = .returned (rvV (rdO s a)) /\ Mod (fun _ => False) w w' := by
 have HO := hid (fun W : World => qSb s a W hs ha)
 unfold roV at HO; unfold rdO; by_cases h8 : s.size < a + 8
 ·rw [if_pos h8] at HO ⊢; clear h8; go_enter Tryz.func58, Tryz.ntmps58
  go_wp2_with (go_at_call 91; refine (HO.out _).mono ?_; rintro e w1 ⟨rfl, rfl⟩)
  exact bodyPost_ret (v := rvV noV) (by simp [rvV, noV, results, Tryz.results58, go_sem]) rfl ⟨rfl, (Mod.refl _ _).alloc _⟩
 ·rw [if_neg h8] at HO ⊢; generalize (rdBE 0 ((s.data.toList.drop a).take 8) : Int) - 9223372036854775808 = n at *; clear h8; go_enter Tryz.func58, Tryz.ntmps58
  go_wp2_with (go_at_call 91; refine (HO.out _).mono ?_; rintro e w1 ⟨rfl, rfl⟩)
  exact bodyPost_ret (v := .tuple #[.agg #[.int .i64 n, .string ⟨#[]⟩], .int .i64 ((a : Int) + 8), .bool true]) (by simp [results, Tryz.results58, go_sem]) rfl ⟨rfl, (Mod.refl _ _).alloc _⟩
set_option maxHeartbeats 2000000 in
theorem qRu (k : Int) (hk : k ≠ 0) (s : ByteArray) (a : Nat) (w : World) (hs : s.size <= 140737488351232) (ha : a <= s.size) : Calls Tryz.prog 58 #[.int .i64 k, .string s, .int .i64 (a : Int)] w fun e w' => e = .returned (rvV (rdZ s a)) /\ Mod (fun _ => False) w w' := by
 have e0 : (k == 0) = false := by simpa using hk
 have hsl : ∀ v : World, (Instr.slice 9 (.string s) (some (.int .i64 (a : Int))) none none).run Tryz.prog v = .ok (.string (s.extract a s.size)) v := fun v => by
  have := run_slice_string_l (P := Tryz.prog) v 9 s Tryz.underlying9 .i64 (a : Int) (by omega) (by omega)
  simpa using this
 have hx : (s.extract a s.size).data.toList = s.data.toList.drop a := by
  rw [ByteArray.data_extract, Array.toList_extract, List.extract_eq_take_drop, List.take_of_length_le]; have : s.data.toList.length = s.size := rfl; rw [List.length_drop]; omega
 have hi : ∀ v : World, Calls Tryz.prog 92 #[.string (s.extract a s.size), .int .u8 0] v fun e w' => e = .returned (.int .i64 (Lib.indexByte (s.data.toList.drop a) 0)) /\ w' = v := fun v => by
  have := Tryz.strings_IndexByte (s.extract a s.size) 0 v; rw [hx] at this; exact this
 have HI := hid hi; have hge := Lib.indexByte_ge (s.data.toList.drop a) 0; have hle := qUv (s.data.toList.drop a) 0; rw [List.length_drop] at hle; have hsl0 : s.data.toList.length = s.size := rfl; unfold rdZ; clear hi hx hk; generalize Lib.indexByte (s.data.toList.drop a) 0 = i at *; by_cases h0 : i < 0
 ·rw [if_pos h0]; have d0 : decide (i < 0) = true := by rw [decide_eq_true_iff]; exact h0
  clear h0 hge hle; go_enter Tryz.func58, Tryz.ntmps58
  go_wp2_with (go_at_call 92; refine (HI.out _).mono ?_; rintro e w1 ⟨rfl, rfl⟩)
  exact bodyPost_ret (v := rvV noV) (by simp [rvV, noV, results, Tryz.results58, go_sem]) rfl ⟨rfl, (Mod.refl _ _).alloc _⟩
 ·rw [if_neg h0]; have d0 : decide (i < 0) = false := by rw [decide_eq_false_iff_not]; exact h0
  obtain ⟨m, rfl⟩ := Int.eq_ofNat_of_zero_le (show 0 <= i by omega)
  have hs2 : ∀ v : World, (Instr.slice 9 (.string s) (some (.int .i64 (a : Int))) (some (.int .i64 ((a : Int) + (m : Int)))) none).run Tryz.prog v = .ok (.string (s.extract a (a + m))) v := fun v => by
   have := run_slice_string (P := Tryz.prog) v 9 s .i64 .i64 (a : Int) ((a : Int) + (m : Int)) Tryz.underlying9 (by omega) (by omega) (by omega)
   rw [show ((a : Int) + (m : Int)).toNat = a + m by omega, show ((a : Int)).toNat = a by omega] at this
   exact this
  clear h0 hge; go_enter Tryz.func58, Tryz.ntmps58
  go_wp2_with (go_at_call 92; refine (HI.out _).mono ?_; rintro e w1 ⟨rfl, rfl⟩)
  exact bodyPost_ret (v := .tuple #[.agg #[.int .i64 0, .string (s.extract a (a + m))], .int .i64 ((a : Int) + (m : Int) + 1), .bool true]) (by simp [results, Tryz.results58, go_sem]) rfl ⟨rfl, (Mod.refl _ _).alloc _⟩
theorem qWd (k : Int) (s : ByteArray) (a : Nat) (w : World) (hs : s.size <= 140737488351232) (ha : a <= s.size) : Calls Tryz.prog 58 #[.int .i64 k, .string s, .int .i64 (a : Int)] w fun e w' => e = .returned (rvV (qCa k s a)) /\ Mod (fun _ => False) w w' := by
 unfold qCa; by_cases hk : k = 0
 ·subst hk; rw [if_pos rfl]; exact qWc s a w (by unfold maxLen; omega) ha
 ·rw [if_neg hk]; exact qRu k hk s a w hs ha
set_option maxHeartbeats 2000000 in
theorem qWa (s : ByteArray) (a : Nat) (w : World) (hs : s.size <= maxLen) : Calls Tryz.prog 59 #[.int .i64 0, .string s, .int .i64 (a : Int)] w fun e w' => e = .returned (rvV (rdI s a)) /\ Mod (fun _ => False) w w' := by
 have HO := hid (fun W : World => qSc s a W hs)
 unfold riV at HO; unfold rdI; generalize rdU 0 (s.data.toList.drop a) = x at *; obtain ⟨v, n, er⟩ := x; by_cases he : er = 0
 ·subst he; simp only [if_true] at HO ⊢; go_enter Tryz.func59, Tryz.ntmps59
  go_wp2_with (go_at_call 93; refine (HO.out _).mono ?_; rintro e w1 ⟨rfl, rfl⟩)
  exact bodyPost_ret (v := .tuple #[.agg #[.int .i64 (unzz v), .string ⟨#[]⟩], .int .i64 ((a : Int) + (n : Int)), .bool true]) (by simp [results, Tryz.results59, go_sem]) rfl ⟨rfl, (Mod.refl _ _).alloc _⟩
 ·simp only [if_neg he] at HO ⊢; have e1 : ((er : Int) == 0) = false := by rw [beq_eq_false_iff_ne]; omega
  clear he; go_enter Tryz.func59, Tryz.ntmps59
  go_wp2_with (go_at_call 93; refine (HO.out _).mono ?_; rintro e w1 ⟨rfl, rfl⟩)
  exact bodyPost_ret (v := rvV noV) (by simp [rvV, noV, results, Tryz.results59, go_sem]) rfl ⟨rfl, (Mod.refl _ _).alloc _⟩
set_option maxHeartbeats 2000000 in
theorem qRt (k : Int) (hk : k ≠ 0) (s : ByteArray) (a : Nat) (w : World) (hs : s.size <= maxLen) : Calls Tryz.prog 59 #[.int .i64 k, .string s, .int .i64 (a : Int)] w fun e w' => e = .returned (rvV (rdX s a)) /\ Mod (fun _ => False) w w' := by
 have HO := hid (fun W : World => qQj s a W hs)
 have e0 : (k == 0) = false := by simpa using hk
 unfold rdX; clear hk; by_cases he : (rdT s a).e = 0
 ·rw [jJr he] at HO; rw [if_pos he]; clear he; generalize rdT s a = x at *; obtain ⟨t, n, er⟩ := x; simp only at HO ⊢; go_enter Tryz.func59, Tryz.ntmps59
  go_wp2_with (go_at_call 94; refine (HO.out _).mono ?_; rintro e w1 ⟨rfl, rfl⟩)
  exact bodyPost_ret (v := .tuple #[.agg #[.int .i64 0, .string t], .int .i64 (n : Int), .bool true]) (by simp [results, Tryz.results59, go_sem]) rfl ⟨rfl, (Mod.refl _ _).alloc _⟩
 ·rw [jHi he] at HO; rw [if_neg he]; have e1 : (((rdT s a).e : Int) == 0) = false := by rw [beq_eq_false_iff_ne]; omega
  clear he; generalize rdT s a = x at *; obtain ⟨t, n, er⟩ := x; simp only at HO e1; go_enter Tryz.func59, Tryz.ntmps59
  go_wp2_with (go_at_call 94; refine (HO.out _).mono ?_; rintro e w1 ⟨rfl, rfl⟩)
  exact bodyPost_ret (v := rvV noV) (by simp [rvV, noV, results, Tryz.results59, go_sem]) rfl ⟨rfl, (Mod.refl _ _).alloc _⟩
theorem qWb (k : Int) (s : ByteArray) (a : Nat) (w : World) (hs : s.size <= maxLen) : Calls Tryz.prog 59 #[.int .i64 k, .string s, .int .i64 (a : Int)] w fun e w' => e = .returned (rvV (qCp k s a)) /\ Mod (fun _ => False) w w' := by
 unfold qCp; by_cases hk : k = 0
 ·subst hk; rw [if_pos rfl]; exact qWa s a w hs
 ·rw [if_neg hk]; exact qRt k hk s a w hs
end
end Go.Proofs.YtkinkgbmlhiakaaGreatDoor
