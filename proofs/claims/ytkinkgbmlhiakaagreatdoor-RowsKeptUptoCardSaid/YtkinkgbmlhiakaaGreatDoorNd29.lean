/- merged: TwA -/
import Derived.Test.YtkinkgbmlhiakaaGreatDoorNd27
import Derived.Test.YtkinkgbmlhiakaaGreatDoorNd20
import Derived.Test.YtkinkgbmlhiakaaGreatDoorNd28
namespace Go.Proofs.YtkinkgbmlhiakaaGreatDoor
section
open Go Go.RowKit
set_option maxRecDepth 100000
set_option maxHeartbeats 1000000 in
theorem jDy {S : Nat -> Prop} {w : World} {B : TB} {T : TM} {D : Dsk} (h : qAu S w B T D false) {a : Option Addr} (cap : Nat) {cs : List Cg} (hc : Lies w 3 ccs a cs) (hb : cs.length <= 1099511627776000) (hs : ∀ c ∈ cs, c.key.size <= maxLen /\ c.value.size <= maxLen) (hn : chkF [] cs ≠ 0) :
  Calls Tryz.prog 11 #[.pointer (some ⟨B.tb, 0, none⟩), .slice a cs.length cap] w fun e w' => e = .returned (.int .i64 (chkF [] cs)) /\ Mod (fun _ => False) w w' := by
 obtain ⟨_, _, _, _, _, _, _, _, c8⟩ := h.cells; have HCk := hid (qSi cap hc hb hs); obtain ⟨E, hE⟩ : ∃ E, chkF [] cs = E := ⟨_, rfl⟩; rw [hE] at hn HCk ⊢; have d0 : (E == 0) = false := by rw [beq_eq_false_iff_ne]; exact hn
 clear h hc hb hs hE; go_enter Tryz.func11, Tryz.ntmps11
 go_wp2_with (go_at_call 32; refine HCk.out.mono ?_; rintro e w2 ⟨rfl, hm⟩; have HM := hid hm; clear hm)
 go_ret; exact ⟨rfl, HM.out⟩
def Same (w : World) (B : TB) (T : TM) (D : Dsk) (w' : World) : Prop := qAu (TS B) w' B T D false /\ Mod (fun _ => False) w w'
def qXa (w : World) (B : TB) (T : TM) (D : Dsk) (cs : List Cg) (W' : WM) (e : Ending) (w' : World) : Prop :=
 ∃ (ls : List Chg) (ln : List (Int × NP)) (la : List (Int × Int)), Laid W' ls ln la ∧
  ((W'.full = true /\ e = .returned (.int .i64 52) /\ Same w B T D w') ∨
   (W'.full = false /\ B.room < ls.length /\ e = .returned (.int .i64 31) /\ Same w B T D w') ∨
   (W'.full = false /\ ls.length <= B.room /\ cs = [] /\ e = .returned (.int .i64 0) /\ Same w B T D w') ∨
   (W'.full = false /\ ls.length <= B.room /\ cs ≠ [] /\ (qAk B.room ls D).1 ≠ 0 /\ e = .returned (.int .i64 (qAk B.room ls D).1) /\ qAu (TS B) w' B T (qAk B.room ls D).2 (decide ((qAk B.room ls D).1 = 12)) /\ Mod (TS B) w w') ∨
   (W'.full = false /\ ls.length <= B.room /\ cs ≠ [] /\ (qAk B.room ls D).1 = 0 /\ e = .returned (.int .i64 0) /\ qAu (TS B) w' B (W'.done T) (qAk B.room ls D).2 false /\ Mod (TS B) w w'))
theorem qAu.narrow {S S' : Nat -> Prop} {w : World} {B : TB} {T : TM} {D : Dsk} {off : Bool} (h : qAu S w B T D off) (hs : ∀ k, k < w.heap.size -> S' k -> S k) : qAu S' w B T D off :=
 ⟨h.box, h.nodes.narrow hs, h.after, h.disk, h.jr, h.sep, h.hn, h.hr⟩
theorem qAu.lt {S : Nat -> Prop} {w : World} {B : TB} {T : TM} {D : Dsk} {off : Bool} (h : qAu S w B T D off) {k : Nat} (hk : TS B k) : k < w.heap.size := by
 rcases hk with hk | hk | hk | hk | hk
 ·rw [hk]; exact lth h.box
 ·obtain ⟨l, h1, _⟩ := h.nodes; rw [hk]; exact h1.lt
 ·obtain ⟨l, h1, _⟩ := h.after; rw [hk]; exact h1.lt
 ·rw [hk]; exact h.jr.lt
 ·exact h.disk.lt k hk
def newC (N : Nat) : WB := ⟨N + 1 + 1 + 1, N, N + 1, N + 1 + 1⟩
theorem jHs {w : World} {B : TB} {T : TM} {D : Dsk} (h : qAu (TS B) w B T D false) (hnx : 0 <= T.next) :
  Ws (MS B (newC w.heap.size)) ((((w.alloc (.map #[] 0)).alloc (.map #[] 0)).alloc (.map #[] 0)).alloc (.cells #[.int .i64 T.root, .int .i64 T.next, .int .i64 T.free, .int .i64 T.count, .pointer (some ⟨B.tb, 0, none⟩), .map (some w.heap.size), .map (some (w.heap.size + 1)), .map (some (w.heap.size + 1 + 1)), .bool false] 117)) B (newC w.heap.size) T D T.begin := by
 have s1 : (w.alloc (.map #[] 0)).heap.size = w.heap.size + 1 := by simp
 have s2 : ((w.alloc (.map #[] 0)).alloc (.map #[] 0)).heap.size = w.heap.size + 1 + 1 := by simp
 have s3 : (((w.alloc (.map #[] 0)).alloc (.map #[] 0)).alloc (.map #[] 0)).heap.size = w.heap.size + 1 + 1 + 1 := by simp
 have m1 : qAv KI.kv (w.alloc (.map #[] 0)) w.heap.size [] := qAv.made KI.kv w; have m2 : qAv KI.kv ((w.alloc (.map #[] 0)).alloc (.map #[] 0)) (w.heap.size + 1) [] := by have := qAv.made KI.kv (w.alloc (.map #[] 0)); rw [s1] at this; exact this
 have m3 : qAv KI.kv (((w.alloc (.map #[] 0)).alloc (.map #[] 0)).alloc (.map #[] 0)) (w.heap.size + 1 + 1) [] := by have := qAv.made KI.kv ((w.alloc (.map #[] 0)).alloc (.map #[] 0)); rw [s2] at this; exact this
 have e1 : Mod (fun _ => False) (w.alloc (.map #[] 0)) ((((w.alloc (.map #[] 0)).alloc (.map #[] 0)).alloc (.map #[] 0)).alloc (.cells #[.int .i64 T.root, .int .i64 T.next, .int .i64 T.free, .int .i64 T.count, .pointer (some ⟨B.tb, 0, none⟩), .map (some w.heap.size), .map (some (w.heap.size + 1)), .map (some (w.heap.size + 1 + 1)), .bool false] 117)) := (((Mod.refl _ _).alloc _).alloc _).alloc _
 have e2 : Mod (fun _ => False) ((w.alloc (.map #[] 0)).alloc (.map #[] 0)) ((((w.alloc (.map #[] 0)).alloc (.map #[] 0)).alloc (.map #[] 0)).alloc (.cells #[.int .i64 T.root, .int .i64 T.next, .int .i64 T.free, .int .i64 T.count, .pointer (some ⟨B.tb, 0, none⟩), .map (some w.heap.size), .map (some (w.heap.size + 1)), .map (some (w.heap.size + 1 + 1)), .bool false] 117)) := ((Mod.refl _ _).alloc _).alloc _
 have e3 : Mod (fun _ => False) (((w.alloc (.map #[] 0)).alloc (.map #[] 0)).alloc (.map #[] 0)) ((((w.alloc (.map #[] 0)).alloc (.map #[] 0)).alloc (.map #[] 0)).alloc (.cells #[.int .i64 T.root, .int .i64 T.next, .int .i64 T.free, .int .i64 T.count, .pointer (some ⟨B.tb, 0, none⟩), .map (some w.heap.size), .map (some (w.heap.size + 1)), .map (some (w.heap.size + 1 + 1)), .bool false] 117)) := (Mod.refl _ _).alloc _
 have e0 : Mod (fun _ => False) w _ := ((Mod.refl (fun _ => False) w).alloc (.map #[] 0)).trans e1
 have hb : ((((w.alloc (.map #[] 0)).alloc (.map #[] 0)).alloc (.map #[] 0)).alloc (.cells #[.int .i64 T.root, .int .i64 T.next, .int .i64 T.free, .int .i64 T.count, .pointer (some ⟨B.tb, 0, none⟩), .map (some w.heap.size), .map (some (w.heap.size + 1)), .map (some (w.heap.size + 1 + 1)), .bool false] 117)).heap[w.heap.size + 1 + 1 + 1]? = some (.cells (qIq B (newC w.heap.size) T.begin) 117 (0, 0)) := by
  have := heap_alloc_new (((w.alloc (.map #[] 0)).alloc (.map #[] 0)).alloc (.map #[] 0)) (.cells #[.int .i64 T.root, .int .i64 T.next, .int .i64 T.free, .int .i64 T.count, .pointer (some ⟨B.tb, 0, none⟩), .map (some w.heap.size), .map (some (w.heap.size + 1)), .map (some (w.heap.size + 1 + 1)), .bool false] 117); rw [s3] at this; exact this
 have hap : ∀ k, WS (newC w.heap.size) k -> w.heap.size <= k := by
  rintro k (hk | hk | hk | hk) <;> (rw [hk]; show w.heap.size <= _; unfold newC; simp only; omega)
 refine ⟨(h.narrow (S' := MS B (newC w.heap.size)) (fun k hk e => e.elim id (fun e => by have := hap k e; omega))).mod e0 (fun _ e => e.elim) (fun _ e => e.elim), ⟨hb, ⟨[], m1.mod e1 (fun e => e), (fun _ _ => rfl), (fun s n hn => by cases hn)⟩, ⟨[], m2.mod e2 (fun e => e), (fun s => rfl)⟩, ⟨[], m3.mod e3 (fun e => e), fun s => ⟨fun _ => rfl, fun h => by cases h⟩⟩, hnx⟩, ⟨?_, ?_, ?_, ?_, ?_, ?_, fun k hk ht => ?_⟩, fun _ e => e⟩
 ·show w.heap.size + 1 + 1 + 1 ≠ w.heap.size; omega
 ·show w.heap.size + 1 + 1 + 1 ≠ w.heap.size + 1; omega
 ·show w.heap.size + 1 + 1 + 1 ≠ w.heap.size + 1 + 1; omega
 ·show w.heap.size ≠ w.heap.size + 1; omega
 ·show w.heap.size ≠ w.heap.size + 1 + 1; omega
 ·show w.heap.size + 1 ≠ w.heap.size + 1 + 1; omega
 ·have h1 := hap k hk; have h2 := h.lt ht; omega
theorem jDc {w : World} {b : Nat} {sa : Option Addr} {D : Dsk} (h : qAp w b sa D) : ∀ k, qBj b sa k -> ∃ cs t, w.heap[k]? = some (.cells cs t (0, 0)) /\ (t = 106 \/ t = 9) := by
 obtain ⟨cap, blank, done, h1, h2, h3⟩ := h; rintro k (rfl | hk)
 ·exact ⟨_, _, h1.1, .inl rfl⟩
 ·obtain ⟨a, rfl, rfl⟩ := hk; rcases h2.2.2.2 with ⟨h4, _⟩ | ⟨g, off, cur, h4, h5, _⟩
  ·cases h4
  ·cases h4
   exact ⟨_, _, h5, .inr rfl⟩
theorem qIt {S : Nat -> Prop} {w : World} {B : TB} {T : TM} {D : Dsk} {off : Bool} (h : qAu S w B T D off) : ∀ k, qBj B.d B.sa k -> k ≠ B.tb /\ k ≠ B.nb /\ k ≠ B.ab /\ k ≠ B.j := fun k hk => by
 obtain ⟨cs, t, h1, h2⟩ := jDc h.disk k hk; refine ⟨fun e => ?_, fun e => ?_, fun e => ?_, fun e => h.sep (by rw [<- e]; exact hk)⟩
 ·rw [e, h.box] at h1; cases h1
  rcases h2 with h2 | h2 <;> exact absurd h2 (by decide)
 ·obtain ⟨l, ⟨es, clock, hm, _⟩, _⟩ := h.nodes; rw [e, hm] at h1; cases h1
 ·obtain ⟨l, ⟨es, clock, hm, _⟩, _⟩ := h.after; rw [e, hm] at h1; cases h1
theorem qQz {S : Nat -> Prop} {w w' : World} {B : TB} {T : TM} {D D' : Dsk} {off : Bool} (h : qAu S w B T D off) (hs : ∀ k, TS B k -> S k) (hm : Mod (qBj B.d B.sa) w w') (hd : qAp w' B.d B.sa D') (hl : D'.secs.length = D.secs.length) : qAu S w' B T D' off := by
 have hq := qIt h; exact ⟨(hm.block B.tb (lth h.box) (fun e => (hq _ e).1 rfl)).trans h.box, h.nodes.mod hm (fun k e => hs k (.inr (.inr (.inr (.inr e))))) (fun e => (hq _ e).2.1 rfl), h.after.mod hm (fun e => (hq _ e).2.2.1 rfl), hd, h.jr.mod hm h.sep, h.sep, by rw [hl]; exact h.hn, h.hr⟩
theorem jEl {S : Nat -> Prop} {w : World} {B : TB} {T : TM} {D : Dsk} {off : Bool} (h : qAu S w B T D off) (hs : ∀ k, TS B k -> S k) (b : Bool) : qAu S (w.setCell ⟨B.tb, 8, none⟩ (.bool b)) B T D b := by
 have hm : Mod (fun k => k = B.tb) w (w.setCell ⟨B.tb, 8, none⟩ (.bool b)) := Mod.setCell (S := fun k => k = B.tb) (p := ⟨B.tb, 8, none⟩) (Mod.refl _ _) (fun _ => rfl) _
 have hq := qIt h; have hnb : B.nb ≠ B.tb := fun e => by
  obtain ⟨l, ⟨es, clock, hm, _⟩, _⟩ := h.nodes; rw [e, h.box] at hm; cases hm
 have hab : B.ab ≠ B.tb := fun e => by
  obtain ⟨l, ⟨es, clock, hm, _⟩, _⟩ := h.after; rw [e, h.box] at hm; cases hm
 have hj : B.j ≠ B.tb := fun e => by
  have h1 := h.jr; unfold JAt at h1; rw [e, h.box] at h1; cases h1
 exact ⟨qAh h.box _, h.nodes.mod hm (fun k e => by rw [e]; exact hs _ (.inl rfl)) hnb, h.after.mod hm hab, h.disk.mod hm (fun k hk e => (hq k hk).1 e), h.jr.mod hm hj, h.sep, h.hn, h.hr⟩
theorem jBs {S : Nat -> Prop} {w : World} {B : TB} {C : WB} {T : TM} {D : Dsk} {W : WM} (h : Ws S w B C T D W) {ls : List Chg} {ln : List (Int × NP)} {la : List (Int × Int)} (hl : Laid W ls ln la)
  (hq : (0 <= W.root /\ W.root <= 1152921504606846976) /\ (0 <= W.next /\ W.next <= 1152921504606846976) /\ (0 <= W.free /\ W.free <= 1152921504606846976) /\ (0 <= W.count /\ W.count <= 1152921504606846976)) (ht : ∀ x, qNo W x -> 0 <= x /\ x <= 1152921504606846976) (ha : ∀ x y, W.after x = some y -> 0 <= y /\ y <= 1152921504606846976) :
  (∀ c ∈ ls, c.data.size <= maxLen) /\ ∀ c ∈ ls, -9223372036854775808 <= c.pos /\ c.pos <= 9223372036854775807 := by
 obtain ⟨l0, _, _, hg⟩ := h.work.nodes; have hm : ∀ c ∈ ls, c ∈ ln.map (fun p => (⟨p.1, ndB p.2⟩ : Chg)) \/ c ∈ la.map (fun p => (⟨p.1, frB p.2⟩ : Chg)) \/ c = ⟨0, stB W⟩ := fun c hc => by
  rcases List.mem_append.1 (hl.perm.mem_iff.1 hc) with h1 | h1
  ·exact .inl h1
  ·rcases List.mem_append.1 h1 with h1 | h1
   ·exact .inr (.inl h1)
   ·exact .inr (.inr (List.mem_singleton.1 h1))
 have hmx : maxLen = 4611686018427387903 \/ 1048576 <= maxLen := .inr (by unfold maxLen; omega)
 have hmm : 1048576 <= maxLen := by unfold maxLen; omega
 refine ⟨fun c hc => ?_, fun c hc => ?_⟩
 ·rcases hm c hc with h1 | h1 | h1
  ·obtain ⟨p, hp, rfl⟩ := List.mem_map.1 h1; have h2 := (hg p.1 p.2 ((hl.n2 p.1 p.2).1 hp)).1.bytes; show (ndB p.2).size <= _; unfold ndB; split
   ·rw [qAf]; omega
   ·exact Nat.zero_le _
  ·obtain ⟨p, hp, rfl⟩ := List.mem_map.1 h1; have h2 := ha p.1 p.2 ((hl.a2 p.1 p.2).1 hp); have h3 := qXh (n := p.2.toNat) (by omega)
   show (frB p.2).size <= _; unfold frB; rw [qAf, List.length_cons]; omega
  ·rw [h1]; have h2 := qXh (n := W.root.toNat) (by omega)
   have h3 := qXh (n := W.next.toNat) (by omega)
   have h4 := qXh (n := W.free.toNat) (by omega)
   have h5 := qXh (n := W.count.toNat) (by omega)
   show (stB W).size <= _; unfold stB stL; rw [qAf]; simp
   omega
 ·rcases hm c hc with h1 | h1 | h1
  ·obtain ⟨p, hp, rfl⟩ := List.mem_map.1 h1; have h2 := ht p.1 (.inl (by rw [(hl.n2 p.1 p.2).1 hp]; exact fun e => by cases e))
   show -9223372036854775808 <= p.1 /\ p.1 <= 9223372036854775807; omega
  ·obtain ⟨p, hp, rfl⟩ := List.mem_map.1 h1; have h2 := ht p.1 (.inr (by rw [(hl.a2 p.1 p.2).1 hp]; exact fun e => by cases e))
   show -9223372036854775808 <= p.1 /\ p.1 <= 9223372036854775807; omega
  ·rw [h1]; show (-9223372036854775808 : Int) <= 0 /\ (0 : Int) <= 9223372036854775807; decide
theorem qXn {S : Nat -> Prop} {w : World} {B : TB} {T : TM} {D : Dsk} {off : Bool} (h : qAu S w B T D off) (hs : ∀ k, TS B k -> S k) (a b c d : Int) :
  qAu S ((((w.setCell ⟨B.tb, 0, none⟩ (.int .i64 a)).setCell ⟨B.tb, 1, none⟩ (.int .i64 b)).setCell ⟨B.tb, 2, none⟩ (.int .i64 c)).setCell ⟨B.tb, 3, none⟩ (.int .i64 d)) B ⟨a, b, c, d, T.nodes, T.after⟩ D off /\ Mod (fun k => k = B.tb) w ((((w.setCell ⟨B.tb, 0, none⟩ (.int .i64 a)).setCell ⟨B.tb, 1, none⟩ (.int .i64 b)).setCell ⟨B.tb, 2, none⟩ (.int .i64 c)).setCell ⟨B.tb, 3, none⟩ (.int .i64 d)) := by
 have hm : Mod (fun k => k = B.tb) w ((((w.setCell ⟨B.tb, 0, none⟩ (.int .i64 a)).setCell ⟨B.tb, 1, none⟩ (.int .i64 b)).setCell ⟨B.tb, 2, none⟩ (.int .i64 c)).setCell ⟨B.tb, 3, none⟩ (.int .i64 d)) := qBl (S := fun k => k = B.tb) (Mod.refl _ _) (fun _ => rfl) _ _ _ _
 have hq := qIt h; have hnb : B.nb ≠ B.tb := fun e => by
  obtain ⟨l, ⟨es, clock, hm, _⟩, _⟩ := h.nodes; rw [e, h.box] at hm; cases hm
 have hab : B.ab ≠ B.tb := fun e => by
  obtain ⟨l, ⟨es, clock, hm, _⟩, _⟩ := h.after; rw [e, h.box] at hm; cases hm
 have hj : B.j ≠ B.tb := fun e => by
  have h1 := h.jr; unfold JAt at h1; rw [e, h.box] at h1; cases h1
 exact ⟨⟨qAh (qAh (qAh (qAh h.box _) _) _) _, h.nodes.mod hm (fun k e => by rw [e]; exact hs _ (.inl rfl)) hnb, h.after.mod hm hab, h.disk.mod hm (fun k hk e => (hq k hk).1 e), h.jr.mod hm hj, h.sep, h.hn, h.hr⟩, hm⟩
theorem qZv {S : Nat -> Prop} {w w' : World} {B : TB} {T : TM} {D : Dsk} {off : Bool} {f : Int -> Option Int} (h : qAu S w B T D off) (hs : ∀ k, TS B k -> S k) (hne : B.nb ≠ B.ab) (hm : Mod (fun k => k = B.ab) w w') (hf : qCg w' B.ab f) : qAu S w' B { T with after := f } D off := by
 have hq := qIt h; have hab : B.tb ≠ B.ab := fun e => by
  obtain ⟨l, ⟨es, clock, hm, _⟩, _⟩ := h.after; rw [<- e, h.box] at hm; cases hm
 have hj : B.j ≠ B.ab := fun e => by
  obtain ⟨l, ⟨es, clock, hm, _⟩, _⟩ := h.after; have h1 := h.jr; unfold JAt at h1; rw [e, hm] at h1; cases h1
 exact ⟨(hm.block B.tb (lth h.box) hab).trans h.box, h.nodes.mod hm (fun k e => by rw [e]; exact hs _ (.inr (.inr (.inl rfl)))) hne, hf, h.disk.mod hm (fun k hk e => (hq k hk).2.2.1 e), h.jr.mod hm hj, h.sep, h.hn, h.hr⟩
theorem qZu {S : Nat -> Prop} {w w' : World} {B : TB} {T : TM} {D : Dsk} {off : Bool} {f : Int -> Option NP} (h : qAu S w B T D off) (hne : B.ab ≠ B.nb) (hm : Mod (fun k => k = B.nb) w w') (hf : qBm S w' B.nb f) : qAu S w' B { T with nodes := f } D off := by
 have hq := qIt h; have hab : B.tb ≠ B.nb := fun e => by
  obtain ⟨l, ⟨es, clock, hm, _⟩, _⟩ := h.nodes; rw [<- e, h.box] at hm; cases hm
 have hj : B.j ≠ B.nb := fun e => by
  obtain ⟨l, ⟨es, clock, hm, _⟩, _⟩ := h.nodes; have h1 := h.jr; unfold JAt at h1; rw [e, hm] at h1; cases h1
 exact ⟨(hm.block B.tb (lth h.box) hab).trans h.box, hf, h.after.mod hm hne, h.disk.mod hm (fun k hk e => (hq k hk).2.1 e), h.jr.mod hm hj, h.sep, h.hn, h.hr⟩
theorem qMz.mod {S S' : Nat -> Prop} {w w' : World} {B : TB} {C : WB} {W : WM} (h : qMz S w B C W) (hm : Mod S' w w') (hs : ∀ k, S' k -> S k) (hn : ∀ k, S' k -> ¬ WS C k) : qMz S w' B C W :=
 ⟨(hm.block C.wb (lth h.box) (fun e => hn _ e (.inl rfl))).trans h.box, h.nodes.mod hm hs (fun e => hn _ e (.inr (.inl rfl))), h.after.mod hm (fun e => hn _ e (.inr (.inr (.inl rfl)))), h.taken.mod hm (fun e => hn _ e (.inr (.inr (.inr rfl)))), h.nx⟩
theorem qHd {S : Nat -> Prop} {w : World} {B : TB} {C : WB} {W : WM} (h : qMz S w B C W) : w.cell? ⟨C.wb, 0, none⟩ = some (.int .i64 W.root) /\ w.cell? ⟨C.wb, 1, none⟩ = some (.int .i64 W.next) /\ w.cell? ⟨C.wb, 2, none⟩ = some (.int .i64 W.free) /\ w.cell? ⟨C.wb, 3, none⟩ = some (.int .i64 W.count) ∧
  w.cell? ⟨C.wb, 5, none⟩ = some (.map (some C.nb)) /\ w.cell? ⟨C.wb, 6, none⟩ = some (.map (some C.ab)) /\ w.cell? ⟨C.wb, 7, none⟩ = some (.map (some C.kb)) := by
 refine ⟨?_, ?_, ?_, ?_, ?_, ?_, ?_⟩ <;> (rw [cell_of_row _ _ _ _ _ _ h.box]; rfl)
structure UpL (N : Nat) (w wr : World) (B : TB) (C : WB) (T' : TM) (D' : Dsk) (W' : WM) : Prop where
 tree : qAu (fun k => TS B k \/ N <= k) wr B T' D' false
 work : qMz (fun k => MS B C k \/ N <= k) wr B C W'
 mod : Mod (TS B) w wr
 old : ∀ k, MS B C k -> k < N
 lo : w.heap.size <= N
 sz : N <= wr.heap.size
 apart : ∀ k, WS C k -> ¬ TS B k
theorem UpL.step {N : Nat} {w wr w2 : World} {B : TB} {C : WB} {T' : TM} {D' : Dsk} {W' : WM} (h : UpL N w wr B C T' D' W') (hm : Mod (fun k => N <= k) wr w2) : UpL N w w2 B C T' D' W' :=
 ⟨h.tree.mod hm (fun _ e => .inr e) (fun k e e2 => by have := h.old k (.inl e2); omega), h.work.mod hm (fun _ e => .inr e) (fun k e e2 => by have := h.old k (.inr e2); omega), h.mod.then hm (fun k hk e => by have := h.lo; omega), h.old, h.lo, Nat.le_trans h.sz hm.size, h.apart⟩
theorem UpL.setA {N : Nat} {w wr w2 : World} {B : TB} {C : WB} {T' : TM} {D' : Dsk} {W' : WM} {f : Int -> Option Int} (h : UpL N w wr B C T' D' W') (hne : B.nb ≠ B.ab) (hm : Mod (fun k => k = B.ab) wr w2) (hf : qCg w2 B.ab f) : UpL N w w2 B C { T' with after := f } D' W' :=
 ⟨qZv h.tree (fun _ e => .inl e) hne hm hf, h.work.mod hm (fun k e => by rw [e]; exact .inl (.inl (.inr (.inr (.inl rfl))))) (fun k e e2 => h.apart k e2 (by rw [e]; exact .inr (.inr (.inl rfl)))), h.mod.trans (hm.mono (fun k _ e => by rw [e]; exact .inr (.inr (.inl rfl)))), h.old, h.lo, Nat.le_trans h.sz hm.size, h.apart⟩
theorem UpL.setN {N : Nat} {w wr w2 : World} {B : TB} {C : WB} {T' : TM} {D' : Dsk} {W' : WM} {f : Int -> Option NP} (h : UpL N w wr B C T' D' W') (hne : B.nb ≠ B.ab) (hm : Mod (fun k => k = B.nb) wr w2) (hf : qBm (fun k => TS B k \/ N <= k) w2 B.nb f) : UpL N w w2 B C { T' with nodes := f } D' W' :=
 ⟨qZu h.tree (fun e => hne e.symm) hm hf, h.work.mod hm (fun k e => by rw [e]; exact .inl (.inl (.inr (.inl rfl)))) (fun k e e2 => h.apart k e2 (by rw [e]; exact .inr (.inl rfl))), h.mod.trans (hm.mono (fun k _ e => by rw [e]; exact .inr (.inl rfl))), h.old, h.lo, Nat.le_trans h.sz hm.size, h.apart⟩
theorem UpL.start {w X : World} {B : TB} {C : WB} {T' : TM} {D' : Dsk} {W' : WM} (ht : qAu (TS B) X B T' D' false) (hw : qMz (MS B C) X B C W') (hm : Mod (TS B) w X) (ha : ∀ k, WS C k -> ¬ TS B k) (hs : ∀ k, MS B C k -> k < X.heap.size) : UpL X.heap.size w X B C T' D' W' :=
 ⟨ht.narrow (fun k hk e => e.resolve_right (by omega)), ⟨hw.box, hw.nodes.narrow (fun k hk e => e.resolve_right (by omega)), hw.after, hw.taken, hw.nx⟩, hm, hs, hm.size, Nat.le_refl _, ha⟩
theorem jKp (T : TM) (L : Int) (f : Nat) (cs : List Cg) (W W' : WM) {k : Nat} {x : Cg} (hx : cs[k]? = some x) (h : allM T L f (cs.drop k) W = some W') : ∃ W2, oneM T L f W x = some W2 /\ allM T L f (cs.drop (k + 1)) W2 = some W' := by
 obtain ⟨hk, rfl⟩ := List.getElem?_eq_some_iff.1 hx; rw [List.drop_eq_getElem_cons hk] at h; obtain ⟨W2, h1, h2⟩ := Option.bind_eq_some_iff.1 h; exact ⟨W2, h1, h2⟩
set_option maxHeartbeats 4000000 in
theorem jHv {w : World} {B : TB} {T : TM} {D : Dsk} {k0 : Nat} (h : qAu (TS B) w B T D false) {a : Option Addr} (cap : Nat) {cs : List Cg} (hc : Lies w 3 ccs a cs) (hcl : cs.length <= 1099511627776000) (hs : ∀ c ∈ cs, c.key.size <= maxLen /\ c.value.size <= maxLen) (hchk : chkF [] cs = 0) {W' : WM} (hk : allM T (jlen B.room D : Int) 70 cs T.begin = some W') (hcn : -1152921504606846976 <= T.count /\ T.count <= 1152921504606846976) (hnx : 0 <= T.next)
  (hq : (0 <= W'.root /\ W'.root <= 1152921504606846976) /\ (0 <= W'.next /\ W'.next <= 1152921504606846976) /\ (0 <= W'.free /\ W'.free <= 1152921504606846976) /\ (0 <= W'.count /\ W'.count <= 1152921504606846976)) (ht : ∀ x, qNo W' x -> 0 <= x /\ x <= 1152921504606846976) (ha : ∀ x y, W'.after x = some y -> 0 <= y /\ y <= 1152921504606846976) (hl : ∀ l : List Int, l.Nodup -> (∀ x ∈ l, qNo W' x) -> l.length <= 2199023255552)
  (hb : Bud D k0) (hk0 : k0 <= 1152921504606846976) (hne : B.nb ≠ B.ab) :
  Calls Tryz.prog 11 #[.pointer (some ⟨B.tb, 0, none⟩), .slice a cs.length cap] w fun e w' => qXa w B T D cs W' e w' := by
 obtain ⟨c0, c1, c2, c3, c4, c5, c6, c7, c8⟩ := h.cells; have HCk := hid (qSi cap hc hcl hs); rw [hchk] at HCk; have HT := hid h; have HC := hid hc; have HGd := hid (qJr hchk); have HK := hid hk; have HCn := hid hcn; have HQ := hid (And.intro hq (And.intro ht (And.intro ha hl))); have HB := hid (And.intro hb hk0); have HNn := hid hne; have hmm := @run_makeMap Tryz.prog; clear h hc hs hchk hk hcn hq ht ha hl hb hk0 hne; go_enter Tryz.func11, Tryz.ntmps11
 go_upto_region 10 with (go_at_call 32; refine HCk.out.mono ?_; rintro e w2 ⟨rfl, hm⟩; have HM := hid hm; have ht2 := HT.out.mod hm (fun _ e => e.elim) (fun _ e => e.elim); have HT2 := hid ht2; clear c0 c1 c2 c3 c4 c5 c6 c7 c8; obtain ⟨c0, c1, c2, c3, c4, c5, c6, c7, c8⟩ := ht2.cells; clear hm ht2)
 have HX0 := hid (jHs HT2.out hnx); have HMb : Hid (Mod (fun _ => False) w ((((w2.alloc (.map #[] 0)).alloc (.map #[] 0)).alloc (.map #[] 0)).alloc (.cells #[.int .i64 T.root, .int .i64 T.next, .int .i64 T.free, .int .i64 T.count, .pointer (some ⟨B.tb, 0, none⟩), .map (some w2.heap.size), .map (some (w2.heap.size + 1)), .map (some (w2.heap.size + 1 + 1)), .bool false] 117))) := hid ((((HM.out.alloc _).alloc _).alloc _).alloc _)
 have HW2 : Hid (∀ k, WS (newC w2.heap.size) k -> w.heap.size <= k) := hid (by
  have := HM.out.size; rintro k (hk | hk | hk | hk) <;> (rw [hk]; show w.heap.size <= _; unfold newC; simp only; omega))
 have hC : (newC w2.heap.size).wb = w2.heap.size + 1 + 1 + 1 := rfl; clear c0 c1 c2 c3 c4 c5 c6 c7 c8; generalize (((w2.alloc (.map #[] 0)).alloc (.map #[] 0)).alloc (.map #[] 0)).alloc (.cells #[.int .i64 T.root, .int .i64 T.next, .int .i64 T.free, .int .i64 T.count, .pointer (some ⟨B.tb, 0, none⟩), .map (some w2.heap.size), .map (some (w2.heap.size + 1)), .map (some (w2.heap.size + 1 + 1)), .bool false] 117) = X at *; rw [<- hC]; generalize newC w2.heap.size = C at *; clear hC
 go_loopw [41] (fun sc wr => ∃ (k : Nat) (Wk : WM), k <= cs.length /\ sc = .int .i64 (k : Int) /\ Ws (MS B C) wr B C T D Wk /\ allM T (jlen B.room D : Int) 70 (cs.drop k) Wk = some W' /\ (T.count - k <= Wk.count /\ Wk.count <= T.count + k) /\ Mod (fun _ => False) w wr) (fun sc _ => cs.length - (intOf sc).toNat)
 case atStart => exact ⟨0, T.begin, Nat.zero_le _, rfl, HX0.out, HK.out, ⟨by show T.count - 0 <= T.count; omega, by show T.count <= T.count + 0; omega⟩, HMb.out⟩
 case round =>
  obtain ⟨k, Wk, hkl, rfl, r1, r2, r3, r4⟩ := hrel; have HWk := hid r1; have HKk := hid r2; have HMk := hid r4; by_cases hlt : k < cs.length
  ·obtain ⟨x, hx⟩ : ∃ x, cs[k]? = some x := ⟨_, List.getElem?_eq_getElem hlt⟩; obtain ⟨W2, ho1, ho2⟩ := jKp T _ 70 cs Wk W' hx r2; obtain ⟨g, off, rfl⟩ := HC.out.some (by omega)
   have hcw := HC.out.ext HMk.out; have hq0 := hcw.cell qKu hx (j := 0) rfl; have hq1 := hcw.cell qKu hx (j := 1) rfl; have hq2 := hcw.cell qKu hx (j := 2) rfl; simp only [Nat.add_zero] at hq0; have hgx := HGd.out x (List.mem_of_getElem? hx); have hma : Mod (fun _ => False) wr (wr.alloc (.cells #[.string x.key, .string x.value, .bool x.gone] 113)) := (Mod.refl _ _).alloc _
   have hcb : (wr.alloc (.cells #[.string x.key, .string x.value, .bool x.gone] 113)).heap[wr.heap.size]? = some (.cells #[.string x.key, .string x.value, .bool x.gone] 113 (0, 0)) := heap_alloc_new _ _; obtain ⟨b0, b1, b2⟩ := qMs hcb; have HOn := hid (jFy (S := MS B C) hgx (by have := HCn.out; omega) (fun k hk => (HWk.out.ext hma).lt hk) (HWk.out.ext hma) ho1)
   have hcnt := qYb ho1; have HO2 := hid ho2; have HMa := hid (HMk.out.trans hma); clear r1 r2 r4 hx ho1 ho2 hcw hgx hma hcb; go_wp2_with (go_at_call 33; refine HOn.out.mono ?_; rintro e w5 ⟨rfl, hw5, hm5⟩; have HW5 := hid hw5; have HM5 := hid hm5; clear hw5 hm5)
   go_roundw
   case rel => exact ⟨k + 1, W2, by omega, by go_num, HW5.out, HO2.out, ⟨by omega, by omega⟩, HMa.out.then HM5.out (fun i hi e => by have := HW2.out i e; omega)⟩
   case measure => simp [intOf]; omega
  ·have hke : k = cs.length := by omega
   have hkk : W' = Wk := by
    have h1 := r2; rw [List.drop_of_length_le (by omega)] at h1
    exact (Option.some.inj h1).symm
   subst hkk; clear r1 r2 r4; have HSec := hid (qSt HWk.out HQ.out.1 HQ.out.2.1 HQ.out.2.2.1 HQ.out.2.2.2); go_upto_region 15 with (go_at_call 34; refine HSec.out.mono ?_; rintro e w6 ⟨ls, ln, la, qa, qcap, rfl, hld, hli, hqb, hm6⟩; have HLd := hid hld; have HLi := hid hli; have HQb := hid hqb; have HM6 := hid hm6; clear hld hli hqb hm6)
   have HW6 := hid (HWk.out.ext HM6.out); have HMw := hid (HMk.out.trans HM6.out); have HT6 : Hid (qAu (TS B) w6 B T D false) := hid (HW6.out.tree.narrow (fun k _ e => .inl e))
   obtain ⟨_, _, _, _, _, _, _, _, d8⟩ := HW6.out.cells; obtain ⟨_, c1, _, _, c4, c5, _, _, c8⟩ := HT6.out.cells; cases hf : W'.full with
   | true =>
    rw [hf] at d8; go_wp2_with fail
    go_ret; exact ⟨ls, ln, la, HLd.out, .inl ⟨hf, rfl, HT6.out, HMw.out⟩⟩
   | false =>
    rw [hf] at d8; by_cases hrm : B.room < ls.length
    ·go_wp2_with fail
     go_ret; exact ⟨ls, ln, la, HLd.out, .inr (.inl ⟨hf, hrm, rfl, HT6.out, HMw.out⟩)⟩
    ·by_cases h0 : cs.length = 0
     ·go_wp2_with fail
      go_ret; exact ⟨ls, ln, la, HLd.out, .inr (.inr (.inl ⟨hf, by omega, List.length_eq_zero_iff.1 h0, rfl, HT6.out, HMw.out⟩))⟩
     ·have hsz := jBs HW6.out HLd.out HQ.out.1 HQ.out.2.1 HQ.out.2.2.1; have HCm := hid (qYs HT6.out.disk HT6.out.jr HT6.out.sep HB.out.1 HB.out.2 HT6.out.hr qcap ⟨HLi.out, hsz.1, hsz.2⟩ (fun _ k hk e => by have h1 := HQb.out k hk; have h2 := HWk.out.lt (.inl (.inr (.inr (.inr (.inr e))))); omega) (by have := HT6.out.hr; unfold maxLen; omega))
      clear hsz; obtain ⟨E, hE⟩ : ∃ E, (qAk B.room ls D).1 = E := ⟨_, rfl⟩; have HEq := hid hE; rw [hE] at HCm; clear hE; by_cases he : E = 0
      ·subst he; go_upto_region 25 with (go_at_call 35; refine HCm.out.mono ?_; rintro e w7 ⟨rfl, hd7, hm7⟩; have HT7 := hid (qQz HT6.out (fun _ e => e) hm7 hd7 (qIk _ _ _)); have HM7 := hid hm7; clear hd7 hm7)
       have hdw : ∀ k, qBj B.d B.sa k -> TS B k := fun k e => .inr (.inr (.inr (.inr e)))
       have HWo7 := hid (HW6.out.work.mod HM7.out (fun k e => .inl (hdw k e)) (fun k e e2 => HW6.out.apart.tree k e2 (hdw k e)))
       obtain ⟨q0, q1, q2, q3, q5, q6, q7⟩ := qHd HWo7.out; obtain ⟨e0, e1, e2, e3, _⟩ := HT7.out.cells; have f0 := frozen_of_row w7 B.tb 0 _ _ HT7.out.box; have f1 := frozen_of_row w7 B.tb 1 _ _ HT7.out.box; have f2 := frozen_of_row w7 B.tb 2 _ _ HT7.out.box; have f3 := frozen_of_row w7 B.tb 3 _ _ HT7.out.box; obtain ⟨hts, hms⟩ := qXn HT7.out (fun _ e => e) W'.root W'.next W'.free W'.count
       go_upto_region 26 with fail
       clear q0 q1 q2 q3 q5 q6 q7 e0 e1 e2 e3 f0 f1 f2 f3 c1 c4 c5 c8 d8; generalize (((w7.setCell ⟨B.tb, 0, none⟩ (.int .i64 W'.root)).setCell ⟨B.tb, 1, none⟩ (.int .i64 W'.next)).setCell ⟨B.tb, 2, none⟩ (.int .i64 W'.free)).setCell ⟨B.tb, 3, none⟩ (.int .i64 W'.count) = X at *
       have HUp : Hid (UpL X.heap.size w X B C ⟨W'.root, W'.next, W'.free, W'.count, T.nodes, T.after⟩ (qAk B.room ls D).2 W') := hid (UpL.start hts (HWo7.out.mod hms (fun k e => by rw [e]; exact .inl (.inl rfl)) (fun k e e2 => HW6.out.apart.tree k e2 (by rw [e]; exact .inl rfl))) (((HMw.out.mono (fun _ _ e => e.elim)).trans (HM7.out.mono (fun k _ e => hdw k e))).trans (hms.mono (fun k _ e => by rw [e]; exact .inl rfl))) HW6.out.apart.tree (fun k e => by have h1 := HW6.out.lt e; have h2 := HM7.out.size; have h3 := hms.size; omega))
       have HFin : Hid (∀ X2 : World, UpL X.heap.size w X2 B C (W'.done T) (qAk B.room ls D).2 W' -> qXa w B T D cs W' (.returned (.int .i64 0)) X2) := hid (fun X2 h2 => ⟨ls, ln, la, HLd.out, .inr (.inr (.inr (.inr ⟨hf, by omega, fun e => h0 (by rw [e]; rfl), HEq.out, rfl, h2.tree.narrow (fun k _ e => .inl e), h2.mod⟩)))⟩)
       generalize (qAk B.room ls D).2 = D2 at *; clear hts hms hdw; obtain ⟨N, hN⟩ : ∃ N, X.heap.size = N := ⟨_, rfl⟩; rw [hN] at HUp HFin; have HNs := hid hN; obtain ⟨_, _, _, _, _, _, q7⟩ := qHd HUp.out.work; obtain ⟨lk, hk1, hk2⟩ := id HUp.out.work.taken; have HMk2 := hid hk1; have HKk2 := hid hk2; clear hk1 hk2; go_upto_region 27 with (at_range; refine qCt rfl _ 82 rfl KI Tryz.underlying82 C.kb lk rfl HMk2.out ?_; intro w8 hrg hm; have HRg := hid hrg; have HMr := hid hm; clear hrg hm)
       clear q7; go_frame
       rw [hN] at HRg ⊢; clear hN; go_loopg [] lk.length (fun g wr => ∃ (P : Int -> Bool) (left : Int -> Prop), qCf KI.kv wr C.kb N lk left g /\ (∀ k, left k ↔ k ∈ lk.map (·.1) /\ P k = false) /\ (∀ k, P k = true -> k ∈ lk.map (·.1)) /\ UpL N w wr B C ⟨W'.root, W'.next, W'.free, W'.count, T.nodes, fun x => if P x then none else T.after x⟩ D2 W')
       case atStart => exact ⟨fun _ => false, fun k => k ∈ lk.map (·.1), HRg.out, fun k => ⟨fun h => ⟨h, rfl⟩, fun h => h.1⟩, (fun k h => by cases h), HUp.out.step (HMr.out.mono (fun _ _ e => e.elim))⟩
       case round =>
        obtain ⟨P, left, hr1, hr2, hr3, hr4⟩ := hrel; have HR1 := hid hr1; have HR2 := hid hr2; have HR3 := hid hr3; have HR4 := hid hr4; clear hr1 hr2 hr3 hr4; go_wp2_with (at_next; refine qDd rfl _ rfl KI C.kb N lk left _ rfl HR1.out ?_ ?_)
        ·intro hnone; have HPt : Hid (P = W'.taken) := hid (funext fun x => by
          have h1 := HR2.out x; have h2 := HKk2.out x; cases hp : P x with
          | true =>
           have h3 := (qAx lk x).2 (HR3.out x hp); cases ht : W'.taken x with
           | true => rfl
           | false => rw [h2.1 ht] at h3; cases h3
          | false =>
           cases ht : W'.taken x with
           | false => rfl
           | true =>
            obtain ⟨y, hy⟩ := h2.2 ht; exact absurd (h1.2 ⟨(qAx lk x).1 (by rw [hy]; rfl), hp⟩) (hnone x))
         have hup := HR4.out; rw [HPt.out] at hup; have HU3 := hid hup; obtain ⟨_, _, _, _, _, q6, _⟩ := qHd hup.work; obtain ⟨l3, hk1, hk2⟩ := id hup.work.after; have HM3 := hid hk1; have HK3 := hid hk2; clear hk1 hk2 hup hnone; obtain ⟨wo, rfl⟩ : ∃ wo : World, wo = wr := ⟨_, rfl⟩; go_upto_region 31 with (at_range; refine qCt rfl _ 82 rfl KI Tryz.underlying82 C.ab l3 rfl HM3.out ?_; intro w9 hrg hm; have HRg3 := hid hrg; have HMr3 := hid hm; clear hrg hm)
         clear q6; go_frame
         obtain ⟨N3, hN3⟩ : ∃ N3, wo.heap.size = N3 := ⟨_, rfl⟩; have HSz3 : Hid (N <= N3) := hid (by rw [<- hN3]; exact HU3.out.sz)
         rw [hN3] at HRg3 ⊢; clear hN3 HR1 HR2 HR3 HR4; go_loopg [] l3.length (fun g wr => ∃ (P3 : Int -> Bool) (left : Int -> Prop), qCf KI.kv wr C.ab N3 l3 left g /\ (∀ k, left k ↔ k ∈ l3.map (·.1) /\ P3 k = false) /\ (∀ k, P3 k = true -> k ∈ l3.map (·.1)) /\ UpL N w wr B C ⟨W'.root, W'.next, W'.free, W'.count, fun x => if P3 x then none else T.nodes x, fun x => if P3 x then W'.after x else if W'.taken x then none else T.after x⟩ D2 W')
         case atStart => exact ⟨fun _ => false, fun k => k ∈ l3.map (·.1), HRg3.out, fun k => ⟨fun h => ⟨h, rfl⟩, fun h => h.1⟩, (fun k h => by cases h), HU3.out.step (HMr3.out.mono (fun _ _ e => e.elim))⟩
         case round =>
          obtain ⟨P3, left3, hr1, hr2, hr3, hr4⟩ := hrel; have HS1 := hid hr1; have HS2 := hid hr2; have HS3 := hid hr3; have HS4 := hid hr4; clear hr1 hr2 hr3 hr4; go_wp2_with (at_next; refine qDd rfl _ rfl KI C.ab N3 l3 left3 _ rfl HS1.out ?_ ?_)
          ·intro hnone; have HPt3 : Hid (P3 = fun x => (W'.after x).isSome) := hid (funext fun x => by
            have h1 := HS2.out x; have h2 := HK3.out x; cases hp : P3 x with
            | true =>
             have h3 := (qAx l3 x).2 (HS3.out x hp); rw [h2] at h3; cases ha : W'.after x with
             | some y => rfl
             | none => rw [ha] at h3; cases h3
            | false =>
             cases ha : W'.after x with
             | none => rfl
             | some y => exact absurd (h1.2 ⟨(qAx l3 x).1 (by rw [h2, ha]; rfl), hp⟩) (hnone x))
           have hup := HS4.out; rw [HPt3.out] at hup; have HU4 := hid hup; obtain ⟨_, _, _, _, q5, _, _⟩ := qHd hup.work; obtain ⟨l4, hk1, hk2, hk3⟩ := id hup.work.nodes; have HM4 := hid hk1; have HK4a := hid hk2; have HK4b := hid hk3; clear hk1 hk2 hk3 hup hnone; obtain ⟨wp, rfl⟩ : ∃ wp : World, wp = wr := ⟨_, rfl⟩; go_upto_region 36 with (at_range; refine qCt rfl _ 81 rfl KI Tryz.underlying81 C.nb l4 rfl HM4.out ?_; intro w10 hrg hm; have HRg4 := hid hrg; have HMr4 := hid hm; clear hrg hm)
           clear q5; obtain ⟨N4, hN4⟩ : ∃ N4, wp.heap.size = N4 := ⟨_, rfl⟩; have HSz4 : Hid (N <= N4) := hid (by rw [<- hN4]; exact HU4.out.sz)
           rw [hN4] at HRg4 ⊢; clear hN4 HS1 HS2 HS3 HS4; go_loopg [] l4.length (fun g wr => ∃ (P4 : Int -> Bool) (left : Int -> Prop), qCf KI.kv wr C.nb N4 l4 left g /\ (∀ k, left k ↔ k ∈ l4.map (·.1) /\ P4 k = false) /\ (∀ k, P4 k = true -> k ∈ l4.map (·.1)) /\ UpL N w wr B C ⟨W'.root, W'.next, W'.free, W'.count, fun x => if P4 x then W'.nodes x else if (W'.after x).isSome then none else T.nodes x, fun x => if P4 x then none else if (W'.after x).isSome then W'.after x else if W'.taken x then none else T.after x⟩ D2 W' /\ Mod (fun k => TS B k \/ N <= k) wp wr)
           case atStart => exact ⟨fun _ => false, fun k => k ∈ l4.map (·.1), HRg4.out, fun k => ⟨fun h => ⟨h, rfl⟩, fun h => h.1⟩, (fun k h => by cases h), HU4.out.step (HMr4.out.mono (fun _ _ e => e.elim)), HMr4.out.mono (fun _ _ e => e.elim)⟩
           case round =>
            obtain ⟨P4, left4, hr1, hr2, hr3, hr4, hr5⟩ := hrel; have HV1 := hid hr1; have HV2 := hid hr2; have HV3 := hid hr3; have HV4 := hid hr4; have HV5 := hid hr5; clear hr1 hr2 hr3 hr4 hr5; go_wp2_with (at_next; refine qDd rfl _ rfl KI C.nb N4 l4 left4 _ rfl HV1.out ?_ ?_)
            ·intro hnone; have HPt4 : Hid (P4 = fun x => (W'.nodes x).isSome) := hid (funext fun x => by
              have h1 := HV2.out x; cases hp : P4 x with
              | true =>
               have h3 := (qAx l4 x).2 (HV3.out x hp); cases ha : W'.nodes x with
               | some y => rfl
               | none => rw [HK4a.out x ha] at h3; cases h3
              | false =>
               cases ha : W'.nodes x with
               | none => rfl
               | some y =>
                obtain ⟨_, m, hm, _⟩ := HK4b.out x y ha; exact absurd (h1.2 ⟨(qAx l4 x).1 (by rw [hm]; rfl), hp⟩) (hnone x))
             have hup := HV4.out; rw [HPt4.out] at hup; have hdone : (⟨W'.root, W'.next, W'.free, W'.count, fun x => if (W'.nodes x).isSome then W'.nodes x else if (W'.after x).isSome then none else T.nodes x, fun x => if (W'.nodes x).isSome then none else if (W'.after x).isSome then W'.after x else if W'.taken x then none else T.after x⟩ : TM) = W'.done T := by
              unfold WM.done; congr 1
              ·funext x
               cases ha : W'.nodes x <;> rfl
              ·funext x
               cases ha : W'.nodes x <;> cases hb : W'.after x <;> rfl
             rw [hdone] at hup; have HUe := hid hup; clear hup hdone hnone; go_wp2_with fail
             go_ret; exact HFin.out _ HUe.out
            ·intro k v w5 cnt' hlm hmem hrg5 hlt5 hm5 hen; have h5 := HV4.out.step (hm5.mono (fun j _ e => by rw [e]; exact HSz4.out))
             have hv := qJd HM4.out.nodup hmem; obtain ⟨n, m, hn, hgx, rfl, hhas, hndc, hbs⟩ : ∃ (n : NP) (m : Nd), W'.nodes k = some n /\ qBg n.1 n.2 /\ v = m.val /\ Has m n.1 n.2 /\ NdC wp m /\ ∀ b, m.bs b -> ¬ (MS B C b \/ N <= b) /\ b < wp.heap.size := by
              cases ha : W'.nodes k with
              | none => rw [HK4a.out k ha] at hv; cases hv
              | some n =>
               obtain ⟨g1, m, g2, g3, g4, g5⟩ := HK4b.out k n ha; rw [g2] at hv; exact ⟨n, m, rfl, g1, (Option.some.inj hv).symm, g3, g4, g5⟩
             obtain ⟨lA, a1, a2⟩ := id h5.tree.after; have HH5 := hid h5; have HHn := hid hn; have HHg := hid hgx; have HHh := hid hhas; have HHd := hid hndc; have HHb := hid hbs; have HLm := hid hlm; have HKm : Hid (k ∈ l4.map (·.1)) := hid (List.mem_map.2 ⟨_, hmem, rfl⟩); have HRg5 := hid hrg5; have HMo5 : Hid (Mod (fun k => TS B k \/ N <= k) wp w5) := hid (HV5.out.trans (hm5.mono (fun j _ e => by rw [e]; exact .inr HSz4.out)))
             replace hen : (Instr.entry (.pointer (some ⟨N4, 0, none⟩))).run Tryz.prog w5 = .ok (.tuple #[.int .i64 k, .agg #[.bool m.leaf, .slice m.ka m.keys.length m.kc, .slice m.va m.values.length m.vc, .slice m.ia m.kids.length m.ic]]) w5 := hen; have e5 : KI.kv k = Value.int .i64 k := rfl; rw [e5]; simp only [Nd.val]; clear hv hmem hlm hrg5 hm5 h5 hn hgx hhas hndc hbs a1 a2; go_upto_region 38 with fail
             have hal : Mod (fun _ => False) w5 (w5.alloc (.cells #[.bool m.leaf, .slice m.ka m.keys.length m.kc, .slice m.va m.values.length m.vc, .slice m.ia m.kids.length m.ic] 123)) := (Mod.refl _ _).alloc _
             have hbx : (w5.alloc (.cells #[.bool m.leaf, .slice m.ka m.keys.length m.kc, .slice m.va m.values.length m.vc, .slice m.ia m.kids.length m.ic] 123)).heap[w5.heap.size]? = some (.cells #[.bool m.leaf, .slice m.ka m.keys.length m.kc, .slice m.va m.values.length m.vc, .slice m.ia m.kids.length m.ic] 123 (0, 0)) := heap_alloc_new _ _; generalize w5.alloc (.cells #[.bool m.leaf, .slice m.ka m.keys.length m.kc, .slice m.va m.values.length m.vc, .slice m.ia m.kids.length m.ic] 123) = Y at *; have h6 := HH5.out.step (hal.mono (fun _ _ e => e.elim))
             obtain ⟨lA, a1, a2⟩ := id h6.tree.after; obtain ⟨w6, hdel, hat6, hm6⟩ := qCy (P := Tryz.prog) 0 KI Tryz.underlying82 a1 k; have hdel' : (Builtin.delete_ #[82, 3] 0 #[.map (some B.ab), .int .i64 k]).run Tryz.prog Y = .ok (.tuple #[]) w6 := hdel; have h7 := h6.setA HNn.out hm6 (qCg.del a1 a2 hat6); obtain ⟨_, _, _, _, _, _, _, t7, _⟩ := h6.tree.cells; obtain ⟨_, _, _, _, _, _, t6, _, _⟩ := h7.tree.cells
             have hb6 : w6.heap[w5.heap.size]? = some (.cells #[.bool m.leaf, .slice m.ka m.keys.length m.kc, .slice m.va m.values.length m.vc, .slice m.ia m.kids.length m.ic] 123 (0, 0)) := (hm6.block _ (lth hbx) (fun e => by have h8 := h6.old B.ab (.inl (.inr (.inr (.inl rfl)))); have h9 := HH5.out.sz; omega)).trans hbx
             have HMo6 : Hid (Mod (fun k => TS B k \/ N <= k) wp w6) := hid ((HMo5.out.trans (hal.mono (fun _ _ e => e.elim))).trans (hm6.mono (fun j _ e => by rw [e]; exact .inl (.inr (.inr (.inl rfl))))))
             have HRg6 := hid ((HRg5.out.mod hal (fun e => e) (fun e => e)).mod hm6 (fun e => h6.apart C.nb (.inr (.inl rfl)) (by rw [e]; exact .inr (.inr (.inl rfl)))) (fun e => by have h8 := h6.old B.ab (.inl (.inr (.inr (.inl rfl)))); have h9 := HSz4.out; omega))
             have H7 := hid h7; clear hal hbx h6 a1 a2 hdel hat6 hm6 h7 HH5 HRg5 HMo5; go_wp2_with fail
             obtain ⟨r0, r1, r2, r3⟩ := cl4 hb6; have g6 := fun x : Ext w6 => x.cell t6
             have c0 := fun x : Ext w6 => x.cell r0
             have c1 := fun x : Ext w6 => x.cell r1
             have c2 := fun x : Ext w6 => x.cell r2
             have c3 := fun x : Ext w6 => x.cell r3
             refine qAt 6 (by kernel_rfl) (by kernel_rfl) ?_
             simp only [List.take_succ_cons, List.take_zero, List.drop_succ_cons, List.drop_zero]; repeat (go_big_quiet_step ((fail)))
             refine wpQuiet_nil ?_; rintro _ ⟨z, rfl⟩; have h8 := H7.out.step (z.mod.mono (fun _ _ e => e.elim))
             obtain ⟨lN, n1, n2, n3⟩ := id h8.tree.nodes; obtain ⟨w8, hup, hat8, hm8⟩ := qBx (P := Tryz.prog) KI Tryz.underlying81 n1 k m.val; have hup' : (Instr.mapUpdate 81 (.map (some B.nb)) (.int .i64 k) (.agg #[.bool m.leaf, .slice m.ka m.keys.length m.kc, .slice m.va m.values.length m.vc, .slice m.ia m.kids.length m.ic])).run Tryz.prog z.val = .ok () w8 := hup; have hmz : Mod (fun k => TS B k \/ N <= k) wp z.val := HMo6.out.trans (z.mod.mono (fun _ _ e => e.elim))
             have hb9 : ∀ b, m.bs b -> ¬ (TS B b \/ N <= b) := fun b hb e => (HHb.out b hb).1 (e.elim (fun e => .inl (.inl e)) .inr)
             have hnd : NdC z.val m := qBq (S := fun b => TS B b \/ N <= b) HHd.out hb9 hmz (fun _ e => e)
             have h9 := h8.setN HNn.out hm8 (qBm.put n2 n3 (s := k) (n := n) (m := m) HHg.out HHh.out hnd (fun b hb => ⟨hb9 b hb, by have h1 := (HHb.out b hb).2; have h2 := hmz.size; omega⟩) (.inl (.inr (.inl rfl))) hat8 hm8)
             have HH9 := hid h9; have HRg8 := hid ((HRg6.out.mod z.mod (fun e => e) (fun e => e)).mod hm8 (fun e => h8.apart C.nb (.inr (.inl rfl)) (by rw [e]; exact .inr (.inl rfl))) (fun e => by have h8 := h8.old B.nb (.inl (.inr (.inl rfl))); have h9 := HSz4.out; omega))
             have HMo8 := hid (hmz.trans (hm8.mono (fun j _ e => by rw [e]; exact .inl (.inr (.inl rfl)))))
             clear h8 n1 n2 n3 hup hat8 hm8 hmz hb9 hnd h9 H7 HMo6 HRg6 g6 c0 c1 c2 c3 r0 r1 r2 r3 hb6 t6 t7 hdel'; go_wp2_with fail
             go_roundg cnt'
             case measure => omega
             case rel =>
              refine ⟨fun x => decide (x = k) || P4 x, fun x => left4 x /\ x ≠ k, HRg8.out, fun x => ?_, fun x hx => ?_, ?_, HMo8.out⟩
              ·show (left4 x /\ x ≠ k) ↔ x ∈ l4.map (·.1) /\ (decide (x = k) || P4 x) = false
               rw [HV2.out x]; simp only [Bool.or_eq_false_iff, decide_eq_false_iff_not]; exact ⟨fun ⟨⟨h1, h2⟩, h3⟩ => ⟨h1, h3, h2⟩, fun ⟨h1, h2, h3⟩ => ⟨⟨h1, h3⟩, h2⟩⟩
              ·rcases Bool.or_eq_true_iff.1 hx with hx | hx
               ·rw [decide_eq_true_eq] at hx; rw [hx]; exact HKm.out
               ·exact HV3.out x hx
              ·have hfn : (fun x => if (decide (x = k) || P4 x) = true then W'.nodes x else if (W'.after x).isSome = true then none else T.nodes x) = fset (fun x => if P4 x = true then W'.nodes x else if (W'.after x).isSome = true then none else T.nodes x) k (some n) := funext fun x => by
                unfold fset; by_cases hx : x = k
                ·simp [hx, HHn.out]
                ·simp [hx]
               have hfa : (fun x => if (decide (x = k) || P4 x) = true then none else if (W'.after x).isSome = true then W'.after x else if W'.taken x = true then none else T.after x) = fset (fun x => if P4 x = true then none else if (W'.after x).isSome = true then W'.after x else if W'.taken x = true then none else T.after x) k none := funext fun x => by
                unfold fset; by_cases hx : x = k
                ·simp [hx]
                ·simp [hx]
               rw [hfn, hfa]; exact HH9.out
          ·intro k v w5 cnt' hlm hmem hrg5 hlt5 hm5 hen; have h5 := HS4.out.step (hm5.mono (fun j _ e => by rw [e]; exact HSz3.out))
           have hv := qJd HM3.out.nodup hmem; obtain ⟨y, hy, rfl⟩ : ∃ y : Int, W'.after k = some y /\ v = .int .i64 y := by
            rw [HK3.out k] at hv; cases ha : W'.after k with
            | none => rw [ha] at hv; cases hv
            | some y => rw [ha] at hv; exact ⟨y, rfl, (Option.some.inj hv).symm⟩
           obtain ⟨lN, a1, a2, a3⟩ := id h5.tree.nodes; obtain ⟨w6, hdel, hat6, hm6⟩ := qCy (P := Tryz.prog) 0 KI Tryz.underlying81 a1 k; have hdel' : (Builtin.delete_ #[81, 3] 0 #[.map (some B.nb), .int .i64 k]).run Tryz.prog w5 = .ok (.tuple #[]) w6 := hdel; have h6 := h5.setN HNn.out hm6 (qBm.del a1 a2 a3 (.inl (.inr (.inl rfl))) hat6 hm6); obtain ⟨lA, b1, b2⟩ := id h6.tree.after; obtain ⟨w7, hup, hat7, hm7⟩ := qBx (P := Tryz.prog) KI Tryz.underlying82 b1 k (.int .i64 y); have hup' : (Instr.mapUpdate 82 (.map (some B.ab)) (.int .i64 k) (.int .i64 y)).run Tryz.prog w6 = .ok () w7 := hup; have h7 := h6.setA HNn.out hm7 (qCg.put b2 hat7)
           obtain ⟨_, _, _, _, _, _, t6, _, _⟩ := h5.tree.cells; obtain ⟨_, _, _, _, _, _, _, t7, _⟩ := h6.tree.cells; have HH7 := hid h7; have HHy := hid hy; have HLm := hid hlm; have HKm : Hid (k ∈ l3.map (·.1)) := hid (List.mem_map.2 ⟨_, hmem, rfl⟩); have HRg5 := hid ((hrg5.mod hm6 (fun e => h5.apart C.ab (.inr (.inr (.inl rfl))) (by rw [e]; exact .inr (.inl rfl))) (fun e => by have h8 := h5.old B.nb (.inl (.inr (.inl rfl))); have h9 := HSz3.out; omega)).mod hm7 (fun e => h5.apart C.ab (.inr (.inr (.inl rfl))) (by rw [e]; exact .inr (.inr (.inl rfl)))) (fun e => by have h8 := h5.old B.ab (.inl (.inr (.inr (.inl rfl)))); have h9 := HSz3.out; omega))
           replace hen : (Instr.entry (.pointer (some ⟨N3, 0, none⟩))).run Tryz.prog w5 = .ok (.tuple #[.int .i64 k, .int .i64 y]) w5 := hen; have e5 : KI.kv k = Value.int .i64 k := rfl; rw [e5]; clear hv hmem hlm hrg5 hm5 hdel a1 a2 a3 hat6 hm6 h5 h6 h7 b1 b2 hup hat7 hm7 hy; go_wp2_with fail
           go_roundg cnt'
           case measure => omega
           case rel =>
            refine ⟨fun x => decide (x = k) || P3 x, fun x => left3 x /\ x ≠ k, HRg5.out, fun x => ?_, fun x hx => ?_, ?_⟩
            ·show (left3 x /\ x ≠ k) ↔ x ∈ l3.map (·.1) /\ (decide (x = k) || P3 x) = false
             rw [HS2.out x]; simp only [Bool.or_eq_false_iff, decide_eq_false_iff_not]; exact ⟨fun ⟨⟨h1, h2⟩, h3⟩ => ⟨h1, h3, h2⟩, fun ⟨h1, h2, h3⟩ => ⟨⟨h1, h3⟩, h2⟩⟩
            ·rcases Bool.or_eq_true_iff.1 hx with hx | hx
             ·rw [decide_eq_true_eq] at hx; rw [hx]; exact HKm.out
             ·exact HS3.out x hx
            ·have hfn : (fun x => if (decide (x = k) || P3 x) = true then none else T.nodes x) = fset (fun x => if P3 x = true then none else T.nodes x) k none := funext fun x => by
              unfold fset; by_cases hx : x = k
              ·simp [hx]
              ·simp [hx]
             have hfa : (fun x => if (decide (x = k) || P3 x) = true then W'.after x else if W'.taken x = true then none else T.after x) = fset (fun x => if P3 x = true then W'.after x else if W'.taken x = true then none else T.after x) k (some y) := funext fun x => by
              unfold fset; by_cases hx : x = k
              ·simp [hx, HHy.out]
              ·simp [hx]
             rw [hfn, hfa]; exact HH7.out
        ·intro k v w5 cnt' hlm hmem hrg5 hlt5 hm5 hen; have h5 := HR4.out.step (hm5.mono (fun j _ e => by rw [e]; exact Nat.le_refl _))
         have hv := qJd HMk2.out.nodup hmem; obtain ⟨y, rfl⟩ : ∃ y : Int, v = .int .i64 y := by
          cases ht : W'.taken k with
          | false => rw [(HKk2.out k).1 ht] at hv; cases hv
          | true =>
           obtain ⟨y, hy⟩ := (HKk2.out k).2 ht; rw [hy] at hv; exact ⟨y, (Option.some.inj hv).symm⟩
         obtain ⟨lA, a1, a2⟩ := id h5.tree.after; obtain ⟨w6, hdel, hat6, hm6⟩ := qCy (P := Tryz.prog) 0 KI Tryz.underlying82 a1 k; have hdel' : (Builtin.delete_ #[82, 3] 0 #[.map (some B.ab), .int .i64 k]).run Tryz.prog w5 = .ok (.tuple #[]) w6 := hdel; have h6 := h5.setA HNn.out hm6 (qCg.del a1 a2 hat6); obtain ⟨_, _, _, _, _, _, _, t7, _⟩ := h5.tree.cells; have HH6 := hid h6; have HLm := hid hlm; have HKm : Hid (k ∈ lk.map (·.1)) := hid (List.mem_map.2 ⟨_, hmem, rfl⟩); have HRg5 := hid (hrg5.mod hm6 (fun e => h5.apart C.kb (.inr (.inr (.inr rfl))) (by rw [e]; exact .inr (.inr (.inl rfl)))) (fun e => by have := h5.old B.ab (.inl (.inr (.inr (.inl rfl)))); omega))
         replace hen : (Instr.entry (.pointer (some ⟨N, 0, none⟩))).run Tryz.prog w5 = .ok (.tuple #[.int .i64 k, .int .i64 y]) w5 := hen; have e5 : KI.kv k = Value.int .i64 k := rfl; rw [e5]; clear hv hmem hlm hrg5 hm5 hdel a1 a2 hat6 hm6 h5 h6; go_wp2_with fail
         go_roundg cnt'
         case measure => omega
         case rel =>
          refine ⟨fun x => decide (x = k) || P x, fun x => left x /\ x ≠ k, HRg5.out, fun x => ?_, fun x hx => ?_, ?_⟩
          ·show (left x /\ x ≠ k) ↔ x ∈ lk.map (·.1) /\ (decide (x = k) || P x) = false
           rw [HR2.out x]; simp only [Bool.or_eq_false_iff, decide_eq_false_iff_not]; exact ⟨fun ⟨⟨h1, h2⟩, h3⟩ => ⟨h1, h3, h2⟩, fun ⟨h1, h2, h3⟩ => ⟨⟨h1, h3⟩, h2⟩⟩
          ·rcases Bool.or_eq_true_iff.1 hx with hx | hx
           ·rw [decide_eq_true_eq] at hx; rw [hx]; exact HKm.out
           ·exact HR3.out x hx
          ·have hfe : (fun x => if (decide (x = k) || P x) = true then none else T.after x) = fset (fun x => if P x = true then none else T.after x) k none := funext fun x => by
            unfold fset; by_cases hx : x = k
            ·simp [hx]
            ·simp [hx]
           rw [hfe]; exact HH6.out
      ·have dz : (E == 0) = false := by rw [beq_eq_false_iff_ne]; exact he
       have HNe := hid he; go_wp2_with (go_at_call 35; refine HCm.out.mono ?_; rintro e w7 ⟨rfl, hd7, hm7⟩; have HT7 := hid (qQz HT6.out (fun _ e => e) hm7 hd7 (qIk _ _ _)); have HM7 := hid hm7; obtain ⟨_, _, _, _, _, _, _, _, e8⟩ := HT7.out.cells; have f8 := frozen_of_row w7 B.tb 8 _ _ HT7.out.box; clear hd7 hm7)
       go_ret; refine ⟨ls, ln, la, HLd.out, .inr (.inr (.inr (.inl ⟨hf, by omega, fun e => h0 (by rw [e]; rfl), by rw [HEq.out]; exact HNe.out, by rw [HEq.out]; rfl, ?_, ?_⟩)))⟩
       ·rw [HEq.out]; exact jEl HT7.out (fun _ e => e) _
       ·exact ((HMw.out.mono (fun _ _ e => e.elim)).trans (HM7.out.mono (fun _ _ e => .inr (.inr (.inr (.inr e)))))).setCell (p := ⟨B.tb, 8, none⟩) (fun _ => .inl rfl) _
end
end Go.Proofs.YtkinkgbmlhiakaaGreatDoor
