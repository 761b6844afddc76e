/- merged: TwX TwG TwY TrZ TwZ TeHolds TeAppl TeCutO -/
import Derived.Test.YtgbcibdfeeiilaaGreatDoorMe33
import Derived.Test.YtgbcibdfeeiilaaGreatDoorMe25
import Derived.Test.YtgbcibdfeeiilaaGreatDoorMe32
import Derived.Test.YtgbcibdfeeiilaaGreatDoorMe12
namespace Go.Proofs.YtgbcibdfeeiilaaGreatDoor
section
open Go Go.RowKit
attribute [local go_sem] Oper.semAt_some
theorem qYa {J : List KV -> World -> Prop} {B : Nat} (h : AbidesFrom B J) : ∀ pre W W', J pre W -> Mod (fun _ => False) W W' -> J pre W' := fun pre W W' hj hm => h pre W W' none hj ⟨hm.os, hm.tape, hm.output, hm.size, fun k hk _ => hm.block k hk (fun e => e)⟩ (fun r e => by cases e)
theorem qYc {P : Program} {l m m' : Nat} {args : Array Value} {W : World} {R : Ending -> World -> Prop} (h : YieldAt Fence.wide m P l args W R) : YieldAt Fence.wide m' P l args W R := by
 obtain ⟨fn, tmps, assign, body, hy, hR⟩ := h; exact ⟨fn, tmps, assign, body, hy, hR.1, fun c cs _ => hR.2 c cs (room_wide _)⟩
set_option maxRecDepth 100000
set_option maxHeartbeats 1000000 in
theorem qWy {n₀ l F bt bf : Nat} {B : TB} {T : TM} {D : Dsk} {off : Bool} {J Jx : List KV -> World -> Prop} (hJ : ∀ pre W W', J pre W -> Mod (fun _ => False) W W' -> J pre W') {key : ByteArray} {L : List KV}
  (hY : ∀ m pre x W, J pre W -> pre.length < L.length -> YieldAt Fence.wide m Tryz.prog l #[.agg #[.string x.1, .string x.2]] W fun e W' => (e = .returned (.bool true) /\ J (pre ++ [x]) W' /\ Kp n₀ W W') \/ (e = .returned (.bool false) /\ Jx (pre ++ [x]) W'))
  (hL : qFl T.nodes F T.root key = some L) {W : World} (ht : TW n₀ B T D off W) (hj : J [] W) (hbt : W.cell? ⟨bt, 0, none⟩ = some (.pointer (some ⟨B.tb, 0, none⟩))) (hbf : W.cell? ⟨bf, 0, none⟩ = some (.string key)) :
  Calls Tryz.prog 55 #[.func (.yield l) #[] #[], .pointer (some ⟨bt, 0, none⟩), .pointer (some ⟨bf, 0, none⟩)] W fun e W' => (∃ v, e = .returned v) /\ ((∃ xs, xs = L /\ J xs W') \/ ∃ pre, pre <+: L /\ Jx pre W') := by
 have HW := hid (fun (z : World) (hm : Mod (fun _ => False) W z) => jCx hJ key hY F T.root L [] z hL (ht.below (hm.below ht.2.2 (fun _ e => e.elim))) (hJ _ _ _ hj hm) (by simp))
 obtain ⟨c0, _⟩ := ht.1.cells; have g0 := fun y : Ext W => y.cell c0
 have g1 := fun y : Ext W => y.cell hbt
 have g2 := fun y : Ext W => y.cell hbf
 clear hJ hY hL ht hj hbt hbf c0; go_enter Tryz.func55, Tryz.ntmps55
 refine qAm 8 (by kernel_rfl) (by kernel_rfl) ?_
 simp only [List.take_succ_cons, List.take_zero, List.drop_succ_cons, List.drop_zero]; repeat (go_big_quiet_step (fail))
 refine wpQuiet_nil ?_; rintro _ ⟨z, rfl⟩; have HC := hid (HW.out z.val z.mod); clear g0 g1 g2; go_wp2_with (go_at_call 56; refine HC.out.mono ?_; rintro e w4 (⟨rfl, hj4, hk4⟩ | ⟨rfl, q4, hq4, hx4⟩))
 ·go_end0; exact ⟨⟨_, rfl⟩, .inl ⟨L, rfl, hj4⟩⟩
 ·go_end0; exact ⟨⟨_, rfl⟩, .inr ⟨q4, hq4, hx4⟩⟩
theorem qTc {n₀ n F bt bf : Nat} {B : TB} {T : TM} {D : Dsk} {off : Bool} {key : ByteArray} {L : List KV} (hL : qFl T.nodes F T.root key = some L) {w : World} (ht : TW n₀ B T D off w)
  (hbt : w.cell? ⟨bt, 0, none⟩ = some (.pointer (some ⟨B.tb, 0, none⟩))) (hbf : w.cell? ⟨bf, 0, none⟩ = some (.string key)) (h1 : bt < w.heap.size) (h2 : bf < w.heap.size) :
  SeqStopsK Fence.wide n Tryz.prog 55 #[.pointer (some ⟨bt, 0, none⟩), .pointer (some ⟨bf, 0, none⟩)] (fun x : KV => #[Value.agg #[.string x.1, .string x.2]]) (Kp n₀) (fun ys => ys = L) (fun pre => pre <+: L) L.length w := fun _ _ _ _ hW hJa _ hY h0 =>
 callsIn_wide.2 (qWy (qYa hJa) (fun _m pre x W1 hj hl => qYc (hY pre x W1 hj hl)) hL (ht.below (hW.mono ht.2.2)) h0 ((hW.cell (p := ⟨bt, 0, none⟩) h1).trans hbt) ((hW.cell (p := ⟨bf, 0, none⟩) h2).trans hbf))
theorem qZn (w : World) (tb : Nat) (key : ByteArray) : Calls Tryz.prog 31 #[.pointer (some ⟨tb, 0, none⟩), .string key] w fun e w' => e = .returned (.func (.func 55) #[] #[.pointer (some ⟨w.heap.size, 0, none⟩), .pointer (some ⟨w.heap.size + 1, 0, none⟩)]) /\ w' = (w.alloc (.cells #[.pointer (some ⟨tb, 0, none⟩)] 24)).alloc (.cells #[.string key] 9) := by
 go_enter Tryz.func31, Tryz.ntmps31
 go_wp2
 go_ret; exact ⟨rfl, rfl⟩
theorem jJj : (Tryz.prog.info? 32).map (fun i => (i.zero, i.size, i.bytes)) = some (some (.agg #[.string ⟨#[]⟩, .string ⟨#[]⟩]), 2, 32) := by kernel_rfl
structure qQl (w W : World) (most : Int) (pre : List KV) : Prop where
 out : ∃ la cap, W.heap[w.heap.size + 1]? = some (.cells #[.slice la pre.length cap] 22 (0, 0)) /\ Own W 32 2 la pre.length cap (pre.flatMap kcs) /\ ∀ b, blk la b -> w.heap.size <= b
 most : W.heap[w.heap.size]? = some (.cells #[.int .i64 most] 3 (0, 0))
 mod : Mod (fun _ => False) w W
theorem Own.cells {w : World} {e : TypeId} {size : Nat} {sa : Option Addr} {n cap : Nat} {xs : List Value} (h : Own w e size sa n cap xs) {k : Nat} (hk : blk sa k) : ∃ cur, w.heap[k]? = some (.cells cur e (0, 0)) := by
 obtain ⟨a, rfl, rfl⟩ := hk; rcases h.2.2.2 with ⟨h0, _⟩ | ⟨g, off, cur, h1, h2, _⟩
 ·cases h0
 ·cases h1; exact ⟨cur, h2⟩
theorem qQl.turn {w X Y : World} {most : Int} {pre : List KV} {row : Option Nat} {B : Nat} (h : qQl w X most pre) (hg : X.grownBy Y row) (hr : ∀ r, row = some r -> B <= r /\ ∃ o : Obj, X.heap[r]? = some o /\ o.isCells = false) (hB : w.heap.size <= B) : qQl w Y most pre := by
 have hm : Mod (fun k => row = some k) X Y := ⟨hg.os, hg.tape, hg.output, hg.size, fun k hk hn => hg.block k hk (fun e => hn e.symm)⟩
 have hnc : ∀ k cs t, X.heap[k]? = some (.cells cs t (0, 0)) -> row ≠ some k := fun k cs t hk e => by
  obtain ⟨_, o, ho, hc⟩ := hr k e; rw [hk] at ho; cases ho; cases hc
 obtain ⟨la, cap, h1, h2, h3⟩ := h.out; refine ⟨⟨la, cap, (hm.block _ (lth h1) (hnc _ _ _ h1)).trans h1, h2.mod hm (fun k hk e => ?_), h3⟩, (hm.block _ (lth h.most) (hnc _ _ _ h.most)).trans h.most, h.mod.then hm (fun k hk e => ?_)⟩
 ·obtain ⟨cur, hc⟩ := h2.cells hk; exact hnc _ _ _ hc e
 ·have h4 := (hr k e).1; omega
def qQk (w : World) (L : List KV) (e : Ending) (w' : World) : Prop := ∃ la cap, e = .returned (.slice la L.length cap) /\ Own w' 32 2 la L.length cap (L.flatMap kcs) /\ (∀ b, blk la b -> w.heap.size <= b) /\ Mod (fun _ => False) w w'
theorem qUq {w W : World} {most : Int} {pre L : List KV} {la : Option Addr} {cap D : Nat} {ds : List Deferred} {o' : Obj} (h : qQl w W most pre) (ho : Own W 32 2 la pre.length cap (pre.flatMap kcs)) (hb : ∀ b, blk la b -> w.heap.size <= b) (hK : W.heap[D]? = some (.deferred (some ds))) (hD : w.heap.size <= D) (hL : L = pre) :
  qQk w L (.returned (.slice la pre.length cap)) (W.putObj D o') := by
 subst hL; have hm : Mod (fun k => k = D) W (W.putObj D o') := ⟨rfl, rfl, rfl, by simp, fun k _ hk => World.putObj_heap_other hk⟩
 refine ⟨la, cap, rfl, ho.mod hm (fun k hk e => ?_), hb, h.mod.then hm (fun k hk e => by omega)⟩
 obtain ⟨cur, hc⟩ := ho.cells hk; rw [e, hK] at hc; cases hc
theorem jEq {n₀ : Nat} {W : World} {l : Nat} {o : Obj} (o' : Obj) (hn : n₀ <= l) (h : W.heap[l]? = some o) (hc : o.isCells = false) : Kp n₀ W (W.putObj l o') :=
 ⟨⟨rfl, rfl, rfl, by simp, fun k hk => World.putObj_heap_other (by omega)⟩, fun k vs hk => (World.putObj_heap_other (fun e => by rw [e, h] at hk; cases hk; cases hc)).trans hk⟩
theorem qZb (w : World) (v : Value) (most : Int) : Calls Tryz.prog 10 #[.pointer none, v, .int .i64 most] w fun e w' => e = .returned (.slice none 0 0) /\ Mod (fun _ => False) w w' := by
 go_enter Tryz.func10, Tryz.ntmps10
 go_wp2
 go_ret; exact ⟨rfl, (Mod.refl _ _).alloc _⟩
theorem qPa {S : Nat -> Prop} {w : World} {B : TB} {T : TM} {D : Dsk} {off : Bool} (h : qAp S w B T D off) {most : Int} (hm : T.root = 0 \/ most < 1) (v : Value) : Calls Tryz.prog 10 #[.pointer (some ⟨B.tb, 0, none⟩), v, .int .i64 most] w fun e w' => e = .returned (.slice none 0 0) /\ Mod (fun _ => False) w w' := by
 have hma : Mod (fun _ => False) w (w.alloc (.cells #[.int .i64 most] 3)) := (Mod.refl _ w).alloc _
 obtain ⟨c0, _⟩ := (h.mod hma (fun _ e => e.elim) (fun _ e => e.elim)).cells
 have hM := hid hma; clear h hma; by_cases h0 : T.root = 0
 ·rw [h0] at c0; clear hm h0; go_enter Tryz.func10, Tryz.ntmps10
  go_wp2
  go_ret; exact ⟨rfl, hM.out⟩
 ·have d0 : (T.root == 0) = false := by rw [beq_eq_false_iff_ne]; exact h0
  have d1 : decide (most < 1) = true := by simpa using hm.resolve_left h0
  clear hm h0; go_enter Tryz.func10, Tryz.ntmps10
  go_wp2
  go_ret; exact ⟨rfl, hM.out⟩
set_option maxHeartbeats 4000000 in
theorem qUr {w : World} {B : TB} {T : TM} {D : Dsk} {off : Bool} (h : qAp (TS B) w B T D off) (h0 : T.root ≠ 0) {most : Int} (hm : 1 <= most) {F : Nat} {key : ByteArray} {L : List KV} (hL : qFl T.nodes F T.root key = some L) (hb : L.length <= 1099511627776) :
  Calls Tryz.prog 10 #[.pointer (some ⟨B.tb, 0, none⟩), .string key, .int .i64 most] w (qQk w (L.take most.toNat)) := by
 obtain ⟨i0, hi, hz0, hz1, hz2⟩ := info_parts jJj; obtain ⟨c0, _⟩ := h.cells; have d0 : (T.root == 0) = false := by rw [beq_eq_false_iff_ne]; exact h0
 have d1 : decide (most < 1) = false := by simpa using hm
 have HT := hid (TW.start h); have c0' : (w.alloc (.cells #[.int .i64 most] 3)).cell? ⟨B.tb, 0, none⟩ = some (.int .i64 T.root) := (((Mod.refl (fun _ => False) w).alloc _).cell (p := ⟨B.tb, 0, none⟩) (lth h.box) (fun e => e)).trans c0
 have HL := hid hL; have HB := hid hb; clear h h0 hm hL hb; refine (callsIn_wide (n := 3)).1 ?_; refine callsIn_of_wp_marks Tryz.func10 rfl trivial ?_ rfl; simp only [Tryz.ntmps10, List.size_toArray, List.length_cons, List.length_nil, Nat.reduceAdd, Nat.reduceSub, Array.replicate_succ, Array.replicate_zero, List.push_toArray, List.append_toArray, List.nil_append, List.cons_append]; refine wpIn_wide.2 ?_; go_wp2_with (go_at_call 31; refine (qZn _ _ _).mono ?_; rintro e w' ⟨rfl, rfl⟩)
 have hsz : ((((w.alloc (.cells #[.int .i64 most] 3)).alloc (.cells #[.slice none 0 0] 22)).alloc (.cells #[.pointer (some ⟨B.tb, 0, none⟩)] 24)).alloc (.cells #[.string key] 9)).heap.size = w.heap.size + 4 := by simp
 have hM0 : Mod (fun _ => False) w ((((w.alloc (.cells #[.int .i64 most] 3)).alloc (.cells #[.slice none 0 0] 22)).alloc (.cells #[.pointer (some ⟨B.tb, 0, none⟩)] 24)).alloc (.cells #[.string key] 9)) := ((((Mod.refl _ _).alloc _).alloc _).alloc _).alloc _
 have hB0 := qAo (((((Mod.refl (fun _ => False) (w.alloc (.cells #[.int .i64 most] 3))).alloc (.cells #[.slice none 0 0] 22)).alloc (.cells #[.pointer (some ⟨B.tb, 0, none⟩)] 24)).alloc (.cells #[.string key] 9))) (heap_alloc_new w (.cells #[.int .i64 most] 3))
 have hB1 := qAo (((Mod.refl (fun _ => False) ((w.alloc (.cells #[.int .i64 most] 3)).alloc (.cells #[.slice none 0 0] 22))).alloc (.cells #[.pointer (some ⟨B.tb, 0, none⟩)] 24)).alloc (.cells #[.string key] 9)) (heap_alloc_new (w.alloc (.cells #[.int .i64 most] 3)) (.cells #[.slice none 0 0] 22))
 have hB2 := qAo ((Mod.refl (fun _ => False) (((w.alloc (.cells #[.int .i64 most] 3)).alloc (.cells #[.slice none 0 0] 22)).alloc (.cells #[.pointer (some ⟨B.tb, 0, none⟩)] 24))).alloc (.cells #[.string key] 9)) (heap_alloc_new ((w.alloc (.cells #[.int .i64 most] 3)).alloc (.cells #[.slice none 0 0] 22)) (.cells #[.pointer (some ⟨B.tb, 0, none⟩)] 24))
 have hB3 := heap_alloc_new (((w.alloc (.cells #[.int .i64 most] 3)).alloc (.cells #[.slice none 0 0] 22)).alloc (.cells #[.pointer (some ⟨B.tb, 0, none⟩)] 24)) (.cells #[.string key] 9); simp only [World.size_alloc] at hB1 hB2 hB3; generalize ((((w.alloc (.cells #[.int .i64 most] 3)).alloc (.cells #[.slice none 0 0] 22)).alloc (.cells #[.pointer (some ⟨B.tb, 0, none⟩)] 24)).alloc (.cells #[.string key] 9)) = W0 at *; have hT0 : TW w.heap.size B T D off W0 := HT.out.below (hM0.below (Nat.le_refl _) (fun _ e => e.elim))
 have hI0 : qQl w W0 most [] := ⟨⟨none, 0, hB1, Own.nil _ _ _, fun k hk => (qAl k hk).elim⟩, hB0, hM0⟩
 refine wpIn_wide.1 (wpIn_rangeFunc_ownH (n := 3) rfl (by omega) (gf := 55) (lb := #[.pointer (some ⟨w.heap.size + 1 + 1, 0, none⟩), .pointer (some ⟨w.heap.size + 1 + 1 + 1, 0, none⟩)]) rfl trivial (enters_of Tryz.func55 (by kernel_rfl) rfl)
  (qTc HL.out hT0 (by rw [cell_of_row _ _ _ _ _ _ hB2]; rfl) (by rw [cell_of_row _ _ _ _ _ _ hB3]; rfl) (by omega) (by omega)) (fun h k => h.trans k) (fun W l o o' hl hk hc _ => jEq o' (by omega) hk hc) (RowKit.Below.refl _ _) (fun _ => rfl)
  (fun pre W => qQl w W most pre /\ (pre.length : Int) < most)
  (fun c pre W => c = .exit 0 /\ qQl w W most pre /\ (pre.length : Int) = most)
  (fun s X Y row hs hg hr => ⟨hs.1.turn hg hr (by omega), hs.2⟩)
  (fun c s X Y row hs hg hr => ⟨hs.1, hs.2.1.turn hg hr (by omega), hs.2.2⟩)
  ⟨hI0, by have h1 : ¬ most < 1 := (by simpa using d1); simp; omega⟩
  (fun x a' W => ∃ Bx, W.heap[Bx]? = some (.cells #[.string x.1, .string x.2] 32 (0, 0)) /\ a' = { tmps := #[.pointer (some ⟨B.tb, 0, none⟩), .string key, .int .i64 most, undef, undef, .pointer (some ⟨w.heap.size, 0, none⟩), .slice none 0 0, .pointer (some ⟨w.heap.size + 1, 0, none⟩), .pointer (some ⟨Bx, 0, none⟩), .pointer (some ⟨B.tb, 0, none⟩), .bool false, .bool false, .pointer (some ⟨B.tb, 0, none⟩), .pointer (some ⟨B.tb, 0, none⟩), .pointer (some ⟨B.tb, 0, none⟩), .pointer (some ⟨B.tb, 0, none⟩), .int .i64 T.root, .bool false, .bool false, .bool false, .int .i64 most, .bool false, .bool false, .pointer (some ⟨B.tb, 0, none⟩), .string key, .func (.func 55) #[] #[.pointer (some ⟨w.heap.size + 1 + 1, 0, none⟩), .pointer (some ⟨w.heap.size + 1 + 1 + 1, 0, none⟩)], .agg #[.string x.1, .string x.2], undef, undef, undef, undef, undef, undef, undef, undef, undef], defers := [] })
  (fun x a' _ X Y row hs hg hr => by
   obtain ⟨Bx, h1, h3⟩ := hs; refine ⟨Bx, (hg.block Bx (lth h1) (fun e => ?_)).trans h1, h3⟩
   obtain ⟨_, o, ho, hc⟩ := hr Bx e.symm; rw [h1] at ho; cases ho; cases hc)
  ?assign ?body ?done ?stop)
 case assign =>
  rintro l pre x W K ⟨hI, hlt⟩ hK; have hma : Mod (fun _ => False) W (W.alloc (.cells #[.string x.1, .string x.2] 32)) := (Mod.refl _ _).alloc _
  gi_wp2
  have hIa : qQl w (W.alloc (.cells #[.string x.1, .string x.2] 32)) most pre := hI.turn (row := none) ⟨hma.os, hma.tape, hma.output, hma.size, fun k hk _ => hma.block k hk (fun e => e)⟩ (fun r e => by cases e) (Nat.le_refl _)
  exact hK _ _ ((KeepsOthers.alloc _ _).from _) (Kp.of_mod hma hI.mod.size) ⟨hIa, hlt⟩ ⟨W.heap.size, heap_alloc_new _ _, rfl⟩
 case body =>
  rintro l pre x a' W hl ⟨r, hr⟩ ⟨hI, hlt⟩ ⟨Bx, hBx, rfl⟩ hlen; obtain ⟨la, cap, hbo, hown, hbl⟩ := hI.out; obtain ⟨x1, x2⟩ := x; have q0 : W.cell? ⟨Bx, 0, none⟩ = some (.string x1) := by rw [cell_of_row _ _ _ _ _ _ hBx]; rfl
  have q1 : W.cell? ⟨Bx, 1, none⟩ = some (.string x2) := by rw [cell_of_row _ _ _ _ _ _ hBx]; rfl
  have qo : W.cell? ⟨w.heap.size + 1, 0, none⟩ = some (.slice la pre.length cap) := by rw [cell_of_row _ _ _ _ _ _ hbo]; rfl
  have HI := hid hI; have HO := hid hown; have HBl := hid hbl; have HBo := hid hbo; have hpl : pre.length < L.length := hlen; have hpb : pre.length + 1 <= 1099511627776 := by have := HB.out; omega
  have HLt := hid hlt; clear hI hr hBx hbo hown hbl hlen hlt; have HNb : Hid (¬ blk la (w.heap.size + 1)) := hid (fun e => by
   obtain ⟨cur, hc⟩ := HO.out.cells e; rw [HBo.out] at hc; cases hc)
  have HNm : Hid (¬ blk la w.heap.size) := hid (fun e => by
   obtain ⟨cur, hc⟩ := HO.out.cells e; rw [HI.out.most] at hc; cases hc)
  have HFin : Hid (∀ (w5 : World) (la5 : Option Addr) (cap5 : Nat), Mod (blk la) W w5 -> w5.heap[w.heap.size + 1]? = some (.cells #[.slice la pre.length cap] 22 (0, 0)) -> w5.heap[w.heap.size]? = some (.cells #[.int .i64 most] 3 (0, 0)) -> Own w5 32 2 la5 (pre.length + 1) cap5 (pre.flatMap kcs ++ [.string x1, .string x2]) -> (∀ k, blk la5 k -> w.heap.size <= k) →
    KeepsFrom W0.heap.size W (w5.setCell ⟨w.heap.size + 1, 0, none⟩ (.slice la5 (pre.length + 1) cap5)) /\ Kp w.heap.size W (w5.setCell ⟨w.heap.size + 1, 0, none⟩ (.slice la5 (pre.length + 1) cap5)) /\ qQl w (w5.setCell ⟨w.heap.size + 1, 0, none⟩ (.slice la5 (pre.length + 1) cap5)) most (pre ++ [(x1, x2)])) := hid (fun w5 la5 cap5 hm5 hb5 hbm5 ho5 hbl5 => by
   have hm6 : Mod (fun k => blk la k \/ k = w.heap.size + 1) W (w5.setCell ⟨w.heap.size + 1, 0, none⟩ (.slice la5 (pre.length + 1) cap5)) := (hm5.mono (fun k _ e => .inl e)).setCell (p := ⟨w.heap.size + 1, 0, none⟩) (fun _ => .inr rfl) _
   have hmS : Mod (fun k => k = w.heap.size + 1) w5 (w5.setCell ⟨w.heap.size + 1, 0, none⟩ (.slice la5 (pre.length + 1) cap5)) := Mod.setCell (S := fun k => k = w.heap.size + 1) (p := ⟨w.heap.size + 1, 0, none⟩) (Mod.refl _ _) (fun _ => rfl) _
   have hcl : ∀ k, (blk la k \/ k = w.heap.size + 1) -> ∃ cur t, W.heap[k]? = some (.cells cur t (0, 0)) /\ t ≠ 116 := fun k hk => by
    rcases hk with hk | hk
    ·obtain ⟨cur, hc⟩ := HO.out.cells hk; exact ⟨cur, _, hc, by decide⟩
    ·rw [hk]; exact ⟨_, _, HBo.out, by decide⟩
   refine ⟨qPs _ hm6 (fun k o hk ho => ?_), ⟨hm6.below HI.out.mod.size (fun k hk => ?_), fun k vs hk => (hm6.block k (lth hk) (fun e => ?_)).trans hk⟩, ⟨la5, cap5, ?_, ?_, hbl5⟩, (hmS.block _ (lth hbm5) (by omega)).trans hbm5, HI.out.mod.then hm6 (fun k hk e => ?_)⟩
   ·obtain ⟨cur, t, hc, _⟩ := hcl k hk; rw [ho] at hc; cases hc; rfl
   ·rcases hk with hk | hk
    ·exact HBl.out k hk
    ·omega
   ·obtain ⟨cur, t, hc, hne⟩ := hcl k e; rw [hk] at hc; cases hc
    exact hne rfl
   ·rw [qAh hb5, List.length_append]; rfl
   ·rw [jEu, List.length_append]; refine ho5.mod hmS (fun k hk e => ?_)
    obtain ⟨cur, hc⟩ := ho5.cells hk; rw [e, hb5] at hc; cases hc
   ·rcases e with e | e
    ·have := HBl.out k e; omega
    ·omega)
  by_cases he : (pre.length : Int) + 1 = most
  ·have dE : (((pre.length : Int) + 1) == most) = true := by rw [beq_iff_eq]; exact he
   gi_wp2_with (gi_at_builtin; refine qEr rfl (.tmp 27) (.tmp 29) 22 rfl 32 i0 _ 2 32 Tryz.underlying22 hi hz0 hz1 hz2 rfl la pre.length cap _ rfl (qRg HO.out _) (some ⟨W.heap.size, 0, none⟩) 1 1 _ rfl (qVg _ _ _) qVh (by unfold maxLen; omega) (by omega) ?_; intro la5 cap5 w5 hown5 hmo5 hbo5 hn5 hr5; have HM5 : Hid (Mod (blk la) W w5) := hid (((Mod.refl _ W).alloc _).trans hmo5); have hb5 : w5.heap[w.heap.size + 1]? = some (.cells #[.slice la pre.length cap] 22 (0, 0)) := (HM5.out.block _ (lth HBo.out) HNb.out).trans HBo.out; have hm5 : w5.heap[w.heap.size]? = some (.cells #[.int .i64 most] 3 (0, 0)) := (HM5.out.block _ (lth HI.out.most) HNm.out).trans HI.out.most; have HB5 := hid hb5; have HMo5 := hid hm5; have HO5 := hid hown5; have HBl5 : Hid (∀ k, blk la5 k -> w.heap.size <= k) := hid (fun k hk => (hbo5 k hk).elim (fun e => HBl.out k e) (fun e => by have h1 := HI.out.mod.size; simp at e; omega)); have z1 := cell_of_row w5 (w.heap.size + 1) 0 _ _ _ hb5; have z2 := frozen_of_row w5 (w.heap.size + 1) 0 _ _ hb5; have z3 := cell_of_row w5 w.heap.size 0 _ _ _ hm5; simp only [List.getElem?_toArray, List.getElem?_cons_zero] at z1 z3; clear hown5 hmo5 hbo5 hn5 hr5 hb5 hm5)
   obtain ⟨f1, f2, f3⟩ := HFin.out w5 la5 cap5 HM5.out HB5.out HMo5.out HO5.out HBl5.out; exact ⟨f1, rfl, f3, by rw [List.length_append]; simpa using he⟩
  ·have dE : (((pre.length : Int) + 1) == most) = false := by rw [beq_eq_false_iff_ne]; exact he
   gi_wp2_with (gi_at_builtin; refine qEr rfl (.tmp 27) (.tmp 29) 22 rfl 32 i0 _ 2 32 Tryz.underlying22 hi hz0 hz1 hz2 rfl la pre.length cap _ rfl (qRg HO.out _) (some ⟨W.heap.size, 0, none⟩) 1 1 _ rfl (qVg _ _ _) qVh (by unfold maxLen; omega) (by omega) ?_; intro la5 cap5 w5 hown5 hmo5 hbo5 hn5 hr5; have HM5 : Hid (Mod (blk la) W w5) := hid (((Mod.refl _ W).alloc _).trans hmo5); have hb5 : w5.heap[w.heap.size + 1]? = some (.cells #[.slice la pre.length cap] 22 (0, 0)) := (HM5.out.block _ (lth HBo.out) HNb.out).trans HBo.out; have hm5 : w5.heap[w.heap.size]? = some (.cells #[.int .i64 most] 3 (0, 0)) := (HM5.out.block _ (lth HI.out.most) HNm.out).trans HI.out.most; have HB5 := hid hb5; have HMo5 := hid hm5; have HO5 := hid hown5; have HBl5 : Hid (∀ k, blk la5 k -> w.heap.size <= k) := hid (fun k hk => (hbo5 k hk).elim (fun e => HBl.out k e) (fun e => by have h1 := HI.out.mod.size; simp at e; omega)); have z1 := cell_of_row w5 (w.heap.size + 1) 0 _ _ _ hb5; have z2 := frozen_of_row w5 (w.heap.size + 1) 0 _ _ hb5; have z3 := cell_of_row w5 w.heap.size 0 _ _ _ hm5; simp only [List.getElem?_toArray, List.getElem?_cons_zero] at z1 z3; clear hown5 hmo5 hbo5 hn5 hr5 hb5 hm5)
   obtain ⟨f1, f2, f3⟩ := HFin.out w5 la5 cap5 HM5.out HB5.out HMo5.out HO5.out HBl5.out; exact ⟨f1, f2, f3, by rw [List.length_append]; have h1 := HLt.out; simp; omega⟩
 case done =>
  rintro D ys W hD rfl ⟨hI, hlt⟩ hK; obtain ⟨la, cap, hbo, hown, hbl⟩ := hI.out; have qo := cell_of_row _ (w.heap.size + 1) 0 _ _ _ hbo; simp only [List.getElem?_toArray, List.getElem?_cons_zero] at qo; have HF := hid (fun o' => qUq (o' := o') hI hown hbl hK (by omega) (List.take_of_length_le (by omega : ys.length <= most.toNat)))
  clear hI hbo hown hbl hlt; go_wp2_with fail
  refine ⟨by simp, .inl ⟨_, _, rfl, run_takeDeferred hK, ?_⟩⟩
  refine ⟨_, results_tmp rfl _ _ _, ?_⟩; go_simp; exact HF.out _
 case stop =>
  rintro D c pre W hD hpre ⟨rfl, hI, hlt⟩ hK; obtain ⟨la, cap, hbo, hown, hbl⟩ := hI.out; have qo := cell_of_row _ (w.heap.size + 1) 0 _ _ _ hbo; simp only [List.getElem?_toArray, List.getElem?_cons_zero] at qo; have hLp : L.take most.toNat = pre := by
   have h9 : pre <+: L := hpre; rw [show most.toNat = pre.length by omega]
   exact (List.prefix_iff_eq_take.1 h9).symm
  have HF := hid (fun o' => qUq (o' := o') hI hown hbl hK (by omega) hLp)
  clear hI hbo hown hbl hlt hpre hLp; refine wpIn_wide.2 ?_; go_wp2_with fail
  refine ⟨by simp, .inl ⟨_, _, rfl, run_takeDeferred hK, ?_⟩⟩
  refine ⟨_, results_tmp rfl _ _ _, ?_⟩; go_simp; exact HF.out _
end
section
open Go Go.RowKit
set_option maxRecDepth 100000
theorem qUm {S : Nat -> Prop} {w : World} {B : TB} {T : TM} {D : Dsk} {off : Bool} (h : qAp S w B T D off) : Calls Tryz.prog 11 #[.pointer (some ⟨B.tb, 0, none⟩)] w fun e w' => e = .returned (.int .i64 T.count) /\ w = w' := by
 obtain ⟨_, _, _, c3, _⟩ := h.cells; clear h; go_enter Tryz.func11, Tryz.ntmps11
 go_wp2
 go_ret; exact ⟨rfl, rfl⟩
theorem qYx {S : Nat -> Prop} {w : World} {B : TB} {T : TM} {D : Dsk} {off : Bool} (h : qAp S w B T D off) : Calls Tryz.prog 29 #[.pointer (some ⟨B.tb, 0, none⟩)] w fun e w' => (∃ dom : List Int, dom.Nodup /\ (∀ x, x ∈ dom ↔ (T.nodes x).isSome = true) /\ e = .returned (.int .i64 (wrap64 ((dom.length : Int) + 1)))) /\ w = w' := by
 obtain ⟨_, _, _, _, _, _, c6, _⟩ := h.cells; obtain ⟨l, hl1, hl2, hl3⟩ := h.nodes; have hm1 : qBj KI.kv w B.nb l := hl1; have HD : Hid ((l.map (·.1)).Nodup /\ ∀ x, x ∈ l.map (·.1) ↔ (T.nodes x).isSome = true) := hid ⟨(by obtain ⟨_, _, _, _, hnd, _⟩ := hm1; exact hnd), fun x => by
  rw [<- qAt]; cases hx : T.nodes x with
  | none => rw [hl2 x hx]; simp
  | some n => obtain ⟨_, m, h2, _⟩ := hl3 x n hx; rw [h2]; simp⟩
 have HMp := hid hm1; clear h hl2 hl3 hl1 hm1; go_enter Tryz.func29, Tryz.ntmps29
 go_wp2_with (refine qOx rfl _ 76 rfl Tryz.underlying76 B.nb _ rfl HMp.out ?_)
 go_ret; exact ⟨⟨l.map (·.1), HD.out.1, HD.out.2, by rw [List.length_map]; rfl⟩, rfl⟩
end
section
open Go Go.RowKit
structure Here (w : World) (B : TB) (T : TM) (D : Dsk) (k : Nat) (l : List KV) (N : Nat) : Prop where
 tree : qAp (TS B) w B T D false
 lit : Lit D k
 std : Std B.room D T l N
 ne : B.nb ≠ B.ab
theorem Here.ext {w w' : World} {B : TB} {T : TM} {D : Dsk} {k : Nat} {l : List KV} {N : Nat} (h : Here w B T D k l N) (hm : Mod (fun _ => False) w w') : Here w' B T D k l N := ⟨h.tree.mod hm (fun _ e => e.elim) (fun _ e => e.elim), h.lit, h.std, h.ne⟩
theorem Here.le {w : World} {B : TB} {T : TM} {D : Dsk} {k m : Nat} {l : List KV} {N : Nat} (h : Here w B T D k l N) (hm : k <= m) : Here w B T D m l N := ⟨h.tree, h.lit.le hm, h.std, h.ne⟩
def HApp (w : World) (B : TB) (T : TM) (D : Dsk) (k : Nat) (l : List KV) (N : Nat) (cs : List Cg) (e : Ending) (w' : World) : Prop :=
 (chkF [] cs ≠ 0 /\ e = .returned (.int .i64 (chkF [] cs)) /\ Here w' B T D k l N /\ Mod (fun _ => False) w w') ∨
 (chkF [] cs = 0 /\ ((e = .returned (.int .i64 52) /\ (jlen B.room D : Int) <= (N : Int) + 8 * cs.length /\ Here w' B T D k l N /\ Mod (fun _ => False) w w') ∨
  (e = .returned (.int .i64 31) /\ (B.room < 21 * cs.length + 1 /\ ∃ (W' : WM) (ls : List Chg) (ln : List (Int × NP)) (la : List (Int × Int)), allM T (jlen B.room D : Int) 70 cs T.begin = some W' /\ Laid W' ls ln la /\ B.room < ls.length) /\ Here w' B T D k l N /\ Mod (fun _ => False) w w') ∨
  (e = .returned (.int .i64 0) /\ ∃ (T' : TM) (D' : Dsk) (N' : Nat), Here w' B T' D' (k + 1002) (chgs cs l) N' /\ D'.secs.length = D.secs.length /\ Mod (TS B) w w')))
theorem qOh {w : World} {B : TB} {T : TM} {D : Dsk} {k : Nat} {l : List KV} {N : Nat} (h : Here w B T D k l N) (hk0 : k <= 1152921504606846976) {a : Option Addr} (cap : Nat) {cs : List Cg} (hc : Lies w 3 ccs a cs) (hcl : cs.length <= 1048576) (hs : ∀ c ∈ cs, c.key.size <= maxLen /\ c.value.size <= maxLen) :
  Calls Tryz.prog 15 #[.pointer (some ⟨B.tb, 0, none⟩), .slice a cs.length cap] w (HApp w B T D k l N cs) := by
 by_cases hchk : chkF [] cs = 0
 ·obtain ⟨W', N', h1, h2, h3, h4, h5, h6⟩ := qYs h.lit h.std cs (fun c hc => qFt hchk c hc) hcl
  obtain ⟨r1, r2, r3, r4, r5, r6, r7⟩ := h2.rng; have ht := h.std.ti.rng; have hj : jlen B.room D <= 16384 := by have := h.lit.b.n; unfold jlen; omega
  have hnx := h.std.next; obtain ⟨t1, t2, t3, t4, _⟩ := ht; have e1 : T.begin.count = T.count := rfl; have e2 : T.begin.next = T.next := rfl; rw [e1, e2] at t4; rw [e2] at t2; refine (qWf h.tree cap hc (by omega) hs hchk h1 (by omega) (by omega) (by omega) (fun x hx => by have := r5 x hx; omega) (fun x y hy => by have := r6 x y hy; omega) (fun ls hnd hls => ?_) h.lit.b hk0 h.ne).mono (fun e w' ha => ?_)
  ·have q1 := qEs (m := (List.range W'.next.toNat).map (fun i : Nat => (i : Int))) hnd (fun x hx => by
    have := r5 x (hls x hx); exact List.mem_map.2 ⟨x.toNat, List.mem_range.2 (by omega), by omega⟩)
   rw [List.length_map, List.length_range] at q1; omega
  ·obtain ⟨ls, ln, la, hlaid, hh⟩ := ha; refine .inr ⟨hchk, ?_⟩; rcases hh with ⟨a1, rfl, a3, a4⟩ | ⟨a1, a2, rfl, a3, a4⟩ | ⟨a1, a2, a3, rfl, a4, a5⟩ | ⟨a1, a2, a3, a4, _⟩ | ⟨a1, a2, a3, a4, rfl, a6, a7⟩
   ·exact .inl ⟨rfl, h3 a1, ⟨a3, h.lit, h.std, h.ne⟩, a4⟩
   ·refine .inr (.inl ⟨rfl, ⟨?_, W', ls, ln, la, h1, hlaid, a2⟩, ⟨a3, h.lit, h.std, h.ne⟩, a4⟩); have := h6 ls ln la hlaid a1; omega
   ·refine .inr (.inr ⟨rfl, T, D, N, ?_, rfl, a5.mono (fun _ _ e => e.elim)⟩)
    rw [a3]; exact ⟨a4, h.lit.le (by omega), h.std, h.ne⟩
   ·exact absurd (qNs h.lit h.std h2 (h4 a1) hlaid a2).1 a4
   ·obtain ⟨c1, c2, c3⟩ := qNs h.lit h.std h2 (h4 a1) hlaid a2; have hr := h.std.r2; exact .inr (.inr ⟨rfl, _, _, N', ⟨a6, c2.le (by omega), c3, h.ne⟩, qIj _ _ _, a7⟩)
 ·exact (jCp h.tree cap hc (by omega) hs hchk).mono (fun e w' ⟨he, hm⟩ => .inl ⟨hchk, he, h.ext hm, hm⟩)
theorem qMn {w : World} {d k room : Nat} {sa : Option Addr} {D : Dsk} {T : TM} {l : List KV} {N : Nat} (hD : qAn w d sa D) (hL : Lit D k) (hk : k <= 1152921504606846976) (hs : Std room D T l N) :
  Calls Tryz.prog 13 #[.pointer (some ⟨d, 0, none⟩), .int .i64 (room : Int)] w fun e w' => ∃ B : TB, e = .returned (.tuple #[.pointer (some ⟨B.tb, 0, none⟩), .int .i64 0]) /\ Here w' B T D k l N /\ B.d = d /\ B.sa = sa /\ B.room = room /\ (w.heap.size <= B.tb /\ w.heap.size <= B.nb /\ w.heap.size <= B.ab /\ w.heap.size <= B.j) /\ Mod (qBe d sa) w w' :=
 (qQx hD hL.b (by omega) hs.r1 hs.r2).mono (fun e w' ha => by
  rw [jDl hL hs] at ha; obtain ⟨_, h2, B, rfl, h4⟩ := ha; exact ⟨B, rfl, ⟨h4.tree, hL, by rw [h4.room]; exact hs, h4.ne⟩, h4.d, h4.sa, h4.room, h4.lo, h2⟩)
theorem Here.empty {w : World} {B : TB} {T : TM} {D : Dsk} {k : Nat} {l : List KV} {N : Nat} (h : Here w B T D k l N) : (T.root = 0 /\ l = []) \/ (T.root ≠ 0 /\ l ≠ [] /\ ∃ (g : Nat) (t : Tr g), g <= 26 /\ Sd T.nodes 250 g T.root t /\ flat g t = l) := by
 obtain ⟨_, _, h3⟩ := h.std.ti; rcases h3 with ⟨h4, h5, _⟩ | ⟨ht, t, F, hR, _⟩
 ·exact .inl ⟨h4, h5⟩
 ·refine .inr ⟨hR.nz, ?_, ht, t, hR.le, hR.sd, hR.fl⟩; rw [<- hR.fl]; obtain ⟨q, v, r, _, h6⟩ := qFr ht t (qLr hR.sd); rw [h6]; simp
theorem Here.len {w : World} {B : TB} {T : TM} {D : Dsk} {k : Nat} {l : List KV} {N : Nat} (h : Here w B T D k l N) : l.length <= 8388608 /\ T.count = l.length := by
 have h1 := h.std.ti.rng; have h2 : T.begin.count = l.length := h.std.ti.2.1; have e1 : T.begin.count = T.count := rfl; have e2 : T.begin.next = T.next := rfl; have hj : jlen B.room D <= 16384 := by have := h.lit.b.n; unfold jlen; omega
 have hnx := h.std.next; rw [e1] at h1 h2; rw [e2] at h1; omega
theorem jFa {w : World} {B : TB} {T : TM} {D : Dsk} {k : Nat} {l : List KV} {N : Nat} (h : Here w B T D k l N) : Calls Tryz.prog 11 #[.pointer (some ⟨B.tb, 0, none⟩)] w fun e w' => e = .returned (.int .i64 (l.length : Int)) /\ w = w' :=
 (qUm h.tree).mono (fun e w' ⟨he, hw⟩ => ⟨by rw [he, h.len.2], hw⟩)
theorem qXi {w : World} {B : TB} {T : TM} {D : Dsk} {k : Nat} {l : List KV} {N : Nat} (h : Here w B T D k l N) : Calls Tryz.prog 29 #[.pointer (some ⟨B.tb, 0, none⟩)] w fun e w' => e = .returned (.int .i64 ((N : Int) + 1)) /\ w = w' :=
 (qYx h.tree).mono (fun e w' ⟨⟨dom, h1, h2, he⟩, hw⟩ => ⟨by
  obtain ⟨_, _, U, u1, u2, u3⟩ := h.std.ti.secs; have hp : dom.Perm U := (List.perm_ext_iff_of_nodup h1 u1).2 (fun x => (h2 x).trans (u3 x).symm)
  have hl := hp.length_eq; have h4 := h.std.ti.spots; have h5 : (N : Int) <= T.next - 1 := h4.1; have hj : jlen B.room D <= 16384 := by have := h.lit.b.n; unfold jlen; omega
  have hnx := h.std.next; rw [he, hl, u2, IntWalk.wrap64_in _ (by omega)], hw⟩)
theorem jAs {w : World} {B : TB} {T : TM} {D : Dsk} {k : Nat} {l : List KV} {N : Nat} (h : Here w B T D k l N) (key : ByteArray) (most : Int) : Calls Tryz.prog 10 #[.pointer (some ⟨B.tb, 0, none⟩), .string key, .int .i64 most] w (qQk w (qWs l key most)) := by
 have hnil : ∀ e w', (e = .returned (.slice none 0 0) /\ Mod (fun _ => False) w w') -> qQk w [] e w' := fun e w' ⟨he, hm⟩ => ⟨none, 0, he, Own.nil _ _ _, (fun b hb => (qAl b hb).elim), hm⟩
 by_cases hm : most < 1
 ·have e : qWs l key most = [] := by unfold qWs; rw [show most.toNat = 0 by omega]; rfl
  rw [e]; exact (qPa h.tree (.inr hm) _).mono hnil
 ·rcases h.empty with ⟨h0, rfl⟩ | ⟨h0, _, g, t, hg, hS, hfl⟩
  ·have e : qWs [] key most = [] := by unfold qWs; simp
   rw [e]; exact (qPa h.tree (.inl h0) _).mono hnil
  ·have hasc : Asc (flat g t) := by rw [hfl]; exact h.std.ti.1.asc
   have hw := qUf key g T.root t hS hasc; rw [hfl] at hw; have hl := List.length_filter_le (geK key) l; exact qUr h.tree h0 (by omega) hw (by have := h.len.1; omega)
end
section
open Go Go.RowKit
theorem WI.bytes {T : TM} {W : WM} {l : List KV} {H N : Nat} (h : WI T 250 W l H N) : 190 * N <= qBs l + 190 := by
 obtain ⟨hf, _, h3⟩ := h; rcases h3 with ⟨_, rfl, rfl, _⟩ | ⟨ht, t, F, hR, rfl⟩
 ·omega
 ·have h1 := qRa hR.sd (by rw [hR.fl]; exact fun p hp => ⟨(hf.ok p hp).1.2, (hf.ok p hp).2⟩)
  rw [hR.fl] at h1; exact h1
theorem qNw {p q : KV -> Bool} (h : ∀ x, ¬ (p x = true /\ q x = true)) : ∀ l : List KV, qBs (l.filter p) + qBs (l.filter q) <= qBs l
 | [] => by simp [qBs]
 | x :: l => by
  have h1 := qNw h l; have h2 := h x; have e : ∀ r : List KV, qBs (x :: r) = x.1.size + x.2.size + 4 + qBs r := fun r => by unfold qBs; rw [List.map_cons, List.sum_cons]
  rw [List.filter_cons, List.filter_cons]; cases hp : p x with
  | true =>
   cases hq : q x with
   | true => exact absurd ⟨hp, hq⟩ h2
   | false =>
    simp only [if_true, Bool.false_eq_true, if_false]; rw [e, e]; omega
  | false =>
   cases hq : q x with
   | true =>
    simp only [if_true, Bool.false_eq_true, if_false]; rw [e, e]; omega
   | false =>
    simp only [Bool.false_eq_true, if_false]; rw [e]; omega
theorem qWx (c : Cg) (l : List KV) : qBs (chg c l) <= qBs l + (c.key.size + c.value.size + 4) := by
 have h1 := qNw (p := fun p => kl p.1 c.key) (q := fun p => kl c.key p.1) (fun x ⟨a, b⟩ => by
  have a : kl x.1 c.key = true := a; have b : kl c.key x.1 = true := b; rw [qDs a] at b; cases b) l
 have h2 : qBs c.put <= c.key.size + c.value.size + 4 := by
  unfold Cg.put; split
  ·exact Nat.zero_le _
  ·unfold qBs; simp
 unfold chg; rw [qEn, qEn]; omega
theorem qSm {T : TM} {L : Int} (hL : 4 <= L) : ∀ (cs : List Cg) (W : WM) (l : List KV) (N : Nat), (∀ c ∈ cs, CgOk c) -> WI T 250 W l 26 N -> qBs l + (cs.map (fun c => c.key.size + c.value.size + 4)).sum < 190 -> W.next <= 4 -> W.full = false →
  ∃ (W' : WM) (N' : Nat), allM T L 70 cs W = some W' /\ WI T 250 W' (chgs cs l) 26 N' /\ W'.next <= 4 /\ W'.full = false
 | [], W, l, N, _, hW, _, hn, hf => ⟨W, N, rfl, hW, hn, hf⟩
 | c :: cs, W, l, N, hc, hW, hb, hn, hf => by
  rw [List.map_cons, List.sum_cons] at hb; have hN := hW.bytes; have hW0 := hW.high 0 (by omega)
  obtain ⟨W1, N1, k1, k2, k3, k4⟩ := qTe (T := T) (L := L) (f := 70) (.inr rfl) (hc c List.mem_cons_self) hW0 (by omega) (by omega)
  have hN1 := k2.bytes; have hch := qWx c l; have hf1 : W1.full = false := by
   cases hq : W1.full with
   | false => rfl
   | true =>
    rcases k4.full hq with h | h
    ·rw [hf] at h; cases h
    ·omega
  obtain ⟨W', N', r1, r2, r3, r4⟩ := qSm hL cs W1 (chg c l) N1 (fun x hx => hc x (List.mem_cons_of_mem _ hx)) (k2.high 26 (by omega)) (by omega) (by have := k4.top; omega) hf1
  refine ⟨W', N', ?_, r2, r3, r4⟩; show (oneM T L 70 W c).bind _ = _; rw [k1]; exact r1
theorem jEp {T : TM} {W : WM} {l : List KV} {H N : Nat} {ls : List Chg} {ln : List (Int × NP)} {la : List (Int × Int)} (hW : WI T 250 W l H N) (hlaid : Laid W ls ln la) : (ls.length : Int) <= W.next := by
 obtain ⟨_, r2, _, _, r5, _⟩ := hW.rng; have hlo : qHy W ls := by
  obtain ⟨_, _, h3⟩ := hW; rcases h3 with ⟨_, _, _, F, hA⟩ | ⟨ht, t, F, hR, _⟩
  ·exact qEv hA hlaid
  ·exact qEv hR.acc hlaid
 have h1 := qOa hlo (X := (List.range (W.next - 1).toNat).map (fun i : Nat => (i : Int) + 1)) (fun y hy => by
  have := r5 y hy; exact List.mem_map.2 ⟨(y - 1).toNat, List.mem_range.2 (by omega), by omega⟩)
 rw [List.length_map, List.length_range] at h1; omega
end
section
open Go Go.RowKit
def wcs : List Cg := [⟨⟨#[98]⟩, ⟨#[50]⟩, false⟩, ⟨⟨#[97]⟩, ⟨#[49]⟩, false⟩]
def wl : List KV := [(⟨#[97]⟩, ⟨#[49]⟩), (⟨#[98]⟩, ⟨#[50]⟩)]
theorem qPj (b : UInt8) : (⟨#[b]⟩ : ByteArray).toList = [b] := ByteArray.toList_eq _
theorem qSs : chkF [] wcs = 0 := by
 unfold wcs; rw [qMx, if_neg (by rw [qPj]; decide), if_neg (by decide), if_neg (by simp), qMx, if_neg (by rw [qPj]; decide), if_neg (by decide), if_neg (by simp)]
 rfl
theorem jGp : chgs wcs [] = wl := by kernel_rfl
theorem jGo : qWs wl ⟨#[]⟩ 9 = wl := by kernel_rfl
theorem qTq : jlen 40 (newD 100) = 59 := by
 have h : (newD 100).secs.length = 100 := List.length_replicate ..; unfold jlen; rw [h]
theorem jCy {w w' : World} {B : TB} {e : Ending} (h : Here w B newT (newD 100) 0 [] 0) (hr : B.room = 40) (ha : HApp w B newT (newD 100) 0 [] 0 wcs e w') :
  e = .returned (.int .i64 0) /\ ∃ (T' : TM) (D' : Dsk), Here w' B T' D' 1002 wl 1 /\ Mod (TS B) w w' := by
 have hw : ∀ {N : Nat} {T' : TM} {D' : Dsk}, Here w' B T' D' 1002 wl N -> N = 1 := fun h1 => by
  obtain ⟨a1, a2, _⟩ := h1.std.ti.secs; have a3 : qBs wl = 12 := by kernel_rfl
  have a4 := a2 (by unfold wl; simp)
  omega
 rcases ha with ⟨h1, _⟩ | ⟨_, ⟨_, h2, _⟩ | ⟨_, ⟨_, W', ls, ln, la, h3, h4, h5⟩, _⟩ | ⟨rfl, T', D', N', h6, _, h7⟩⟩
 ·exact absurd qSs h1
 ·rw [hr, qTq] at h2; have : wcs.length = 2 := rfl; omega
 ·exfalso
  rw [hr, qTq] at h3; obtain ⟨W2, N2, k1, k2, k3, _⟩ := qSm (T := newT) (L := ((59 : Nat) : Int)) (by omega) wcs newT.begin [] 0 (fun c hc => qFt qSs c hc) h.std.ti (by decide) (by decide) rfl
  rw [k1] at h3; cases h3
  have h8 := jEp k2 h4; omega
 ·rw [jGp] at h6; have hN := hw h6; subst hN; exact ⟨rfl, T', D', h6, h7⟩
theorem qXc {w w1 : World} {d : Nat} {sa : Option Addr} {B : TB} (h1 : B.d = d) (h2 : B.sa = sa) (hd : w.heap.size <= d) (hs : ∀ k, blk sa k -> w.heap.size <= k) (hw : w.heap.size <= w1.heap.size) (h3 : w1.heap.size <= B.tb /\ w1.heap.size <= B.nb /\ w1.heap.size <= B.ab /\ w1.heap.size <= B.j) : ∀ i, TS B i -> w.heap.size <= i := fun i e => by
 rcases e with e | e | e | e | e
 ·omega
 ·omega
 ·omega
 ·omega
 ·rw [h1, h2] at e; rcases e with e | e
  ·omega
  ·exact hs i e
theorem jIt : ((wl.length : Nat) : Int) = 2 := rfl
theorem jGn {w : World} {B : TB} {T : TM} {D : Dsk} {k N : Nat} (h : Here w B T D k wl N) : Calls Tryz.prog 10 #[.pointer (some ⟨B.tb, 0, none⟩), .string ⟨#[]⟩, .int .i64 9] w fun e w' => ∃ g off cap, e = .returned (.slice (some ⟨g, off, none⟩) 2 cap) /\ w'.cell? ⟨g, off, none⟩ = some (.string ⟨#[97]⟩) /\ w'.cell? ⟨g, off + 1, none⟩ = some (.string ⟨#[49]⟩) /\ Mod (fun _ => False) w w' :=
 (jAs h ⟨#[]⟩ 9).mono fun e w' ha => by
  rw [jGo] at ha; obtain ⟨la, cap, rfl, ho, _, hm⟩ := ha; rcases ho.2.2.2 with ⟨rfl, h2⟩ | ⟨g, off, cur, rfl, _, _, _⟩
  ·have h3 := ho.2.1; have h4 : wl.length = 2 := rfl; omega
  ·have h5 := fun (j : Nat) (u : Value) (hj : (wl.flatMap kcs)[j]? = some u) => ho.src.2.2 _ rfl j u hj
   refine ⟨g, off, cap, rfl, ?_, ?_, hm⟩
   ·simpa [Addr.add] using h5 0 _ rfl
   ·simpa [Addr.add] using h5 1 _ rfl
set_option maxRecDepth 100000
set_option maxHeartbeats 4000000 in
theorem qYj (w : World) : Calls Tryz.prog 9 #[] w fun e w' => e = .returned (.bool true) /\ Mod (fun _ => False) w w' := by
 have HNw := hid (qZv (w := w) 100); go_enter Tryz.func9, Tryz.ntmps9
 go_upto_region 2 with (go_at_call 12; refine HNw.out.mono ?_; rintro e w1 ⟨d, sa, rfl, hd0, hs0, hD, hm1⟩; have HD0 := hid hd0; have HS0 := hid hs0; have HD := hid hD; have HM1 := hid hm1; clear hd0 hs0 hD hm1)
 have HO := hid (qMn HD.out (qTj 100) (by omega) (qYr (n := 100) (room := 40) (by omega) (by omega) (by rw [qTq]; omega)))
 go_upto_region 3 with (go_at_call 13; refine HO.out.mono ?_; rintro e w2 ⟨B, rfl, hh, hb1, hb2, hb3, hlo, hm2⟩; have HH := hid hh; have HB := hid (And.intro hb1 (And.intro hb2 hb3)); have HNb := hid (qXc hb1 hb2 HD0.out HS0.out HM1.out.size hlo); have HM2 : Hid (Mod (fun k => w.heap.size <= k) w w2) := hid (((HM1.out.mono (fun _ _ e => e.elim)) : Mod (fun k => w.heap.size <= k) w _).trans (hm2.mono (fun k _ e => by rcases e with e | e; (have := HD0.out; omega); (exact HS0.out k e)))); clear hh hb1 hb2 hb3 hlo hm2)
 have HA := hid (qOh (HH.out.ext ((Mod.refl (fun _ => False) w2).alloc (.cells #[.string ⟨#[98]⟩, .string ⟨#[50]⟩, .bool false, .string ⟨#[97]⟩, .string ⟨#[49]⟩, .bool false] 67))) (by omega) 2 (cs := wcs) (qFe qGg (heap_alloc_new w2 _)) (by show (2 : Nat) <= _; omega) (fun c hc => by have := qFt qSs c hc; have h1 := this.key; have h2 := this.value; unfold maxLen; omega))
 go_wp2_with (first
  | (go_at_call 15; refine HA.out.mono ?_; intro e w3 ha; have ha2 := jCy (HH.out.ext ((Mod.refl (fun _ => False) w2).alloc (.cells #[.string ⟨#[98]⟩, .string ⟨#[50]⟩, .bool false, .string ⟨#[97]⟩, .string ⟨#[49]⟩, .bool false] 67))) HB.out.2.2 ha; obtain ⟨rfl, T1, D1, hh1, hm3⟩ := ha2; have HH1 := hid hh1; have HS1 : Hid (Std 40 D1 T1 wl 1) := hid (by have h9 := hh1.std; rw [HB.out.2.2] at h9; exact h9); have HDk : Hid (qAn w3 d sa D1) := hid (by have h9 := hh1.tree.disk; rw [HB.out.1, HB.out.2.1] at h9; exact h9); have HM3 : Hid (Mod (fun k => w.heap.size <= k) w w3) := hid ((HM2.out.alloc _).trans (hm3.mono (fun k _ e => HNb.out k e))); clear ha hh1 hm3)
  | (go_at_call 11; refine (jFa HH1.out).mono ?_; rintro e w4 ⟨he, hw4⟩; rw [jIt] at he; subst he; subst w4)
  | (go_at_call 13; refine (qMn HDk.out HH1.out.lit (by omega) HS1.out).mono ?_; rintro e w5 ⟨B2, rfl, hh2, hb1, hb2, hb3, hlo, hm5⟩; have HH2 := hid hh2; clear hh2)
  | (go_at_call 10; refine (jGn HH2.out).mono ?_; rintro e w6 ⟨g, off, cap, rfl, hc0, hc1, hm6⟩; have HM6 := hid ((HM3.out.then hm5 (fun k hk e => by (rcases e with e | e); (have := HD0.out; omega); (exact HS0.out k e))).trans (hm6.mono (fun _ _ e => e.elim))))
  | (go_at_call 29; refine (qXi (HH2.out.ext hm6)).mono ?_; rintro e w7 ⟨rfl, hw7⟩; subst w7))
 go_ret; exact ⟨rfl, HM6.out.mono (fun k hk e => by omega)⟩
end
section
open Go Go.RowKit
theorem jJg (a : ByteArray) : kl a ⟨#[]⟩ = false := by
 unfold kl; rw [show (⟨#[]⟩ : ByteArray).toList = [] by rw [ByteArray.toList_eq]]
 cases a.toList <;> rfl
end
section
open Go Go.RowKit
theorem HApp.cases {w w' : World} {B : TB} {T : TM} {D : Dsk} {k : Nat} {l : List KV} {N : Nat} {cs : List Cg} {e : Ending} {c : Int} (hc : chkF [] cs = c) (h : HApp w B T D k l N cs e w') :
  ∃ E : Int, e = .returned (.int .i64 E) /\ Mod (TS B) w w' /\ ((c ≠ 0 /\ E = c /\ Here w' B T D k l N) \/ (c = 0 /\ E = 52 /\ (jlen B.room D : Int) <= (N : Int) + 8 * cs.length /\ Here w' B T D k l N) \/ (c = 0 /\ E = 31 /\ B.room < 21 * cs.length + 1 /\ Here w' B T D k l N) \/ (c = 0 /\ E = 0 /\ ∃ (T' : TM) (D' : Dsk) (N' : Nat), Here w' B T' D' (k + 1002) (chgs cs l) N' /\ D'.secs.length = D.secs.length)) := by
 unfold HApp at h; rw [hc] at h; rcases h with ⟨h1, rfl, h2, h3⟩ | ⟨h0, ⟨rfl, h1, h2, h3⟩ | ⟨rfl, ⟨h1, _⟩, h2, h3⟩ | ⟨rfl, T', D', N', h2, h3, h4⟩⟩
 ·exact ⟨_, rfl, h3.mono (fun _ _ e => e.elim), .inl ⟨h1, rfl, h2⟩⟩
 ·exact ⟨52, rfl, h3.mono (fun _ _ e => e.elim), .inr (.inl ⟨h0, rfl, h1, h2⟩)⟩
 ·exact ⟨31, rfl, h3.mono (fun _ _ e => e.elim), .inr (.inr (.inl ⟨h0, rfl, h1, h2⟩))⟩
 ·exact ⟨0, rfl, h4, .inr (.inr (.inr ⟨h0, rfl, T', D', N', h2, h3⟩))⟩
end
section
open Go Go.RowKit
theorem qZq {D : Dsk} {k room : Nat} (h : Lit D k) (h0 : 0 < D.secs.length) (he : (qDb room D).1 = 0) : Lit (qDb room D).2 (k + room + 1) := by
 have hr : qDa D 0 = (sec D 0, 0) := h.read 0 h0; have e : qDb room D = qXa room D (numF room (jlen room D) (sec D 0)) := by
  unfold qDb; rw [hr]; rfl
 rw [e] at he ⊢; cases hn : numF room (jlen room D) (sec D 0) with
 | none => rw [hn] at he; exact absurd he (show ¬ (32 : Int) = 0 by decide)
 | some l =>
  obtain ⟨n1, n2, n3⟩ := qRn hn; cases l with
  | nil => exact h.le (by omega)
  | cons x r =>
   obtain ⟨_, f2, _⟩ := qMp room (x :: r) 0 k D h h0 (fun n hn => by have := n3 n hn; unfold jlen at this; omega) (by omega) n2
   exact Lit.le f2 (by omega)
end
end Go.Proofs.YtgbcibdfeeiilaaGreatDoor
