/- merged: TwX TwG TwY RoH RoC RoT RoTbR -/
import Derived.Test.YtkinkgbmlhiakaaGreatDoorNd31
import Derived.Test.YtkinkgbmlhiakaaGreatDoorNd30
import Derived.Test.YtkinkgbmlhiakaaGreatDoorNd20
import Derived.Test.YtkinkgbmlhiakaaGreatDoorNd17
import Derived.Test.YtkinkgbmlhiakaaGreatDoorNd05
namespace Go.Proofs.YtkinkgbmlhiakaaGreatDoor
section
open Go Go.RowKit
attribute [local go_sem] Oper.semAt_some
theorem qZe {J : List KV -> World -> Prop} {B : Nat} (h : AbidesFrom B J) : ∀ pre W W', J pre W -> Mod (fun _ => False) W W' -> J pre W' := fun pre W W' hj hm => h pre W W' none hj ⟨hm.os, hm.tape, hm.output, hm.size, fun k hk _ => hm.block k hk (fun e => e)⟩ (fun r e => by cases e)
theorem qZg {P : Program} {l m m' : Nat} {args : Array Value} {W : World} {R : Ending -> World -> Prop} (h : YieldAt Fence.wide m P l args W R) : YieldAt Fence.wide m' P l args W R := by
 obtain ⟨fn, tmps, assign, body, hy, hR⟩ := h; exact ⟨fn, tmps, assign, body, hy, hR.1, fun c cs _ => hR.2 c cs (room_wide _)⟩
set_option maxRecDepth 100000
set_option maxHeartbeats 1000000 in
theorem qYa {n₀ l F bt bf : Nat} {B : TB} {T : TM} {D : Dsk} {off : Bool} {J Jx : List KV -> World -> Prop} (hJ : ∀ pre W W', J pre W -> Mod (fun _ => False) W W' -> J pre W') {key : ByteArray} {L : List KV}
  (hY : ∀ m pre x W, J pre W -> pre.length < L.length -> YieldAt Fence.wide m Tryz.prog l #[.agg #[.string x.1, .string x.2]] W fun e W' => (e = .returned (.bool true) /\ J (pre ++ [x]) W' /\ Kp n₀ W W') \/ (e = .returned (.bool false) /\ Jx (pre ++ [x]) W'))
  (hL : qKc T.nodes F T.root key = some L) {W : World} (ht : TW n₀ B T D off W) (hj : J [] W) (hbt : W.cell? ⟨bt, 0, none⟩ = some (.pointer (some ⟨B.tb, 0, none⟩))) (hbf : W.cell? ⟨bf, 0, none⟩ = some (.string key)) :
  Calls Tryz.prog 73 #[.func (.yield l) #[] #[], .pointer (some ⟨bt, 0, none⟩), .pointer (some ⟨bf, 0, none⟩)] W fun e W' => (∃ v, e = .returned v) /\ ((∃ xs, xs = L /\ J xs W') \/ ∃ pre, pre <+: L /\ Jx pre W') := by
 have HW := hid (fun (z : World) (hm : Mod (fun _ => False) W z) => jEh hJ key hY F T.root L [] z hL (ht.below (hm.below ht.2.2 (fun _ e => e.elim))) (hJ _ _ _ hj hm) (by simp))
 obtain ⟨c0, _⟩ := ht.1.cells; have g0 := fun y : Ext W => y.cell c0
 have g1 := fun y : Ext W => y.cell hbt
 have g2 := fun y : Ext W => y.cell hbf
 clear hJ hY hL ht hj hbt hbf c0; go_enter Tryz.func73, Tryz.ntmps73
 refine qAt 8 (by kernel_rfl) (by kernel_rfl) ?_
 simp only [List.take_succ_cons, List.take_zero, List.drop_succ_cons, List.drop_zero]; repeat (go_big_quiet_step (fail))
 refine wpQuiet_nil ?_; rintro _ ⟨z, rfl⟩; have HC := hid (HW.out z.val z.mod); clear g0 g1 g2; go_wp2_with (go_at_call 74; refine HC.out.mono ?_; rintro e w4 (⟨rfl, hj4, hk4⟩ | ⟨rfl, q4, hq4, hx4⟩))
 ·go_end0; exact ⟨⟨_, rfl⟩, .inl ⟨L, rfl, hj4⟩⟩
 ·go_end0; exact ⟨⟨_, rfl⟩, .inr ⟨q4, hq4, hx4⟩⟩
theorem qTh {n₀ n F bt bf : Nat} {B : TB} {T : TM} {D : Dsk} {off : Bool} {key : ByteArray} {L : List KV} (hL : qKc T.nodes F T.root key = some L) {w : World} (ht : TW n₀ B T D off w)
  (hbt : w.cell? ⟨bt, 0, none⟩ = some (.pointer (some ⟨B.tb, 0, none⟩))) (hbf : w.cell? ⟨bf, 0, none⟩ = some (.string key)) (h1 : bt < w.heap.size) (h2 : bf < w.heap.size) :
  SeqStopsK Fence.wide n Tryz.prog 73 #[.pointer (some ⟨bt, 0, none⟩), .pointer (some ⟨bf, 0, none⟩)] (fun x : KV => #[Value.agg #[.string x.1, .string x.2]]) (Kp n₀) (fun ys => ys = L) (fun pre => pre <+: L) L.length w := fun _ _ _ _ hW hJa _ hY h0 =>
 callsIn_wide.2 (qYa (qZe hJa) (fun _m pre x W1 hj hl => qZg (hY pre x W1 hj hl)) hL (ht.below (hW.mono ht.2.2)) h0 ((hW.cell (p := ⟨bt, 0, none⟩) h1).trans hbt) ((hW.cell (p := ⟨bf, 0, none⟩) h2).trans hbf))
theorem jBd (w : World) (tb : Nat) (key : ByteArray) : Calls Tryz.prog 36 #[.pointer (some ⟨tb, 0, none⟩), .string key] w fun e w' => e = .returned (.func (.func 73) #[] #[.pointer (some ⟨w.heap.size, 0, none⟩), .pointer (some ⟨w.heap.size + 1, 0, none⟩)]) /\ w' = (w.alloc (.cells #[.pointer (some ⟨tb, 0, none⟩)] 27)).alloc (.cells #[.string key] 9) := by
 go_enter Tryz.func36, Tryz.ntmps36
 go_wp2
 go_ret; exact ⟨rfl, rfl⟩
theorem jLv : (Tryz.prog.info? 41).map (fun i => (i.zero, i.size, i.bytes)) = some (some (.agg #[.string ⟨#[]⟩, .string ⟨#[]⟩]), 2, 32) := by kernel_rfl
structure qQp (w W : World) (most : Int) (pre : List KV) : Prop where
 out : ∃ la cap, W.heap[w.heap.size + 1]? = some (.cells #[.slice la pre.length cap] 38 (0, 0)) /\ Own W 41 2 la pre.length cap (pre.flatMap kcs) /\ ∀ b, blk la b -> w.heap.size <= b
 most : W.heap[w.heap.size]? = some (.cells #[.int .i64 most] 3 (0, 0))
 mod : Mod (fun _ => False) w W
theorem Own.cells {w : World} {e : TypeId} {size : Nat} {sa : Option Addr} {n cap : Nat} {xs : List Value} (h : Own w e size sa n cap xs) {k : Nat} (hk : blk sa k) : ∃ cur, w.heap[k]? = some (.cells cur e (0, 0)) := by
 obtain ⟨a, rfl, rfl⟩ := hk; rcases h.2.2.2 with ⟨h0, _⟩ | ⟨g, off, cur, h1, h2, _⟩
 ·cases h0
 ·cases h1; exact ⟨cur, h2⟩
theorem qQp.turn {w X Y : World} {most : Int} {pre : List KV} {row : Option Nat} {B : Nat} (h : qQp w X most pre) (hg : X.grownBy Y row) (hr : ∀ r, row = some r -> B <= r /\ ∃ o : Obj, X.heap[r]? = some o /\ o.isCells = false) (hB : w.heap.size <= B) : qQp w Y most pre := by
 have hm : Mod (fun k => row = some k) X Y := ⟨hg.os, hg.tape, hg.output, hg.size, fun k hk hn => hg.block k hk (fun e => hn e.symm)⟩
 have hnc : ∀ k cs t, X.heap[k]? = some (.cells cs t (0, 0)) -> row ≠ some k := fun k cs t hk e => by
  obtain ⟨_, o, ho, hc⟩ := hr k e; rw [hk] at ho; cases ho; cases hc
 obtain ⟨la, cap, h1, h2, h3⟩ := h.out; refine ⟨⟨la, cap, (hm.block _ (lth h1) (hnc _ _ _ h1)).trans h1, h2.mod hm (fun k hk e => ?_), h3⟩, (hm.block _ (lth h.most) (hnc _ _ _ h.most)).trans h.most, h.mod.then hm (fun k hk e => ?_)⟩
 ·obtain ⟨cur, hc⟩ := h2.cells hk; exact hnc _ _ _ hc e
 ·have h4 := (hr k e).1; omega
def qNb (w : World) (L : List KV) (e : Ending) (w' : World) : Prop := ∃ la cap, e = .returned (.slice la L.length cap) /\ Own w' 41 2 la L.length cap (L.flatMap kcs) /\ (∀ b, blk la b -> w.heap.size <= b) /\ Mod (fun _ => False) w w'
theorem qVa {w W : World} {most : Int} {pre L : List KV} {la : Option Addr} {cap D : Nat} {ds : List Deferred} {o' : Obj} (h : qQp w W most pre) (ho : Own W 41 2 la pre.length cap (pre.flatMap kcs)) (hb : ∀ b, blk la b -> w.heap.size <= b) (hK : W.heap[D]? = some (.deferred (some ds))) (hD : w.heap.size <= D) (hL : L = pre) :
  qNb w L (.returned (.slice la pre.length cap)) (W.putObj D o') := by
 subst hL; have hm : Mod (fun k => k = D) W (W.putObj D o') := ⟨rfl, rfl, rfl, by simp, fun k _ hk => World.putObj_heap_other hk⟩
 refine ⟨la, cap, rfl, ho.mod hm (fun k hk e => ?_), hb, h.mod.then hm (fun k hk e => by omega)⟩
 obtain ⟨cur, hc⟩ := ho.cells hk; rw [e, hK] at hc; cases hc
theorem jGj {n₀ : Nat} {W : World} {l : Nat} {o : Obj} (o' : Obj) (hn : n₀ <= l) (h : W.heap[l]? = some o) (hc : o.isCells = false) : Kp n₀ W (W.putObj l o') :=
 ⟨⟨rfl, rfl, rfl, by simp, fun k hk => World.putObj_heap_other (by omega)⟩, fun k vs hk => (World.putObj_heap_other (fun e => by rw [e, h] at hk; cases hk; cases hc)).trans hk⟩
theorem qUz {S : Nat -> Prop} {w : World} {B : TB} {T : TM} {D : Dsk} {off : Bool} (h : qAu S w B T D off) {most : Int} (hm : T.root = 0 \/ most < 1) (v : Value) : Calls Tryz.prog 12 #[.pointer (some ⟨B.tb, 0, none⟩), v, .int .i64 most] w fun e w' => e = .returned (.slice none 0 0) /\ Mod (fun _ => False) w w' := by
 have hma : Mod (fun _ => False) w (w.alloc (.cells #[.int .i64 most] 3)) := (Mod.refl _ w).alloc _
 obtain ⟨c0, _⟩ := (h.mod hma (fun _ e => e.elim) (fun _ e => e.elim)).cells
 have hM := hid hma; clear h hma; by_cases h0 : T.root = 0
 ·rw [h0] at c0; clear hm h0; go_enter Tryz.func12, Tryz.ntmps12
  go_wp2
  go_ret; exact ⟨rfl, hM.out⟩
 ·have d0 : (T.root == 0) = false := by rw [beq_eq_false_iff_ne]; exact h0
  have d1 : decide (most < 1) = true := by simpa using hm.resolve_left h0
  clear hm h0; go_enter Tryz.func12, Tryz.ntmps12
  go_wp2
  go_ret; exact ⟨rfl, hM.out⟩
set_option maxHeartbeats 4000000 in
theorem jFe {w : World} {B : TB} {T : TM} {D : Dsk} {off : Bool} (h : qAu (TS B) w B T D off) (h0 : T.root ≠ 0) {most : Int} (hm : 1 <= most) {F : Nat} {key : ByteArray} {L : List KV} (hL : qKc T.nodes F T.root key = some L) (hb : L.length <= 1099511627776) :
  Calls Tryz.prog 12 #[.pointer (some ⟨B.tb, 0, none⟩), .string key, .int .i64 most] w (qNb w (L.take most.toNat)) := by
 obtain ⟨i0, hi, hz0, hz1, hz2⟩ := info_parts jLv; obtain ⟨c0, _⟩ := h.cells; have d0 : (T.root == 0) = false := by rw [beq_eq_false_iff_ne]; exact h0
 have d1 : decide (most < 1) = false := by simpa using hm
 have HT := hid (TW.start h); have c0' : (w.alloc (.cells #[.int .i64 most] 3)).cell? ⟨B.tb, 0, none⟩ = some (.int .i64 T.root) := (((Mod.refl (fun _ => False) w).alloc _).cell (p := ⟨B.tb, 0, none⟩) (lth h.box) (fun e => e)).trans c0
 have HL := hid hL; have HB := hid hb; clear h h0 hm hL hb; refine (callsIn_wide (n := 3)).1 ?_; refine callsIn_of_wp_marks Tryz.func12 rfl trivial ?_ rfl; simp only [Tryz.ntmps12, List.size_toArray, List.length_cons, List.length_nil, Nat.reduceAdd, Nat.reduceSub, Array.replicate_succ, Array.replicate_zero, List.push_toArray, List.append_toArray, List.nil_append, List.cons_append]; refine wpIn_wide.2 ?_; go_wp2_with (go_at_call 36; refine (jBd _ _ _).mono ?_; rintro e w' ⟨rfl, rfl⟩)
 have hsz : ((((w.alloc (.cells #[.int .i64 most] 3)).alloc (.cells #[.slice none 0 0] 38)).alloc (.cells #[.pointer (some ⟨B.tb, 0, none⟩)] 27)).alloc (.cells #[.string key] 9)).heap.size = w.heap.size + 4 := by simp
 have hM0 : Mod (fun _ => False) w ((((w.alloc (.cells #[.int .i64 most] 3)).alloc (.cells #[.slice none 0 0] 38)).alloc (.cells #[.pointer (some ⟨B.tb, 0, none⟩)] 27)).alloc (.cells #[.string key] 9)) := ((((Mod.refl _ _).alloc _).alloc _).alloc _).alloc _
 have hB0 := qAq (((((Mod.refl (fun _ => False) (w.alloc (.cells #[.int .i64 most] 3))).alloc (.cells #[.slice none 0 0] 38)).alloc (.cells #[.pointer (some ⟨B.tb, 0, none⟩)] 27)).alloc (.cells #[.string key] 9))) (heap_alloc_new w (.cells #[.int .i64 most] 3))
 have hB1 := qAq (((Mod.refl (fun _ => False) ((w.alloc (.cells #[.int .i64 most] 3)).alloc (.cells #[.slice none 0 0] 38))).alloc (.cells #[.pointer (some ⟨B.tb, 0, none⟩)] 27)).alloc (.cells #[.string key] 9)) (heap_alloc_new (w.alloc (.cells #[.int .i64 most] 3)) (.cells #[.slice none 0 0] 38))
 have hB2 := qAq ((Mod.refl (fun _ => False) (((w.alloc (.cells #[.int .i64 most] 3)).alloc (.cells #[.slice none 0 0] 38)).alloc (.cells #[.pointer (some ⟨B.tb, 0, none⟩)] 27))).alloc (.cells #[.string key] 9)) (heap_alloc_new ((w.alloc (.cells #[.int .i64 most] 3)).alloc (.cells #[.slice none 0 0] 38)) (.cells #[.pointer (some ⟨B.tb, 0, none⟩)] 27))
 have hB3 := heap_alloc_new (((w.alloc (.cells #[.int .i64 most] 3)).alloc (.cells #[.slice none 0 0] 38)).alloc (.cells #[.pointer (some ⟨B.tb, 0, none⟩)] 27)) (.cells #[.string key] 9); simp only [World.size_alloc] at hB1 hB2 hB3; generalize ((((w.alloc (.cells #[.int .i64 most] 3)).alloc (.cells #[.slice none 0 0] 38)).alloc (.cells #[.pointer (some ⟨B.tb, 0, none⟩)] 27)).alloc (.cells #[.string key] 9)) = W0 at *; have hT0 : TW w.heap.size B T D off W0 := HT.out.below (hM0.below (Nat.le_refl _) (fun _ e => e.elim))
 have hI0 : qQp w W0 most [] := ⟨⟨none, 0, hB1, Own.nil _ _ _, fun k hk => (qAj k hk).elim⟩, hB0, hM0⟩
 refine wpIn_wide.1 (wpIn_rangeFunc_ownH (n := 3) rfl (by omega) (gf := 73) (lb := #[.pointer (some ⟨w.heap.size + 1 + 1, 0, none⟩), .pointer (some ⟨w.heap.size + 1 + 1 + 1, 0, none⟩)]) rfl trivial (enters_of Tryz.func73 (by kernel_rfl) rfl)
  (qTh HL.out hT0 (by rw [cell_of_row _ _ _ _ _ _ hB2]; rfl) (by rw [cell_of_row _ _ _ _ _ _ hB3]; rfl) (by omega) (by omega)) (fun h k => h.trans k) (fun W l o o' hl hk hc _ => jGj o' (by omega) hk hc) (RowKit.Below.refl _ _) (fun _ => rfl)
  (fun pre W => qQp w W most pre /\ (pre.length : Int) < most)
  (fun c pre W => c = .exit 0 /\ qQp w W most pre /\ (pre.length : Int) = most)
  (fun s X Y row hs hg hr => ⟨hs.1.turn hg hr (by omega), hs.2⟩)
  (fun c s X Y row hs hg hr => ⟨hs.1, hs.2.1.turn hg hr (by omega), hs.2.2⟩)
  ⟨hI0, by have h1 : ¬ most < 1 := (by simpa using d1); simp; omega⟩
  (fun x a' W => ∃ Bx, W.heap[Bx]? = some (.cells #[.string x.1, .string x.2] 41 (0, 0)) /\ a' = { tmps := #[.pointer (some ⟨B.tb, 0, none⟩), .string key, .int .i64 most, undef, undef, .pointer (some ⟨w.heap.size, 0, none⟩), .slice none 0 0, .pointer (some ⟨w.heap.size + 1, 0, none⟩), .pointer (some ⟨Bx, 0, none⟩), .pointer (some ⟨B.tb, 0, none⟩), .bool false, .bool false, .pointer (some ⟨B.tb, 0, none⟩), .pointer (some ⟨B.tb, 0, none⟩), .pointer (some ⟨B.tb, 0, none⟩), .pointer (some ⟨B.tb, 0, none⟩), .int .i64 T.root, .bool false, .bool false, .bool false, .int .i64 most, .bool false, .bool false, .pointer (some ⟨B.tb, 0, none⟩), .string key, .func (.func 73) #[] #[.pointer (some ⟨w.heap.size + 1 + 1, 0, none⟩), .pointer (some ⟨w.heap.size + 1 + 1 + 1, 0, none⟩)], .agg #[.string x.1, .string x.2], undef, undef, undef, undef, undef, undef, undef, undef, undef], defers := [] })
  (fun x a' _ X Y row hs hg hr => by
   obtain ⟨Bx, h1, h3⟩ := hs; refine ⟨Bx, (hg.block Bx (lth h1) (fun e => ?_)).trans h1, h3⟩
   obtain ⟨_, o, ho, hc⟩ := hr Bx e.symm; rw [h1] at ho; cases ho; cases hc)
  ?assign ?body ?done ?stop)
 case assign =>
  rintro l pre x W K ⟨hI, hlt⟩ hK; have hma : Mod (fun _ => False) W (W.alloc (.cells #[.string x.1, .string x.2] 41)) := (Mod.refl _ _).alloc _
  gi_wp2
  have hIa : qQp w (W.alloc (.cells #[.string x.1, .string x.2] 41)) most pre := hI.turn (row := none) ⟨hma.os, hma.tape, hma.output, hma.size, fun k hk _ => hma.block k hk (fun e => e)⟩ (fun r e => by cases e) (Nat.le_refl _)
  exact hK _ _ ((KeepsOthers.alloc _ _).from _) (Kp.of_mod hma hI.mod.size) ⟨hIa, hlt⟩ ⟨W.heap.size, heap_alloc_new _ _, rfl⟩
 case body =>
  rintro l pre x a' W hl ⟨r, hr⟩ ⟨hI, hlt⟩ ⟨Bx, hBx, rfl⟩ hlen; obtain ⟨la, cap, hbo, hown, hbl⟩ := hI.out; obtain ⟨x1, x2⟩ := x; have q0 : W.cell? ⟨Bx, 0, none⟩ = some (.string x1) := by rw [cell_of_row _ _ _ _ _ _ hBx]; rfl
  have q1 : W.cell? ⟨Bx, 1, none⟩ = some (.string x2) := by rw [cell_of_row _ _ _ _ _ _ hBx]; rfl
  have qo : W.cell? ⟨w.heap.size + 1, 0, none⟩ = some (.slice la pre.length cap) := by rw [cell_of_row _ _ _ _ _ _ hbo]; rfl
  have HI := hid hI; have HO := hid hown; have HBl := hid hbl; have HBo := hid hbo; have hpl : pre.length < L.length := hlen; have hpb : pre.length + 1 <= 1099511627776 := by have := HB.out; omega
  have HLt := hid hlt; clear hI hr hBx hbo hown hbl hlen hlt; have HNb : Hid (¬ blk la (w.heap.size + 1)) := hid (fun e => by
   obtain ⟨cur, hc⟩ := HO.out.cells e; rw [HBo.out] at hc; cases hc)
  have HNm : Hid (¬ blk la w.heap.size) := hid (fun e => by
   obtain ⟨cur, hc⟩ := HO.out.cells e; rw [HI.out.most] at hc; cases hc)
  have HFin : Hid (∀ (w5 : World) (la5 : Option Addr) (cap5 : Nat), Mod (blk la) W w5 -> w5.heap[w.heap.size + 1]? = some (.cells #[.slice la pre.length cap] 38 (0, 0)) -> w5.heap[w.heap.size]? = some (.cells #[.int .i64 most] 3 (0, 0)) -> Own w5 41 2 la5 (pre.length + 1) cap5 (pre.flatMap kcs ++ [.string x1, .string x2]) -> (∀ k, blk la5 k -> w.heap.size <= k) →
    KeepsFrom W0.heap.size W (w5.setCell ⟨w.heap.size + 1, 0, none⟩ (.slice la5 (pre.length + 1) cap5)) /\ Kp w.heap.size W (w5.setCell ⟨w.heap.size + 1, 0, none⟩ (.slice la5 (pre.length + 1) cap5)) /\ qQp w (w5.setCell ⟨w.heap.size + 1, 0, none⟩ (.slice la5 (pre.length + 1) cap5)) most (pre ++ [(x1, x2)])) := hid (fun w5 la5 cap5 hm5 hb5 hbm5 ho5 hbl5 => by
   have hm6 : Mod (fun k => blk la k \/ k = w.heap.size + 1) W (w5.setCell ⟨w.heap.size + 1, 0, none⟩ (.slice la5 (pre.length + 1) cap5)) := (hm5.mono (fun k _ e => .inl e)).setCell (p := ⟨w.heap.size + 1, 0, none⟩) (fun _ => .inr rfl) _
   have hmS : Mod (fun k => k = w.heap.size + 1) w5 (w5.setCell ⟨w.heap.size + 1, 0, none⟩ (.slice la5 (pre.length + 1) cap5)) := Mod.setCell (S := fun k => k = w.heap.size + 1) (p := ⟨w.heap.size + 1, 0, none⟩) (Mod.refl _ _) (fun _ => rfl) _
   have hcl : ∀ k, (blk la k \/ k = w.heap.size + 1) -> ∃ cur t, W.heap[k]? = some (.cells cur t (0, 0)) /\ t ≠ 123 := fun k hk => by
    rcases hk with hk | hk
    ·obtain ⟨cur, hc⟩ := HO.out.cells hk; exact ⟨cur, _, hc, by decide⟩
    ·rw [hk]; exact ⟨_, _, HBo.out, by decide⟩
   refine ⟨qPu _ hm6 (fun k o hk ho => ?_), ⟨hm6.below HI.out.mod.size (fun k hk => ?_), fun k vs hk => (hm6.block k (lth hk) (fun e => ?_)).trans hk⟩, ⟨la5, cap5, ?_, ?_, hbl5⟩, (hmS.block _ (lth hbm5) (by omega)).trans hbm5, HI.out.mod.then hm6 (fun k hk e => ?_)⟩
   ·obtain ⟨cur, t, hc, _⟩ := hcl k hk; rw [ho] at hc; cases hc; rfl
   ·rcases hk with hk | hk
    ·exact HBl.out k hk
    ·omega
   ·obtain ⟨cur, t, hc, hne⟩ := hcl k e; rw [hk] at hc; cases hc
    exact hne rfl
   ·rw [qAh hb5, List.length_append]; rfl
   ·rw [jGp, List.length_append]; refine ho5.mod hmS (fun k hk e => ?_)
    obtain ⟨cur, hc⟩ := ho5.cells hk; rw [e, hb5] at hc; cases hc
   ·rcases e with e | e
    ·have := HBl.out k e; omega
    ·omega)
  by_cases he : (pre.length : Int) + 1 = most
  ·have dE : (((pre.length : Int) + 1) == most) = true := by rw [beq_iff_eq]; exact he
   gi_wp2_with (gi_at_builtin; refine qEs rfl (.tmp 27) (.tmp 29) 38 rfl 41 i0 _ 2 32 Tryz.underlying38 hi hz0 hz1 hz2 rfl la pre.length cap _ rfl (qRm HO.out _) (some ⟨W.heap.size, 0, none⟩) 1 1 _ rfl (qVn _ _ _) qVo (by unfold maxLen; omega) (by omega) ?_; intro la5 cap5 w5 hown5 hmo5 hbo5 hn5 hr5; have HM5 : Hid (Mod (blk la) W w5) := hid (((Mod.refl _ W).alloc _).trans hmo5); have hb5 : w5.heap[w.heap.size + 1]? = some (.cells #[.slice la pre.length cap] 38 (0, 0)) := (HM5.out.block _ (lth HBo.out) HNb.out).trans HBo.out; have hm5 : w5.heap[w.heap.size]? = some (.cells #[.int .i64 most] 3 (0, 0)) := (HM5.out.block _ (lth HI.out.most) HNm.out).trans HI.out.most; have HB5 := hid hb5; have HMo5 := hid hm5; have HO5 := hid hown5; have HBl5 : Hid (∀ k, blk la5 k -> w.heap.size <= k) := hid (fun k hk => (hbo5 k hk).elim (fun e => HBl.out k e) (fun e => by have h1 := HI.out.mod.size; simp at e; omega)); have z1 := cell_of_row w5 (w.heap.size + 1) 0 _ _ _ hb5; have z2 := frozen_of_row w5 (w.heap.size + 1) 0 _ _ hb5; have z3 := cell_of_row w5 w.heap.size 0 _ _ _ hm5; simp only [List.getElem?_toArray, List.getElem?_cons_zero] at z1 z3; clear hown5 hmo5 hbo5 hn5 hr5 hb5 hm5)
   obtain ⟨f1, f2, f3⟩ := HFin.out w5 la5 cap5 HM5.out HB5.out HMo5.out HO5.out HBl5.out; exact ⟨f1, rfl, f3, by rw [List.length_append]; simpa using he⟩
  ·have dE : (((pre.length : Int) + 1) == most) = false := by rw [beq_eq_false_iff_ne]; exact he
   gi_wp2_with (gi_at_builtin; refine qEs rfl (.tmp 27) (.tmp 29) 38 rfl 41 i0 _ 2 32 Tryz.underlying38 hi hz0 hz1 hz2 rfl la pre.length cap _ rfl (qRm HO.out _) (some ⟨W.heap.size, 0, none⟩) 1 1 _ rfl (qVn _ _ _) qVo (by unfold maxLen; omega) (by omega) ?_; intro la5 cap5 w5 hown5 hmo5 hbo5 hn5 hr5; have HM5 : Hid (Mod (blk la) W w5) := hid (((Mod.refl _ W).alloc _).trans hmo5); have hb5 : w5.heap[w.heap.size + 1]? = some (.cells #[.slice la pre.length cap] 38 (0, 0)) := (HM5.out.block _ (lth HBo.out) HNb.out).trans HBo.out; have hm5 : w5.heap[w.heap.size]? = some (.cells #[.int .i64 most] 3 (0, 0)) := (HM5.out.block _ (lth HI.out.most) HNm.out).trans HI.out.most; have HB5 := hid hb5; have HMo5 := hid hm5; have HO5 := hid hown5; have HBl5 : Hid (∀ k, blk la5 k -> w.heap.size <= k) := hid (fun k hk => (hbo5 k hk).elim (fun e => HBl.out k e) (fun e => by have h1 := HI.out.mod.size; simp at e; omega)); have z1 := cell_of_row w5 (w.heap.size + 1) 0 _ _ _ hb5; have z2 := frozen_of_row w5 (w.heap.size + 1) 0 _ _ hb5; have z3 := cell_of_row w5 w.heap.size 0 _ _ _ hm5; simp only [List.getElem?_toArray, List.getElem?_cons_zero] at z1 z3; clear hown5 hmo5 hbo5 hn5 hr5 hb5 hm5)
   obtain ⟨f1, f2, f3⟩ := HFin.out w5 la5 cap5 HM5.out HB5.out HMo5.out HO5.out HBl5.out; exact ⟨f1, f2, f3, by rw [List.length_append]; have h1 := HLt.out; simp; omega⟩
 case done =>
  rintro D ys W hD rfl ⟨hI, hlt⟩ hK; obtain ⟨la, cap, hbo, hown, hbl⟩ := hI.out; have qo := cell_of_row _ (w.heap.size + 1) 0 _ _ _ hbo; simp only [List.getElem?_toArray, List.getElem?_cons_zero] at qo; have HF := hid (fun o' => qVa (o' := o') hI hown hbl hK (by omega) (List.take_of_length_le (by omega : ys.length <= most.toNat)))
  clear hI hbo hown hbl hlt; go_wp2_with fail
  refine ⟨by simp, .inl ⟨_, _, rfl, run_takeDeferred hK, ?_⟩⟩
  refine ⟨_, results_tmp rfl _ _ _, ?_⟩; go_simp; exact HF.out _
 case stop =>
  rintro D c pre W hD hpre ⟨rfl, hI, hlt⟩ hK; obtain ⟨la, cap, hbo, hown, hbl⟩ := hI.out; have qo := cell_of_row _ (w.heap.size + 1) 0 _ _ _ hbo; simp only [List.getElem?_toArray, List.getElem?_cons_zero] at qo; have hLp : L.take most.toNat = pre := by
   have h9 : pre <+: L := hpre; rw [show most.toNat = pre.length by omega]
   exact (List.prefix_iff_eq_take.1 h9).symm
  have HF := hid (fun o' => qVa (o' := o') hI hown hbl hK (by omega) hLp)
  clear hI hbo hown hbl hlt hpre hLp; refine wpIn_wide.2 ?_; go_wp2_with fail
  refine ⟨by simp, .inl ⟨_, _, rfl, run_takeDeferred hK, ?_⟩⟩
  refine ⟨_, results_tmp rfl _ _ _, ?_⟩; go_simp; exact HF.out _
end
section
open Go Go.RowKit
set_option maxRecDepth 100000
theorem jCn {S : Nat -> Prop} {w : World} {B : TB} {T : TM} {D : Dsk} {off : Bool} (h : qAu S w B T D off) (h0 : T.root = 0) (key : ByteArray) :
  Calls Tryz.prog 20 #[.pointer (some ⟨B.tb, 0, none⟩), .string key] w fun e w' => e = .returned (.tuple #[.string ⟨#[]⟩, .bool false]) /\ w = w' := by
 obtain ⟨c0, _⟩ := h.cells; rw [h0] at c0; clear h h0; go_enter Tryz.func20, Tryz.ntmps20
 go_wp2
 go_ret2; exact ⟨rfl, rfl⟩
def jMk (es : List Ent) (key : ByteArray) (e : Ending) : Prop :=
 (∃ x ∈ es, x.key = key /\ e = .returned (.tuple #[.string x.value, .bool true])) \/ ((∀ x ∈ es, x.key ≠ key) /\ e = .returned (.tuple #[.string ⟨#[]⟩, .bool false]))
set_option maxHeartbeats 1000000 in
theorem jJw {S : Nat -> Prop} {w : World} {B : TB} {T : TM} {D : Dsk} {off : Bool} (h : qAu S w B T D off) {key : ByteArray} {F : Nat} {n0 fin : NP} (h0 : T.root ≠ 0) (hr : T.nodes T.root = some n0) (hd : qTx T.nodes F n0 key = some fin) :
  Calls Tryz.prog 20 #[.pointer (some ⟨B.tb, 0, none⟩), .string key] w fun e w' => jMk fin.2 key e /\ Mod (fun _ => False) w w' := by
 obtain ⟨c0, _⟩ := h.cells; have d0 : (T.root == 0) = false := by rw [beq_eq_false_iff_ne]; exact h0
 have HL := hid (jGh h hr hd); obtain ⟨lf, es⟩ := fin; clear h hr hd h0; go_enter Tryz.func20, Tryz.ntmps20
 go_upto_region 4 with (go_at_call 41; refine HL.out.mono ?_; rintro e w1 ⟨m, rfl, hh, hn, hg, hb, hf, hm⟩; have HH := hid hh; have HN := hid hn; have HG := hid hg; have HF := hid hf; have HM := hid hm; clear hh hn hg hb hf hm; simp only [Nd.val])
 have HRi : Hid (qNc m.keys) := hid (by rw [HH.out.k]; exact qFv HG.out)
 have HBx : Hid ((w1.alloc (.cells #[.bool m.leaf, .slice m.ka m.keys.length m.kc, .slice m.va m.values.length m.vc, .slice m.ia m.kids.length m.ic] 123)).heap[w1.heap.size]? = some (.cells #[.bool m.leaf, .slice m.ka m.keys.length m.kc, .slice m.va m.values.length m.vc, .slice m.ia m.kids.length m.ic] 123 (0, 0))) := hid (heap_alloc_new _ _); have HM2 : Hid (Mod (fun _ => False) w1 (w1.alloc (.cells #[.bool m.leaf, .slice m.ka m.keys.length m.kc, .slice m.va m.values.length m.vc, .slice m.ia m.kids.length m.ic] 123))) := hid ((Mod.refl _ _).alloc _)
 have HPl := hid (qGq key (HN.out.nd.ext HM2.out) HRi.out); generalize w1.alloc (.cells #[.bool m.leaf, .slice m.ka m.keys.length m.kc, .slice m.va m.values.length m.vc, .slice m.ia m.kids.length m.ic] 123) = Z at *; obtain ⟨x0, x1, x2, x3⟩ := cl4 HBx.out; go_upto_region 5 with (go_at_call 42; refine HPl.out.mono ?_; rintro e w3 ⟨⟨i, ok, hat, hok, rfl⟩, hm3⟩; have HAt := hid hat; have HOk := hid hok; have HM3 := hid hm3; have hb3 := qAq hm3 HBx.out; have HB3 := hid hb3; obtain ⟨y0, y1, y2, y3⟩ := cl4 hb3; clear hat hok hm3 hb3 x0 x1 x2 x3)
 have HCut := hid (qOr (c := ⟨key, emp, false⟩) (es := es) (i := i) (ok := ok) (by have h1 := HRi.out; rw [HH.out.k] at h1; exact h1) (by have h1 := HAt.out; rw [HH.out.k] at h1; exact h1) (by have h1 := HOk.out; rw [HH.out.k] at h1; exact h1))
 have HMa := hid ((HM.out.trans HM2.out).trans HM3.out); cases ok with
 | false =>
  clear y0 y1 y2 y3; go_wp2_with fail
  go_ret2; refine ⟨.inr ⟨fun x hx e => ?_, rfl⟩, HMa.out⟩
  have h1 := HCut.out.2.1; unfold hasE at h1; rw [List.any_eq_false] at h1; exact h1 x hx (by simpa using e)
 | true =>
  obtain ⟨x, hx, hxk⟩ := HCut.out.2.2.1; have HX := hid hx; have HXk := hid hxk; have hlf : lf = true := HF.out; have HVs : Hid (m.values = es.map (·.value)) := hid (by have h1 := HH.out.v; rw [hlf] at h1; exact h1)
  have hgv : m.values[i]? = some x.value := by rw [HVs.out, List.getElem?_map, hx]; rfl
  have hil : i < m.values.length := (List.getElem?_eq_some_iff.1 hgv).1; have hdi : ¬ m.values.length <= i := by omega
  obtain ⟨gv, ov, hva, hvc⟩ := ((HN.out.nd.ext HM2.out).ext HM3.out).v.one hgv; rw [hva] at y2; clear hx hxk hgv hva hlf; go_wp2_with fail
  go_ret2; exact ⟨.inl ⟨x, List.mem_of_getElem? HX.out, HXk.out, rfl⟩, HMa.out⟩
theorem jEt {S : Nat -> Prop} {w : World} {B : TB} {T : TM} {D : Dsk} {off : Bool} (h : qAu S w B T D off) : Calls Tryz.prog 77 #[.pointer (some ⟨B.tb, 0, none⟩)] w fun e w' => e = .returned (.int .i64 T.count) /\ w = w' := by
 obtain ⟨_, _, _, c3, _⟩ := h.cells; clear h; go_enter Tryz.func77, Tryz.ntmps77
 go_wp2
 go_ret; exact ⟨rfl, rfl⟩
end
section
open Go Go.RowKit
structure Here (w : World) (B : TB) (T : TM) (D : Dsk) (k : Nat) (l : List KV) (N : Nat) : Prop where
 tree : qAu (TS B) w B T D false
 lit : Lit D k
 std : Std B.room D T l N
 ne : B.nb ≠ B.ab
theorem Here.ext {w w' : World} {B : TB} {T : TM} {D : Dsk} {k : Nat} {l : List KV} {N : Nat} (h : Here w B T D k l N) (hm : Mod (fun _ => False) w w') : Here w' B T D k l N := ⟨h.tree.mod hm (fun _ e => e.elim) (fun _ e => e.elim), h.lit, h.std, h.ne⟩
def HApp (w : World) (B : TB) (T : TM) (D : Dsk) (k : Nat) (l : List KV) (N : Nat) (cs : List Cg) (e : Ending) (w' : World) : Prop :=
 (chkF [] cs ≠ 0 /\ e = .returned (.int .i64 (chkF [] cs)) /\ Here w' B T D k l N /\ Mod (fun _ => False) w w') ∨
 (chkF [] cs = 0 /\ ((e = .returned (.int .i64 52) /\ (jlen B.room D : Int) <= (N : Int) + 8 * cs.length /\ Here w' B T D k l N /\ Mod (fun _ => False) w w') ∨
  (e = .returned (.int .i64 31) /\ (B.room < 21 * cs.length + 1 /\ ∃ (W' : WM) (ls : List Chg) (ln : List (Int × NP)) (la : List (Int × Int)), allM T (jlen B.room D : Int) 70 cs T.begin = some W' /\ Laid W' ls ln la /\ B.room < ls.length) /\ Here w' B T D k l N /\ Mod (fun _ => False) w w') ∨
  (e = .returned (.int .i64 0) /\ ∃ (T' : TM) (D' : Dsk) (N' : Nat), Here w' B T' D' (k + 1002) (chgs cs l) N' /\ D'.secs.length = D.secs.length /\ Mod (TS B) w w')))
theorem qYk {w : World} {B : TB} {T : TM} {D : Dsk} {k : Nat} {l : List KV} {N : Nat} (h : Here w B T D k l N) (hk0 : k <= 1152921504606846976) {a : Option Addr} (cap : Nat) {cs : List Cg} (hc : Lies w 3 ccs a cs) (hcl : cs.length <= 1048576) (hs : ∀ c ∈ cs, c.key.size <= maxLen /\ c.value.size <= maxLen) :
  Calls Tryz.prog 11 #[.pointer (some ⟨B.tb, 0, none⟩), .slice a cs.length cap] w (HApp w B T D k l N cs) := by
 by_cases hchk : chkF [] cs = 0
 ·obtain ⟨W', N', h1, h2, h3, h4, h5, h6⟩ := jAb h.lit h.std cs (fun c hc => qJr hchk c hc) hcl
  obtain ⟨r1, r2, r3, r4, r5, r6, r7⟩ := h2.rng; have ht := h.std.ti.rng; have hj : jlen B.room D <= 16384 := by have := h.lit.b.n; unfold jlen; omega
  have hnx := h.std.next; obtain ⟨t1, t2, t3, t4, _⟩ := ht; have e1 : T.begin.count = T.count := rfl; have e2 : T.begin.next = T.next := rfl; rw [e1, e2] at t4; rw [e2] at t2; refine (jHv h.tree cap hc (by omega) hs hchk h1 (by omega) (by omega) (by omega) (fun x hx => by have := r5 x hx; omega) (fun x y hy => by have := r6 x y hy; omega) (fun ls hnd hls => ?_) h.lit.b hk0 h.ne).mono (fun e w' ha => ?_)
  ·have q1 := qMc (m := (List.range W'.next.toNat).map (fun i : Nat => (i : Int))) hnd (fun x hx => by
    have := r5 x (hls x hx); exact List.mem_map.2 ⟨x.toNat, List.mem_range.2 (by omega), by omega⟩)
   rw [List.length_map, List.length_range] at q1; omega
  ·obtain ⟨ls, ln, la, hlaid, hh⟩ := ha; refine .inr ⟨hchk, ?_⟩; rcases hh with ⟨a1, rfl, a3, a4⟩ | ⟨a1, a2, rfl, a3, a4⟩ | ⟨a1, a2, a3, rfl, a4, a5⟩ | ⟨a1, a2, a3, a4, _⟩ | ⟨a1, a2, a3, a4, rfl, a6, a7⟩
   ·exact .inl ⟨rfl, h3 a1, ⟨a3, h.lit, h.std, h.ne⟩, a4⟩
   ·refine .inr (.inl ⟨rfl, ⟨?_, W', ls, ln, la, h1, hlaid, a2⟩, ⟨a3, h.lit, h.std, h.ne⟩, a4⟩); have := h6 ls ln la hlaid a1; omega
   ·refine .inr (.inr ⟨rfl, T, D, N, ?_, rfl, a5.mono (fun _ _ e => e.elim)⟩)
    rw [a3]; exact ⟨a4, h.lit.le (by omega), h.std, h.ne⟩
   ·exact absurd (qNs h.lit h.std h2 (h4 a1) hlaid a2).1 a4
   ·obtain ⟨c1, c2, c3⟩ := qNs h.lit h.std h2 (h4 a1) hlaid a2; have hr := h.std.r2; exact .inr (.inr ⟨rfl, _, _, N', ⟨a6, c2.le (by omega), c3, h.ne⟩, qIk _ _ _, a7⟩)
 ·exact (jDy h.tree cap hc (by omega) hs hchk).mono (fun e w' ⟨he, hm⟩ => .inl ⟨hchk, he, h.ext hm, hm⟩)
theorem Here.empty {w : World} {B : TB} {T : TM} {D : Dsk} {k : Nat} {l : List KV} {N : Nat} (h : Here w B T D k l N) : (T.root = 0 /\ l = []) \/ (T.root ≠ 0 /\ l ≠ [] /\ ∃ (g : Nat) (t : Tr g), g <= 26 /\ Sd T.nodes 250 g T.root t /\ flat g t = l) := by
 obtain ⟨_, _, h3⟩ := h.std.ti; rcases h3 with ⟨h4, h5, _⟩ | ⟨ht, t, F, hR, _⟩
 ·exact .inl ⟨h4, h5⟩
 ·refine .inr ⟨hR.nz, ?_, ht, t, hR.le, hR.sd, hR.fl⟩; rw [<- hR.fl]; obtain ⟨q, v, r, _, h6⟩ := qKo ht t (qOu hR.sd); rw [h6]; simp
theorem Here.len {w : World} {B : TB} {T : TM} {D : Dsk} {k : Nat} {l : List KV} {N : Nat} (h : Here w B T D k l N) : l.length <= 8388608 /\ T.count = l.length := by
 have h1 := h.std.ti.rng; have h2 : T.begin.count = l.length := h.std.ti.2.1; have e1 : T.begin.count = T.count := rfl; have e2 : T.begin.next = T.next := rfl; have hj : jlen B.room D <= 16384 := by have := h.lit.b.n; unfold jlen; omega
 have hnx := h.std.next; rw [e1] at h1 h2; rw [e2] at h1; omega
theorem qWe {w : World} {B : TB} {T : TM} {D : Dsk} {k : Nat} {l : List KV} {N : Nat} (h : Here w B T D k l N) : Calls Tryz.prog 77 #[.pointer (some ⟨B.tb, 0, none⟩)] w fun e w' => e = .returned (.int .i64 (l.length : Int)) /\ w = w' :=
 (jEt h.tree).mono (fun e w' ⟨he, hw⟩ => ⟨by rw [he, h.len.2], hw⟩)
theorem jCi {w : World} {B : TB} {T : TM} {D : Dsk} {k : Nat} {l : List KV} {N : Nat} (h : Here w B T D k l N) (key : ByteArray) (most : Int) : Calls Tryz.prog 12 #[.pointer (some ⟨B.tb, 0, none⟩), .string key, .int .i64 most] w (qNb w (qSw l key most)) := by
 have hnil : ∀ e w', (e = .returned (.slice none 0 0) /\ Mod (fun _ => False) w w') -> qNb w [] e w' := fun e w' ⟨he, hm⟩ => ⟨none, 0, he, Own.nil _ _ _, (fun b hb => (qAj b hb).elim), hm⟩
 by_cases hm : most < 1
 ·have e : qSw l key most = [] := by unfold qSw; rw [show most.toNat = 0 by omega]; rfl
  rw [e]; exact (qUz h.tree (.inr hm) _).mono hnil
 ·rcases h.empty with ⟨h0, rfl⟩ | ⟨h0, _, g, t, hg, hS, hfl⟩
  ·have e : qSw [] key most = [] := by unfold qSw; simp
   rw [e]; exact (qUz h.tree (.inl h0) _).mono hnil
  ·have hasc : Asc (flat g t) := by rw [hfl]; exact h.std.ti.1.asc
   have hw := qUq key g T.root t hS hasc; rw [hfl] at hw; have hl := List.length_filter_le (geK key) l; exact jFe h.tree h0 (by omega) hw (by have := h.len.1; omega)
theorem jGy {w : World} {B : TB} {T : TM} {D : Dsk} {k : Nat} {l : List KV} {N : Nat} (h : Here w B T D k l N) (key : ByteArray) : Calls Tryz.prog 20 #[.pointer (some ⟨B.tb, 0, none⟩), .string key] w fun e w' => e = .returned (qNj l key) /\ Mod (fun _ => False) w w' := by
 have hasc := h.std.ti.1.asc; rcases h.empty with ⟨h0, rfl⟩ | ⟨h0, _, g, t, hg, hS, hfl⟩
 ·exact (jCn h.tree h0 key).mono (fun e w' ⟨he, hw⟩ => ⟨he, by rw [hw]; exact Mod.refl _ _⟩)
 ·obtain ⟨es, hd, hv⟩ := qWh key g T.root t hS (by rw [hfl]; exact hasc)
  rw [hfl] at hv; refine (jJw h.tree h0 (qHv.1 hS).1.1 hd).mono (fun e w' ⟨ha, hm⟩ => ⟨?_, hm⟩)
  rcases ha with ⟨x, hx, hk, he⟩ | ⟨hno, he⟩
  ·have h1 := (hv x.value).1 ⟨x, hx, hk, rfl⟩; have h2 : qNj l key = .tuple #[.string x.value, .bool true] := by
    obtain ⟨a, b, hab⟩ := List.append_of_mem h1; refine qRf (x := (key, x.value)) (k := a.length) (by rw [hab]; simp) rfl (fun p hp e => ?_)
    rw [hab, List.take_left' rfl] at hp; rw [hab] at hasc; have h3 : kl p.1 key = true := (qCa.1 hasc).2.2 p hp (key, x.value) List.mem_cons_self; rw [e, qBz] at h3; cases h3
   rw [he, h2]
  ·rw [he, jAp (fun p hp e => ?_)]
   obtain ⟨x, hx, hk, _⟩ := (hv p.2).2 (by rw [<- e]; exact hp)
   exact hno x hx hk
end
section
open Go Go.RowKit
theorem qIu {w w' : World} (h : Mod (fun b => w.heap.size <= b) w w') : Mod (fun _ => False) w w' := h.mono (fun k hk e => by omega)
theorem qYw {w w1 : World} {d : Nat} {sa : Option Addr} {B : TB} (h1 : B.d = d) (h2 : B.sa = sa) (hd : w.heap.size <= d) (hs : ∀ k, blk sa k -> w.heap.size <= k) (hw : w.heap.size <= w1.heap.size) (h3 : w1.heap.size <= B.tb /\ w1.heap.size <= B.nb /\ w1.heap.size <= B.ab /\ w1.heap.size <= B.j) : ∀ i, TS B i -> w.heap.size <= i := fun i e => by
 rcases e with e | e | e | e | e
 ·omega
 ·omega
 ·omega
 ·omega
 ·rw [h1, h2] at e; rcases e with e | e
  ·omega
  ·exact hs i e
theorem qWo : ∀ (cs : List Cg) {l : List KV}, (chgs cs l).length <= l.length + cs.length
 | [], _ => Nat.le_refl _
 | c :: cs, l => by
  rw [qHa]; have h1 := qWo cs (l := chg c l); have h2 : (chg c l).length <= l.length + 1 := by
   unfold chg Cg.put; rw [List.length_append, List.length_append]; have h3 : (l.filter (fun p => kl p.1 c.key)).length + (l.filter (fun p => kl c.key p.1)).length <= l.length := by
    clear h1; induction l with
    | nil => simp
    | cons p r ih =>
     rw [List.filter_cons, List.filter_cons, List.length_cons]; cases ha : kl p.1 c.key with
     | true => rw [qDw ha]; simp only [if_true, Bool.false_eq_true, if_false, List.length_cons]; omega
     | false =>
      cases hb : kl c.key p.1 with
      | true => simp only [if_true, Bool.false_eq_true, if_false, List.length_cons]; omega
      | false => simp only [Bool.false_eq_true, if_false]; omega
   split <;> simp only [List.length_nil, List.length_cons] <;> omega
  rw [List.length_cons]; omega
theorem HApp.made {w0 w w' : World} {B : TB} {T : TM} {D : Dsk} {k : Nat} {l : List KV} {N : Nat} {cs : List Cg} {e : Ending} (hh : Here w0 B T D k l N) (h : HApp w B T D k l N cs e w') (hc : chkF [] cs = 0) (hl : l.length <= 500) (hn : cs.length <= 20) (hr : B.room = 500) (hD : 1500 <= D.secs.length) :
  e = .returned (.int .i64 0) /\ ∃ (T' : TM) (D' : Dsk) (N' : Nat), Here w' B T' D' (k + 1002) (chgs cs l) N' /\ D'.secs.length = D.secs.length /\ Mod (TS B) w w' := by
 rcases h with ⟨h1, _⟩ | ⟨_, ⟨_, h1, _⟩ | ⟨_, ⟨h1, _⟩, _⟩ | ⟨rfl, T', D', N', h2, hn', h3⟩⟩
 ·exact absurd hc h1
 ·exfalso
  have h2 := hh.std.ti.secs.1; have h3 := qRj l (fun p hp => ⟨(hh.std.ti.1.ok p hp).1.2, (hh.std.ti.1.ok p hp).2⟩)
  rw [hr] at h1; unfold jlen at h1; omega
 ·exfalso
  rw [hr] at h1; omega
 ·exact ⟨rfl, T', D', N', h2, hn', h3⟩
theorem jGx {w : World} {d room : Nat} {sa : Option Addr} {n : Int} (hD : qAp w d sa (newD n)) (h1 : 1 <= room) (h2 : room <= 500) (hn : 1 <= jlen room (newD n)) (hl : (newD n).secs.length <= 16384) :
  Calls Tryz.prog 7 #[.pointer (some ⟨d, 0, none⟩), .int .i64 (room : Int)] w fun e w' => ∃ B : TB, e = .returned (.tuple #[.pointer (some ⟨B.tb, 0, none⟩), .int .i64 0]) /\ Here w' B newT (newD n) 0 [] 0 /\ B.d = d /\ B.sa = sa /\ B.room = room /\ (w.heap.size <= B.tb /\ w.heap.size <= B.nb /\ w.heap.size <= B.ab /\ w.heap.size <= B.j) /\ Mod (qBj d sa) w w' := by
 have hL := jBp n; have hs : Std room (newD n) newT [] 0 := jIr h1 h2 hn; have ho : qKg room (newD n) = (0, newD n) := jFv hL (by unfold jlen at hn; omega) hs.clear
 have hr1 : (qEu room (newD n) 0).1 = qCl := by
  have := qIv (room := room) hL.off 0; rw [if_pos (by omega), qSv] at this
  exact this
 have hr2 : (qEu room (newD n) 0).2 = 0 := jFh hL.off (by omega) (by omega)
 have hz : (qEu room (newD n) 0).1.size <= 1024 := qNv hL.b _; refine (qZw hD hL.b (by omega) h1 h2 (by rw [ho]; exact hl) (by rw [ho]) (by rw [ho]; exact hr2) (by rw [ho]; unfold maxLen; simp only; omega) (by rw [ho]; simp only; rw [hr1, qHr]; exact qJw _)).mono fun e w' ⟨N, j, he, ht, hN, hj, hm⟩ => ?_
 rw [ho] at ht; refine ⟨newB N j d sa room, he, ⟨ht, hL, hs, ?_⟩, rfl, rfl, rfl, ⟨?_, hN, ?_, hj⟩, hm⟩
 ·show N ≠ N + 1; omega
 ·show w.heap.size <= N + 1 + 1; omega
 ·show w.heap.size <= N + 1; omega
end
section
open Go Go.RowKit
def RBad (R F : Option PK) (n m : Nat) : Prop := (R = none /\ 0 < n) \/ (F = none /\ 0 < m) \/ ∃ p q, R = some p /\ F = some q /\ p.k ≠ q.k
theorem qVg {P Q : Option PB} {n m : Nat} : RBad (P.map PB.pk) (Q.map PB.pk) n m ↔ qOk P Q n m := by
 unfold RBad qOk; rw [Option.map_eq_none_iff, Option.map_eq_none_iff]; refine or_congr Iff.rfl (or_congr Iff.rfl ⟨?_, ?_⟩)
 ·rintro ⟨p, q, hp, hq, hne⟩; obtain ⟨p', hp', rfl⟩ := Option.map_eq_some_iff.1 hp; obtain ⟨q', hq', rfl⟩ := Option.map_eq_some_iff.1 hq; exact ⟨p', q', hp', hq', fun e => hne (toList_inj e)⟩
 ·rintro ⟨p, q, hp, hq, hne⟩; exact ⟨_, _, by rw [hp]; rfl, by rw [hq]; rfl, fun e => hne (congrArg ByteArray.toList e)⟩
theorem jAz {R F : Option PK} {n m : Nat} (h : ¬ RBad R F n m) : ∀ p q, R = some p -> F = some q -> p.k = q.k := fun p q h1 h2 => Classical.byContradiction (fun e => h (.inr (.inr ⟨p, q, h1, h2, e⟩)))
theorem qPb (name : Int) (cols : List Int) (keys idx : Int) : rowK name cols keys idx [] = none := by
 unfold rowK; rw [qEe (fun hg => by
  obtain ⟨_, _, _, h1, h2, _⟩ := qJl hg.fit; have := hg.len; simp at this
  omega)]
 rfl
structure qQq (cols : List Int) (r : List Vl) : Prop where
 n : r.length <= 1048576
 ok : ∀ x ∈ r, x.Ok /\ x.s.size <= 1048576
theorem qQq.size {cols : List Int} {r : List Vl} (h : qQq cols r) (hc : cols.length <= 1048576) : (∀ k, (qEb cols r k).length <= 1152921504606846976) /\ ∀ j k, (valL cols r j k).length <= 1152921504606846976 :=
 qGb (by omega) (fun v hv => (h.ok v hv).1) (fun v hv => by have := (h.ok v hv).2; omega)
theorem qWp {w : World} {ca ra fa : Option Addr} {cols : List Int} {r f : List Vl} (name keys idx : Int) (cc rc fc : Nat) (hl : Lies w 1 oneI ca cols) (hr : Lies w 2 Vl.cs ra r) (hf : Lies w 2 Vl.cs fa f) (hn : cols.length <= 1048576) (h1 : qQq cols r) (h2 : qQq cols f) :
  Calls Tryz.prog 10 #[.agg #[.int .u8 name, .slice ca cols.length cc, .int .i64 keys, .int .i64 idx], .slice ra r.length rc, .slice fa f.length fc] w fun e w' => qWz w ((qBt name cols keys idx r).map PX.b) ((qBt name cols keys idx f).map PX.b) r.length f.length e w' := by
 have n1 := h1.n; have n2 := h2.n; exact qUb name keys idx cc rc fc hl hr hf (by omega) (by omega) (fun v hv => (h1.ok v hv).1) (h1.size hn) (by omega) (fun v hv => (h2.ok v hv).1) (h2.size hn)
theorem qUa {w : World} {ca ra fa : Option Addr} {cols : List Int} {r f : List Vl} {name keys idx : Int} {cc rc fc : Nat} (hl : Lies w 1 oneI ca cols) (hr : Lies w 2 Vl.cs ra r) (hf : Lies w 2 Vl.cs fa f) (hn : cols.length <= 1048576) (h1 : qQq cols r) (h2 : qQq cols f) (hb : RBad (rowK name cols keys idx r) (rowK name cols keys idx f) r.length f.length) :
  Calls Tryz.prog 10 #[.agg #[.int .u8 name, .slice ca cols.length cc, .int .i64 keys, .int .i64 idx], .slice ra r.length rc, .slice fa f.length fc] w fun e w' => e = .returned (.tuple #[.slice none 0 0, .int .i64 60]) /\ Mod (fun _ => False) w w' :=
 (qWp name keys idx cc rc fc hl hr hf hn h1 h2).mono fun _ _ ⟨hm, ha⟩ => ha.elim (fun ⟨_, he⟩ => ⟨he, hm⟩) (fun ⟨hx, _⟩ => absurd (qVg.1 hb) hx)
theorem jDl {w : World} {ca ra fa : Option Addr} {cols : List Int} {r f : List Vl} {name keys idx : Int} {cc rc fc : Nat} (hl : Lies w 1 oneI ca cols) (hr : Lies w 2 Vl.cs ra r) (hf : Lies w 2 Vl.cs fa f) (hn : cols.length <= 1048576) (h1 : qQq cols r) (h2 : qQq cols f) (hb : ¬ RBad (rowK name cols keys idx r) (rowK name cols keys idx f) r.length f.length)
  {cs : List Cg} (hcs : qGl (rowK name cols keys idx r) (rowK name cols keys idx f) = cs) :
  Calls Tryz.prog 10 #[.agg #[.int .u8 name, .slice ca cols.length cc, .int .i64 keys, .int .i64 idx], .slice ra r.length rc, .slice fa f.length fc] w fun e w' => ∃ la cap, e = .returned (.tuple #[.slice la cs.length cap, .int .i64 0]) /\ Lies w' 3 ccs la cs /\ Mod (fun _ => False) w w' :=
 (qWp name keys idx cc rc fc hl hr hf hn h1 h2).mono fun _ _ ⟨hm, ha⟩ => ha.elim (fun ⟨hx, _⟩ => absurd (qVg.2 hx) hb) (fun ⟨_, la, cap, he, hl⟩ => by
  have e := jDm ((qBt name cols keys idx r).map PX.b) ((qBt name cols keys idx f).map PX.b); have e2 : (chgL ((qBt name cols keys idx r).map PX.b) ((qBt name cols keys idx f).map PX.b)).map Rg.c = cs := e.trans hcs; have hl2 := jJh hl; rw [e2] at hl2; refine ⟨la, cap, ?_, hl2, hm⟩; rw [he, <- e2, List.length_map])
end
section
open Go Go.RowKit
def hv (n : Int) : Int := n.tdiv 2
def I64 (n : Int) : Prop := -9223372036854775808 <= n /\ n <= 9223372036854775807
end
section
open Go Go.RowKit
theorem qPk {α : Type} [DecidableEq α] : ∀ {a b : List α}, a.Nodup -> (∀ x ∈ a, x ∈ b) -> a.length <= b.length
 | [], _, _, _ => Nat.zero_le _
 | x :: a, b, h, hs => by
  have hx := hs x List.mem_cons_self; have h1 := qPk (b := b.erase x) (List.nodup_cons.1 h).2 (fun y hy => (List.mem_erase_of_ne (fun e => (List.nodup_cons.1 h).1 (by rw [<- e]; exact hy))).2 (hs y (List.mem_cons_of_mem _ hy)))
  rw [List.length_erase_of_mem hx] at h1; have : 0 < b.length := List.length_pos_of_mem hx; rw [List.length_cons]; omega
theorem qKh {α : Type} {w w' : World} {mb : Nat} {es : Array MapEntry} {c : Nat} (hmap : w.heap[mb]? = some (.map es c)) {f : α -> List Value} {a : Option Addr} {ls : List α} (h : Lies w 1 f a ls) (hf : ∀ x, (f x).length = 1) (hm : Mod (fun b => b = mb) w w') : Lies w' 1 f a ls :=
 h.mod hm (fun h0 k hk e => by
  obtain ⟨g, off, rfl⟩ := h.some h0; have hk := qAc.1 hk; obtain ⟨x, hx⟩ : ∃ x, ls[0]? = some x := ⟨_, List.getElem?_eq_getElem h0⟩; obtain ⟨u, hu⟩ : ∃ u, (f x)[0]? = some u := ⟨_, List.getElem?_eq_getElem (by rw [hf]; omega)⟩
  have hc := h.cell hf hx hu; rw [hk, e] at hc; unfold World.cell? at hc; simp only at hc; rw [hmap] at hc; cases hc)
theorem Here.aside {K : Type} {kv : K -> Value} {w w' : World} {B : TB} {T : TM} {D : Dsk} {k : Nat} {L : List KV} {N : Nat} {mb : Nat} {ls : List (K × Value)} (h : Here w B T D k L N) (hmap : qAv kv w mb ls) (hm : Mod (fun b => b = mb) w w') (hn : ¬ TS B mb) : Here w' B T D k L N := by
 obtain ⟨es, c, hb, _⟩ := hmap; have ht : ∀ k, k = mb -> ¬ TS B k := fun k e => by rw [e]; exact hn
 have t := h.tree; refine ⟨⟨(hm.block B.tb (lth t.box) (fun e => ht _ e (.inl rfl))).trans t.box, ?_, t.after.mod hm (fun e => ht _ e (.inr (.inr (.inl rfl)))), t.disk.mod hm (fun k hk e => ht k e (.inr (.inr (.inr (.inr hk))))), t.jr.mod hm (fun e => ht _ e (.inr (.inr (.inr (.inl rfl))))), t.sep, t.hn, t.hr⟩, h.lit, h.std, h.ne⟩
 obtain ⟨l, h1, h2, h3⟩ := t.nodes; refine ⟨l, h1.mod hm (fun e => ht _ e (.inr (.inl rfl))), h2, fun s n hs => ?_⟩
 obtain ⟨hg, m, k1, k2, k3, k4⟩ := h3 s n hs; have d := k3.nd; exact ⟨hg, m, k1, k2, ⟨⟨qKh hb d.k (fun _ => rfl) hm, qKh hb d.v (fun _ => rfl) hm, qKh hb d.i (fun _ => rfl) hm, d.bk, d.bv, d.bi, d.sk, d.sv, d.rk⟩, k3.ck, k3.cv, k3.ci⟩, fun k hk => ⟨(k4 k hk).1, Nat.lt_of_lt_of_le (k4 k hk).2 hm.size⟩⟩
end
end Go.Proofs.YtkinkgbmlhiakaaGreatDoor
