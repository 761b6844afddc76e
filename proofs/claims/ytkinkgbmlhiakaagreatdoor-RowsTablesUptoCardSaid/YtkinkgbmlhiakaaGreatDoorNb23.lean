/- merged: TwX TwG TwY RoL RoB RwL RwB RwI RwO RwF RwG RwT -/
import Derived.Test.YtkinkgbmlhiakaaGreatDoorNb22
import Derived.Test.YtkinkgbmlhiakaaGreatDoorNb18
import Derived.Test.YtkinkgbmlhiakaaGreatDoorNb10
import Derived.Test.YtkinkgbmlhiakaaGreatDoorNb11
import Derived.Test.YtkinkgbmlhiakaaGreatDoorNb01
import Derived.Test.YtkinkgbmlhiakaaGreatDoorNb03
import Derived.Laws.Bits64
import Derived.Laws.Bits64b
import Derived.Test.YtkinkgbmlhiakaaGreatDoorNb02
import Derived.BigQuiet
namespace Go.Proofs.YtkinkgbmlhiakaaGreatDoor
section
open Go Go.RowKit
attribute [local go_sem] Oper.semAt_some
theorem qWh {J : List KV -> World -> Prop} {B : Nat} (h : AbidesFrom B J) : ∀ pre W W', J pre W -> Mod (fun _ => False) W W' -> J pre W' := fun pre W W' hj hm => h pre W W' none hj ⟨hm.os, hm.tape, hm.output, hm.size, fun k hk _ => hm.block k hk (fun e => e)⟩ (fun r e => by cases e)
theorem qWn {P : Program} {l m m' : Nat} {args : Array Value} {W : World} {R : Ending -> World -> Prop} (h : YieldAt Fence.wide m P l args W R) : YieldAt Fence.wide m' P l args W R := by
 obtain ⟨fn, tmps, assign, body, hy, hR⟩ := h; exact ⟨fn, tmps, assign, body, hy, hR.1, fun c cs _ => hR.2 c cs (room_wide _)⟩
set_option maxRecDepth 100000
set_option maxHeartbeats 1000000 in
theorem qVd {n₀ l F bt bf : Nat} {B : TB} {T : TM} {D : Dsk} {off : Bool} {J Jx : List KV -> World -> Prop} (hJ : ∀ pre W W', J pre W -> Mod (fun _ => False) W W' -> J pre W') {key : ByteArray} {L : List KV}
  (hY : ∀ m pre x W, J pre W -> pre.length < L.length -> YieldAt Fence.wide m Tryz.prog l #[.agg #[.string x.1, .string x.2]] W fun e W' => (e = .returned (.bool true) /\ J (pre ++ [x]) W' /\ Kp n₀ W W') \/ (e = .returned (.bool false) /\ Jx (pre ++ [x]) W'))
  (hL : qIg T.nodes F T.root key = some L) {W : World} (ht : TW n₀ B T D off W) (hj : J [] W) (hbt : W.cell? ⟨bt, 0, none⟩ = some (.pointer (some ⟨B.tb, 0, none⟩))) (hbf : W.cell? ⟨bf, 0, none⟩ = some (.string key)) :
  Calls Tryz.prog 73 #[.func (.yield l) #[] #[], .pointer (some ⟨bt, 0, none⟩), .pointer (some ⟨bf, 0, none⟩)] W fun e W' => (∃ v, e = .returned v) /\ ((∃ xs, xs = L /\ J xs W') \/ ∃ pre, pre <+: L /\ Jx pre W') := by
 have HW := hid (fun (z : World) (hm : Mod (fun _ => False) W z) => jBa hJ key hY F T.root L [] z hL (ht.below (hm.below ht.2.2 (fun _ e => e.elim))) (hJ _ _ _ hj hm) (by simp))
 obtain ⟨c0, _⟩ := ht.1.cells; have g0 := fun y : Ext W => y.cell c0
 have g1 := fun y : Ext W => y.cell hbt
 have g2 := fun y : Ext W => y.cell hbf
 clear hJ hY hL ht hj hbt hbf c0; go_enter Tryz.func73, Tryz.ntmps73
 refine qAf 8 (by kernel_rfl) (by kernel_rfl) ?_
 simp only [List.take_succ_cons, List.take_zero, List.drop_succ_cons, List.drop_zero]; repeat (go_big_quiet_step (fail))
 refine wpQuiet_nil ?_; rintro _ ⟨z, rfl⟩; have HC := hid (HW.out z.val z.mod); clear g0 g1 g2; go_wp2_with (go_at_call 74; refine HC.out.mono ?_; rintro e w4 (⟨rfl, hj4, hk4⟩ | ⟨rfl, q4, hq4, hx4⟩))
 ·go_end0; exact ⟨⟨_, rfl⟩, .inl ⟨L, rfl, hj4⟩⟩
 ·go_end0; exact ⟨⟨_, rfl⟩, .inr ⟨q4, hq4, hx4⟩⟩
theorem qRb {n₀ n F bt bf : Nat} {B : TB} {T : TM} {D : Dsk} {off : Bool} {key : ByteArray} {L : List KV} (hL : qIg T.nodes F T.root key = some L) {w : World} (ht : TW n₀ B T D off w)
  (hbt : w.cell? ⟨bt, 0, none⟩ = some (.pointer (some ⟨B.tb, 0, none⟩))) (hbf : w.cell? ⟨bf, 0, none⟩ = some (.string key)) (h1 : bt < w.heap.size) (h2 : bf < w.heap.size) :
  SeqStopsK Fence.wide n Tryz.prog 73 #[.pointer (some ⟨bt, 0, none⟩), .pointer (some ⟨bf, 0, none⟩)] (fun x : KV => #[Value.agg #[.string x.1, .string x.2]]) (Kp n₀) (fun ys => ys = L) (fun pre => pre <+: L) L.length w := fun _ _ _ _ hW hJa _ hY h0 =>
 callsIn_wide.2 (qVd (qWh hJa) (fun _m pre x W1 hj hl => qWn (hY pre x W1 hj hl)) hL (ht.below (hW.mono ht.2.2)) h0 ((hW.cell (p := ⟨bt, 0, none⟩) h1).trans hbt) ((hW.cell (p := ⟨bf, 0, none⟩) h2).trans hbf))
theorem qYc (w : World) (tb : Nat) (key : ByteArray) : Calls Tryz.prog 36 #[.pointer (some ⟨tb, 0, none⟩), .string key] w fun e w' => e = .returned (.func (.func 73) #[] #[.pointer (some ⟨w.heap.size, 0, none⟩), .pointer (some ⟨w.heap.size + 1, 0, none⟩)]) /\ w' = (w.alloc (.cells #[.pointer (some ⟨tb, 0, none⟩)] 27)).alloc (.cells #[.string key] 9) := by
 go_enter Tryz.func36, Tryz.ntmps36
 go_wp2
 go_ret; exact ⟨rfl, rfl⟩
theorem jIc : (Tryz.prog.info? 41).map (fun i => (i.zero, i.size, i.bytes)) = some (some (.agg #[.string ⟨#[]⟩, .string ⟨#[]⟩]), 2, 32) := by kernel_rfl
structure qWi (w W : World) (most : Int) (pre : List KV) : Prop where
 out : ∃ la cap, W.heap[w.heap.size + 1]? = some (.cells #[.slice la pre.length cap] 38 (0, 0)) /\ Own W 41 2 la pre.length cap (pre.flatMap kcs) /\ ∀ b, blk la b -> w.heap.size <= b
 most : W.heap[w.heap.size]? = some (.cells #[.int .i64 most] 3 (0, 0))
 mod : Mod (fun _ => False) w W
def qLi (w : World) (L : List KV) (e : Ending) (w' : World) : Prop := ∃ la cap, e = .returned (.slice la L.length cap) /\ Own w' 41 2 la L.length cap (L.flatMap kcs) /\ (∀ b, blk la b -> w.heap.size <= b) /\ Mod (fun _ => False) w w'
theorem qSq {w W : World} {most : Int} {pre L : List KV} {la : Option Addr} {cap D : Nat} {ds : List Deferred} {o' : Obj} (h : qWi w W most pre) (ho : Own W 41 2 la pre.length cap (pre.flatMap kcs)) (hb : ∀ b, blk la b -> w.heap.size <= b) (hK : W.heap[D]? = some (.deferred (some ds))) (hD : w.heap.size <= D) (hL : L = pre) :
  qLi w L (.returned (.slice la pre.length cap)) (W.putObj D o') := by
 subst hL; have hm : Mod (fun k => k = D) W (W.putObj D o') := ⟨rfl, rfl, rfl, by simp, fun k _ hk => World.putObj_heap_other hk⟩
 refine ⟨la, cap, rfl, ho.mod hm (fun k hk e => ?_), hb, h.mod.then hm (fun k hk e => by omega)⟩
 obtain ⟨cur, hc⟩ := ho.cells hk; rw [e, hK] at hc; cases hc
theorem jCy {n₀ : Nat} {W : World} {l : Nat} {o : Obj} (o' : Obj) (hn : n₀ <= l) (h : W.heap[l]? = some o) (hc : o.isCells = false) : Kp n₀ W (W.putObj l o') :=
 ⟨⟨rfl, rfl, rfl, by simp, fun k hk => World.putObj_heap_other (by omega)⟩, fun k vs hk => (World.putObj_heap_other (fun e => by rw [e, h] at hk; cases hk; cases hc)).trans hk⟩
theorem qSp {S : Nat -> Prop} {w : World} {B : TB} {T : TM} {D : Dsk} {off : Bool} (h : qCa S w B T D off) {most : Int} (hm : T.root = 0 \/ most < 1) (v : Value) : Calls Tryz.prog 12 #[.pointer (some ⟨B.tb, 0, none⟩), v, .int .i64 most] w fun e w' => e = .returned (.slice none 0 0) /\ Mod (fun _ => False) w w' := by
 have hma : Mod (fun _ => False) w (w.alloc (.cells #[.int .i64 most] 3)) := (Mod.refl _ w).alloc _
 obtain ⟨c0, _⟩ := (h.mod hma (fun _ e => e.elim) (fun _ e => e.elim)).cells
 have hM := hid hma; clear h hma; by_cases h0 : T.root = 0
 ·rw [h0] at c0; clear hm h0; go_enter Tryz.func12, Tryz.ntmps12
  go_wp2
  go_ret; exact ⟨rfl, hM.out⟩
 ·have d0 : (T.root == 0) = false := by rw [beq_eq_false_iff_ne]; exact h0
  have d1 : decide (most < 1) = true := by simpa using hm.resolve_left h0
  clear hm h0; go_enter Tryz.func12, Tryz.ntmps12
  go_wp2
  go_ret; exact ⟨rfl, hM.out⟩
set_option maxHeartbeats 4000000 in
theorem jBv {w : World} {B : TB} {T : TM} {D : Dsk} {off : Bool} (h : qCa (TS B) w B T D off) (h0 : T.root ≠ 0) {most : Int} (hm : 1 <= most) {F : Nat} {key : ByteArray} {L : List KV} (hL : qIg T.nodes F T.root key = some L) (hb : L.length <= 1099511627776) :
  Calls Tryz.prog 12 #[.pointer (some ⟨B.tb, 0, none⟩), .string key, .int .i64 most] w (qLi w (L.take most.toNat)) := by
 obtain ⟨i0, hi, hz0, hz1, hz2⟩ := info_parts jIc; obtain ⟨c0, _⟩ := h.cells; have d0 : (T.root == 0) = false := by rw [beq_eq_false_iff_ne]; exact h0
 have d1 : decide (most < 1) = false := by simpa using hm
 have HT := hid (TW.start h); have c0' : (w.alloc (.cells #[.int .i64 most] 3)).cell? ⟨B.tb, 0, none⟩ = some (.int .i64 T.root) := (((Mod.refl (fun _ => False) w).alloc _).cell (p := ⟨B.tb, 0, none⟩) (lth h.box) (fun e => e)).trans c0
 have HL := hid hL; have HB := hid hb; clear h h0 hm hL hb; refine (callsIn_wide (n := 3)).1 ?_; refine callsIn_of_wp_marks Tryz.func12 rfl trivial ?_ rfl; simp only [Tryz.ntmps12, List.size_toArray, List.length_cons, List.length_nil, Nat.reduceAdd, Nat.reduceSub, Array.replicate_succ, Array.replicate_zero, List.push_toArray, List.append_toArray, List.nil_append, List.cons_append]; refine wpIn_wide.2 ?_; go_wp2_with (go_at_call 36; refine (qYc _ _ _).mono ?_; rintro e w' ⟨rfl, rfl⟩)
 have hsz : ((((w.alloc (.cells #[.int .i64 most] 3)).alloc (.cells #[.slice none 0 0] 38)).alloc (.cells #[.pointer (some ⟨B.tb, 0, none⟩)] 27)).alloc (.cells #[.string key] 9)).heap.size = w.heap.size + 4 := by simp
 have hM0 : Mod (fun _ => False) w ((((w.alloc (.cells #[.int .i64 most] 3)).alloc (.cells #[.slice none 0 0] 38)).alloc (.cells #[.pointer (some ⟨B.tb, 0, none⟩)] 27)).alloc (.cells #[.string key] 9)) := ((((Mod.refl _ _).alloc _).alloc _).alloc _).alloc _
 have hB0 := qAt (((((Mod.refl (fun _ => False) (w.alloc (.cells #[.int .i64 most] 3))).alloc (.cells #[.slice none 0 0] 38)).alloc (.cells #[.pointer (some ⟨B.tb, 0, none⟩)] 27)).alloc (.cells #[.string key] 9))) (heap_alloc_new w (.cells #[.int .i64 most] 3))
 have hB1 := qAt (((Mod.refl (fun _ => False) ((w.alloc (.cells #[.int .i64 most] 3)).alloc (.cells #[.slice none 0 0] 38))).alloc (.cells #[.pointer (some ⟨B.tb, 0, none⟩)] 27)).alloc (.cells #[.string key] 9)) (heap_alloc_new (w.alloc (.cells #[.int .i64 most] 3)) (.cells #[.slice none 0 0] 38))
 have hB2 := qAt ((Mod.refl (fun _ => False) (((w.alloc (.cells #[.int .i64 most] 3)).alloc (.cells #[.slice none 0 0] 38)).alloc (.cells #[.pointer (some ⟨B.tb, 0, none⟩)] 27))).alloc (.cells #[.string key] 9)) (heap_alloc_new ((w.alloc (.cells #[.int .i64 most] 3)).alloc (.cells #[.slice none 0 0] 38)) (.cells #[.pointer (some ⟨B.tb, 0, none⟩)] 27))
 have hB3 := heap_alloc_new (((w.alloc (.cells #[.int .i64 most] 3)).alloc (.cells #[.slice none 0 0] 38)).alloc (.cells #[.pointer (some ⟨B.tb, 0, none⟩)] 27)) (.cells #[.string key] 9); simp only [World.size_alloc] at hB1 hB2 hB3; generalize ((((w.alloc (.cells #[.int .i64 most] 3)).alloc (.cells #[.slice none 0 0] 38)).alloc (.cells #[.pointer (some ⟨B.tb, 0, none⟩)] 27)).alloc (.cells #[.string key] 9)) = W0 at *; have hT0 : TW w.heap.size B T D off W0 := HT.out.below (hM0.below (Nat.le_refl _) (fun _ e => e.elim))
 have hI0 : qWi w W0 most [] := ⟨⟨none, 0, hB1, Own.nil _ _ _, fun k hk => (qAi k hk).elim⟩, hB0, hM0⟩
 refine wpIn_wide.1 (wpIn_rangeFunc_ownH (n := 3) rfl (by omega) (gf := 73) (lb := #[.pointer (some ⟨w.heap.size + 1 + 1, 0, none⟩), .pointer (some ⟨w.heap.size + 1 + 1 + 1, 0, none⟩)]) rfl trivial (enters_of Tryz.func73 (by kernel_rfl) rfl)
  (qRb HL.out hT0 (by rw [cell_of_row _ _ _ _ _ _ hB2]; rfl) (by rw [cell_of_row _ _ _ _ _ _ hB3]; rfl) (by omega) (by omega)) (fun h k => h.trans k) (fun W l o o' hl hk hc _ => jCy o' (by omega) hk hc) (RowKit.Below.refl _ _) (fun _ => rfl)
  (fun pre W => qWi w W most pre /\ (pre.length : Int) < most)
  (fun c pre W => c = .exit 0 /\ qWi w W most pre /\ (pre.length : Int) = most)
  (fun s X Y row hs hg hr => ⟨hs.1.turn hg hr (by omega), hs.2⟩)
  (fun c s X Y row hs hg hr => ⟨hs.1, hs.2.1.turn hg hr (by omega), hs.2.2⟩)
  ⟨hI0, by have h1 : ¬ most < 1 := (by simpa using d1); simp; omega⟩
  (fun x a' W => ∃ Bx, W.heap[Bx]? = some (.cells #[.string x.1, .string x.2] 41 (0, 0)) /\ a' = { tmps := #[.pointer (some ⟨B.tb, 0, none⟩), .string key, .int .i64 most, undef, undef, .pointer (some ⟨w.heap.size, 0, none⟩), .slice none 0 0, .pointer (some ⟨w.heap.size + 1, 0, none⟩), .pointer (some ⟨Bx, 0, none⟩), .pointer (some ⟨B.tb, 0, none⟩), .bool false, .bool false, .pointer (some ⟨B.tb, 0, none⟩), .pointer (some ⟨B.tb, 0, none⟩), .pointer (some ⟨B.tb, 0, none⟩), .pointer (some ⟨B.tb, 0, none⟩), .int .i64 T.root, .bool false, .bool false, .bool false, .int .i64 most, .bool false, .bool false, .pointer (some ⟨B.tb, 0, none⟩), .string key, .func (.func 73) #[] #[.pointer (some ⟨w.heap.size + 1 + 1, 0, none⟩), .pointer (some ⟨w.heap.size + 1 + 1 + 1, 0, none⟩)], .agg #[.string x.1, .string x.2], undef, undef, undef, undef, undef, undef, undef, undef, undef], defers := [] })
  (fun x a' _ X Y row hs hg hr => by
   obtain ⟨Bx, h1, h3⟩ := hs; refine ⟨Bx, (hg.block Bx (lth h1) (fun e => ?_)).trans h1, h3⟩
   obtain ⟨_, o, ho, hc⟩ := hr Bx e.symm; rw [h1] at ho; cases ho; cases hc)
  ?assign ?body ?done ?stop)
 case assign =>
  rintro l pre x W K ⟨hI, hlt⟩ hK; have hma : Mod (fun _ => False) W (W.alloc (.cells #[.string x.1, .string x.2] 41)) := (Mod.refl _ _).alloc _
  gi_wp2
  have hIa : qWi w (W.alloc (.cells #[.string x.1, .string x.2] 41)) most pre := hI.turn (row := none) ⟨hma.os, hma.tape, hma.output, hma.size, fun k hk _ => hma.block k hk (fun e => e)⟩ (fun r e => by cases e) (Nat.le_refl _)
  exact hK _ _ ((KeepsOthers.alloc _ _).from _) (Kp.of_mod hma hI.mod.size) ⟨hIa, hlt⟩ ⟨W.heap.size, heap_alloc_new _ _, rfl⟩
 case body =>
  rintro l pre x a' W hl ⟨r, hr⟩ ⟨hI, hlt⟩ ⟨Bx, hBx, rfl⟩ hlen; obtain ⟨la, cap, hbo, hown, hbl⟩ := hI.out; obtain ⟨x1, x2⟩ := x; have q0 : W.cell? ⟨Bx, 0, none⟩ = some (.string x1) := by rw [cell_of_row _ _ _ _ _ _ hBx]; rfl
  have q1 : W.cell? ⟨Bx, 1, none⟩ = some (.string x2) := by rw [cell_of_row _ _ _ _ _ _ hBx]; rfl
  have qo : W.cell? ⟨w.heap.size + 1, 0, none⟩ = some (.slice la pre.length cap) := by rw [cell_of_row _ _ _ _ _ _ hbo]; rfl
  have HI := hid hI; have HO := hid hown; have HBl := hid hbl; have HBo := hid hbo; have hpl : pre.length < L.length := hlen; have hpb : pre.length + 1 <= 1099511627776 := by have := HB.out; omega
  have HLt := hid hlt; clear hI hr hBx hbo hown hbl hlen hlt; have HNb : Hid (¬ blk la (w.heap.size + 1)) := hid (fun e => by
   obtain ⟨cur, hc⟩ := HO.out.cells e; rw [HBo.out] at hc; cases hc)
  have HNm : Hid (¬ blk la w.heap.size) := hid (fun e => by
   obtain ⟨cur, hc⟩ := HO.out.cells e; rw [HI.out.most] at hc; cases hc)
  have HFin : Hid (∀ (w5 : World) (la5 : Option Addr) (cap5 : Nat), Mod (blk la) W w5 -> w5.heap[w.heap.size + 1]? = some (.cells #[.slice la pre.length cap] 38 (0, 0)) -> w5.heap[w.heap.size]? = some (.cells #[.int .i64 most] 3 (0, 0)) -> Own w5 41 2 la5 (pre.length + 1) cap5 (pre.flatMap kcs ++ [.string x1, .string x2]) -> (∀ k, blk la5 k -> w.heap.size <= k) →
    KeepsFrom W0.heap.size W (w5.setCell ⟨w.heap.size + 1, 0, none⟩ (.slice la5 (pre.length + 1) cap5)) /\ Kp w.heap.size W (w5.setCell ⟨w.heap.size + 1, 0, none⟩ (.slice la5 (pre.length + 1) cap5)) /\ qWi w (w5.setCell ⟨w.heap.size + 1, 0, none⟩ (.slice la5 (pre.length + 1) cap5)) most (pre ++ [(x1, x2)])) := hid (fun w5 la5 cap5 hm5 hb5 hbm5 ho5 hbl5 => by
   have hm6 : Mod (fun k => blk la k \/ k = w.heap.size + 1) W (w5.setCell ⟨w.heap.size + 1, 0, none⟩ (.slice la5 (pre.length + 1) cap5)) := (hm5.mono (fun k _ e => .inl e)).setCell (p := ⟨w.heap.size + 1, 0, none⟩) (fun _ => .inr rfl) _
   have hmS : Mod (fun k => k = w.heap.size + 1) w5 (w5.setCell ⟨w.heap.size + 1, 0, none⟩ (.slice la5 (pre.length + 1) cap5)) := Mod.setCell (S := fun k => k = w.heap.size + 1) (p := ⟨w.heap.size + 1, 0, none⟩) (Mod.refl _ _) (fun _ => rfl) _
   have hcl : ∀ k, (blk la k \/ k = w.heap.size + 1) -> ∃ cur t, W.heap[k]? = some (.cells cur t (0, 0)) /\ t ≠ 123 := fun k hk => by
    rcases hk with hk | hk
    ·obtain ⟨cur, hc⟩ := HO.out.cells hk; exact ⟨cur, _, hc, by decide⟩
    ·rw [hk]; exact ⟨_, _, HBo.out, by decide⟩
   refine ⟨qNt _ hm6 (fun k o hk ho => ?_), ⟨hm6.below HI.out.mod.size (fun k hk => ?_), fun k vs hk => (hm6.block k (lth hk) (fun e => ?_)).trans hk⟩, ⟨la5, cap5, ?_, ?_, hbl5⟩, (hmS.block _ (lth hbm5) (by omega)).trans hbm5, HI.out.mod.then hm6 (fun k hk e => ?_)⟩
   ·obtain ⟨cur, t, hc, _⟩ := hcl k hk; rw [ho] at hc; cases hc; rfl
   ·rcases hk with hk | hk
    ·exact HBl.out k hk
    ·omega
   ·obtain ⟨cur, t, hc, hne⟩ := hcl k e; rw [hk] at hc; cases hc
    exact hne rfl
   ·rw [qAe hb5, List.length_append]; rfl
   ·rw [jDc, List.length_append]; refine ho5.mod hmS (fun k hk e => ?_)
    obtain ⟨cur, hc⟩ := ho5.cells hk; rw [e, hb5] at hc; cases hc
   ·rcases e with e | e
    ·have := HBl.out k e; omega
    ·omega)
  by_cases he : (pre.length : Int) + 1 = most
  ·have dE : (((pre.length : Int) + 1) == most) = true := by rw [beq_iff_eq]; exact he
   gi_wp2_with (gi_at_builtin; refine qDz rfl (.tmp 27) (.tmp 29) 38 rfl 41 i0 _ 2 32 Tryz.underlying38 hi hz0 hz1 hz2 rfl la pre.length cap _ rfl (qPj HO.out _) (some ⟨W.heap.size, 0, none⟩) 1 1 _ rfl (qTd _ _ _) qTe (by unfold maxLen; omega) (by omega) ?_; intro la5 cap5 w5 hown5 hmo5 hbo5 hn5 hr5; have HM5 : Hid (Mod (blk la) W w5) := hid (((Mod.refl _ W).alloc _).trans hmo5); have hb5 : w5.heap[w.heap.size + 1]? = some (.cells #[.slice la pre.length cap] 38 (0, 0)) := (HM5.out.block _ (lth HBo.out) HNb.out).trans HBo.out; have hm5 : w5.heap[w.heap.size]? = some (.cells #[.int .i64 most] 3 (0, 0)) := (HM5.out.block _ (lth HI.out.most) HNm.out).trans HI.out.most; have HB5 := hid hb5; have HMo5 := hid hm5; have HO5 := hid hown5; have HBl5 : Hid (∀ k, blk la5 k -> w.heap.size <= k) := hid (fun k hk => (hbo5 k hk).elim (fun e => HBl.out k e) (fun e => by have h1 := HI.out.mod.size; simp at e; omega)); have z1 := cell_of_row w5 (w.heap.size + 1) 0 _ _ _ hb5; have z2 := frozen_of_row w5 (w.heap.size + 1) 0 _ _ hb5; have z3 := cell_of_row w5 w.heap.size 0 _ _ _ hm5; simp only [List.getElem?_toArray, List.getElem?_cons_zero] at z1 z3; clear hown5 hmo5 hbo5 hn5 hr5 hb5 hm5)
   obtain ⟨f1, f2, f3⟩ := HFin.out w5 la5 cap5 HM5.out HB5.out HMo5.out HO5.out HBl5.out; exact ⟨f1, rfl, f3, by rw [List.length_append]; simpa using he⟩
  ·have dE : (((pre.length : Int) + 1) == most) = false := by rw [beq_eq_false_iff_ne]; exact he
   gi_wp2_with (gi_at_builtin; refine qDz rfl (.tmp 27) (.tmp 29) 38 rfl 41 i0 _ 2 32 Tryz.underlying38 hi hz0 hz1 hz2 rfl la pre.length cap _ rfl (qPj HO.out _) (some ⟨W.heap.size, 0, none⟩) 1 1 _ rfl (qTd _ _ _) qTe (by unfold maxLen; omega) (by omega) ?_; intro la5 cap5 w5 hown5 hmo5 hbo5 hn5 hr5; have HM5 : Hid (Mod (blk la) W w5) := hid (((Mod.refl _ W).alloc _).trans hmo5); have hb5 : w5.heap[w.heap.size + 1]? = some (.cells #[.slice la pre.length cap] 38 (0, 0)) := (HM5.out.block _ (lth HBo.out) HNb.out).trans HBo.out; have hm5 : w5.heap[w.heap.size]? = some (.cells #[.int .i64 most] 3 (0, 0)) := (HM5.out.block _ (lth HI.out.most) HNm.out).trans HI.out.most; have HB5 := hid hb5; have HMo5 := hid hm5; have HO5 := hid hown5; have HBl5 : Hid (∀ k, blk la5 k -> w.heap.size <= k) := hid (fun k hk => (hbo5 k hk).elim (fun e => HBl.out k e) (fun e => by have h1 := HI.out.mod.size; simp at e; omega)); have z1 := cell_of_row w5 (w.heap.size + 1) 0 _ _ _ hb5; have z2 := frozen_of_row w5 (w.heap.size + 1) 0 _ _ hb5; have z3 := cell_of_row w5 w.heap.size 0 _ _ _ hm5; simp only [List.getElem?_toArray, List.getElem?_cons_zero] at z1 z3; clear hown5 hmo5 hbo5 hn5 hr5 hb5 hm5)
   obtain ⟨f1, f2, f3⟩ := HFin.out w5 la5 cap5 HM5.out HB5.out HMo5.out HO5.out HBl5.out; exact ⟨f1, f2, f3, by rw [List.length_append]; have h1 := HLt.out; simp; omega⟩
 case done =>
  rintro D ys W hD rfl ⟨hI, hlt⟩ hK; obtain ⟨la, cap, hbo, hown, hbl⟩ := hI.out; have qo := cell_of_row _ (w.heap.size + 1) 0 _ _ _ hbo; simp only [List.getElem?_toArray, List.getElem?_cons_zero] at qo; have HF := hid (fun o' => qSq (o' := o') hI hown hbl hK (by omega) (List.take_of_length_le (by omega : ys.length <= most.toNat)))
  clear hI hbo hown hbl hlt; go_wp2_with fail
  refine ⟨by simp, .inl ⟨_, _, rfl, run_takeDeferred hK, ?_⟩⟩
  refine ⟨_, results_tmp rfl _ _ _, ?_⟩; go_simp; exact HF.out _
 case stop =>
  rintro D c pre W hD hpre ⟨rfl, hI, hlt⟩ hK; obtain ⟨la, cap, hbo, hown, hbl⟩ := hI.out; have qo := cell_of_row _ (w.heap.size + 1) 0 _ _ _ hbo; simp only [List.getElem?_toArray, List.getElem?_cons_zero] at qo; have hLp : L.take most.toNat = pre := by
   have h9 : pre <+: L := hpre; rw [show most.toNat = pre.length by omega]
   exact (List.prefix_iff_eq_take.1 h9).symm
  have HF := hid (fun o' => qSq (o' := o') hI hown hbl hK (by omega) hLp)
  clear hI hbo hown hbl hlt hpre hLp; refine wpIn_wide.2 ?_; go_wp2_with fail
  refine ⟨by simp, .inl ⟨_, _, rfl, run_takeDeferred hK, ?_⟩⟩
  refine ⟨_, results_tmp rfl _ _ _, ?_⟩; go_simp; exact HF.out _
end
section
open Go Go.RowKit
set_option maxRecDepth 100000
theorem jBm {S : Nat -> Prop} {w : World} {B : TB} {T : TM} {D : Dsk} {off : Bool} (h : qCa S w B T D off) : Calls Tryz.prog 77 #[.pointer (some ⟨B.tb, 0, none⟩)] w fun e w' => e = .returned (.int .i64 T.count) /\ w = w' := by
 obtain ⟨_, _, _, c3, _⟩ := h.cells; clear h; go_enter Tryz.func77, Tryz.ntmps77
 go_wp2
 go_ret; exact ⟨rfl, rfl⟩
end
section
open Go Go.RowKit
structure Here (w : World) (B : TB) (T : TM) (D : Dsk) (k : Nat) (l : List KV) (N : Nat) : Prop where
 tree : qCa (TS B) w B T D false
 lit : Lit D k
 std : Std B.room D T l N
 ne : B.nb ≠ B.ab
def HApp (w : World) (B : TB) (T : TM) (D : Dsk) (k : Nat) (l : List KV) (N : Nat) (cs : List Cg) (e : Ending) (w' : World) : Prop :=
 (chkF [] cs ≠ 0 /\ e = .returned (.int .i64 (chkF [] cs)) /\ Here w' B T D k l N /\ Mod (fun _ => False) w w') ∨
 (chkF [] cs = 0 /\ ((e = .returned (.int .i64 52) /\ (jlen B.room D : Int) <= (N : Int) + 8 * cs.length /\ Here w' B T D k l N /\ Mod (fun _ => False) w w') ∨
  (e = .returned (.int .i64 31) /\ (B.room < 21 * cs.length + 1 /\ ∃ (W' : WM) (ls : List Chg) (ln : List (Int × NP)) (la : List (Int × Int)), allM T (jlen B.room D : Int) 70 cs T.begin = some W' /\ Laid W' ls ln la /\ B.room < ls.length) /\ Here w' B T D k l N /\ Mod (fun _ => False) w w') ∨
  (e = .returned (.int .i64 0) /\ ∃ (T' : TM) (D' : Dsk) (N' : Nat), Here w' B T' D' (k + 1002) (chgs cs l) N' /\ D'.secs.length = D.secs.length /\ Mod (TS B) w w')))
theorem qVm {w : World} {B : TB} {T : TM} {D : Dsk} {k : Nat} {l : List KV} {N : Nat} (h : Here w B T D k l N) (hk0 : k <= 1152921504606846976) {a : Option Addr} (cap : Nat) {cs : List Cg} (hc : Lies w 3 ccs a cs) (hcl : cs.length <= 1048576) (hs : ∀ c ∈ cs, c.key.size <= maxLen /\ c.value.size <= maxLen) :
  Calls Tryz.prog 11 #[.pointer (some ⟨B.tb, 0, none⟩), .slice a cs.length cap] w (HApp w B T D k l N cs) := by
 by_cases hchk : chkF [] cs = 0
 ·obtain ⟨W', N', h1, h2, h3, h4, h5, h6⟩ := qXe h.lit h.std cs (fun c hc => qHy hchk c hc) hcl
  obtain ⟨r1, r2, r3, r4, r5, r6, r7⟩ := h2.rng; have ht := h.std.ti.rng; have hj : jlen B.room D <= 16384 := by have := h.lit.b.n; unfold jlen; omega
  have hnx := h.std.next; obtain ⟨t1, t2, t3, t4, _⟩ := ht; have e1 : T.begin.count = T.count := rfl; have e2 : T.begin.next = T.next := rfl; rw [e1, e2] at t4; rw [e2] at t2; refine (jEh h.tree cap hc (by omega) hs hchk h1 (by omega) (by omega) (by omega) (fun x hx => by have := r5 x hx; omega) (fun x y hy => by have := r6 x y hy; omega) (fun ls hnd hls => ?_) h.lit.b hk0 h.ne).mono (fun e w' ha => ?_)
  ·have q1 := qKk (m := (List.range W'.next.toNat).map (fun i : Nat => (i : Int))) hnd (fun x hx => by
    have := r5 x (hls x hx); exact List.mem_map.2 ⟨x.toNat, List.mem_range.2 (by omega), by omega⟩)
   rw [List.length_map, List.length_range] at q1; omega
  ·obtain ⟨ls, ln, la, hlaid, hh⟩ := ha; refine .inr ⟨hchk, ?_⟩; rcases hh with ⟨a1, rfl, a3, a4⟩ | ⟨a1, a2, rfl, a3, a4⟩ | ⟨a1, a2, a3, rfl, a4, a5⟩ | ⟨a1, a2, a3, a4, _⟩ | ⟨a1, a2, a3, a4, rfl, a6, a7⟩
   ·exact .inl ⟨rfl, h3 a1, ⟨a3, h.lit, h.std, h.ne⟩, a4⟩
   ·refine .inr (.inl ⟨rfl, ⟨?_, W', ls, ln, la, h1, hlaid, a2⟩, ⟨a3, h.lit, h.std, h.ne⟩, a4⟩); have := h6 ls ln la hlaid a1; omega
   ·refine .inr (.inr ⟨rfl, T, D, N, ?_, rfl, a5.mono (fun _ _ e => e.elim)⟩)
    rw [a3]; exact ⟨a4, h.lit.le (by omega), h.std, h.ne⟩
   ·exact absurd (qLv h.lit h.std h2 (h4 a1) hlaid a2).1 a4
   ·obtain ⟨c1, c2, c3⟩ := qLv h.lit h.std h2 (h4 a1) hlaid a2; have hr := h.std.r2; exact .inr (.inr ⟨rfl, _, _, N', ⟨a6, c2.le (by omega), c3, h.ne⟩, qHb _ _ _, a7⟩)
 ·exact (jAr h.tree cap hc (by omega) hs hchk).mono (fun e w' ⟨he, hm⟩ => .inl ⟨hchk, he, h.ext hm, hm⟩)
theorem qTp {w : World} {B : TB} {T : TM} {D : Dsk} {k : Nat} {l : List KV} {N : Nat} (h : Here w B T D k l N) : Calls Tryz.prog 77 #[.pointer (some ⟨B.tb, 0, none⟩)] w fun e w' => e = .returned (.int .i64 (l.length : Int)) /\ w = w' :=
 (jBm h.tree).mono (fun e w' ⟨he, hw⟩ => ⟨by rw [he, h.len.2], hw⟩)
theorem qZe {w : World} {B : TB} {T : TM} {D : Dsk} {k : Nat} {l : List KV} {N : Nat} (h : Here w B T D k l N) (key : ByteArray) (most : Int) : Calls Tryz.prog 12 #[.pointer (some ⟨B.tb, 0, none⟩), .string key, .int .i64 most] w (qLi w (qQt l key most)) := by
 have hnil : ∀ e w', (e = .returned (.slice none 0 0) /\ Mod (fun _ => False) w w') -> qLi w [] e w' := fun e w' ⟨he, hm⟩ => ⟨none, 0, he, Own.nil _ _ _, (fun b hb => (qAi b hb).elim), hm⟩
 by_cases hm : most < 1
 ·have e : qQt l key most = [] := by unfold qQt; rw [show most.toNat = 0 by omega]; rfl
  rw [e]; exact (qSp h.tree (.inr hm) _).mono hnil
 ·rcases h.empty with ⟨h0, rfl⟩ | ⟨h0, _, g, t, hg, hS, hfl⟩
  ·have e : qQt [] key most = [] := by unfold qQt; simp
   rw [e]; exact (qSp h.tree (.inl h0) _).mono hnil
  ·have hasc : Asc (flat g t) := by rw [hfl]; exact h.std.ti.1.asc
   have hw := qSg key g T.root t hS hasc; rw [hfl] at hw; have hl := List.length_filter_le (geK key) l; exact jBv h.tree h0 (by omega) hw (by have := h.len.1; omega)
end
section
open Go Go.RowKit
structure PK where
 k : ByteArray
 v : ByteArray
 x : ByteArray
def qNa : Option PK -> Option PK -> List Cg
 | none, none => []
 | none, some q => ⟨q.k, q.v, false⟩ :: (if q.x.toList.isEmpty = true then [] else [⟨q.x, ⟨#[]⟩, false⟩])
 | some p, none => ⟨p.k, ⟨#[]⟩, true⟩ :: (if p.x.toList.isEmpty = true then [] else [⟨p.x, ⟨#[]⟩, true⟩])
 | some p, some q => ⟨q.k, q.v, false⟩ :: (if q.x.toList.isEmpty = true \/ p.x.toList = q.x.toList then [] else [⟨q.x, ⟨#[]⟩, false⟩, ⟨p.x, ⟨#[]⟩, true⟩])
structure PKok (q : PK) (idx : Bool) : Prop where
 ne : q.x.toList.isEmpty = false -> q.k ≠ q.x
 idx : q.x.toList.isEmpty = !idx
end
section
open Go Go.RowKit
theorem qTj : ∀ (s t a : List UInt8), Op.bytesLess a s = false -> Op.bytesLess (s ++ t) a = false -> s <+: a
 | [], _, a, _, _ => List.nil_prefix
 | c :: s, t, [], h1, _ => by simp [Op.bytesLess] at h1
 | c :: s, t, d :: a, h1, h2 => by
  rw [List.cons_append] at h2; unfold Op.bytesLess at h1 h2; by_cases hcd : c = d
  ·subst hcd; simp at h1 h2
   obtain ⟨r, hr⟩ := qTj s t a h1 h2; exact ⟨r, by rw [List.cons_append, hr]⟩
  ·exfalso
   have h3 : c < d \/ d < c := by
    rcases UInt8.lt_or_lt_of_ne hcd with h | h
    ·exact .inl h
    ·exact .inr h
   rcases h3 with h3 | h3
   ·simp [h3] at h2
   ·simp [h3] at h1
def preB (s : ByteArray) (p : KV) : Bool := s.data.toList.isPrefixOf p.1.data.toList
theorem jHx {s : ByteArray} {p : KV} (h : preB s p = true) : geK s p = true := by
 unfold preB at h; rw [List.isPrefixOf_iff_prefix] at h; obtain ⟨t, ht⟩ := h; unfold geK kl; rw [ByteArray.toList_eq, ByteArray.toList_eq, <- ht]; have aux : ∀ (s t : List UInt8), Op.bytesLess (s ++ t) s = false := by
  intro s; induction s with
  | nil => intro t; cases t <;> simp [Op.bytesLess]
  | cons c s ih => intro t; rw [List.cons_append]; unfold Op.bytesLess; simp [ih t]
 rw [aux]; rfl
theorem qPi {s : ByteArray} : ∀ {l : List KV}, Asc l -> (∀ p ∈ l, geK s p = true) -> l.takeWhile (preB s) = l.filter (preB s)
 | [], _, _ => rfl
 | p :: r, ha, hg => by
  obtain ⟨a1, a2⟩ := List.pairwise_cons.1 ha; cases hp : preB s p with
  | true =>
   rw [List.takeWhile_cons_of_pos hp, List.filter_cons_of_pos hp, qPi a2 (fun q hq => hg q (List.mem_cons_of_mem _ hq))]
  | false =>
   rw [List.takeWhile_cons_of_neg (by rw [hp]; simp), List.filter_cons_of_neg (by rw [hp]; simp)]
   symm
   refine qAx (fun q hq => ?_)
   cases hpq : preB s q with
   | false => rfl
   | true =>
    exfalso
    have h1 := hg p List.mem_cons_self; have h2 := a1 q hq; unfold preB at hpq hp; rw [List.isPrefixOf_iff_prefix] at hpq; obtain ⟨t, ht⟩ := hpq; unfold geK kl at h1; unfold kl at h2; rw [ByteArray.toList_eq, ByteArray.toList_eq] at h1 h2; have h3 : Op.bytesLess (s.data.toList ++ t) p.1.data.toList = false := by
     rw [ht]; have := qDv (a := p.1) (b := q.1) (by unfold kl; rw [ByteArray.toList_eq, ByteArray.toList_eq]; exact h2)
     unfold kl at this; rw [ByteArray.toList_eq, ByteArray.toList_eq] at this; exact this
    have h4 := qTj s.data.toList t p.1.data.toList (by simpa using h1) h3
    rw [<- List.isPrefixOf_iff_prefix] at h4; rw [h4] at hp; cases hp
theorem jAo {s : ByteArray} {l : List KV} (ha : Asc l) : (l.filter (geK s)).takeWhile (preB s) = l.filter (preB s) := by
 rw [qPi (qIx _ ha) (fun p hp => (List.mem_filter.1 hp).2), List.filter_filter]
 congr 1
 funext p
 cases hp : preB s p with
 | false => simp
 | true => simp [jHx hp]
end
section
open Go Go.RowKit
def be : Nat -> Nat -> List UInt8
 | 0, _ => []
 | k + 1, u => UInt8.ofNat (u / 256 ^ k % 256) :: be k u
theorem qDf : ∀ k u, (be k u).length = k
 | 0, _ => rfl
 | k + 1, u => by rw [be, List.length_cons, qDf k u]
theorem jEs : ∀ (k u i : Nat), i < k -> (be k u)[i]? = some (UInt8.ofNat (u / 256 ^ (k - 1 - i) % 256))
 | 0, _, _ => fun h => by omega
 | k + 1, u, 0 => fun _ => by rw [be, List.getElem?_cons_zero, show k + 1 - 1 - 0 = k by omega]
 | k + 1, u, i + 1 => fun h => by rw [be, List.getElem?_cons_succ, jEs k u i (by omega), show k + 1 - 1 - (i + 1) = k - 1 - i by omega]
def rdBE : Nat -> List UInt8 -> Nat
 | a, [] => a
 | a, b :: r => rdBE (a * 256 + b.toNat) r
theorem qXx : ∀ (k u a : Nat), rdBE a (be k u) = a * 256 ^ k + u % 256 ^ k
 | 0, u, a => by simp [be, rdBE, Nat.mod_one]
 | k + 1, u, a => by
  rw [be, rdBE, qXx k u, qEy _ (Nat.mod_lt _ (by decide))]
  have h : u % 256 ^ (k + 1) = 256 ^ k * (u / 256 ^ k % 256) + u % 256 ^ k := by
   rw [Nat.pow_succ, Nat.mod_mul, Nat.add_comm]
  rw [h, Nat.pow_succ, Nat.add_mul, Nat.mul_assoc, Nat.mul_comm 256 (256 ^ k), Nat.mul_comm (u / 256 ^ k % 256)]; omega
def zz (v : Int) : Nat := if 0 <= v then 2 * v.toNat else 2 * (-(v + 1)).toNat + 1
def unzz (n : Nat) : Int := if n % 2 = 1 then -((n / 2 : Nat) : Int) - 1 else ((n / 2 : Nat) : Int)
theorem jEz (v : Int) : unzz (zz v) = v := by
 unfold unzz zz; split
 ·split <;> omega
 ·split <;> omega
theorem jEx {v : Int} (h0 : -9223372036854775808 <= v) (h1 : v <= 9223372036854775807) : zz v < 18446744073709551616 := by
 unfold zz; split <;> omega
def ordN (v : Int) : Nat := (v + 9223372036854775808).toNat
theorem qYd {v : Int} (h1 : v <= 9223372036854775807) : ordN v < 256 ^ 8 := by
 have : (256 : Nat) ^ 8 = 18446744073709551616 := by decide
 unfold ordN; omega
end
section
open Go Go.RowKit
theorem qSe {a : Nat} (h : a < 18446744073709551616) : a ^^^ 18446744073709551615 = 18446744073709551615 - a := by
 have := congrArg BitVec.toNat (BitVec.xor_allOnes (x := BitVec.ofNat 64 a)); rw [BitVec.toNat_xor, BitVec.toNat_not, BitVec.toNat_allOnes, BitVec.toNat_ofNat, Nat.mod_eq_of_lt h] at this; exact this
theorem qQk {l : Nat} (h : l < 9223372036854775808) : l ^^^ 9223372036854775808 = 9223372036854775808 + l := by
 rw [show (9223372036854775808 : Nat) = 2 ^ 63 from rfl] at h ⊢
 have e := Nat.two_pow_add_eq_or_of_lt h 1; rw [Nat.mul_one] at e; rw [e, Nat.or_comm]; apply Nat.eq_of_testBit_eq; intro i; rw [Nat.testBit_xor, Nat.testBit_or]; by_cases hi : i = 63
 ·subst hi; rw [Nat.testBit_lt_two_pow h]; simp
 ·rw [Nat.testBit_two_pow_of_ne (by omega)]
  simp
theorem qSd {l : Nat} (h : l < 9223372036854775808) : (9223372036854775808 + l) ^^^ 9223372036854775808 = l := by
 rw [<- qQk h, Nat.xor_assoc, Nat.xor_self, Nat.xor_zero]
theorem jDe {v : Int} (h0 : -9223372036854775808 <= v) (h1 : v <= 9223372036854775807) (a b : Int) (ha : a = (v * 2) % 18446744073709551616) (hb : b = if 0 <= v then 0 else 18446744073709551615) :
  bits .xor .u64 a b = (zz v : Int) := by
 obtain ⟨n, hn⟩ : ∃ n : Nat, a = (n : Int) := ⟨a.toNat, by omega⟩
 have hl : n < 18446744073709551616 := by omega
 unfold zz; by_cases h : 0 <= v
 ·rw [if_pos h] at hb; rw [if_pos h, hn, hb, show (0 : Int) = ((0 : Nat) : Int) from rfl, bits_xor_u64_nat _ _ hl (by decide), Nat.xor_zero]
  omega
 ·rw [if_neg h] at hb; rw [if_neg h, hn, hb, show (18446744073709551615 : Int) = ((18446744073709551615 : Nat) : Int) from rfl, bits_xor_u64_nat _ _ hl (by decide), qSe hl]
  omega
theorem jCg {v : Int} (h0 : -9223372036854775808 <= v) (h1 : v <= 9223372036854775807) (a : Int) (ha : a = v % 18446744073709551616) :
  bits .xor .u64 a 9223372036854775808 = (ordN v : Int) := by
 obtain ⟨n, hn⟩ : ∃ n : Nat, a = (n : Int) := ⟨a.toNat, by omega⟩
 have hl : n < 18446744073709551616 := by omega
 rw [hn, show (9223372036854775808 : Int) = ((9223372036854775808 : Nat) : Int) from rfl, bits_xor_u64_nat _ _ hl (by decide)]
 unfold ordN; by_cases h : 0 <= v
 ·rw [qQk (by omega)]
  omega
 ·obtain ⟨l, hl2⟩ : ∃ l, n = 9223372036854775808 + l := ⟨n - 9223372036854775808, by omega⟩
  rw [hl2, qSd (by omega)]
  omega
end
section
open Go Go.RowKit
def intL (v : Int) : List UInt8 := uvar (zz v)
theorem qTm {v : Int} (h0 : -9223372036854775808 <= v) (h1 : v <= 9223372036854775807) : (intL v).length <= 10 := qAq (jEx h0 h1)
set_option maxRecDepth 100000
theorem jFy (v : Int) (w : World) (h0 : -9223372036854775808 <= v) (h1 : v <= 9223372036854775807) : Calls Tryz.prog 61 #[.int .i64 v] w fun e w' => e = .returned (.string (ba (intL v))) /\ Mod (fun _ => False) w w' := by
 have HU := hid (qDt (zz v) w (jEx h0 h1)); go_enter Tryz.func61, Tryz.ntmps61
 go_wp2_with fail
 rw [jDe h0 h1 _ _ (by rw [IntKind.wrap_u64]; show wrap64 (v * 2) % 18446744073709551616 = _; unfold wrap64; omega) (by rw [IntKind.wrap_u64]; split <;> omega)]
 refine HU.out.mono ?_; rintro e w1 ⟨rfl, hm⟩; have HM := hid hm; clear hm; go_wp2_with fail
 go_ret; exact ⟨rfl, HM.out⟩
end
section
open Go Go.RowKit
def ordL (v : Int) : List UInt8 := be 8 (ordN v)
def ordC (U k : Nat) : List UInt8 := (be 8 U).take k ++ List.replicate (8 - k) 0
theorem jCi (U k : Nat) (hk : k <= 8) : (ordC U k).length = 8 := by
 unfold ordC; rw [List.length_append, List.length_take, qDf, List.length_replicate]; omega
theorem jCj (U k : Nat) (hk : k < 8) : (ordC U k)[k]? = some 0 := by
 unfold ordC; rw [List.getElem?_append_right (by rw [List.length_take, qDf]; omega), List.length_take, qDf, show k - min k 8 = 0 by omega, List.getElem?_replicate, if_pos (by omega)]
theorem jCh (U k : Nat) (hk : k < 8) : (ordC U k).set k (UInt8.ofNat (U / 256 ^ (7 - k) % 256)) = ordC U (k + 1) := by
 apply List.ext_getElem?; intro i; have hl : (ordC U k).length = 8 := jCi U k (by omega)
 rw [List.getElem?_set, hl]; unfold ordC; by_cases h1 : k = i
 ·subst h1; rw [if_pos rfl, if_pos hk, List.getElem?_append_left (by rw [List.length_take, qDf]; omega), List.getElem?_take, if_pos (by omega), jEs 8 U k hk]
 ·rw [if_neg h1]; by_cases h2 : i < k
  ·rw [List.getElem?_append_left (by rw [List.length_take, qDf]; omega), List.getElem?_append_left (by rw [List.length_take, qDf]; omega), List.getElem?_take, List.getElem?_take, if_pos h2, if_pos (by omega)]
  ·rw [List.getElem?_append_right (by rw [List.length_take, qDf]; omega), List.getElem?_append_right (by rw [List.length_take, qDf]; omega), List.length_take, List.length_take, qDf, List.getElem?_replicate, List.getElem?_replicate]
   by_cases h3 : i < 8
   ·rw [if_pos (by omega), if_pos (by omega)]
   ·rw [if_neg (by omega), if_neg (by omega)]
theorem jCk (U : Nat) : ordC U 8 = be 8 U := by
 unfold ordC; rw [List.take_of_length_le (by rw [qDf]; decide)]
 simp
theorem qYe (U : Nat) : Lib.byteCells (ordC U 0) = [.int .u8 0, .int .u8 0, .int .u8 0, .int .u8 0, .int .u8 0, .int .u8 0, .int .u8 0, .int .u8 0] := rfl
set_option maxRecDepth 100000
theorem qRc (v : Int) (w : World) (h0 : -9223372036854775808 <= v) (h1 : v <= 9223372036854775807) : Calls Tryz.prog 80 #[.int .i64 v] w fun e w' => e = .returned (.string (ba (ordL v))) /\ Mod (fun _ => False) w w' := by
 have e1 : bits .xor .u64 (IntKind.u64.wrap v) 9223372036854775808 = (ordN v : Int) := jCg h0 h1 _ (by rw [IntKind.wrap_u64])
 have hU := qYd h1; go_enter Tryz.func80, Tryz.ntmps80
 go_wp2_with fail
 clear e1; generalize hUU : ordN v = U at *; go_loopw [9] (fun c wr => ∃ k : Nat, k <= 8 /\ c = .int .i64 (k : Int) /\ wr.heap[w.heap.size]? = some (.cells (Lib.byteCells (ordC U k)).toArray 221 (0, 0)) /\ Mod (fun _ => False) w wr) (fun c _ => 8 - (intOf c).toNat)
 case atStart => exact ⟨0, by decide, rfl, by rw [qYe]; exact heap_alloc_new _ _, (Mod.refl _ _).alloc _⟩
 case round =>
  obtain ⟨k, hk, rfl, hrow, hm⟩ := hrel; have HRow := hid hrow; have HM := hid hm; by_cases hlt : k < 8
  ·have c0 : wr.cell? ⟨w.heap.size, k, none⟩ = some (.int .u8 0) := by
    rw [cell_of_row _ _ _ _ _ _ hrow]; simp [Lib.byteCells, jCj U k hlt]
   have f0 : wr.frozen? ⟨w.heap.size, k, none⟩ = false := frozen_of_row _ _ _ _ _ hrow; have s1 : IntKind.i64.wrap (8 * (k : Int)) = 8 * (k : Int) := by rw [IntKind.wrap_i64]; omega
   have s2 : IntKind.i64.wrap (56 - 8 * (k : Int)) = 56 - 8 * (k : Int) := by rw [IntKind.wrap_i64]; omega
   clear hrow hm; go_wp2_with fail
   have hv : ((U : Int) / 2 ^ (56 - 8 * k) % 256) = (((UInt8.ofNat (U / 256 ^ (7 - k) % 256)).toNat : Nat) : Int) := by
    rw [qEy _ (Nat.mod_lt _ (by decide)), show (256 : Nat) ^ (7 - k) = 2 ^ (56 - 8 * k) by rw [show (256 : Nat) = 2 ^ 8 from rfl, <- Nat.pow_mul, show 8 * (7 - k) = 56 - 8 * k by omega]]
    simp
   rw [hv]; go_roundw
   case rel =>
    refine ⟨k + 1, by omega, by go_num, ?_, HM.out.setCell (fun h => absurd h (Nat.lt_irrefl _)) _⟩
    rw [heap_setCell_same wr w.heap.size k _ 221 _ HRow.out, <- jCh U k hlt]; congr 3
    apply Array.ext'; simp [Lib.byteCells, List.map_set]
   case measure => simp [intOf]; omega
  ·have hke : k = 8 := by omega
   subst hke; rw [jCk] at hrow; have hcv : (convert 128 9 (.slice (some ⟨w.heap.size, 0, none⟩) 8 8)).run Tryz.prog wr = .ok (.string (ba (be 8 U))) wr := by
    have := run_convert_bytes_back (P := Tryz.prog) wr 128 9 5 ⟨w.heap.size, 0, none⟩ 8 (be 8 U) Tryz.underlying128 Tryz.underlying5 Tryz.underlying9 (fun j hj => by
     rw [Addr.add_lit, cell_of_row _ _ _ _ _ _ hrow]; simp [Lib.byteCells, hj])
    rwa [qDf] at this
   clear hrow hm; go_wp2_with fail
   go_ret; unfold ordL; rw [hUU]; exact ⟨rfl, HM.out⟩
end
section
open Go Go.RowKit
def qPt (k n : Int) (s : ByteArray) : List UInt8 := if k = 0 then ordL n else s.data.toList ++ [0]
def qGo (s : ByteArray) : Bool := !s.data.toList.contains 0
end
section
open Go Go.RowKit
theorem qKt (c : UInt8) : ∀ l : List UInt8, -1 <= Lib.indexByte l c /\ (0 <= Lib.indexByte l c ↔ c ∈ l)
 | [] => by simp [Lib.indexByte]
 | b :: l => by
  obtain ⟨h1, h2⟩ := qKt c l; unfold Lib.indexByte; by_cases hb : b = c
  ·subst hb; simp
  ·have e : (b == c) = false := by simpa using hb
   rw [e]; simp only [Bool.false_eq_true, if_false]; have hc : c ∈ b :: l ↔ c ∈ l := by simp [Ne.symm hb]
   rw [hc, <- h2]; by_cases hm : Lib.indexByte l c = -1
   ·rw [hm]; simp
   ·have e2 : (Lib.indexByte l c == -1) = false := by simpa using hm
    rw [e2]; simp only [Bool.false_eq_true, if_false]; omega
theorem qOg (s : ByteArray) : decide (0 <= Lib.indexByte s.data.toList 0) = !qGo s := by
 unfold qGo; rw [Bool.not_not]; by_cases h : (0 : UInt8) ∈ s.data.toList
 ·rw [decide_eq_true ((qKt 0 _).2.2 h), List.contains_iff_mem.2 h]
 ·have h2 : s.data.toList.contains 0 = false := by rw [<- Bool.not_eq_true, List.contains_iff_mem]; exact h
  rw [decide_eq_false (fun e => h ((qKt 0 _).2.1 e)), h2]
set_option maxRecDepth 100000
theorem jDr (n : Int) (s : ByteArray) (w : World) (h0 : -9223372036854775808 <= n) (h1 : n <= 9223372036854775807) :
  Calls Tryz.prog 39 #[.int .i64 0, .agg #[.int .i64 n, .string s]] w fun e w' => e = .returned (.tuple #[.string (ba (ordL n)), .bool s.toList.isEmpty]) /\ Mod (fun _ => False) w w' := by
 have hma : Mod (fun _ => False) w (w.alloc (.cells #[.int .i64 n, .string s] 46)) := (Mod.refl _ _).alloc _
 have hcb : (w.alloc (.cells #[.int .i64 n, .string s] 46)).heap[w.heap.size]? = some (.cells #[.int .i64 n, .string s] 46 (0, 0)) := heap_alloc_new _ _; have HM := hid hma; have HCb := hid hcb; have HO := hid (fun v => qRc n v h0 h1)
 clear hma hcb; go_enter Tryz.func39, Tryz.ntmps39
 go_wp2_with fail
 generalize w.alloc (.cells #[.int .i64 n, .string s] 46) = C at *; have g0 : ∀ x : Ext C, x.val.cell? ⟨w.heap.size, 0, none⟩ = some (.int .i64 n) := fun x => by rw [cell_of_row _ _ _ _ _ _ (x.heap HCb.out)]; rfl
 have g1 : ∀ x : Ext C, x.val.cell? ⟨w.heap.size, 1, none⟩ = some (.string s) := fun x => by rw [cell_of_row _ _ _ _ _ _ (x.heap HCb.out)]; rfl
 have HK := hid (fun x : Ext C => HO.out x.val)
 refine qAk (by kernel_rfl) (by kernel_rfl) ?_
 repeat (go_big_quiet_step ((go_at_call 80; exact qBb (HK.out _))))
 refine wpQuiet_nil ?_; rintro _ ⟨x, rfl⟩; go_wp2_with fail
 go_ret2; exact ⟨rfl, HM.out.trans x.mod⟩
theorem qZk (k n : Int) (s : ByteArray) (w : World) (hk : k ≠ 0) (hs : s.size <= 140737488351232) :
  Calls Tryz.prog 39 #[.int .i64 k, .agg #[.int .i64 n, .string s]] w fun e w' => e = .returned (.tuple #[.string (ba (s.data.toList ++ [0])), .bool (n == 0 && qGo s)]) /\ Mod (fun _ => False) w w' := by
 have hma : Mod (fun _ => False) w (w.alloc (.cells #[.int .i64 n, .string s] 46)) := (Mod.refl _ _).alloc _
 have hcb : (w.alloc (.cells #[.int .i64 n, .string s] 46)).heap[w.heap.size]? = some (.cells #[.int .i64 n, .string s] 46 (0, 0)) := heap_alloc_new _ _; have HM := hid hma; have HCb := hid hcb; have HCt : Hid (∀ v : World, Calls Tryz.prog 81 #[.string s, .string ⟨#[0]⟩] v fun e w' => e = .returned (.bool (!qGo s)) /\ Mod (fun _ => False) v w') := hid (fun v => by
  have h := Tryz.strings_Contains_one s 0 v; rw [qOg] at h; refine h.mono ?_; rintro e w' ⟨rfl, rfl⟩; exact ⟨rfl, Mod.refl _ _⟩)
 have HE : Hid (s ++ (⟨#[0]⟩ : ByteArray) = ba (s.data.toList ++ [0])) := hid (by rw [<- qBi, qRy]; rfl)
 have e0 : (k == 0) = false := by simpa using hk
 clear hma hcb hk; by_cases hn : n = 0
 ·subst hn; generalize qGo s = bp at *; go_enter Tryz.func39, Tryz.ntmps39
  go_wp2_with fail
  generalize w.alloc (.cells #[.int .i64 0, .string s] 46) = C at *; have g0 : ∀ x : Ext C, x.val.cell? ⟨w.heap.size, 0, none⟩ = some (.int .i64 0) := fun x => by rw [cell_of_row _ _ _ _ _ _ (x.heap HCb.out)]; rfl
  have g1 : ∀ x : Ext C, x.val.cell? ⟨w.heap.size, 1, none⟩ = some (.string s) := fun x => by rw [cell_of_row _ _ _ _ _ _ (x.heap HCb.out)]; rfl
  have HK := hid (fun x : Ext C => HCt.out x.val)
  refine qAk (by kernel_rfl) (by kernel_rfl) ?_
  repeat (go_big_quiet_step ((go_at_call 81; exact qBb (HK.out _))))
  refine wpQuiet_nil ?_; rintro _ ⟨x, rfl⟩; go_wp2_with fail
  go_ret2; rw [<- HE.out]; exact ⟨by cases bp <;> rfl, HM.out.trans x.mod⟩
 ·have e1 : (n == 0) = false := by simpa using hn
  clear hn; go_enter Tryz.func39, Tryz.ntmps39
  go_wp2_with fail
  generalize w.alloc (.cells #[.int .i64 n, .string s] 46) = C at *; have g0 : ∀ x : Ext C, x.val.cell? ⟨w.heap.size, 0, none⟩ = some (.int .i64 n) := fun x => by rw [cell_of_row _ _ _ _ _ _ (x.heap HCb.out)]; rfl
  have g1 : ∀ x : Ext C, x.val.cell? ⟨w.heap.size, 1, none⟩ = some (.string s) := fun x => by rw [cell_of_row _ _ _ _ _ _ (x.heap HCb.out)]; rfl
  refine qAk (by kernel_rfl) (by kernel_rfl) ?_
  repeat (go_big_quiet_step ((fail)))
  refine wpQuiet_nil ?_; rintro _ ⟨x, rfl⟩; go_wp2_with fail
  go_ret2; rw [<- HE.out, e1]; exact ⟨rfl, HM.out.trans x.mod⟩
end
section
open Go Go.RowKit
def fitC (name : Int) (n : Nat) (keys idx : Int) : Bool := decide (97 <= name) && (decide (name <= 122) && (decide (1 <= keys) && (decide (keys <= (n : Int)) && (decide (-1 <= idx) && decide (idx < (n : Int))))))
def qEi (k : Int) : Prop := k = 0 \/ k = 1
instance (k : Int) : Decidable (qEi k) := inferInstanceAs (Decidable (k = 0 \/ k = 1))
noncomputable def qIs (name : Int) (cols : List Int) (keys idx : Int) : Bool := open Classical in if ∀ k ∈ cols, qEi k then fitC name cols.length keys idx else false
def oneI (k : Int) : List Value := [.int .i64 k]
theorem oneI_len (k : Int) : (oneI k).length = 1 := rfl
end
end Go.Proofs.YtkinkgbmlhiakaaGreatDoor
