/- merged: RoH RoC RwU RwE RwX -/
import Derived.Test.YtkinkgbmlhiakaaGreatDoorNa27
import Derived.Test.YtkinkgbmlhiakaaGreatDoorNa31
import Derived.Test.YtkinkgbmlhiakaaGreatDoorNa26
import Derived.Test.YtkinkgbmlhiakaaGreatDoorNa29
import Derived.Test.YtkinkgbmlhiakaaGreatDoorNa28
namespace Go.Proofs.YtkinkgbmlhiakaaGreatDoor
section
open Go Go.RowKit
theorem qKp {w w' : World} (h : Mod (fun b => w.heap.size <= b) w w') : Mod (fun _ => False) w w' := h.mono (fun k hk e => by omega)
theorem qXd {w w1 : World} {d : Nat} {sa : Option Addr} {B : TB} (h1 : B.d = d) (h2 : B.sa = sa) (hd : w.heap.size <= d) (hs : ∀ k, blk sa k -> w.heap.size <= k) (hw : w.heap.size <= w1.heap.size) (h3 : w1.heap.size <= B.tb /\ w1.heap.size <= B.nb /\ w1.heap.size <= B.ab /\ w1.heap.size <= B.j) : ∀ i, TS B i -> w.heap.size <= i := fun i e => by
 rcases e with e | e | e | e | e
 ·omega
 ·omega
 ·omega
 ·omega
 ·rw [h1, h2] at e; rcases e with e | e
  ·omega
  ·exact hs i e
theorem qPh : ∀ (cs : List Cg) {l : List KV}, (chgs cs l).length <= l.length + cs.length
 | [], _ => Nat.le_refl _
 | c :: cs, l => by
  rw [qIx]; have h1 := qPh cs (l := chg c l); have h2 : (chg c l).length <= l.length + 1 := by
   unfold chg Cg.put; rw [List.length_append, List.length_append]; have h3 : (l.filter (fun p => kl p.1 c.key)).length + (l.filter (fun p => kl c.key p.1)).length <= l.length := by
    clear h1; induction l with
    | nil => simp
    | cons p r ih =>
     rw [List.filter_cons, List.filter_cons, List.length_cons]; cases ha : kl p.1 c.key with
     | true => rw [qDu ha]; simp only [if_true, Bool.false_eq_true, if_false, List.length_cons]; omega
     | false =>
      cases hb : kl c.key p.1 with
      | true => simp only [if_true, Bool.false_eq_true, if_false, List.length_cons]; omega
      | false => simp only [Bool.false_eq_true, if_false]; omega
   split <;> simp only [List.length_nil, List.length_cons] <;> omega
  rw [List.length_cons]; omega
theorem HApp.brief {w w' : World} {B : TB} {T : TM} {D : Dsk} {k : Nat} {l : List KV} {N : Nat} {cs : List Cg} {e : Ending} (h : HApp w B T D k l N cs e w') :
  ∃ E : Int, e = .returned (.int .i64 E) /\ Mod (TS B) w w' /\ ((E = 0 /\ ∃ (T' : TM) (D' : Dsk) (N' : Nat), Here w' B T' D' (k + 1002) (chgs cs l) N' /\ D'.secs.length = D.secs.length) \/ (E ≠ 0 /\ Here w' B T D k l N)) := by
 rcases h with ⟨h1, rfl, h2, h3⟩ | ⟨_, ⟨rfl, _, h2, h3⟩ | ⟨rfl, _, h2, h3⟩ | ⟨rfl, T', D', N', h2, hn, h3⟩⟩
 ·exact ⟨_, rfl, h3.mono (fun _ _ e => e.elim), .inr ⟨h1, h2⟩⟩
 ·exact ⟨52, rfl, h3.mono (fun _ _ e => e.elim), .inr ⟨by decide, h2⟩⟩
 ·exact ⟨31, rfl, h3.mono (fun _ _ e => e.elim), .inr ⟨by decide, h2⟩⟩
 ·exact ⟨0, rfl, h3, .inl ⟨rfl, T', D', N', h2, hn⟩⟩
theorem HApp.made {w0 w w' : World} {B : TB} {T : TM} {D : Dsk} {k : Nat} {l : List KV} {N : Nat} {cs : List Cg} {e : Ending} (hh : Here w0 B T D k l N) (h : HApp w B T D k l N cs e w') (hc : chkF [] cs = 0) (hl : l.length <= 500) (hn : cs.length <= 20) (hr : B.room = 500) (hD : 1500 <= D.secs.length) :
  e = .returned (.int .i64 0) /\ ∃ (T' : TM) (D' : Dsk) (N' : Nat), Here w' B T' D' (k + 1002) (chgs cs l) N' /\ D'.secs.length = D.secs.length /\ Mod (TS B) w w' := by
 rcases h with ⟨h1, _⟩ | ⟨_, ⟨_, h1, _⟩ | ⟨_, ⟨h1, _⟩, _⟩ | ⟨rfl, T', D', N', h2, hn', h3⟩⟩
 ·exact absurd hc h1
 ·exfalso
  have h2 := hh.std.ti.secs.1; have h3 := qQg l (fun p hp => ⟨(hh.std.ti.1.ok p hp).1.2, (hh.std.ti.1.ok p hp).2⟩)
  rw [hr] at h1; unfold jlen at h1; omega
 ·exfalso
  rw [hr] at h1; omega
 ·exact ⟨rfl, T', D', N', h2, hn', h3⟩
theorem jEq {w : World} {d room : Nat} {sa : Option Addr} {n : Int} (hD : qAn w d sa (newD n)) (h1 : 1 <= room) (h2 : room <= 500) (hn : 1 <= jlen room (newD n)) (hl : (newD n).secs.length <= 16384) :
  Calls Tryz.prog 7 #[.pointer (some ⟨d, 0, none⟩), .int .i64 (room : Int)] w fun e w' => ∃ B : TB, e = .returned (.tuple #[.pointer (some ⟨B.tb, 0, none⟩), .int .i64 0]) /\ Here w' B newT (newD n) 0 [] 0 /\ B.d = d /\ B.sa = sa /\ B.room = room /\ (w.heap.size <= B.tb /\ w.heap.size <= B.nb /\ w.heap.size <= B.ab /\ w.heap.size <= B.j) /\ Mod (qBd d sa) w w' := by
 have hL := qZv n; have hs : Std room (newD n) newT [] 0 := jGk h1 h2 hn; have ho : qJl room (newD n) = (0, newD n) := jDr hL (by unfold jlen at hn; omega) hs.clear
 have hr1 : (qEi room (newD n) 0).1 = qCg := by
  have := qIc (room := room) hL.off 0; rw [if_pos (by omega), qRq] at this
  exact this
 have hr2 : (qEi room (newD n) 0).2 = 0 := jDd hL.off (by omega) (by omega)
 have hz : (qEi room (newD n) 0).1.size <= 1024 := qNb hL.b _; refine (qYg hD hL.b (by omega) h1 h2 (by rw [ho]; exact hl) (by rw [ho]) (by rw [ho]; exact hr2) (by rw [ho]; unfold maxLen; simp only; omega) (by rw [ho]; simp only; rw [hr1, qGz]; exact qJd _)).mono fun e w' ⟨N, j, he, ht, hN, hj, hm⟩ => ?_
 rw [ho] at ht; refine ⟨newB N j d sa room, he, ⟨ht, hL, hs, ?_⟩, rfl, rfl, rfl, ⟨?_, hN, ?_, hj⟩, hm⟩
 ·show N ≠ N + 1; omega
 ·show w.heap.size <= N + 1 + 1; omega
 ·show w.heap.size <= N + 1; omega
end
section
open Go Go.RowKit
def RBad (R F : Option PK) (n m : Nat) : Prop := (R = none /\ 0 < n) \/ (F = none /\ 0 < m) \/ ∃ p q, R = some p /\ F = some q /\ p.k ≠ q.k
theorem qTw {P Q : Option PB} {n m : Nat} : RBad (P.map PB.pk) (Q.map PB.pk) n m ↔ qNt P Q n m := by
 unfold RBad qNt; rw [Option.map_eq_none_iff, Option.map_eq_none_iff]; refine or_congr Iff.rfl (or_congr Iff.rfl ⟨?_, ?_⟩)
 ·rintro ⟨p, q, hp, hq, hne⟩; obtain ⟨p', hp', rfl⟩ := Option.map_eq_some_iff.1 hp; obtain ⟨q', hq', rfl⟩ := Option.map_eq_some_iff.1 hq; exact ⟨p', q', hp', hq', fun e => hne (toList_inj e)⟩
 ·rintro ⟨p, q, hp, hq, hne⟩; exact ⟨_, _, by rw [hp]; rfl, by rw [hq]; rfl, fun e => hne (congrArg ByteArray.toList e)⟩
theorem qZe {R F : Option PK} {n m : Nat} (h : ¬ RBad R F n m) : ¬ RBad F R m n := fun e => h (by
 rcases e with e | e | ⟨p, q, h1, h2, h3⟩
 ·exact .inr (.inl e)
 ·exact .inl e
 ·exact .inr (.inr ⟨q, p, h2, h1, fun e => h3 e.symm⟩))
theorem qIf {R F : Option PK} {n m : Nat} (h : ¬ RBad R F n m) : ∀ p q, R = some p -> F = some q -> p.k = q.k := fun p q h1 h2 => Classical.byContradiction (fun e => h (.inr (.inr ⟨p, q, h1, h2, e⟩)))
theorem jDb (name : Int) (cols : List Int) (keys idx : Int) : rowK name cols keys idx [] = none := by
 unfold rowK; rw [qEf (fun hg => by
  obtain ⟨_, _, _, h1, h2, _⟩ := qPd hg.fit; have := hg.len; simp at this
  omega)]
 rfl
structure qMk (cols : List Int) (r : List Vl) : Prop where
 n : r.length <= 1048576
 ok : ∀ x ∈ r, x.Ok /\ x.s.size <= 1048576
theorem qMk.size {cols : List Int} {r : List Vl} (h : qMk cols r) (hc : cols.length <= 1048576) : (∀ k, (qDq cols r k).length <= 1152921504606846976) /\ ∀ j k, (valL cols r j k).length <= 1152921504606846976 :=
 qHi (by omega) (fun v hv => (h.ok v hv).1) (fun v hv => by have := (h.ok v hv).2; omega)
theorem qUw {w : World} {ca ra fa : Option Addr} {cols : List Int} {r f : List Vl} (name keys idx : Int) (cc rc fc : Nat) (hl : Lies w 1 oneI ca cols) (hr : Lies w 2 Vl.cs ra r) (hf : Lies w 2 Vl.cs fa f) (hn : cols.length <= 1048576) (h1 : qMk cols r) (h2 : qMk cols f) :
  Calls Tryz.prog 10 #[.agg #[.int .u8 name, .slice ca cols.length cc, .int .i64 keys, .int .i64 idx], .slice ra r.length rc, .slice fa f.length fc] w fun e w' => qVh w ((qBu name cols keys idx r).map PX.b) ((qBu name cols keys idx f).map PX.b) r.length f.length e w' := by
 have n1 := h1.n; have n2 := h2.n; exact qSt name keys idx cc rc fc hl hr hf (by omega) (by omega) (fun v hv => (h1.ok v hv).1) (h1.size hn) (by omega) (fun v hv => (h2.ok v hv).1) (h2.size hn)
theorem qLz {w : World} {ca ra fa : Option Addr} {cols : List Int} {r f : List Vl} {name keys idx : Int} {cc rc fc : Nat} (hl : Lies w 1 oneI ca cols) (hr : Lies w 2 Vl.cs ra r) (hf : Lies w 2 Vl.cs fa f) (hn : cols.length <= 1048576) (h1 : qMk cols r) (h2 : qMk cols f) (hb : RBad (rowK name cols keys idx r) (rowK name cols keys idx f) r.length f.length) :
  Calls Tryz.prog 10 #[.agg #[.int .u8 name, .slice ca cols.length cc, .int .i64 keys, .int .i64 idx], .slice ra r.length rc, .slice fa f.length fc] w fun e w' => e = .returned (.tuple #[.slice none 0 0, .int .i64 60]) /\ Mod (fun _ => False) w w' :=
 (qUw name keys idx cc rc fc hl hr hf hn h1 h2).mono fun _ _ ⟨hm, ha⟩ => ha.elim (fun ⟨_, he⟩ => ⟨he, hm⟩) (fun ⟨hx, _⟩ => absurd (qTw.1 hb) hx)
theorem qMa {w : World} {ca ra fa : Option Addr} {cols : List Int} {r f : List Vl} {name keys idx : Int} {cc rc fc : Nat} (hl : Lies w 1 oneI ca cols) (hr : Lies w 2 Vl.cs ra r) (hf : Lies w 2 Vl.cs fa f) (hn : cols.length <= 1048576) (h1 : qMk cols r) (h2 : qMk cols f) (hb : ¬ RBad (rowK name cols keys idx r) (rowK name cols keys idx f) r.length f.length)
  {cs : List Cg} (hcs : qFy (rowK name cols keys idx r) (rowK name cols keys idx f) = cs) :
  Calls Tryz.prog 10 #[.agg #[.int .u8 name, .slice ca cols.length cc, .int .i64 keys, .int .i64 idx], .slice ra r.length rc, .slice fa f.length fc] w fun e w' => ∃ la cap, e = .returned (.tuple #[.slice la cs.length cap, .int .i64 0]) /\ Lies w' 3 ccs la cs /\ Mod (fun _ => False) w w' :=
 (qUw name keys idx cc rc fc hl hr hf hn h1 h2).mono fun _ _ ⟨hm, ha⟩ => ha.elim (fun ⟨hx, _⟩ => absurd (qTw.2 hx) hb) (fun ⟨_, la, cap, he, hl⟩ => by
  have e := jBj ((qBu name cols keys idx r).map PX.b) ((qBu name cols keys idx f).map PX.b); have e2 : (chgL ((qBu name cols keys idx r).map PX.b) ((qBu name cols keys idx f).map PX.b)).map Rg.c = cs := e.trans hcs; have hl2 := jGz hl; rw [e2] at hl2; refine ⟨la, cap, ?_, hl2, hm⟩; rw [he, <- e2, List.length_map])
end
section
open Go Go.RowKit
def rvV (x : RV) : Value := .tuple #[.agg #[.int .i64 x.v.n, .string x.v.s], .int .i64 (x.n : Int), .bool x.ok]
theorem qUm : ∀ (l : List UInt8) (c : UInt8), Lib.indexByte l c <= (l.length : Int)
 | [], c => by simp [Lib.indexByte]
 | b :: l, c => by
  have ih := qUm l c; rw [Lib.indexByte]; simp only [List.length_cons]; split
  ·omega
  ·split <;> omega
theorem jIp {s : ByteArray} {a : Nat} (h : (rdT s a).e = 0) : rtV (rdT s a) = .tuple #[.string (rdT s a).t, .int .i64 ((rdT s a).n : Int), .int .i64 0] := by unfold rtV; rw [h]; rfl
theorem jGo {s : ByteArray} {a : Nat} (h : (rdT s a).e ≠ 0) : rtV (rdT s a) = .tuple #[.string ⟨#[]⟩, .int .i64 0, .int .i64 ((rdT s a).e : Int)] := by
 unfold rtV rdT rtOf at *; by_cases h1 : (rdU 0 (s.data.toList.drop a)).e = 0
 ·rw [if_pos h1] at h ⊢; by_cases h2 : s.size < a + (rdU 0 (s.data.toList.drop a)).n + (rdU 0 (s.data.toList.drop a)).v
  ·rw [if_pos h2]; rfl
  ·rw [if_neg h2] at h; exact absurd rfl h
 ·rw [if_neg h1]; rfl
set_option maxRecDepth 100000
set_option maxHeartbeats 2000000 in
theorem qVs (s : ByteArray) (a : Nat) (w : World) (hs : s.size <= maxLen) (ha : a <= s.size) : Calls Tryz.prog 58 #[.int .i64 0, .string s, .int .i64 (a : Int)] w fun e w' => e = .returned (rvV (rdO s a)) /\ Mod (fun _ => False) w w' := by
 have HO := hid (fun W : World => qRt s a W hs ha)
 unfold roV at HO; unfold rdO; by_cases h8 : s.size < a + 8
 ·rw [if_pos h8] at HO ⊢; clear h8; go_enter Tryz.func58, Tryz.ntmps58
  go_wp2_with (go_at_call 91; refine (HO.out _).mono ?_; rintro e w1 ⟨rfl, rfl⟩)
  exact bodyPost_ret (v := rvV noV) (by simp [rvV, noV, results, Tryz.results58, go_sem]) rfl ⟨rfl, (Mod.refl _ _).alloc _⟩
 ·rw [if_neg h8] at HO ⊢; generalize (rdBE 0 ((s.data.toList.drop a).take 8) : Int) - 9223372036854775808 = n at *; clear h8; go_enter Tryz.func58, Tryz.ntmps58
  go_wp2_with (go_at_call 91; refine (HO.out _).mono ?_; rintro e w1 ⟨rfl, rfl⟩)
  exact bodyPost_ret (v := .tuple #[.agg #[.int .i64 n, .string ⟨#[]⟩], .int .i64 ((a : Int) + 8), .bool true]) (by simp [results, Tryz.results58, go_sem]) rfl ⟨rfl, (Mod.refl _ _).alloc _⟩
set_option maxHeartbeats 2000000 in
theorem qRm (k : Int) (hk : k ≠ 0) (s : ByteArray) (a : Nat) (w : World) (hs : s.size <= 140737488351232) (ha : a <= s.size) : Calls Tryz.prog 58 #[.int .i64 k, .string s, .int .i64 (a : Int)] w fun e w' => e = .returned (rvV (rdZ s a)) /\ Mod (fun _ => False) w w' := by
 have e0 : (k == 0) = false := by simpa using hk
 have hsl : ∀ v : World, (Instr.slice 9 (.string s) (some (.int .i64 (a : Int))) none none).run Tryz.prog v = .ok (.string (s.extract a s.size)) v := fun v => by
  have := run_slice_string_l (P := Tryz.prog) v 9 s Tryz.underlying9 .i64 (a : Int) (by omega) (by omega)
  simpa using this
 have hx : (s.extract a s.size).data.toList = s.data.toList.drop a := by
  rw [ByteArray.data_extract, Array.toList_extract, List.extract_eq_take_drop, List.take_of_length_le]; have : s.data.toList.length = s.size := rfl; rw [List.length_drop]; omega
 have hi : ∀ v : World, Calls Tryz.prog 92 #[.string (s.extract a s.size), .int .u8 0] v fun e w' => e = .returned (.int .i64 (Lib.indexByte (s.data.toList.drop a) 0)) /\ w' = v := fun v => by
  have := Tryz.strings_IndexByte (s.extract a s.size) 0 v; rw [hx] at this; exact this
 have HI := hid hi; have hge := Lib.indexByte_ge (s.data.toList.drop a) 0; have hle := qUm (s.data.toList.drop a) 0; rw [List.length_drop] at hle; have hsl0 : s.data.toList.length = s.size := rfl; unfold rdZ; clear hi hx hk; generalize Lib.indexByte (s.data.toList.drop a) 0 = i at *; by_cases h0 : i < 0
 ·rw [if_pos h0]; have d0 : decide (i < 0) = true := by rw [decide_eq_true_iff]; exact h0
  clear h0 hge hle; go_enter Tryz.func58, Tryz.ntmps58
  go_wp2_with (go_at_call 92; refine (HI.out _).mono ?_; rintro e w1 ⟨rfl, rfl⟩)
  exact bodyPost_ret (v := rvV noV) (by simp [rvV, noV, results, Tryz.results58, go_sem]) rfl ⟨rfl, (Mod.refl _ _).alloc _⟩
 ·rw [if_neg h0]; have d0 : decide (i < 0) = false := by rw [decide_eq_false_iff_not]; exact h0
  obtain ⟨m, rfl⟩ := Int.eq_ofNat_of_zero_le (show 0 <= i by omega)
  have hs2 : ∀ v : World, (Instr.slice 9 (.string s) (some (.int .i64 (a : Int))) (some (.int .i64 ((a : Int) + (m : Int)))) none).run Tryz.prog v = .ok (.string (s.extract a (a + m))) v := fun v => by
   have := run_slice_string (P := Tryz.prog) v 9 s .i64 .i64 (a : Int) ((a : Int) + (m : Int)) Tryz.underlying9 (by omega) (by omega) (by omega)
   rw [show ((a : Int) + (m : Int)).toNat = a + m by omega, show ((a : Int)).toNat = a by omega] at this
   exact this
  clear h0 hge; go_enter Tryz.func58, Tryz.ntmps58
  go_wp2_with (go_at_call 92; refine (HI.out _).mono ?_; rintro e w1 ⟨rfl, rfl⟩)
  exact bodyPost_ret (v := .tuple #[.agg #[.int .i64 0, .string (s.extract a (a + m))], .int .i64 ((a : Int) + (m : Int) + 1), .bool true]) (by simp [results, Tryz.results58, go_sem]) rfl ⟨rfl, (Mod.refl _ _).alloc _⟩
theorem qVt (k : Int) (s : ByteArray) (a : Nat) (w : World) (hs : s.size <= 140737488351232) (ha : a <= s.size) : Calls Tryz.prog 58 #[.int .i64 k, .string s, .int .i64 (a : Int)] w fun e w' => e = .returned (rvV (qBx k s a)) /\ Mod (fun _ => False) w w' := by
 unfold qBx; by_cases hk : k = 0
 ·subst hk; rw [if_pos rfl]; exact qVs s a w (by unfold maxLen; omega) ha
 ·rw [if_neg hk]; exact qRm k hk s a w hs ha
set_option maxHeartbeats 2000000 in
theorem qVq (s : ByteArray) (a : Nat) (w : World) (hs : s.size <= maxLen) : Calls Tryz.prog 59 #[.int .i64 0, .string s, .int .i64 (a : Int)] w fun e w' => e = .returned (rvV (rdI s a)) /\ Mod (fun _ => False) w w' := by
 have HO := hid (fun W : World => qRu s a W hs)
 unfold riV at HO; unfold rdI; generalize rdU 0 (s.data.toList.drop a) = x at *; obtain ⟨v, n, er⟩ := x; by_cases he : er = 0
 ·subst he; simp only [if_true] at HO ⊢; go_enter Tryz.func59, Tryz.ntmps59
  go_wp2_with (go_at_call 93; refine (HO.out _).mono ?_; rintro e w1 ⟨rfl, rfl⟩)
  exact bodyPost_ret (v := .tuple #[.agg #[.int .i64 (unzz v), .string ⟨#[]⟩], .int .i64 ((a : Int) + (n : Int)), .bool true]) (by simp [results, Tryz.results59, go_sem]) rfl ⟨rfl, (Mod.refl _ _).alloc _⟩
 ·simp only [if_neg he] at HO ⊢; have e1 : ((er : Int) == 0) = false := by rw [beq_eq_false_iff_ne]; omega
  clear he; go_enter Tryz.func59, Tryz.ntmps59
  go_wp2_with (go_at_call 93; refine (HO.out _).mono ?_; rintro e w1 ⟨rfl, rfl⟩)
  exact bodyPost_ret (v := rvV noV) (by simp [rvV, noV, results, Tryz.results59, go_sem]) rfl ⟨rfl, (Mod.refl _ _).alloc _⟩
set_option maxHeartbeats 2000000 in
theorem qRl (k : Int) (hk : k ≠ 0) (s : ByteArray) (a : Nat) (w : World) (hs : s.size <= maxLen) : Calls Tryz.prog 59 #[.int .i64 k, .string s, .int .i64 (a : Int)] w fun e w' => e = .returned (rvV (rdX s a)) /\ Mod (fun _ => False) w w' := by
 have HO := hid (fun W : World => qQe s a W hs)
 have e0 : (k == 0) = false := by simpa using hk
 unfold rdX; clear hk; by_cases he : (rdT s a).e = 0
 ·rw [jIp he] at HO; rw [if_pos he]; clear he; generalize rdT s a = x at *; obtain ⟨t, n, er⟩ := x; simp only at HO ⊢; go_enter Tryz.func59, Tryz.ntmps59
  go_wp2_with (go_at_call 94; refine (HO.out _).mono ?_; rintro e w1 ⟨rfl, rfl⟩)
  exact bodyPost_ret (v := .tuple #[.agg #[.int .i64 0, .string t], .int .i64 (n : Int), .bool true]) (by simp [results, Tryz.results59, go_sem]) rfl ⟨rfl, (Mod.refl _ _).alloc _⟩
 ·rw [jGo he] at HO; rw [if_neg he]; have e1 : (((rdT s a).e : Int) == 0) = false := by rw [beq_eq_false_iff_ne]; omega
  clear he; generalize rdT s a = x at *; obtain ⟨t, n, er⟩ := x; simp only at HO e1; go_enter Tryz.func59, Tryz.ntmps59
  go_wp2_with (go_at_call 94; refine (HO.out _).mono ?_; rintro e w1 ⟨rfl, rfl⟩)
  exact bodyPost_ret (v := rvV noV) (by simp [rvV, noV, results, Tryz.results59, go_sem]) rfl ⟨rfl, (Mod.refl _ _).alloc _⟩
theorem qVr (k : Int) (s : ByteArray) (a : Nat) (w : World) (hs : s.size <= maxLen) : Calls Tryz.prog 59 #[.int .i64 k, .string s, .int .i64 (a : Int)] w fun e w' => e = .returned (rvV (qCn k s a)) /\ Mod (fun _ => False) w w' := by
 unfold qCn; by_cases hk : k = 0
 ·subst hk; rw [if_pos rfl]; exact qVq s a w hs
 ·rw [if_neg hk]; exact qRl k hk s a w hs
end
section
open Go Go.RowKit
def qQu : Option PX -> Value
 | some p => .tuple #[.agg #[.string (ba p.k), .string (ba p.v)], .int .i64 0]
 | none => .tuple #[.agg #[.string ⟨#[]⟩, .string ⟨#[]⟩], .int .i64 60]
set_option maxRecDepth 100000
set_option maxHeartbeats 2000000 in
theorem qUs {w : World} {ca ra : Option Addr} {cols : List Int} {r : List Vl} (name keys idx : Int) (cc rc : Nat) (hl : Lies w 1 oneI ca cols) (hr : Lies w 2 Vl.cs ra r) (hn : cols.length <= 140737488351232) (hrn : r.length <= 140737488351232) (hv : ∀ v ∈ r, v.Ok) (hsz : ∀ k, (qDq cols r k).length <= 1152921504606846976) (hsv : ∀ j k, (valL cols r j k).length <= 1152921504606846976) :
  Calls Tryz.prog 19 #[.agg #[.int .u8 name, .slice ca cols.length cc, .int .i64 keys, .int .i64 idx], .slice ra r.length rc] w fun e w' => e = .returned (qQu (qBu name cols keys idx r)) /\ Mod (fun _ => False) w w' := by
 have hma : Mod (fun _ => False) w ((w.alloc (.cells #[.int .u8 name, .slice ca cols.length cc, .int .i64 keys, .int .i64 idx] 24)).alloc (.cells #[.string ⟨#[]⟩, .string ⟨#[]⟩] 41)) := ((Mod.refl _ _).alloc _).alloc _
 have HP := hid (qJj name keys idx cc rc (hl.ext hma) (hr.ext hma) hn hrn hv hsz hsv); have hsz1 : (w.alloc (.cells #[.int .u8 name, .slice ca cols.length cc, .int .i64 keys, .int .i64 idx] 24)).heap.size = w.heap.size + 1 := by simp
 have ha : ((w.alloc (.cells #[.int .u8 name, .slice ca cols.length cc, .int .i64 keys, .int .i64 idx] 24)).alloc (.cells #[.string ⟨#[]⟩, .string ⟨#[]⟩] 41)).heap[w.heap.size]? = some (.cells #[.int .u8 name, .slice ca cols.length cc, .int .i64 keys, .int .i64 idx] 24 (0, 0)) := by
  rw [Below.heap_alloc _ _ _ (by omega)]
  exact heap_alloc_new _ _
 have hb : ((w.alloc (.cells #[.int .u8 name, .slice ca cols.length cc, .int .i64 keys, .int .i64 idx] 24)).alloc (.cells #[.string ⟨#[]⟩, .string ⟨#[]⟩] 41)).heap[w.heap.size + 1]? = some (.cells #[.string ⟨#[]⟩, .string ⟨#[]⟩] 41 (0, 0)) := by
  rw [<- hsz1]; exact heap_alloc_new _ _
 have HM := hid hma; have HB := hid hb; obtain ⟨b0, b1, b2, b3⟩ := row4 ha; clear hl hr hv hsz hsv hma hsz1 ha hb; generalize qBu name cols keys idx r = P at *; cases P with
 | none =>
  have hp : qCz none = .tuple #[.agg #[.string ⟨#[]⟩, .string ⟨#[]⟩], .agg #[.string ⟨#[]⟩, .string ⟨#[]⟩], .bool false] := rfl; rw [hp] at HP; clear hp; go_enter Tryz.func19, Tryz.ntmps19
  go_upto_region 2 with (go_at_call 31; refine HP.out.mono ?_; rintro e w1 ⟨rfl, hm⟩; have HM1 := hid hm; clear hm)
  clear b0 b1 b2 b3; have hm2 : Mod (fun _ => False) w1 ((w1.alloc (.cells #[.string ⟨#[]⟩, .string ⟨#[]⟩] 41)).alloc (.cells #[.string ⟨#[]⟩, .string ⟨#[]⟩] 41)) := ((Mod.refl _ _).alloc _).alloc _
  have hs2 : (w1.alloc (.cells #[.string ⟨#[]⟩, .string ⟨#[]⟩] 41)).heap.size = w1.heap.size + 1 := by simp
  have hp1 : ((w1.alloc (.cells #[.string ⟨#[]⟩, .string ⟨#[]⟩] 41)).alloc (.cells #[.string ⟨#[]⟩, .string ⟨#[]⟩] 41)).heap[w1.heap.size]? = some (.cells #[.string ⟨#[]⟩, .string ⟨#[]⟩] 41 (0, 0)) := by
   rw [Below.heap_alloc _ _ _ (by omega)]
   exact heap_alloc_new _ _
  have HM2 := hid ((HM.out.trans HM1.out).trans hm2); have hB2 := ((HM1.out.trans hm2).block _ (lth HB.out) (fun h => h)).trans HB.out
  have HB2 := hid hB2; obtain ⟨c0, c1, _, _⟩ := row2 hp1; obtain ⟨_, _, f0, f1⟩ := row2 hB2; clear hm2 hs2 hp1 hB2; generalize (w1.alloc (.cells #[.string ⟨#[]⟩, .string ⟨#[]⟩] 41)).alloc (.cells #[.string ⟨#[]⟩, .string ⟨#[]⟩] 41) = V at *; obtain ⟨d0, d1, _, _⟩ := row2 HB2.out; go_wp2_with fail
  obtain ⟨z0, z1, z2⟩ := val2 HM2.out (Nat.le_succ _) HB2.out (.string ⟨#[]⟩) (.string ⟨#[]⟩); clear c0 c1 f0 f1 d0 d1; generalize (V.setCell ⟨w.heap.size + 1, 0, none⟩ (.string ⟨#[]⟩)).setCell ⟨w.heap.size + 1, 1, none⟩ (.string ⟨#[]⟩) = Z at *; exact bodyPost_ret (v := qQu (none)) (by simp [qQu, results, Tryz.results19, go_sem, z0, z1]) rfl ⟨rfl, z2⟩
 | some p =>
  have hp : qCz (some p) = .tuple #[.agg #[.string (ba p.k), .string (ba p.v)], .agg #[.string (ba p.x), .string ⟨#[]⟩], .bool true] := rfl; rw [hp] at HP; clear hp; go_enter Tryz.func19, Tryz.ntmps19
  go_upto_region 2 with (go_at_call 31; refine HP.out.mono ?_; rintro e w1 ⟨rfl, hm⟩; have HM1 := hid hm; clear hm)
  clear b0 b1 b2 b3; have hm2 : Mod (fun _ => False) w1 ((w1.alloc (.cells #[.string (ba p.k), .string (ba p.v)] 41)).alloc (.cells #[.string (ba p.x), .string ⟨#[]⟩] 41)) := ((Mod.refl _ _).alloc _).alloc _
  have hs2 : (w1.alloc (.cells #[.string (ba p.k), .string (ba p.v)] 41)).heap.size = w1.heap.size + 1 := by simp
  have hp1 : ((w1.alloc (.cells #[.string (ba p.k), .string (ba p.v)] 41)).alloc (.cells #[.string (ba p.x), .string ⟨#[]⟩] 41)).heap[w1.heap.size]? = some (.cells #[.string (ba p.k), .string (ba p.v)] 41 (0, 0)) := by
   rw [Below.heap_alloc _ _ _ (by omega)]
   exact heap_alloc_new _ _
  have HM2 := hid ((HM.out.trans HM1.out).trans hm2); have hB2 := ((HM1.out.trans hm2).block _ (lth HB.out) (fun h => h)).trans HB.out
  have HB2 := hid hB2; obtain ⟨c0, c1, _, _⟩ := row2 hp1; obtain ⟨_, _, f0, f1⟩ := row2 hB2; clear hm2 hs2 hp1 hB2; generalize (w1.alloc (.cells #[.string (ba p.k), .string (ba p.v)] 41)).alloc (.cells #[.string (ba p.x), .string ⟨#[]⟩] 41) = V at *; obtain ⟨d0, d1, _, _⟩ := row2 HB2.out; go_wp2_with fail
  obtain ⟨z0, z1, z2⟩ := val2 HM2.out (Nat.le_succ _) HB2.out (.string (ba p.k)) (.string (ba p.v)); clear c0 c1 f0 f1 d0 d1; generalize (V.setCell ⟨w.heap.size + 1, 0, none⟩ (.string (ba p.k))).setCell ⟨w.heap.size + 1, 1, none⟩ (.string (ba p.v)) = Z at *; exact bodyPost_ret (v := qQu (some p)) (by simp [qQu, results, Tryz.results19, go_sem, z0, z1]) rfl ⟨rfl, z2⟩
end
section
open Go Go.RowKit
theorem jHf : (Tryz.prog.info? 46).map (fun i => (i.zero, i.size, i.bytes)) = some (some (.agg #[.int .i64 0, .string ⟨#[]⟩]), 2, 24) := by kernel_rfl
theorem qUh {a b : ByteArray} (h : a.toList = b.toList) : a = b := by
 rw [ByteArray.toList_eq, ByteArray.toList_eq] at h; exact qMf h
def qTc (w : World) (name : Int) (cols : List Int) (keys idx : Int) (ks vs : ByteArray) (e : Ending) (w' : World) : Prop :=
 Mod (fun _ => False) w w' /\ ((∃ r la cap, qHu name cols keys idx ks vs r /\ r.length = cols.length /\ (∀ v ∈ r, v.Ok /\ v.s.size <= 4194304) /\ e = .returned (.tuple #[.slice la r.length cap, .int .i64 0]) /\ Lies w' 2 Vl.cs la r /\ ∀ b, blk la b -> w.heap.size <= b) ∨
  ((∀ r, ¬ qHu name cols keys idx ks vs r) /\ e = .returned (.tuple #[.slice none 0 0, .int .i64 60])))
theorem qHp {w w' : World} {name : Int} {cols : List Int} {keys idx : Int} {ks vs : ByteArray} (hm : Mod (fun _ => False) w w') (h : ∀ r, ¬ qHu name cols keys idx ks vs r) : qTc w name cols keys idx ks vs (.returned (.tuple #[.slice none 0 0, .int .i64 60])) w' := ⟨hm, .inr ⟨h, rfl⟩⟩
structure DLoop (C wr : World) (cols : List Int) (K : Nat) (ks vs : ByteArray) (k : Nat) (la : Option Addr) (cap : Nat) (done : List Vl) (a b : Nat) : Prop where
 own : Own wr 46 2 la k cap (done.flatMap Vl.cs)
 new : ∀ b, blk la b -> C.heap.size <= b
 mod : Mod (fun _ => False) C wr
 len : done.length = k
 at' : a <= ks.size
 rd : qEp K ks vs 0 cols 2 0 = (qEp K ks vs k (cols.drop k) a b).map (done ++ ·)
set_option maxRecDepth 100000
set_option maxHeartbeats 8000000 in
theorem qWv {w : World} {ca : Option Addr} {cols : List Int} (name keys idx : Int) (cc : Nat) (ks vs : ByteArray) (hl : Lies w 1 oneI ca cols) (hn : cols.length <= 4194304) (hks : ks.size <= 4194304) (hvs : vs.size <= 4194304) :
  Calls Tryz.prog 30 #[.agg #[.int .u8 name, .slice ca cols.length cc, .int .i64 keys, .int .i64 idx], .agg #[.string ks, .string vs]] w fun e w' => qTc w name cols keys idx ks vs e w' := by
 obtain ⟨i0, hi0, hz0, hz1, hz2⟩ := info_parts jHf; have hma : Mod (fun _ => False) w ((w.alloc (.cells #[.int .u8 name, .slice ca cols.length cc, .int .i64 keys, .int .i64 idx] 24)).alloc (.cells #[.string ks, .string vs] 41)) := ((Mod.refl _ _).alloc _).alloc _
 have hs1 : (w.alloc (.cells #[.int .u8 name, .slice ca cols.length cc, .int .i64 keys, .int .i64 idx] 24)).heap.size = w.heap.size + 1 := by simp
 have ha : ((w.alloc (.cells #[.int .u8 name, .slice ca cols.length cc, .int .i64 keys, .int .i64 idx] 24)).alloc (.cells #[.string ks, .string vs] 41)).heap[w.heap.size]? = some (.cells #[.int .u8 name, .slice ca cols.length cc, .int .i64 keys, .int .i64 idx] 24 (0, 0)) := by
  rw [Below.heap_alloc _ _ _ (by omega)]
  exact heap_alloc_new _ _
 have hb : ((w.alloc (.cells #[.int .u8 name, .slice ca cols.length cc, .int .i64 keys, .int .i64 idx] 24)).alloc (.cells #[.string ks, .string vs] 41)).heap[w.heap.size + 1]? = some (.cells #[.string ks, .string vs] 41 (0, 0)) := by
  rw [<- hs1]; exact heap_alloc_new _ _
 have HM := hid hma; have HA := hid ha; have HB := hid hb; have HL := hid hl; have HF := hid (qUq name keys idx cc (hl.ext hma) (by omega))
 clear hma hs1 ha hb hl; obtain ⟨b0, b1, b2, b3⟩ := row4 HA.out; obtain ⟨c0, c1, _, _⟩ := row2 HB.out; cases hfit : qMt name cols keys idx with
 | false =>
  have HN : Hid (∀ r, ¬ qHu name cols keys idx ks vs r) := hid (fun r h => by have := jHs h; rw [hfit] at this; cases this)
  rw [hfit] at HF; clear hfit; go_enter Tryz.func30, Tryz.ntmps30
  go_wp2_with (go_at_call 37; refine HF.out.mono ?_; rintro e w1 ⟨rfl, hm⟩; have HM1 := hid (HM.out.trans hm); clear hm)
  go_ret2; exact qHp HM1.out HN.out
 | true =>
  obtain ⟨i1, n1, n2, i2, i3, i4, i5⟩ := qPd hfit; obtain ⟨K, rfl⟩ : ∃ K : Nat, keys = (K : Int) := ⟨keys.toNat, by omega⟩
  rw [hfit] at HF; clear hfit i1; have HPx := hid (fun W : World => Tryz.strings_HasPrefix ks (ba (qBg name.toNat 0)) W)
  rw [qDd] at HPx; have HRow := hid (fun (W : World) (hm : Mod (fun _ => False) ((w.alloc (.cells #[.int .u8 name, .slice ca cols.length cc, .int .i64 (K : Int), .int .i64 idx] 24)).alloc (.cells #[.string ks, .string vs] 41)) W) => (fun x y => And.intro x y) (row4 ((hm.block _ (lth HA.out) (fun h => h)).trans HA.out)) (row2 ((hm.block _ (lth HB.out) (fun h => h)).trans HB.out)))
  have HCv : Hid (∀ W : World, (convert 128 9 (.slice (some ⟨W.heap.size, 0, none⟩) 2 2)).run Tryz.prog (W.alloc (.cells #[.int .u8 name, .int .u8 0] 5)) = .ok (.string (ba (qBg name.toNat 0))) (W.alloc (.cells #[.int .u8 name, .int .u8 0] 5))) := hid (fun W =>
   run_convert_bytes_back (P := Tryz.prog) _ 128 9 5 ⟨W.heap.size, 0, none⟩ 2 (qBg name.toNat 0) Tryz.underlying128 Tryz.underlying5 Tryz.underlying9 (fun j hj => by
    rw [Addr.add_lit, cell_of_row _ _ _ _ _ _ (heap_alloc_new _ _)]; have : j = 0 \/ j = 1 := by simp [qBg] at hj; omega
    rcases this with rfl | rfl
    ·simp [qBg]; omega
    ·simp [qBg]))
  cases hpre : Lib.hasPrefix ks.data.toList (qBg name.toNat 0) with
  | false =>
   have HN : Hid (∀ r, ¬ qHu name cols (K : Int) idx ks vs r) := hid (fun r h => by have := qWw h; rw [hpre] at this; cases this)
   rw [hpre] at HPx; clear hpre; go_enter Tryz.func30, Tryz.ntmps30
   go_wp2_with (first | (go_at_call 37; refine HF.out.mono ?_; rintro e w1 ⟨rfl, hm⟩; have HM1 := hid (HM.out.trans hm); clear b0 b1 b2 b3 c0 c1; obtain ⟨⟨b0, b1, b2, b3⟩, c0, c1, _, _⟩ := HRow.out w1 hm; have hcv := HCv.out w1; clear hm) | (go_at_call 54; refine (HPx.out _).mono ?_; rintro e w2 ⟨rfl, rfl⟩))
   go_ret2; exact qHp (HM1.out.alloc _) HN.out
  | true =>
   rw [hpre] at HPx; have h2 : 2 <= ks.size := qWf hpre; clear hpre; go_enter Tryz.func30, Tryz.ntmps30
   go_upto_region 5 with (first | (go_at_call 37; refine HF.out.mono ?_; rintro e w1 ⟨rfl, hm⟩; have HM1 := hid hm; clear b0 b1 b2 b3 c0 c1; obtain ⟨⟨b0, b1, b2, b3⟩, c0, c1, _, _⟩ := HRow.out w1 hm; have hcv := HCv.out w1; clear hm) | (go_at_call 54; refine (HPx.out _).mono ?_; rintro e w2 ⟨rfl, rfl⟩))
   obtain ⟨C, hC⟩ : ∃ C, ((w.alloc (.cells #[.int .u8 name, .slice ca cols.length cc, .int .i64 (K : Int), .int .i64 idx] 24)).alloc (.cells #[.string ks, .string vs] 41)) = C := ⟨_, rfl⟩; rw [hC] at HM HA HB HM1 HRow; clear hC HF b0 b1 b2 b3 c0 c1 hcv; have HMV := hid (HM1.out.alloc (.cells #[.int .u8 name, .int .u8 0] 5)); generalize w1.alloc (.cells #[.int .u8 name, .int .u8 0] 5) = V at *; obtain ⟨⟨b0, b1, b2, b3⟩, c0, c1, _, _⟩ := HRow.out V HMV.out; go_wp2_with fail
   clear b0 b1 b2 b3 c0 c1; go_loopw [6, 7, 8, 31] (fun so sa sb sc wr => ∃ (k : Nat) (la : Option Addr) (cap : Nat) (done : List Vl) (a b : Nat), k <= cols.length /\ so = .slice la k cap /\ sa = .int .i64 (a : Int) /\ sb = .int .i64 (b : Int) /\ sc = .int .i64 (k : Int) /\ DLoop C wr cols K ks vs k la cap done a b) (fun _ _ _ sc _ => cols.length - (intOf sc).toNat)
   case atStart => exact ⟨0, none, 0, [], 2, 0, Nat.zero_le _, rfl, rfl, rfl, rfl, ⟨Own.nil _ _ _, (fun k hk => (qAj k hk).elim), HMV.out, rfl, h2, by simp⟩⟩
   case round =>
    obtain ⟨k, la, cap, done, a, b, hk, rfl, rfl, rfl, rfl, hd⟩ := hrel; have HD := hid hd; clear hd; obtain ⟨⟨b0, b1, b2, b3⟩, c0, c1, _, _⟩ := HRow.out wr HD.out.mod; by_cases hlt : k < cols.length
    case neg =>
     have hke : k = cols.length := by omega
     subst hke; have hrd : qEp K ks vs 0 cols 2 0 = some done := by rw [HD.out.rd, List.drop_length]; unfold qEp; simp
     obtain ⟨hdl, hdo⟩ := qOh hks hvs (by decide) cols 0 2 0 done hrd
     obtain ⟨z1, z2⟩ := qHi hn (fun v hv => (hdo v hv).1) (fun v hv => (hdo v hv).2)
     have HOw := hid HD.out.own; have hlen := HD.out.len; have HE := hid (qUs (w := wr) name (K : Int) idx cc cap ((HL.out.ext HM.out).ext HD.out.mod) (by have := HOw.out; rw [<- hdl] at this; exact this.lies) (by omega) (by omega) (fun v hv => (hdo v hv).1) z1 z2)
     rw [hdl] at HE; have HRd := hid hrd; have HDo := hid hdo; have HDl := hid hdl; clear hrd hdo hlen hdl z1 z2; cases hP : qBu name cols (K : Int) idx done with
     | none =>
      have HN : Hid (∀ r, ¬ qHu name cols (K : Int) idx ks vs r) := hid (fun r h => by
       have h1 := h.1; rw [Int.toNat_natCast, HRd.out] at h1; cases h1
       obtain ⟨p, hp, _⟩ := h.2; rw [hP] at hp; cases hp)
      rw [hP, show qQu none = .tuple #[.agg #[.string ⟨#[]⟩, .string ⟨#[]⟩], .int .i64 60] from rfl] at HE
      clear hP; go_wp2_with (go_at_call 19; refine HE.out.mono ?_; rintro e w5 ⟨rfl, hm5⟩; have HM5 := hid hm5; clear hm5)
      go_ret2; exact qHp ((HM.out.trans (HD.out.mod.trans HM5.out)).alloc _) HN.out
     | some p =>
      have HP := hid hP; rw [hP, show qQu (some p) = .tuple #[.agg #[.string (ba p.k), .string (ba p.v)], .int .i64 0] from rfl] at HE
      clear hP; go_upto_region 18 with (go_at_call 19; refine HE.out.mono ?_; rintro e w5 ⟨rfl, hm5⟩; have HM5 := hid hm5; clear hm5)
      have HM6 := hid (HM5.out.alloc (.cells #[.string (ba p.k), .string (ba p.v)] 41)); have hnew : (w5.alloc (.cells #[.string (ba p.k), .string (ba p.v)] 41)).heap[w5.heap.size]? = some (.cells #[.string (ba p.k), .string (ba p.v)] 41 (0, 0)) := heap_alloc_new _ _; obtain ⟨d0, d1, _, _⟩ := row2 hnew; clear b0 b1 b2 b3 c0 c1 hnew; obtain ⟨⟨b0, b1, b2, b3⟩, c0, c1, _, _⟩ := HRow.out _ (HD.out.mod.trans HM6.out); generalize w5.alloc (.cells #[.string (ba p.k), .string (ba p.v)] 41) = V6 at *; have HBad : Hid ((¬ (ba p.k = ks /\ ba p.v = vs)) -> ∀ r, ¬ qHu name cols (K : Int) idx ks vs r) := hid (fun hne r h => by
       have h1 := h.1; rw [Int.toNat_natCast, HRd.out] at h1; cases h1
       obtain ⟨p', hp, h2, h3⟩ := h.2; rw [HP.out] at hp; cases hp
       exact hne ⟨h2, h3⟩)
      by_cases e1 : (ba p.k).toList = ks.toList
      case neg =>
       have HN := hid (HBad.out (fun h => e1 (by rw [h.1])))
       go_wp2_with fail
       go_ret2; exact qHp (HM.out.trans (HD.out.mod.trans HM6.out)) HN.out
      case pos =>
       by_cases e2 : (ba p.v).toList = vs.toList
       case neg =>
        have HN := hid (HBad.out (fun h => e2 (by rw [h.2])))
        go_wp2_with fail
        go_ret2; exact qHp (HM.out.trans (HD.out.mod.trans HM6.out)) HN.out
       case pos =>
        have HY : Hid (qHu name cols (K : Int) idx ks vs done) := hid ⟨by rw [Int.toNat_natCast]; exact HRd.out, p, HP.out, qUh e1, qUh e2⟩
        go_wp2_with fail
        go_ret2; refine ⟨HM.out.trans (HD.out.mod.trans HM6.out), .inl ⟨done, la, cap, HY.out, HDl.out, HDo.out, by rw [HDl.out]; rfl, ?_, fun b hb => by have := HD.out.new b hb; have := HM.out.size; omega⟩⟩
        have hown := HOw.out; rw [<- HDl.out] at hown; exact hown.lies.ext HM6.out
    case pos =>
     obtain ⟨c, hc⟩ : ∃ c, cols[k]? = some c := ⟨_, List.getElem?_eq_getElem hlt⟩; have HDr : Hid (cols.drop k = c :: cols.drop (k + 1)) := hid (by rw [List.drop_eq_getElem_cons hlt]; rw [List.getElem?_eq_getElem hlt] at hc; cases hc; rfl)
     have hlc := (HL.out.ext HM.out).ext HD.out.mod; obtain ⟨g, off, rfl⟩ := hlc.some (by omega)
     have q0 := hlc.cell qFr hc (j := 0) rfl; rw [Nat.add_zero, Nat.mul_one] at q0; have HRd := hid HD.out.rd; rw [HDr.out] at HRd; have hVA : Mod (fun _ => False) wr (wr.alloc (.cells #[.int .i64 0, .string ⟨#[]⟩] 46)) := (Mod.refl _ _).alloc _
     have HVA := hid hVA; have HVb : Hid ((wr.alloc (.cells #[.int .i64 0, .string ⟨#[]⟩] 46)).heap[wr.heap.size]? = some (.cells #[.int .i64 0, .string ⟨#[]⟩] 46 (0, 0))) := hid (heap_alloc_new _ _); clear hlc hc hVA; by_cases hkK : k < K
     case pos =>
      have dk : decide (k < K) = true := by rw [decide_eq_true_iff]; exact hkK
      have HU := hid (fun W : World => qVt c ks a W (by omega) HD.out.at')
      have HNx := hid (qZa HRd.out hkK); have HUo := hid (qPu c ks a (by omega))
      obtain ⟨⟨x0, x1, x2, x3⟩, y0, y1, _, _⟩ := HRow.out _ (HD.out.mod.trans HVA.out); go_upto_region 11 with fail
      clear b0 b1 b2 b3 q0 c0 c1; generalize wr.alloc (.cells #[.int .i64 0, .string ⟨#[]⟩] 46) = VA at *; generalize qBx c ks a = x at *; obtain ⟨⟨n, t⟩, nx, ok⟩ := x; have hrv : rvV ⟨⟨n, t⟩, nx, ok⟩ = .tuple #[.agg #[.int .i64 n, .string t], .int .i64 (nx : Int), .bool ok] := rfl; rw [hrv] at HU; have HX := hid (fun (W : World) (hm : Mod (fun _ => False) VA W) => row2 ((hm.block _ (lth HVb.out) (fun h => h)).trans HVb.out))
      clear hrv; go_upto_region 13 with (go_at_call 58; refine (HU.out _).mono ?_; rintro e w5 ⟨rfl, hm5⟩; have HM5 := hid hm5; clear hm5; obtain ⟨d0, d1, f0, f1⟩ := HX.out w5 HM5.out)
      have hZ : (((w5.setCell ⟨wr.heap.size, 0, none⟩ (.int .i64 n)).setCell ⟨wr.heap.size, 1, none⟩ (.string t)).heap[wr.heap.size]? = some (.cells #[.int .i64 n, .string t] 46 (0, 0))) := (set2 (set2 ((HM5.out.block _ (lth HVb.out) (fun h => h)).trans HVb.out) (.int .i64 n)).1 (.string t)).2
      have HMZ : Hid (Mod (fun j => wr.heap.size <= j) wr ((w5.setCell ⟨wr.heap.size, 0, none⟩ (.int .i64 n)).setCell ⟨wr.heap.size, 1, none⟩ (.string t))) := hid (Mod.setCell (S := fun j => wr.heap.size <= j) (p := ⟨wr.heap.size, 1, none⟩) (Mod.setCell (S := fun j => wr.heap.size <= j) (p := ⟨wr.heap.size, 0, none⟩) ((HVA.out.trans HM5.out).mono (fun _ _ h => h.elim)) (fun _ => Nat.le_refl _) _) (fun _ => Nat.le_refl _) _)
      clear d0 d1 f0 f1 x0 x1 x2 x3 y0 y1; generalize (w5.setCell ⟨wr.heap.size, 0, none⟩ (.int .i64 n)).setCell ⟨wr.heap.size, 1, none⟩ (.string t) = Z at *; have HMCZ := hid (HD.out.mod.then HMZ.out (fun i hi h => by have := HD.out.mod.size; omega))
      have HZ := hid hZ; clear hZ; cases ok with
      | false =>
       have HN : Hid (∀ r, ¬ qHu name cols (K : Int) idx ks vs r) := hid (fun r h => by
        have h1 := h.1; rw [Int.toNat_natCast, HNx.out.2 (by trivial)] at h1
        cases h1)
       go_wp2_with fail
       go_ret2; exact qHp (HM.out.trans HMCZ.out) HN.out
      | true =>
       obtain ⟨d0, d1, _, _⟩ := row2 HZ.out; have HRn := hid (HNx.out.1 (by trivial))
       have HOz := hid (HD.out.own.mod HMZ.out (fun j hj h => by have := HD.out.own.lt j hj; omega))
       have HOa := hid (HOz.out.mod (S := fun _ => False) ((Mod.refl _ _).alloc (.cells #[.int .i64 n, .string t] 46)) (fun _ _ h => h))
       have HSa : Hid (Src (Z.alloc (.cells #[.int .i64 n, .string t] 46)) 2 (some ⟨Z.heap.size, 0, none⟩) 1 [.int .i64 n, .string t]) := hid (qAs (heap_alloc_new _ _) rfl); have HMa := hid (HMCZ.out.alloc (.cells #[.int .i64 n, .string t] 46)); clear HU HNx
       go_wp2_with (at_builtin; refine qAc rfl (.tmp 60) (.tmp 62) 26 rfl 46 i0 _ 2 24 Tryz.underlying26 hi0 hz0 hz1 hz2 rfl la k cap _ rfl HOa.out (some ⟨Z.heap.size, 0, none⟩) 1 1 _ rfl HSa.out (by intro u hu; simp at hu; rcases hu with rfl | rfl <;> rfl) (by unfold maxLen; omega) (by omega) ?_; intro la' cap' w6 hown6 hm6 hb6 hn6 hr6; have HO6 := hid hown6; have HM6 := hid hm6; have HB6 := hid hb6; clear hown6 hm6 hb6 hn6 hr6 d0 d1)
       go_roundw
       case rel =>
        refine ⟨k + 1, la', cap', done ++ [⟨n, t⟩], nx, b, by omega, rfl, rfl, rfl, by go_num, ⟨?_, fun j hj => ?_, ?_, by rw [List.length_append, HD.out.len]; rfl, HUo.out.2.2 (by trivial) HD.out.at', HRn.out⟩⟩
        ·have := HO6.out; rw [List.flatMap_append]
         simpa [Vl.cs] using this
        ·rcases HB6.out j hj with h | h
         ·exact HD.out.new j h
         ·have := HMa.out.size; omega
        ·exact HMa.out.then HM6.out (fun i hi h => by have := HD.out.new i h; omega)
       case measure => simp [intOf]; omega
     case neg =>
      have dk : decide (k < K) = false := by rw [decide_eq_false_iff_not]; exact hkK
      have HU := hid (fun W : World => qVr c vs b W (by unfold maxLen; omega))
      have HNx := hid (qYz HRd.out hkK); have HUo := hid (qPt c vs b (by omega))
      obtain ⟨⟨x0, x1, x2, x3⟩, y0, y1, _, _⟩ := HRow.out _ (HD.out.mod.trans HVA.out); go_upto_region 12 with fail
      clear b0 b1 b2 b3 q0 c0 c1; generalize wr.alloc (.cells #[.int .i64 0, .string ⟨#[]⟩] 46) = VA at *; generalize qCn c vs b = x at *; obtain ⟨⟨n, t⟩, nx, ok⟩ := x; have hrv : rvV ⟨⟨n, t⟩, nx, ok⟩ = .tuple #[.agg #[.int .i64 n, .string t], .int .i64 (nx : Int), .bool ok] := rfl; rw [hrv] at HU; have HX := hid (fun (W : World) (hm : Mod (fun _ => False) VA W) => row2 ((hm.block _ (lth HVb.out) (fun h => h)).trans HVb.out))
      clear hrv; go_upto_region 13 with (go_at_call 59; refine (HU.out _).mono ?_; rintro e w5 ⟨rfl, hm5⟩; have HM5 := hid hm5; clear hm5; obtain ⟨d0, d1, f0, f1⟩ := HX.out w5 HM5.out)
      have hZ : (((w5.setCell ⟨wr.heap.size, 0, none⟩ (.int .i64 n)).setCell ⟨wr.heap.size, 1, none⟩ (.string t)).heap[wr.heap.size]? = some (.cells #[.int .i64 n, .string t] 46 (0, 0))) := (set2 (set2 ((HM5.out.block _ (lth HVb.out) (fun h => h)).trans HVb.out) (.int .i64 n)).1 (.string t)).2
      have HMZ : Hid (Mod (fun j => wr.heap.size <= j) wr ((w5.setCell ⟨wr.heap.size, 0, none⟩ (.int .i64 n)).setCell ⟨wr.heap.size, 1, none⟩ (.string t))) := hid (Mod.setCell (S := fun j => wr.heap.size <= j) (p := ⟨wr.heap.size, 1, none⟩) (Mod.setCell (S := fun j => wr.heap.size <= j) (p := ⟨wr.heap.size, 0, none⟩) ((HVA.out.trans HM5.out).mono (fun _ _ h => h.elim)) (fun _ => Nat.le_refl _) _) (fun _ => Nat.le_refl _) _)
      clear d0 d1 f0 f1 x0 x1 x2 x3 y0 y1; generalize (w5.setCell ⟨wr.heap.size, 0, none⟩ (.int .i64 n)).setCell ⟨wr.heap.size, 1, none⟩ (.string t) = Z at *; have HMCZ := hid (HD.out.mod.then HMZ.out (fun i hi h => by have := HD.out.mod.size; omega))
      have HZ := hid hZ; clear hZ; cases ok with
      | false =>
       have HN : Hid (∀ r, ¬ qHu name cols (K : Int) idx ks vs r) := hid (fun r h => by
        have h1 := h.1; rw [Int.toNat_natCast, HNx.out.2 (by trivial)] at h1
        cases h1)
       go_wp2_with fail
       go_ret2; exact qHp (HM.out.trans HMCZ.out) HN.out
      | true =>
       obtain ⟨d0, d1, _, _⟩ := row2 HZ.out; have HRn := hid (HNx.out.1 (by trivial))
       have HOz := hid (HD.out.own.mod HMZ.out (fun j hj h => by have := HD.out.own.lt j hj; omega))
       have HOa := hid (HOz.out.mod (S := fun _ => False) ((Mod.refl _ _).alloc (.cells #[.int .i64 n, .string t] 46)) (fun _ _ h => h))
       have HSa : Hid (Src (Z.alloc (.cells #[.int .i64 n, .string t] 46)) 2 (some ⟨Z.heap.size, 0, none⟩) 1 [.int .i64 n, .string t]) := hid (qAs (heap_alloc_new _ _) rfl); have HMa := hid (HMCZ.out.alloc (.cells #[.int .i64 n, .string t] 46)); clear HU HNx
       go_wp2_with (at_builtin; refine qAc rfl (.tmp 60) (.tmp 62) 26 rfl 46 i0 _ 2 24 Tryz.underlying26 hi0 hz0 hz1 hz2 rfl la k cap _ rfl HOa.out (some ⟨Z.heap.size, 0, none⟩) 1 1 _ rfl HSa.out (by intro u hu; simp at hu; rcases hu with rfl | rfl <;> rfl) (by unfold maxLen; omega) (by omega) ?_; intro la' cap' w6 hown6 hm6 hb6 hn6 hr6; have HO6 := hid hown6; have HM6 := hid hm6; have HB6 := hid hb6; clear hown6 hm6 hb6 hn6 hr6 d0 d1)
       go_roundw
       case rel =>
        refine ⟨k + 1, la', cap', done ++ [⟨n, t⟩], a, nx, by omega, rfl, rfl, rfl, by go_num, ⟨?_, fun j hj => ?_, ?_, by rw [List.length_append, HD.out.len]; rfl, HD.out.at', HRn.out⟩⟩
        ·have := HO6.out; rw [List.flatMap_append]
         simpa [Vl.cs] using this
        ·rcases HB6.out j hj with h | h
         ·exact HD.out.new j h
         ·have := HMa.out.size; omega
        ·exact HMa.out.then HM6.out (fun i hi h => by have := HD.out.new i h; omega)
       case measure => simp [intOf]; omega
end
end Go.Proofs.YtkinkgbmlhiakaaGreatDoor
