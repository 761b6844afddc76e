/- merged: TwO TwH Td2 TrY Td3 TrW -/
import Derived.Test.YtgbcibdfeeiilaaGreatDoorMe26
import Derived.Test.YtgbcibdfeeiilaaGreatDoorMe18
import Derived.Test.YtgbcibdfeeiilaaGreatDoorMe14
import Derived.Test.YtgbcibdfeeiilaaGreatDoorMe31
import Derived.Test.YtgbcibdfeeiilaaGreatDoorMe17
import Derived.Test.YtgbcibdfeeiilaaGreatDoorMe16
import Derived.Test.YtgbcibdfeeiilaaGreatDoorMe12
import Derived.Test.YtgbcibdfeeiilaaGreatDoorMe25
namespace Go.Proofs.YtgbcibdfeeiilaaGreatDoor
section
open Go Go.RowKit
def newB (N j d : Nat) (sa : Option Addr) (room : Nat) : TB := ⟨N + 1 + 1, N, N + 1, j, d, sa, room⟩
theorem qPl {w : World} {d j room : Nat} {sa : Option Addr} {D : Dsk} (hD : qAn w d sa D) (hj : JAt w j d room) (hs : ¬ qBe d sa j) (hn : D.secs.length <= 16384) (hr : room <= 500) :
  qAp (TS (newB w.heap.size j d sa room)) (((w.alloc (.map #[] 0)).alloc (.map #[] 0)).alloc (.cells #[.int .i64 0, .int .i64 1, .int .i64 0, .int .i64 0, .pointer (some ⟨j, 0, none⟩), .int .i64 (room : Int), .map (some w.heap.size), .map (some (w.heap.size + 1)), .bool false] 79)) (newB w.heap.size j d sa room) newT D false ∧
  Mod (fun _ => False) w (((w.alloc (.map #[] 0)).alloc (.map #[] 0)).alloc (.cells #[.int .i64 0, .int .i64 1, .int .i64 0, .int .i64 0, .pointer (some ⟨j, 0, none⟩), .int .i64 (room : Int), .map (some w.heap.size), .map (some (w.heap.size + 1)), .bool false] 79)) := by
 have s1 : (w.alloc (.map #[] 0)).heap.size = w.heap.size + 1 := by simp
 have s2 : ((w.alloc (.map #[] 0)).alloc (.map #[] 0)).heap.size = w.heap.size + 1 + 1 := by simp
 have m1 : qBj KI.kv (w.alloc (.map #[] 0)) w.heap.size [] := qBj.made KI.kv w; have m2 : qBj KI.kv ((w.alloc (.map #[] 0)).alloc (.map #[] 0)) (w.heap.size + 1) [] := by have := qBj.made KI.kv (w.alloc (.map #[] 0)); rw [s1] at this; exact this
 have hb := heap_alloc_new ((w.alloc (.map #[] 0)).alloc (.map #[] 0)) (.cells #[.int .i64 0, .int .i64 1, .int .i64 0, .int .i64 0, .pointer (some ⟨j, 0, none⟩), .int .i64 (room : Int), .map (some w.heap.size), .map (some (w.heap.size + 1)), .bool false] 79); rw [s2] at hb; have e2 : Mod (fun _ => False) ((w.alloc (.map #[] 0)).alloc (.map #[] 0)) (((w.alloc (.map #[] 0)).alloc (.map #[] 0)).alloc (.cells #[.int .i64 0, .int .i64 1, .int .i64 0, .int .i64 0, .pointer (some ⟨j, 0, none⟩), .int .i64 (room : Int), .map (some w.heap.size), .map (some (w.heap.size + 1)), .bool false] 79)) := (Mod.refl _ _).alloc _
 have e1 : Mod (fun _ => False) (w.alloc (.map #[] 0)) _ := ((Mod.refl (fun _ => False) (w.alloc (.map #[] 0))).alloc (.map #[] 0)).trans e2
 have e0 : Mod (fun _ => False) w _ := ((Mod.refl (fun _ => False) w).alloc (.map #[] 0)).trans e1
 exact ⟨⟨hb, ⟨[], m1.mod e1 (fun e => e), (fun _ _ => rfl), (fun s n hn => by cases hn)⟩, ⟨[], m2.mod e2 (fun e => e), (fun s => rfl)⟩, hD.mod e0 (fun _ _ e => e), hj.mod e0 (fun e => e), hs, hn, hr⟩, e0⟩
end
section
open Go Go.RowKit
noncomputable def qDx (room : Nat) (D : Dsk) (q : Nat) : ByteArray := (qCt room D (q : Int)).1
noncomputable def qFa (room : Nat) (D : Dsk) : Int × Dsk × Option TM :=
 if (qDb room D).1 ≠ 0 then ((qDb room D).1, (qDb room D).2, none) else
 if (qCt room (qDb room D).2 0).2 ≠ 0 then ((qCt room (qDb room D).2 0).2, (qDb room D).2, none) else
 match qLa (qDx room (qDb room D).2) (jlen room (qDb room D).2) with
 | some T => (0, (qDb room D).2, some T)
 | none => (53, (qDb room D).2, none)
structure qSo (w w' : World) (d room : Nat) (sa : Option Addr) (D : Dsk) (T : TM) (B : TB) : Prop where
 tree : qAp (TS B) w' B T D false
 d : B.d = d
 sa : B.sa = sa
 room : B.room = room
 ne : B.nb ≠ B.ab
 lo : w.heap.size <= B.tb /\ w.heap.size <= B.nb /\ w.heap.size <= B.ab /\ w.heap.size <= B.j
def jGa (w : World) (d room : Nat) (sa : Option Addr) (r : Int × Dsk × Option TM) (e : Ending) (w' : World) : Prop :=
 qAn w' d sa r.2.1 /\ Mod (qBe d sa) w w' /\ match r.2.2 with
 | some T => ∃ B : TB, e = .returned (.tuple #[.pointer (some ⟨B.tb, 0, none⟩), .int .i64 0]) /\ qSo w w' d room sa r.2.1 T B
 | none => e = .returned (.tuple #[.pointer none, .int .i64 r.1]) /\ r.1 ≠ 0
theorem qZi {room : Nat} {D : Dsk} {i : Int} (h : (qCt room D i).2 = 0) : D.off = false := by
 unfold qCt at h; split at h
 ·cases h
 ·rw [qLe] at h; split at h
  ·rename_i h2
   exact absurd h h2
  ·rename_i h2
   have h3 : qBc D ((room : Int) + 1 + i) = 0 := Decidable.not_not.1 h2; unfold qBc at h3; cases hq : D.off with
   | false => rfl
   | true => rw [hq] at h3; cases h3
theorem qPd {room : Nat} {D : Dsk} (h : D.off = false) {i : Int} (h1 : 0 <= i) (h2 : i < jlen room D) : (qCt room D i).2 = 0 := by
 unfold qCt; rw [if_neg (by omega), qLe]
 have h3 : qBc D ((room : Int) + 1 + i) = 0 := by
  unfold qBc; rw [h]; unfold jlen at h2; simp only [Bool.false_eq_true, if_false]; rw [if_neg (by omega)]
 rw [if_neg (by rw [h3]; simp)]
theorem qNv {D : Dsk} {k room : Nat} (h : Bud D k) (i : Int) : (qCt room D i).1.size <= 1024 := by
 unfold qCt; split
 ·exact Nat.zero_le _
 ·exact h.read _
theorem jEj {bs : ByteArray} (hs : bs.size <= 1048576) (h : qAz bs 84 4 = none) (z : World) : Calls Tryz.prog 34 #[.string bs, .string ⟨#[84]⟩, .int .i64 4] z fun e w' => (∃ v, e = .returned (.tuple #[v, .bool false])) /\ Mod (fun _ => False) z w' :=
 (qIu z bs hs 84 4 (by omega)).mono fun e w' hd => by
  obtain ⟨hm, hd⟩ := hd; rw [h] at hd; exact ⟨hd, hm⟩
theorem jEk {bs : ByteArray} (hs : bs.size <= 1048576) {a b c k : Nat} (h : qAz bs 84 4 = some [a, b, c, k]) (z : World) : Calls Tryz.prog 34 #[.string bs, .string ⟨#[84]⟩, .int .i64 4] z fun e w' => ∃ g off cap, e = .returned (.tuple #[.slice (some ⟨g, off, none⟩) 4 cap, .bool true]) ∧
  (w'.cell? ⟨g, off, none⟩ = some (.int .i64 (a : Int)) /\ w'.cell? ⟨g, off + 1, none⟩ = some (.int .i64 (b : Int)) /\ w'.cell? ⟨g, off + 2, none⟩ = some (.int .i64 (c : Int)) /\ w'.cell? ⟨g, off + 3, none⟩ = some (.int .i64 (k : Int))) /\ z.heap.size <= g /\ Mod (fun _ => False) z w' :=
 (qIu z bs hs 84 4 (by omega)).mono fun e w' hd => by
  obtain ⟨hm, hd⟩ := hd; rw [h] at hd; obtain ⟨la, cap, rfl, ho, hb⟩ := hd; rcases ho.2.2.2 with ⟨rfl, h2⟩ | ⟨g, off, cur, rfl, h2, h3, h4⟩
  ·have := ho.2.1; subst h2; simp at this
  ·have h5 := fun (j : Nat) (u : Value) (hj : (nums [a, b, c, k])[j]? = some u) => ho.src.2.2 _ rfl j u hj
   refine ⟨g, off, cap, rfl, ⟨?_, ?_, ?_, ?_⟩, hb g ⟨_, rfl, rfl⟩, hm⟩
   ·simpa [Addr.add] using h5 0 _ rfl
   ·simpa [Addr.add] using h5 1 _ rfl
   ·simpa [Addr.add] using h5 2 _ rfl
   ·simpa [Addr.add] using h5 3 _ rfl
theorem qSo.of_new {w w2 V : World} {d j room : Nat} {sa : Option Addr} {D : Dsk} {T : TM} (h : qAp (TS (newB w2.heap.size j d sa room)) V (newB w2.heap.size j d sa room) T D false) (hs : w.heap.size <= w2.heap.size) (hj : w.heap.size <= j) : qSo w V d room sa D T (newB w2.heap.size j d sa room) :=
 ⟨h, rfl, rfl, rfl, (by show w2.heap.size ≠ w2.heap.size + 1; omega), (by show _ <= w2.heap.size + 1 + 1; omega), hs, (by show _ <= w2.heap.size + 1; omega), hj⟩
set_option maxRecDepth 100000
set_option maxHeartbeats 4000000 in
theorem qQx {w : World} {d k0 room : Nat} {sa : Option Addr} {D : Dsk} (hD : qAn w d sa D) (hb : Bud D k0) (hk0 : k0 <= 2305843009213693952) (h1 : 1 <= room) (hr : room <= 500) :
  Calls Tryz.prog 13 #[.pointer (some ⟨d, 0, none⟩), .int .i64 (room : Int)] w (jGa w d room sa (qFa room D)) := by
 have HO := hid (jEd hD hb hk0 h1 hr); have HLt := hid hD.lt; have HBd := hid (hb.open room); obtain ⟨⟨E, D1⟩, hE⟩ : ∃ R, qDb room D = R := ⟨_, rfl⟩; have HTo : Hid (qFa room D = if E ≠ 0 then (E, D1, none) else if (qCt room D1 0).2 ≠ 0 then ((qCt room D1 0).2, D1, none) else match qLa (qDx room D1) (jlen room D1) with | some T => (0, D1, some T) | none => (53, D1, none)) := hid (by unfold qFa; rw [hE])
 rw [hE] at HO HBd; simp only at HO HBd; clear hD hb hk0 hE; by_cases hE0 : E = 0
 ·subst hE0; rw [if_neg (by simp)] at HTo
  have HBn := hid HBd.out.n; have HRs := hid (fun i => qNv (room := room) HBd.out i)
  have HJr := hid (fun (w1 : World) (j : Nat) (hd : qAn w1 d sa D1) (hj : JAt w1 j d room) (hs : ¬ qBe d sa j) => qGv hd hj hs HBn.out hr 0)
  obtain ⟨bs, hbs⟩ : ∃ b, (qCt room D1 0).1 = b := ⟨_, rfl⟩; obtain ⟨er, her⟩ : ∃ e, (qCt room D1 0).2 = e := ⟨_, rfl⟩; have hsz := HRs.out 0; rw [hbs] at hsz HJr; rw [her] at HJr HTo; have HBs := hid hbs; have HEr := hid her; clear hbs her HBd; by_cases he : er = 0
  ·have de : (er == 0) = true := by rw [beq_iff_eq]; exact he
   have de2 : (er != 0) = false := by rw [bne, de]; rfl
   rw [if_neg (by simpa using he)] at HTo
   have HOff := hid (qZi (HEr.out.trans he)); have hc0 : qDx room D1 0 = bs := HBs.out; have HTr := hid (fun v => qIr bs v (by unfold maxLen; omega))
   have HNil := hid (qGm bs); have hmm := @run_makeMap Tryz.prog; generalize qKx bs = tb at *; clear he; by_cases hz : AllZ bs.data.toList
   ·have ez : tb.toList.isEmpty = true := by rw [ByteArray.toList_eq, HNil.out.2 hz]; rfl
    have HTo2 : Hid (qFa room D = (0, D1, some newT)) := hid (by rw [HTo.out]; unfold qLa; rw [hc0, if_pos hz])
    clear hz hc0; go_enter Tryz.func13, Tryz.ntmps13
    go_wp2_with (first | (go_at_call 22; refine HO.out.mono ?_; rintro e w1 ⟨hd1, hm1, hc⟩; obtain ⟨j, rfl, hj, hjn⟩ := (hc.resolve_right (fun h => h.1 rfl)).2; have HD1 := hid hd1; have HM1 := hid hm1; have HJ1 := hid hj; have HJn := hid hjn; have HSep : Hid (¬ qBe d sa j) := hid (fun e => by have h2 := HLt.out j e; have h3 := HJn.out; omega); clear hd1 hm1 hc hj hjn) | (go_at_call 32; refine (HJr.out _ _ HD1.out HJ1.out HSep.out).mono ?_; rintro e w2 ⟨rfl, hd2, hm2⟩; have HNt := hid (qPl hd2 (HJ1.out.mod hm2 HSep.out) HSep.out HBn.out hr); have HM2 := hid (HM1.out.trans hm2); have HD2 := hid hd2; have HJ2 := hid (HJ1.out.mod hm2 HSep.out); clear hd2 hm2) | (go_at_call 33; refine (HTr.out _).mono ?_; rintro e wt ⟨rfl, nq, rfl⟩))
    go_ret2; rw [HTo2.out]; have hmt : Mod (fun _ => False) w2 _ := HNt.out.2.trans ((Mod.refl (fun _ => False) _).drewN nq)
    refine ⟨HD2.out.mod hmt (fun _ _ e => e), HM2.out.trans (hmt.mono (fun _ _ e => e.elim)), _, rfl, qSo.of_new (HNt.out.1.mod (S' := fun _ => False) ((Mod.refl _ _).drewN nq) (fun _ e => e.elim) (fun _ e => e.elim)) HM2.out.size HJn.out⟩
   ·have ez : tb.toList.isEmpty = false := by
     rw [ByteArray.toList_eq]; cases hl : tb.data.toList with
     | nil => exact absurd (HNil.out.1 hl) hz
     | cons b r => rfl
    have hOp : qLa (qDx room D1) (jlen room D1) = match qAz bs 84 4 with | some [a, b, c, k] => if 1 <= b /\ b <= jlen room D1 then qIc (rdOf (qDx room D1)) a b c k else none | _ => none := by
     unfold qLa; rw [hc0, if_neg hz]; rfl
    rw [hOp] at HTo; clear hz hc0 hOp; cases hnum : qAz bs 84 4 with
    | none =>
     have HNu := hid (jEj (by omega) hnum)
     have HTo2 : Hid (qFa room D = (53, D1, none)) := hid (by rw [HTo.out, hnum])
     clear hnum; go_enter Tryz.func13, Tryz.ntmps13
     go_upto_region 11 with (first | (go_at_call 22; refine HO.out.mono ?_; rintro e w1 ⟨hd1, hm1, hc⟩; obtain ⟨j, rfl, hj, hjn⟩ := (hc.resolve_right (fun h => h.1 rfl)).2; have HD1 := hid hd1; have HM1 := hid hm1; have HJ1 := hid hj; have HJn := hid hjn; have HSep : Hid (¬ qBe d sa j) := hid (fun e => by have h2 := HLt.out j e; have h3 := HJn.out; omega); clear hd1 hm1 hc hj hjn) | (go_at_call 32; refine (HJr.out _ _ HD1.out HJ1.out HSep.out).mono ?_; rintro e w2 ⟨rfl, hd2, hm2⟩; have HNt := hid (qPl hd2 (HJ1.out.mod hm2 HSep.out) HSep.out HBn.out hr); have HM2 := hid (HM1.out.trans hm2); have HD2 := hid hd2; have HJ2 := hid (HJ1.out.mod hm2 HSep.out); clear hd2 hm2) | (go_at_call 33; refine (HTr.out _).mono ?_; rintro e wt ⟨rfl, nq, rfl⟩) | (go_at_call 34; refine (HNu.out _).mono ?_; rintro e w3 ⟨⟨v, rfl⟩, hm3⟩; have HM3 := hid ((HNt.out.2.trans ((Mod.refl (fun _ => False) _).drewN nq)).trans hm3); clear hm3))
     refine qAc (by kernel_rfl) (by kernel_rfl) ?_
     repeat (go_big_quiet_step (fail))
     refine wpQuiet_nil ?_; rintro _ ⟨y, rfl⟩; have HMy := hid (HM3.out.trans y.mod); go_wp2_with fail
     go_ret2; rw [HTo2.out]; exact ⟨HD2.out.mod HMy.out (fun _ _ e => e), HM2.out.trans (HMy.out.mono (fun _ _ e => e.elim)), rfl, show (53 : Int) ≠ 0 by decide⟩
    | some ly =>
     obtain ⟨a, b, c, k, rfl⟩ : ∃ a b c k, ly = [a, b, c, k] := by
      have h3 := (qFc hnum).1
      match ly, h3 with
      | [a, b, c, k], _ => exact ⟨a, b, c, k, rfl⟩
     have HLm := hid (qFc hnum).2; have HNu := hid (jEk (by omega) hnum)
     have hTo3 := HTo.out; rw [hnum] at hTo3; simp only at hTo3; have HTo3 := hid hTo3; clear hnum hTo3; go_enter Tryz.func13, Tryz.ntmps13
     go_upto_region 11 with (first | (go_at_call 22; refine HO.out.mono ?_; rintro e w1 ⟨hd1, hm1, hc⟩; obtain ⟨j, rfl, hj, hjn⟩ := (hc.resolve_right (fun h => h.1 rfl)).2; have HD1 := hid hd1; have HM1 := hid hm1; have HJ1 := hid hj; have HJn := hid hjn; have HSep : Hid (¬ qBe d sa j) := hid (fun e => by have h2 := HLt.out j e; have h3 := HJn.out; omega); clear hd1 hm1 hc hj hjn) | (go_at_call 32; refine (HJr.out _ _ HD1.out HJ1.out HSep.out).mono ?_; rintro e w2 ⟨rfl, hd2, hm2⟩; have HNt := hid (qPl hd2 (HJ1.out.mod hm2 HSep.out) HSep.out HBn.out hr); have HM2 := hid (HM1.out.trans hm2); have HD2 := hid hd2; have HJ2 := hid (HJ1.out.mod hm2 HSep.out); clear hd2 hm2) | (go_at_call 33; refine (HTr.out _).mono ?_; rintro e wt ⟨rfl, nq, rfl⟩) | (go_at_call 34; refine (HNu.out _).mono ?_; rintro e w3 ⟨g, off, cap, rfl, hcs, hgy, hm3⟩; have HCs := hid hcs; have HM3 := hid ((HNt.out.2.trans ((Mod.refl (fun _ => False) _).drewN nq)).trans hm3); have HT3 := hid ((HNt.out.1.mod (S' := fun _ => False) ((Mod.refl _ _).drewN nq) (fun _ e => e.elim) (fun _ e => e.elim)).mod hm3 (fun _ e => e.elim) (fun _ e => e.elim)); have HGy := hid hgy; clear hcs hgy hm3))
     have HJl := hid (fun y : Ext w3 => qJf (HD2.out.mod (HM3.out.trans y.mod) (fun _ _ e => e)) (HJ2.out.mod (HM3.out.trans y.mod) (fun e => e)) HBn.out hr)
     obtain ⟨zb, hzb⟩ : ∃ z : Int, (b : Int) = z := ⟨_, rfl⟩; obtain ⟨zl, hzl⟩ : ∃ z : Int, (jlen room D1 : Int) = z := ⟨_, rfl⟩; rw [hzl] at HJl; have hcb := HCs.out.2.1; rw [hzb] at hcb; have gb := fun y : Ext w3 => y.cell hcb
     have HZb := hid hzb; have HZl := hid hzl; clear hcb; by_cases hb1 : zb < 1
     ·have d1 : decide (zb < 1) = true := by simpa using hb1
      have HTo2 : Hid (qFa room D = (53, D1, none)) := hid (by rw [HTo3.out, if_neg (by omega)])
      clear hb1 hzb hzl; refine qAc (by kernel_rfl) (by kernel_rfl) ?_
      repeat (go_big_quiet_step (fail))
      refine wpQuiet_nil ?_; rintro _ ⟨y, rfl⟩; clear gb; have HMy := hid (HM3.out.trans y.mod); go_wp2_with fail
      go_ret2; rw [HTo2.out]; exact ⟨HD2.out.mod HMy.out (fun _ _ e => e), HM2.out.trans (HMy.out.mono (fun _ _ e => e.elim)), rfl, show (53 : Int) ≠ 0 by decide⟩
     ·have d1 : decide (zb < 1) = false := by simpa using hb1
      by_cases hbl : zl < zb
      ·have d2 : decide (zl < zb) = true := by simpa using hbl
       have HTo2 : Hid (qFa room D = (53, D1, none)) := hid (by rw [HTo3.out, if_neg (by omega)])
       clear hb1 hbl hzb hzl; refine qAc (by kernel_rfl) (by kernel_rfl) ?_
       repeat (go_big_quiet_step (with_reducible exact qBx (HJl.out _)))
       refine wpQuiet_nil ?_; rintro _ ⟨y, rfl⟩; clear gb; have HMy := hid (HM3.out.trans y.mod); go_wp2_with fail
       go_ret2; rw [HTo2.out]; exact ⟨HD2.out.mod HMy.out (fun _ _ e => e), HM2.out.trans (HMy.out.mono (fun _ _ e => e.elim)), rfl, show (53 : Int) ≠ 0 by decide⟩
      ·have d2 : decide (zl < zb) = false := by simpa using hbl
       have HTo2 : Hid (qFa room D = match qIc (rdOf (qDx room D1)) a b c k with | some T => (0, D1, some T) | none => (53, D1, none)) := hid (by rw [HTo3.out, if_pos (by omega)])
       have HBl : Hid (1 <= (b : Int) /\ (b : Int) <= (jlen room D1 : Int)) := hid (by omega)
       clear hb1 hbl hzb hzl; refine qAc (by kernel_rfl) (by kernel_rfl) ?_
       repeat (go_big_quiet_step (with_reducible exact qBx (HJl.out _)))
       refine wpQuiet_nil ?_; rintro _ ⟨y, rfl⟩; clear gb; have HMy := hid (HM3.out.trans y.mod); have HTy := hid (HT3.out.mod y.mod (fun _ e => e.elim) (fun _ e => e.elim))
       have hc1 := HCs.out; have HC1 : Hid (y.val.cell? ⟨g, off, none⟩ = some (.int .i64 (a : Int)) /\ y.val.cell? ⟨g, off + 1, none⟩ = some (.int .i64 (b : Int)) /\ y.val.cell? ⟨g, off + 2, none⟩ = some (.int .i64 (c : Int)) /\ y.val.cell? ⟨g, off + 3, none⟩ = some (.int .i64 (k : Int))) := hid ⟨y.cell hc1.1, y.cell hc1.2.1, y.cell hc1.2.2.1, y.cell hc1.2.2.2⟩; clear hc1; generalize y.val = Y at *; go_upto_region 13 with fail
       obtain ⟨u0, u1, u2, u3⟩ := HC1.out; have g0 := fun x : Ext Y => x.cell u0
       have g1 := fun x : Ext Y => x.cell u1
       have g2 := fun x : Ext Y => x.cell u2
       have g3 := fun x : Ext Y => x.cell u3
       clear u0 u1 u2 u3; refine qAm 16 (by kernel_rfl) (by kernel_rfl) ?_
       simp only [List.take_succ_cons, List.take_zero, List.drop_succ_cons, List.drop_zero]; repeat (go_big_quiet_step (fail))
       refine wpQuiet_nil ?_; rintro _ ⟨z, rfl⟩; have HTz := hid (HTy.out.mod z.mod (fun _ e => e.elim) (fun _ e => e.elim))
       have HMz := hid (HMy.out.trans z.mod); clear g0 g1 g2 g3; generalize z.val = Z at *; obtain ⟨hst, hms⟩ := qNq HTz.out (fun _ e => e) (a : Int) (b : Int) (c : Int) (k : Int)
       have HSt := hid hst; have HMs := hid hms; obtain ⟨x0, x1, x2, x3, _⟩ := HTz.out.cells; have x0' : Z.cell? ⟨w2.heap.size + 1 + 1, 0, none⟩ = some (.int .i64 0) := x0; have f0 : Z.frozen? ⟨w2.heap.size + 1 + 1, 0, none⟩ = false := frozen_of_row _ _ 0 _ _ HTz.out.box; have x1' : Z.cell? ⟨w2.heap.size + 1 + 1, 1, none⟩ = some (.int .i64 1) := x1; have f1 : Z.frozen? ⟨w2.heap.size + 1 + 1, 1, none⟩ = false := frozen_of_row _ _ 1 _ _ HTz.out.box; have x2' : Z.cell? ⟨w2.heap.size + 1 + 1, 2, none⟩ = some (.int .i64 0) := x2; have f2 : Z.frozen? ⟨w2.heap.size + 1 + 1, 2, none⟩ = false := frozen_of_row _ _ 2 _ _ HTz.out.box; have x3' : Z.cell? ⟨w2.heap.size + 1 + 1, 3, none⟩ = some (.int .i64 0) := x3
       have f3 : Z.frozen? ⟨w2.heap.size + 1 + 1, 3, none⟩ = false := frozen_of_row _ _ 3 _ _ HTz.out.box; clear x0 x1 x2 x3; clear hst hms; obtain ⟨V, hV⟩ : ∃ V, (((Z.setCell ⟨(newB w2.heap.size j d sa room).tb, 0, none⟩ (.int .i64 (a : Int))).setCell ⟨(newB w2.heap.size j d sa room).tb, 1, none⟩ (.int .i64 (b : Int))).setCell ⟨(newB w2.heap.size j d sa room).tb, 2, none⟩ (.int .i64 (c : Int))).setCell ⟨(newB w2.heap.size j d sa room).tb, 3, none⟩ (.int .i64 (k : Int)) = V := ⟨_, rfl⟩
       have hV' : (((Z.setCell ⟨w2.heap.size + 1 + 1, 0, none⟩ (.int .i64 (a : Int))).setCell ⟨w2.heap.size + 1 + 1, 1, none⟩ (.int .i64 (b : Int))).setCell ⟨w2.heap.size + 1 + 1, 2, none⟩ (.int .i64 (c : Int))).setCell ⟨w2.heap.size + 1 + 1, 3, none⟩ (.int .i64 (k : Int)) = V := hV; rw [hV] at HSt HMs; have HLd := hid (qYq (w := V) (B := newB w2.heap.size j d sa room) (root := (a : Int)) (next := (b : Int)) (free := (c : Int)) (count := (k : Int)) (D := D1) (rd := rdOf (qDx room D1)) HSt.out (by show w2.heap.size ≠ w2.heap.size + 1; omega) (fun s q1 q2 => by
        have q3 : qCt room D1 s = ((qCt room D1 s).1, (qCt room D1 s).2) := rfl; show qCt room D1 s = _; rw [q3, qPd HOff.out (by omega) (by have := HBl.out; omega)]
        unfold rdOf qDx; rw [Int.toNat_of_nonneg (by omega)]) HRs.out HBl.out.1 (by have q1 := HBl.out.2; have q2 := HBn.out; unfold jlen at q1; omega) (by have := HLm.out c (by simp); omega))
       have HFin := hid (fun (w9 : World) (hm9 : Mod (TS (newB w2.heap.size j d sa room)) V w9) => (HM2.out.then (T := TS (newB w2.heap.size j d sa room)) (((HMz.out.mono (fun _ _ e => e.elim)).trans (HMs.out.mono (fun _ _ e => .inl e))).trans hm9) (fun i hi e => by
        have q1 := HM2.out.size; have q2 := HJn.out; rcases e with e | e | e | e | e
        ·have e : i = w2.heap.size + 1 + 1 := e; omega
        ·have e : i = w2.heap.size := e; omega
        ·have e : i = w2.heap.size + 1 := e; omega
        ·have e : i = j := e; omega
        ·exact e) : Mod (qBe d sa) w w9))
       have HSz := hid HM2.out.size; clear hV; cases hld : qIc (rdOf (qDx room D1)) a b c k with
       | none =>
        rw [hld] at HLd HTo2; simp only at HTo2; clear hld; go_wp2_with (first
         | (go_at_call 36; refine HLd.out.mono ?_; rintro e w9 ⟨hm9, rfl, T9, ht9⟩; have HD9 : Hid (qAn w9 d sa D1) := hid ht9.disk; have HM9 := hid (HFin.out w9 hm9); clear hm9 ht9))
        go_ret2; rw [HTo2.out]; exact ⟨HD9.out, HM9.out, rfl, show (53 : Int) ≠ 0 by decide⟩
       | some T9 =>
        rw [hld] at HLd HTo2; simp only at HTo2; clear hld; go_wp2_with (first
         | (go_at_call 36; refine HLd.out.mono ?_; rintro e w9 ⟨hm9, rfl, ht9⟩; have HT9 := hid ht9; have HM9 := hid (HFin.out w9 hm9); clear hm9 ht9))
        go_ret2; rw [HTo2.out]; exact ⟨HT9.out.disk, HM9.out, _, rfl, qSo.of_new HT9.out HSz.out HJn.out⟩
  ·rw [if_pos he] at HTo; have de : (er == 0) = false := by rw [beq_eq_false_iff_ne]; exact he
   have de2 : (er != 0) = true := by rw [bne, de]; rfl
   have HE := hid he; clear he; go_enter Tryz.func13, Tryz.ntmps13
   go_wp2_with (first
    | (go_at_call 22; refine HO.out.mono ?_; rintro e w1 ⟨hd1, hm1, hc⟩; obtain ⟨j, rfl, hj, hjn⟩ := (hc.resolve_right (fun h => h.1 rfl)).2; have HD1 := hid hd1; have HM1 := hid hm1; have HJ1 := hid hj; have HJn := hid hjn; have HSep : Hid (¬ qBe d sa j) := hid (fun e => by have h2 := HLt.out j e; have h3 := HJn.out; omega); clear hd1 hm1 hc hj hjn)
    | (go_at_call 32; refine (HJr.out _ _ HD1.out HJ1.out HSep.out).mono ?_; rintro e w2 ⟨rfl, hd2, hm2⟩; have HD2 := hid hd2; have HM2 := hid (HM1.out.trans hm2); clear hd2 hm2))
   go_ret2; rw [HTo.out]; exact ⟨HD2.out, HM2.out, rfl, HE.out⟩
 ·have de : (E == 0) = false := by rw [beq_eq_false_iff_ne]; exact hE0
  have de2 : (E != 0) = true := by rw [bne, de]; rfl
  rw [if_pos hE0] at HTo; have HE := hid hE0; clear hE0; go_enter Tryz.func13, Tryz.ntmps13
  go_wp2_with (go_at_call 22; refine HO.out.mono ?_; rintro e w1 ⟨hd1, hm1, hc⟩; have hc := (hc.resolve_left (fun h => HE.out h.1)).2; subst hc; have HD1 := hid hd1; have HM1 := hid hm1; clear hd1 hm1)
  go_ret2; rw [HTo.out]; exact ⟨HD1.out, HM1.out, rfl, HE.out⟩
end
section
open Go Go.RowKit
def qBs (l : List KV) : Nat := (l.map (fun p => p.1.size + p.2.size + 4)).sum
end
section
open Go Go.RowKit
theorem qZa {look : Int -> Option NP} {m : Nat} : ∀ (g : Nat) (s : Int) (u : Tr g), Sd look m g s u -> ∀ x ∈ secs g s u, ∀ n, look x = some n -> qAu n.1 n.2
 | 0, s, u, hu, x, hx, n, hn => by
  have hx : x ∈ [s] := hx; rw [List.mem_singleton] at hx; subst hx; rw [hu.1] at hn; cases hn
  exact hu.2
 | g + 1, s, u, hu, x, hx, n, hn => by
  have hx : x ∈ s :: qAi u := hx; rcases List.mem_cons.1 hx with hx | hx
  ·subst hx; rw [hu.1.1] at hn; cases hn
   exact hu.1.2
  ·unfold qAi at hx; obtain ⟨y, hy, hx⟩ := List.mem_flatMap.1 hx; exact qZa g y.spot y.sub (hu.2 y hy).1 x hx n hn
theorem qQj {T : TM} {W : WM} {U F : List Int} (hA : Acc T W U [] F) : (0 <= W.free /\ W.free < W.next) /\ (∀ x, qNg W x -> 1 <= x /\ x < W.next) /\ (∀ x y, W.after x = some y -> 0 <= y /\ y < W.next) /\ (∀ x n, W.nodes x = some n -> x ∈ U) := by
 have hp := hA.pos; have hin : ∀ x, (W.nodes x ≠ none \/ W.after x ≠ none) -> 1 <= x /\ x < W.next := fun x hx => by
  by_cases hc : 1 <= x /\ x < W.next
  ·exact hc
  ·have := hA.out x hc; exact hx.elim (fun h => absurd this.1 h) (fun h => absurd this.2.1 h)
 refine ⟨?_, hin, fun x y hy => ?_, fun x n hx => ?_⟩
 ·rcases qFu hA.chain with ⟨h, _⟩ | ⟨h, _⟩
  ·omega
  ·have := hA.spot (.inr (.inl h)); omega
 ·have h1 := hin x (.inr (by rw [hy]; exact fun e => by cases e))
  have hxf : x ∈ F := by
   by_cases hf : x ∈ F
   ·exact hf
   ·exfalso
    have hc := hA.cnt x; rw [List.count_eq_zero.2 hf, if_pos h1] at hc; have hu : x ∈ U := List.count_pos_iff.1 (by simp at hc; omega)
    have := (hA.used x (.inl hu)).1; rw [hy] at this; cases this
  have hlink : W.link T x = some y := by unfold WM.link; rw [hy]
  have haux : ∀ (G : List Int) (f : Int), qKn (W.link T) f G -> x ∈ G -> y = 0 \/ y ∈ G := by
   intro G; induction G with
   | nil => intro f _ hx; cases hx
   | cons z G ih =>
    intro f hc hx; obtain ⟨rfl, _, w, q1, q2⟩ := hc; rcases List.mem_cons.1 hx with rfl | hx
    ·rw [hlink] at q1; cases q1
     rcases qFu q2 with ⟨h, _⟩ | ⟨h, _⟩
     ·exact .inl h
     ·exact .inr (List.mem_cons_of_mem _ h)
    ·exact (ih w q2 hx).imp id (List.mem_cons_of_mem _)
  rcases haux F W.free hA.chain hxf with h | h
  ·omega
  ·have := hA.spot (.inr (.inl h)); omega
 ·have h1 := hin x (.inl (by rw [hx]; exact fun e => by cases e))
  by_cases hu : x ∈ U
  ·exact hu
  ·exfalso
   by_cases hf : x ∈ F
   ·have := (hA.free x hf).1; rw [hx] at this; cases this
   ·have hc := hA.cnt x; rw [List.count_eq_zero.2 hu, List.count_eq_zero.2 hf, if_pos h1] at hc; simp at hc
theorem WI.rng {T : TM} {m : Nat} {W : WM} {l : List KV} {H N : Nat} (h : WI T m W l H N) : (0 <= W.root /\ W.root < W.next) /\ 1 <= W.next /\ (0 <= W.free /\ W.free < W.next) /\ (0 <= W.count /\ W.count <= 511 * W.next) /\ (∀ x, qNg W x -> 1 <= x /\ x < W.next) /\ (∀ x y, W.after x = some y -> 0 <= y /\ y < W.next) /\ (∀ x n, W.nodes x = some n -> qAu n.1 n.2) := by
 obtain ⟨_, h2, h3⟩ := h; rcases h3 with ⟨h4, rfl, _, F, hA⟩ | ⟨ht, t, F, hR, hN⟩
 ·obtain ⟨a1, a2, a3, a4⟩ := qQj hA; have hp := hA.pos; have e : ([] : List KV).length = 0 := rfl; rw [e] at h2; exact ⟨by omega, hp, a1, by omega, a2, a3, fun x n hx => absurd (a4 x n hx) (by simp)⟩
 ·have hA := hR.acc; obtain ⟨a1, a2, a3, a4⟩ := qQj hA; have hp := hA.pos; have hr : 1 <= W.root /\ W.root < W.next := hA.spot (.inl (by rw [qCx]; exact List.mem_cons_self))
  have hl := hA.len; have hf := qPy hR.sd; rw [hR.fl] at hf; simp only [List.length_nil] at hl; exact ⟨by omega, hp, a1, by omega, a2, a3, fun x n hx => qZa ht W.root t hR.sd x (a4 x n hx) n (by unfold WM.look; rw [hx])⟩
theorem qXf (l : List KV) (hl : ∀ p ∈ l, p.1.size <= 48 /\ p.2.size <= 200) (hn : l.length <= 511) : (qAg true (eOf 0 l)).length <= qBs l + 3 := by
 have hlen : (eOf 0 l).length = l.length := List.length_map ..; have aux : ∀ r : List KV, (∀ p ∈ r, p.1.size <= 48 /\ p.2.size <= 200) -> wt true (eOf 0 r) <= qBs r := by
  intro r; induction r with
  | nil => intro _; exact Nat.zero_le _
  | cons p r ih =>
   intro hr; have h1 := ih (fun q hq => hr q (List.mem_cons_of_mem _ hq))
   have h2 := hr p List.mem_cons_self; have e1 : wt true (eOf 0 (p :: r)) = (entL true ⟨p.1, p.2, 0⟩).length + wt true (eOf 0 r) := by unfold wt; show (List.flatMap _ (_ :: _)).length = _; rw [List.flatMap_cons, List.length_append]; rfl
   have e2 : qBs (p :: r) = p.1.size + p.2.size + 4 + qBs r := by unfold qBs; rw [List.map_cons, List.sum_cons]
   have e3 : (entL true ⟨p.1, p.2, 0⟩).length = (qCv p.1).length + (qCv p.2).length := by unfold entL; simp
   have t1 : (qCv p.1).length <= p.1.size + 2 := by
    unfold qCv; rw [List.length_append]; have h3 := qGl (k := p.1.size) (by omega)
    have : p.1.data.toList.length = p.1.size := rfl; omega
   have t2 : (qCv p.2).length <= p.2.size + 2 := by
    unfold qCv; rw [List.length_append]; have h3 := qGl (k := p.2.size) (by omega)
    have : p.2.data.toList.length = p.2.size := rfl; omega
   omega
 rw [qHp, hlen]; have h1 := aux l hl; have h2 := qGl (k := l.length) (by omega)
 omega
theorem qEn (a b : List KV) : qBs (a ++ b) = qBs a + qBs b := by unfold qBs; rw [List.map_append, List.sum_append]
theorem qNu {look : Int -> Option NP} : ∀ {h : Nat} {s : Int} {t : Tr h}, Sd look 250 h s t -> 250 <= wtN h t -> (∀ p ∈ flat h t, p.1.size <= 48 /\ p.2.size <= 200) -> 190 * (secs h s t).length + 50 <= qBs (flat h t)
 | 0, s, l, hS, hw, hp => by
  have h1 : (qAg true (eOf 0 l)).length <= qBs l + 3 := qXf l hp (by
   have h2 := hS.2.len; have h3 : (eOf 0 l).length = List.length (α := KV) l := List.length_map ..; omega)
  have hw : 250 <= (qAg true (eOf 0 l)).length := hw; show 190 * 1 + 50 <= qBs l; omega
 | h + 1, s, l, hS, hw, hp => by
  have hl : 5 <= (eOf (h + 1) l).length := qAu.many hS.1.2 hw; have hl2 : 5 <= List.length (α := TE (Tr h)) l := by
   have e : (eOf (h + 1) l).length = List.length (α := TE (Tr h)) l := List.length_map ..; omega
  have aux : ∀ r : List (TE (Tr h)), (∀ e ∈ r, Sd look 250 h e.spot e.sub /\ 250 <= wtN h e.sub) -> (∀ p ∈ qAf r, p.1.size <= 48 /\ p.2.size <= 200) -> 190 * (qAi r).length + 50 * r.length <= qBs (qAf r) := by
   intro r; induction r with
   | nil => intro _ _; simp [qCl]
   | cons e r ih =>
    intro hr hq; have e1 : qAf (e :: r) = flat h e.sub ++ qAf r := by unfold qAf; rw [List.flatMap_cons]
    rw [e1] at hq ⊢; rw [qBi, List.length_append, List.length_cons, qEn]; have h1 := qNu (hr e List.mem_cons_self).1 (hr e List.mem_cons_self).2 (fun p hp => hq p (List.mem_append_left _ hp))
    have h2 := ih (fun x hx => hr x (List.mem_cons_of_mem _ hx)) (fun p hp => hq p (List.mem_append_right _ hp))
    omega
  have h1 := aux l (fun e he => ⟨(hS.2 e he).1, (hS.2 e he).2.2⟩) hp
  show 190 * (s :: qAi l).length + 50 <= qBs (qAf l); rw [List.length_cons]; omega
theorem qRa {look : Int -> Option NP} : ∀ {h : Nat} {s : Int} {t : Tr h}, Sd look 250 h s t -> (∀ p ∈ flat h t, p.1.size <= 48 /\ p.2.size <= 200) -> 190 * (secs h s t).length <= qBs (flat h t) + 190
 | 0, s, l, _, _ => by
  show 190 * 1 <= _; omega
 | h + 1, s, l, hS, hp => by
  have aux : ∀ r : List (TE (Tr h)), (∀ e ∈ r, Sd look 250 h e.spot e.sub /\ 250 <= wtN h e.sub) -> (∀ p ∈ qAf r, p.1.size <= 48 /\ p.2.size <= 200) -> 190 * (qAi r).length <= qBs (qAf r) := by
   intro r; induction r with
   | nil => intro _ _; simp [qCl]
   | cons e r ih =>
    intro hr hq; have e1 : qAf (e :: r) = flat h e.sub ++ qAf r := by unfold qAf; rw [List.flatMap_cons]
    rw [e1] at hq ⊢; rw [qBi, List.length_append, qEn]; have h1 := qNu (hr e List.mem_cons_self).1 (hr e List.mem_cons_self).2 (fun p hp => hq p (List.mem_append_left _ hp))
    have h2 := ih (fun x hx => hr x (List.mem_cons_of_mem _ hx)) (fun p hp => hq p (List.mem_append_right _ hp))
    omega
  have h1 := aux l (fun e he => ⟨(hS.2 e he).1, (hS.2 e he).2.2⟩) hp
  show 190 * (s :: qAi l).length <= qBs (qAf l) + 190; rw [List.length_cons]; omega
theorem qYz {look : Int -> Option NP} {m : Nat} : ∀ (g : Nat) (s : Int) (u : Tr g), Sd look m g s u -> ∀ x ∈ secs g s u, (look x).isSome = true
 | 0, s, u, hu, x, hx => by
  have hx : x ∈ [s] := hx; rw [List.mem_singleton] at hx; rw [hx, hu.1]; rfl
 | g + 1, s, u, hu, x, hx => by
  have hx : x ∈ s :: qAi u := hx; rcases List.mem_cons.1 hx with hx | hx
  ·rw [hx, hu.1.1]; rfl
  ·unfold qAi at hx; obtain ⟨y, hy, hx⟩ := List.mem_flatMap.1 hx; exact qYz g y.spot y.sub (hu.2 y hy).1 x hx
theorem TI.secs {T : TM} {l : List KV} {H N : Nat} (h : TI T 250 l H N) : (190 * N <= qBs l + 190) /\ (l ≠ [] -> 1 <= N) /\ ∃ U : List Int, U.Nodup /\ U.length = N /\ ∀ x, x ∈ U ↔ (T.nodes x).isSome = true := by
 obtain ⟨hf, _, h3⟩ := h; have key : ∀ (U F : List Int), Acc T T.begin U [] F -> (∀ x ∈ U, (T.nodes x).isSome = true) -> U.Nodup /\ ∀ x, x ∈ U ↔ (T.nodes x).isSome = true := fun U F hA hU => by
  refine ⟨qEc (fun x => by have := hA.cnt x; split at this <;> omega), fun x => ⟨hU x, fun hx => ?_⟩⟩
  by_cases hc : 1 <= x /\ x < T.begin.next
  ·have h1 := hA.cnt x; rw [if_pos hc] at h1; by_cases hu : x ∈ U
   ·exact hu
   ·exfalso
    rw [List.count_eq_zero.2 hu] at h1; have hxF : x ∈ F := List.count_pos_iff.1 (by simp at h1; omega)
    have h2 := ((hA.free x hxF).2 rfl).2; rw [h2] at hx; cases hx
  ·have h2 := (hA.out x hc).2.2.2.1; rw [h2] at hx; cases hx
 rcases h3 with ⟨_, rfl, rfl, F, hA⟩ | ⟨ht, t, F, hR, rfl⟩
 ·obtain ⟨k1, k2⟩ := key [] F hA (fun x hx => by cases hx)
  exact ⟨by omega, (fun h => absurd rfl h), [], k1, rfl, k2⟩
 ·obtain ⟨k1, k2⟩ := key _ F hR.acc (fun x hx => qYz ht _ t hR.sd x hx)
  have h1 := qRa hR.sd (by rw [hR.fl]; exact fun p hp => ⟨(hf.ok p hp).1.2, (hf.ok p hp).2⟩)
  rw [hR.fl] at h1; refine ⟨h1, fun _ => ?_, _, k1, rfl, k2⟩
  rw [qCx]; simp
structure Std (room : Nat) (D : Dsk) (T : TM) (l : List KV) (N : Nat) : Prop where
 clear : jIr D
 dt : DT (jlen room D) (qDx room D) T
 ti : TI T 250 l 26 N
 next : T.next <= (jlen room D : Int)
 r1 : 1 <= room
 r2 : room <= 500
theorem qLx {room : Nat} {D : Dsk} (h : D.off = false) (q : Nat) : qDx room D q = if q < jlen room D then sec D (room + 1 + q) else ⟨#[]⟩ := by
 unfold qDx qCt; by_cases hq : q < jlen room D
 ·rw [if_pos hq, if_neg (by omega)]
  have hd : room + 1 + q < D.secs.length := by unfold jlen at hq; omega
  have := jHc h (room + 1 + q) hd; rw [show ((room : Int) + 1 + (q : Int)) = ((room + 1 + q : Nat) : Int) by omega, this]
 ·rw [if_neg hq, if_pos (by omega)]
theorem qNs {D : Dsk} {k room : Nat} {T : TM} {l l' : List KV} {N N' : Nat} {W' : WM} {ls : List Chg} {ln : List (Int × NP)} {la : List (Int × Int)} (hL : Lit D k) (hs : Std room D T l N) (hW : WI T 250 W' l' 26 N') (hn : W'.next <= (jlen room D : Int)) (hlaid : Laid W' ls ln la) (hroom : ls.length <= room) :
  (qAj room ls D).1 = 0 /\ Lit (qAj room ls D).2 (k + 2 * ls.length + 2) /\ Std room (qAj room ls D).2 (W'.done T) l' N' := by
 have hj : jlen room D <= 16384 := by have := hL.b.n; unfold jlen; omega
 obtain ⟨r1, r2, r3, r4, r5, r6, r7⟩ := hW.rng; have hf := hW.fits hn hj r7; have hlo : qHy W' ls := by
  obtain ⟨_, _, h3⟩ := hW; rcases h3 with ⟨_, _, _, F, hA⟩ | ⟨ht, t, F, hR, _⟩
  ·exact qEv hA hlaid
  ·exact qEv hR.acc hlaid
 have hck := qOb hf hlo; have hne : ls ≠ [] := fun e => by
  have h1 := qVn hlaid; rw [e] at h1; simp at h1
 obtain ⟨c1, c2⟩ := qSe hL hs.r2 ls hroom hne hck; have hjl : jlen room (qAj room ls D).2 = jlen room D := by unfold jlen; rw [c2.len]
 have hnd := qGp hf hlo; have hin : ∀ c ∈ ls, c.pos.toNat < jlen room D := fun c hc => (qHn ls [] hck).1 c hc |>.2.1
 have hsec : qDx room (qAj room ls D).2 = upc (qDx room D) ls := funext fun q => by
  rw [qLx c2.lit.off, hjl]; by_cases hq : q ∈ places ls
  ·obtain ⟨c, hc, rfl⟩ := List.mem_map.1 hq; rw [if_pos (hin c hc), c2.new c hc]; obtain ⟨m, hm⟩ := List.mem_iff_getElem?.1 hc; exact (qOy hnd hm).symm
  ·rw [qUh hq, qLx hL.off]; by_cases hql : q < jlen room D
   ·rw [if_pos hql, if_pos hql, c2.old q hq]
   ·rw [if_neg hql, if_neg hql]
 refine ⟨c1, c2.lit, .inr c2.head, ?_, qVv hW, by rw [hjl]; exact hn, hs.r1, hs.r2⟩
 rw [hjl, hsec]; refine jHx hs.dt hf hlo (fun x hx => ?_)
 obtain ⟨_, _, h3⟩ := hs.ti; rcases h3 with ⟨_, _, _, F, hA⟩ | ⟨ht, t, F, hR, _⟩
 ·have := hA.out x (fun h => hx h.1)
  exact ⟨this.2.2.2.1, this.2.2.2.2⟩
 ·have := hR.acc.out x (fun h => hx h.1)
  exact ⟨this.2.2.2.1, this.2.2.2.2⟩
theorem qLw {room : Nat} {D : Dsk} {k : Nat} (h : Bud D k) (q : Nat) : (qDx room D q).size <= 1024 := qNv h _
theorem jDl {D : Dsk} {k room : Nat} {T : TM} {l : List KV} {N : Nat} (hL : Lit D k) (hs : Std room D T l N) : qFa room D = (0, D, some T) := by
 have hj : jlen room D <= 16384 := by have := hL.b.n; unfold jlen; omega
 have hrg := hs.ti.rng; have hn1 : 1 <= T.next := hrg.2.1; have hnx := hs.next; have hlen : 0 < D.secs.length := by unfold jlen at hnx; omega
 have ho : qDb room D = (0, D) := jEc hL hlen hs.clear; have h0 : (qCt room D 0).2 = 0 := qPd hL.off (by omega) (by omega)
 have ht : qLa (qDx room D) (jlen room D) = some T := by
  have hN : N < 2 * 5 ^ 6 := by
   have h1 := hs.ti.spots; have h2 : (N : Int) <= T.next - 1 := h1.1; omega
  exact qTd (WI.high hs.ti 6 hN) (by omega) hs.next hj hs.dt (fun x => qLw hL.b x)
 unfold qFa; rw [ho]; simp only [ne_eq, not_true_eq_false, if_false]; rw [h0]; simp only [not_true_eq_false, if_false]; rw [ht]
theorem qYr {n : Int} {room : Nat} (h1 : 1 <= room) (h2 : room <= 500) (hn : 1 <= jlen room (newD n)) : Std room (newD n) newT [] 0 := by
 refine ⟨jBy n, ⟨fun q _ => qLw (jCi n) q, (fun x n h => by cases h), (fun x y h => by cases h), .inl ⟨rfl, ?_⟩⟩, qZu 250 26, by show (1 : Int) <= _; omega, h1, h2⟩
 rw [qLx (qTj n).off, if_pos (by omega), qYy, qKm]
 exact qLo _
theorem qYs {D : Dsk} {k room : Nat} {T : TM} {l : List KV} {N : Nat} (hL : Lit D k) (hs : Std room D T l N) (cs : List Cg) (hc : ∀ c ∈ cs, CgOk c) (hn : cs.length <= 1048576) :
  ∃ (W' : WM) (N' : Nat), allM T (jlen room D : Int) 70 cs T.begin = some W' /\ WI T 250 W' (chgs cs l) 26 N' /\ (W'.full = true -> (jlen room D : Int) <= (N : Int) + 8 * cs.length) /\ (W'.full = false -> W'.next <= (jlen room D : Int)) /\ W'.next <= 16384 + 32 * cs.length ∧
   ∀ (ls : List Chg) (ln : List (Int × NP)) (la : List (Int × Int)), Laid W' ls ln la -> W'.full = false -> ls.length <= 21 * cs.length + 1 := by
 have hj : jlen room D <= 16384 := by have := hL.b.n; unfold jlen; omega
 have hnx := hs.next; obtain ⟨W', N', h1, h2, h3⟩ := jCo (L := (jlen room D : Int)) cs hc hs.ti (by omega)
 have hb : T.begin.next = T.next := rfl; obtain ⟨q1, q2⟩ := h3.sharp rfl (by rw [hb]; exact hnx) (by omega)
 refine ⟨W', N', h1, h2, q1, fun hf => (q2 hf).1, by have := h3.hi; rw [hb] at this; omega, fun ls ln la hlaid hf => ?_⟩
 obtain ⟨_, _, X, x1, x2⟩ := q2 hf; have hlo : qHy W' ls := by
  obtain ⟨_, _, h3⟩ := h2; rcases h3 with ⟨_, _, _, F, hA⟩ | ⟨ht, t, F, hR, _⟩
  ·exact qEv hA hlaid
  ·exact qEv hR.acc hlaid
 have h4 := qOa hlo (X := X) (fun y hy => (x2 y hy).resolve_right (fun h => h.elim (fun h => h rfl) (fun h => h rfl)))
 omega
end
section
open Go Go.RowKit
attribute [local go_sem] qFv
def geK (key : ByteArray) (p : KV) : Bool := !kl p.1 key
def qWs (l : List KV) (key : ByteArray) (most : Int) : List KV := (l.filter (geK key)).take most.toNat
end
section
open Go Go.RowKit
def pvE (x : Ent) : KV := (x.key, x.value)
def qPr (g : Int -> Option (List KV)) : List Ent -> Option (List KV)
 | [] => some []
 | x :: r => (g x.kid).bind fun a => (qPr g r).map (a ++ ·)
def qFl (look : Int -> Option NP) : Nat -> Int -> ByteArray -> Option (List KV)
 | 0, _, _ => none
 | f + 1, s, key => (look s).bind fun n => if n.1 then some (((n.2.drop (qBz key n.2)).map pvE).filter (geK key)) else qPr (fun s => qFl look f s key) (n.2.drop (qBz key n.2))
theorem qOd {look : Int -> Option NP} {f h : Nat} {key : ByteArray} : ∀ (b : List (TE (Tr h))), (∀ e ∈ b, qFl look f e.spot key = some ((flat h e.sub).filter (geK key))) -> qPr (fun s => qFl look f s key) (b.map eE) = some ((qAf b).filter (geK key))
 | [], _ => rfl
 | e :: b, k => by
  have h1 := k e List.mem_cons_self; have h2 := qOd b (fun x hx => k x (List.mem_cons_of_mem _ hx))
  show (qFl look f e.spot key).bind (fun a => (qPr (fun s => qFl look f s key) (b.map eE)).map (a ++ ·)) = _
  rw [h1, h2]; have e1 : qAf (e :: b) = flat h e.sub ++ qAf b := by unfold qAf; rw [List.flatMap_cons]
  rw [e1, List.filter_append]; rfl
theorem qRy {key : ByteArray} {p : KV} (h : kl p.1 key = true) : geK key p = false := by unfold geK; rw [h]; rfl
theorem qUf {look : Int -> Option NP} {m : Nat} (key : ByteArray) : ∀ (h : Nat) (s : Int) (t : Tr h), Sd look m h s t -> Asc (flat h t) -> qFl look (h + 1) s key = some ((flat h t).filter (geK key))
 | 0, s, l, hS, hf => by
  have hlk : look s = some (true, eOf 0 l) := (qIv.1 hS).1.1; have hg : qAu true (eOf 0 l) := (qIv.1 hS).1.2; have hne : l ≠ ([] : List KV) := fun e => hg.ne (by rw [e]; rfl)
  have hf : Asc l := hf; obtain ⟨a, e, b, rfl, hpl, hle, hgt⟩ := qDh (fun p : KV => p.1) key l hne hf
  have hi : qBz key (eOf 0 (a ++ e :: b)) = a.length := by
   refine Eq.trans ?_ hpl; unfold qBz; show (List.filter _ (List.map _ (a ++ e :: b))).length - 1 = _; rw [List.filter_map, List.length_map]; rfl
  have hdr : ((eOf 0 (a ++ e :: b)).drop a.length).map pvE = e :: b := by
   show ((List.map _ (a ++ e :: b)).drop a.length).map pvE = _; rw [<- List.map_drop, List.drop_left, List.map_map]; exact List.map_id _
  show (look s).bind _ = _; rw [hlk]; show some _ = _; rw [hi, hdr]; show some ((e :: b).filter (geK key)) = some ((a ++ e :: b).filter (geK key)); rw [List.filter_append, qBa (p := geK key) (l := a) (fun x hx => ?_), List.nil_append]
  have h1 : kl x.1 e.1 = true := (qBv.1 hf).2.2 x hx e List.mem_cons_self; refine qRy ?_; rcases hle with rfl | hle
  ·cases hx
  ·rcases hle with hle | hle
   ·rw [<- hle]; exact h1
   ·exact qCa h1 hle
 | h + 1, s, l, hS, hf => by
  obtain ⟨⟨hlk, hg⟩, hB⟩ := hS; have hB : Lowr look m (h + 1) l := hB; have hok : Ok l := qPk hB; have hf : Asc (qAf l) := hf; have hne : l ≠ [] := fun e => hg.ne (by rw [e]; rfl)
  obtain ⟨a, e, b, rfl, hpl, hle, hgt⟩ := qDh (fun e : TE (Tr h) => e.key) key l hne (qLh hok hf)
  have hi : qBz key (eOf (h + 1) (a ++ e :: b)) = a.length := (qNx key _).trans hpl; have hfl : qAf (a ++ e :: b) = qAf a ++ qAf (e :: b) := qAk _ _; have hdr : (eOf (h + 1) (a ++ e :: b)).drop a.length = (e :: b).map eE := by
   rw [qBq, <- List.map_drop, List.drop_left]
  have hlo : (qAf a).filter (geK key) = [] := qBa (fun p hp => by
   refine qRy ?_; rcases hle with rfl | hle
   ·simp [qAf] at hp
   ·obtain ⟨v0, r, hfe2⟩ := qHw hok (e := e) (List.mem_append_right _ List.mem_cons_self); have h1 := hf; rw [hfl] at h1; obtain ⟨_, _, hab⟩ := qBv.1 h1; have h4 : kl p.1 e.key = true := hab p hp (e.key, v0) (by
     have e1 : qAf (e :: b) = flat h e.sub ++ qAf b := by unfold qAf; rw [List.flatMap_cons]
     rw [e1, hfe2]; exact List.mem_append_left _ List.mem_cons_self)
    rcases hle with hle | hle
    ·rw [<- hle]; exact h4
    ·exact qCa h4 hle)
  have hsub : ∀ x ∈ e :: b, Asc (flat h x.sub) := fun x hx => by
   have hmem : x ∈ a ++ e :: b := List.mem_append_right _ hx; refine List.Pairwise.sublist ?_ hf; obtain ⟨p, q, hpq⟩ := List.append_of_mem hmem; rw [hpq, show p ++ x :: q = p ++ ([x] ++ q) from rfl, qAk, qAk]
   refine List.Sublist.trans ?_ (List.sublist_append_right _ _); have e1 : qAf [x] = flat h x.sub := by unfold qAf; simp
   rw [e1]; exact List.sublist_append_left _ _
  have hkids := qOd (look := look) (f := h + 1) (key := key) (e :: b) (fun x hx => qUf key h x.spot x.sub (hB x (List.mem_append_right _ hx)).1 (hsub x hx))
  show (look s).bind _ = _; rw [hlk]; show qPr (fun s => qFl look (h + 1) s key) ((eOf (h + 1) (a ++ e :: b)).drop (qBz key (eOf (h + 1) (a ++ e :: b)))) = some ((qAf (a ++ e :: b)).filter (geK key))
  rw [hi, hdr, hkids, hfl, List.filter_append, hlo, List.nil_append]
end
end Go.Proofs.YtgbcibdfeeiilaaGreatDoor
