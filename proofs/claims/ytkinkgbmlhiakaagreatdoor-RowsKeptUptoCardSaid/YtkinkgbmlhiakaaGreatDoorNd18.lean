/- merged: JrO JrC Ins -/
import Derived.Test.YtkinkgbmlhiakaaGreatDoorNd17
import Derived.Test.YtkinkgbmlhiakaaGreatDoorNd05
import Derived.Test.YtkinkgbmlhiakaaGreatDoorNd01
import Derived.Test.YtkinkgbmlhiakaaGreatDoorProg
import Derived.Shelf.Spec.SlicesInsert
import Derived.Shelf.Spec.SlicesInsertGrow
namespace Go.Proofs.YtkinkgbmlhiakaaGreatDoor
section
open Go Go.RowKit
def jKt (w : World) (d : Nat) (sa : Option Addr) (room : Nat) (R : Int × Dsk) (e : Ending) (w' : World) : Prop :=
 qAp w' d sa R.2 /\ Mod (qBj d sa) w w' ∧
  ((R.1 = 0 /\ ∃ j, e = .returned (.tuple #[.pointer (some ⟨j, 0, none⟩), .int .i64 0]) /\ JAt w' j d room /\ w.heap.size <= j) \/ (R.1 ≠ 0 /\ e = .returned (.tuple #[.pointer none, .int .i64 R.1])))
theorem jCw (room : Nat) (l : List Nat) (D : Dsk) (n : Nat) (r : List Nat) (h : l = n :: r) : jJc room D (some l) = finF room 0 l D := by subst h; rfl
set_option maxRecDepth 100000
set_option maxHeartbeats 2000000 in
theorem jFw {w : World} {d k0 room : Nat} {sa : Option Addr} {D : Dsk} (hD : qAp w d sa D) (hb : Bud D k0) (hk0 : k0 <= 2305843009213693952) (h1 : 1 <= room) (hr : room <= 500) :
  Calls Tryz.prog 23 #[.pointer (some ⟨d, 0, none⟩), .int .i64 (room : Int)] w fun e w' => jKt w d sa room (qKg room D) e w' := by
 have d1 : decide ((room : Int) < 1) = false := by rw [decide_eq_false_iff_not]; omega
 have d2 : decide (500 < (room : Int)) = false := by rw [decide_eq_false_iff_not]; omega
 have HD := hid hD; have HLt := hid hD.lt; have HOF : Hid (qKg room D = if (qDm D 0).2 = 0 then jJc room D (numF room (jlen room D) (qDm D 0).1) else ((qDm D 0).2, D)) := hid rfl
 have HRd := hid (fun (v : World) (hv : qAp v d sa D) => qPc hv 0)
 have HRs := hid (hb.read 0); have HB := hid hb; have hn := hb.n; generalize qKg room D = F at *; generalize qDm D 0 = r at *; clear hD hb; go_enter Tryz.func23, Tryz.ntmps23
 go_wp2_with fail
 have hma : Mod (fun _ => False) w (w.alloc (.cells #[.pointer (some ⟨d, 0, none⟩), .int .i64 (room : Int)] 135)) := (Mod.refl _ _).alloc _
 have hja : JAt (w.alloc (.cells #[.pointer (some ⟨d, 0, none⟩), .int .i64 (room : Int)] 135)) w.heap.size d room := heap_alloc_new _ _; have HD1 := hid (HD.out.mod hma (fun _ _ h => h))
 have hne : ¬ qBj d sa w.heap.size := fun h => by have := HLt.out _ h; omega
 generalize w.alloc (.cells #[.pointer (some ⟨d, 0, none⟩), .int .i64 (room : Int)] 135) = W at *; have HM := hid (hma.mono (T := qBj d sa) (fun _ _ h => h.elim))
 have HJ := hid hja; clear hma hja; refine (HRd.out _ HD1.out).mono ?_; rintro e w1 ⟨rfl, hd1, hm1⟩; have HD2 := hid hd1; have HM1 := hid (HM.out.trans hm1); have HJ1 := hid (HJ.out.mod hm1 hne); clear hd1 hm1; by_cases hz : r.2 = 0
 ·have hof := HOF.out; rw [if_pos hz] at hof; rw [hz]; have HN := hid (qTj HD2.out HJ1.out hn hr r.1 (by have := HRs.out; omega))
  cases hnum : numF room (jlen room D) r.1 with
  | none =>
   rw [hnum] at hof HN; have HO := hid hof; clear hof hnum hz; go_wp2_with fail
   refine HN.out.mono ?_; rintro e w2 ⟨hm2, rfl⟩; have HM2 := hid (HM1.out.trans (hm2.mono (fun _ _ h => h.elim)))
   have HD3 := hid (HD2.out.mod hm2 (fun _ _ h => h))
   clear hm2; go_wp2_with fail
   go_ret2; rw [HO.out]; exact ⟨HD3.out, HM2.out, .inr ⟨(show (32 : Int) ≠ 0 by decide), rfl⟩⟩
  | some l =>
   rw [hnum] at hof HN; have HO := hid hof; clear hof hnum hz; go_wp2_with fail
   refine HN.out.mono ?_; rintro e w2 ⟨hm2, la, cap, rfl, hol, hbl, hl5, hln⟩; have HM2 := hid (HM1.out.trans (hm2.mono (fun _ _ h => h.elim)))
   have HD3 := hid (HD2.out.mod hm2 (fun _ _ h => h))
   have HJ2 := hid (HJ1.out.mod hm2 (fun h => h))
   have HL := hid hol; have HLn := hid hln; have HBl : Hid (∀ k, blk la k -> ¬ qBj d sa k) := hid (fun k hk h => by have := HD2.out.lt k h; have := hbl k hk; omega)
   clear hm2 hol hbl hln; cases l with
   | nil =>
    clear hl5; simp only [List.length_nil] at *; go_wp2_with fail
    go_ret2; rw [HO.out]; exact ⟨HD3.out, HM2.out, .inl ⟨rfl, _, rfl, HJ2.out, Nat.le_refl _⟩⟩
   | cons n l =>
    have hpos : 0 < (n :: l).length := by simp
    have HFi := hid (qOi HD3.out HJ2.out hne HB.out hk0 hr HL.out hl5 HLn.out HBl.out); rw [<- jCw room (n :: l) D n l rfl, <- HO.out] at HFi; generalize (n :: l).length = len at *; have c1 : decide (0 < (len : Int)) = true := by rw [decide_eq_true_iff]; omega
    go_wp2_with fail
    refine HFi.out.mono ?_; rintro e w3 ⟨rfl, hd3, hm3⟩; have HM3 := hid (HM2.out.trans hm3); have HD4 := hid hd3; have HJ3 := hid (HJ2.out.mod hm3 hne); clear hd3 hm3; by_cases hf : F.1 = 0
    ·have hf2 : (F.1 == 0) = true := by simpa using hf
     have HF0 := hid hf; clear hf; go_wp2_with fail
     go_ret2; exact ⟨HD4.out, HM3.out, .inl ⟨HF0.out, _, rfl, HJ3.out, Nat.le_refl _⟩⟩
    ·have hf2 : (F.1 == 0) = false := by simpa using hf
     have HF0 := hid hf; clear hf; go_wp2_with fail
     go_ret2; exact ⟨HD4.out, HM3.out, .inr ⟨HF0.out, rfl⟩⟩
 ·have hz2 : (r.2 == 0) = false := by simpa using hz
  have hof := HOF.out; rw [if_neg hz] at hof; have HO := hid hof; have HZ := hid hz; clear hof hz; go_wp2_with fail
  go_ret2; rw [HO.out]; exact ⟨HD2.out, HM1.out, .inr ⟨HZ.out, rfl⟩⟩
end
section
open Go Go.RowKit
def Chg.cs (c : Chg) : List Value := [.int .i64 c.pos, .string c.data]
theorem qIm (c : Chg) : c.cs.length = 2 := rfl
noncomputable def KI : Keys Tryz.prog 3 Int := jCb Tryz.underlying3
structure ChAt (w : World) (a : Option Addr) (cs : List Chg) : Prop where
 l : Lies w 2 Chg.cs a cs
 s : ∀ c ∈ cs, c.data.size <= maxLen
 p : ∀ c ∈ cs, -9223372036854775808 <= c.pos /\ c.pos <= 9223372036854775807
theorem ChAt.mod {S : Nat -> Prop} {w w' : World} {a : Option Addr} {cs : List Chg} (h : ChAt w a cs) (hm : Mod S w w') (hs : 0 < cs.length -> ∀ k, blk a k -> ¬ S k) : ChAt w' a cs := ⟨h.l.mod hm hs, h.s, h.p⟩
theorem qTf (cs : List Chg) (k : Nat) (hk : k < cs.length) : places (cs.take (k + 1)) = places (cs.take k) ++ [cs[k].pos.toNat] := by
 unfold places; rw [List.take_succ_eq_append_getElem hk, List.map_append]; rfl
def CRel (w wr : World) (len : Nat) (cs : List Chg) (k : Nat) (la : Option Addr) (cap : Nat) : Prop :=
 qCk len [] cs = qCk len (places (cs.take k)) (cs.drop k) /\ (∀ n ∈ places (cs.take k), n < len) /\ Own wr 3 1 la k cap (nums (places (cs.take k))) /\ qAv KI.kv wr w.heap.size (qNl (places (cs.take k))) /\ (∀ b, blk la b -> w.heap.size < b) /\ Mod (fun _ => False) w wr
theorem jFl (i : Nat) (c : Chg) (r : List Chg) (D : Dsk) : putF i (c :: r) D = if (qAz D (1 + (i : Int)) c.data).1 = 0 then putF (i + 1) r (qAz D (1 + (i : Int)) c.data).2 else qAz D (1 + (i : Int)) c.data := by
 rw [putF, show ((1 + i : Nat) : Int) = 1 + (i : Int) by omega]
set_option maxRecDepth 100000
set_option maxHeartbeats 8000000 in
theorem qSc {w : World} {j d room k0 : Nat} {sa : Option Addr} {D : Dsk} (hD : qAp w d sa D) (hj : JAt w j d room) (hne : ¬ qBj d sa j) (hb : Bud D k0) (hk0 : k0 <= 1152921504606846976) (hr : room <= 500)
  {a : Option Addr} {cap0 : Nat} {cs : List Chg} (hc : ChAt w a cs) (hap : 0 < cs.length -> ∀ k, blk a k -> ¬ qBj d sa k) (hle : cs.length <= room) (hpos : 0 < cs.length) :
  Calls Tryz.prog 35 #[.pointer (some ⟨j, 0, none⟩), .slice a cs.length cap0] w fun e w' => e = .returned (.int .i64 (qAk room cs D).1) /\ qAp w' d sa (qAk room cs D).2 /\ Mod (qBj d sa) w w' := by
 obtain ⟨i0, hi, hz0, hz1, hz2⟩ := info_parts qKm; obtain ⟨g, off, rfl⟩ := hc.l.some hpos; have HC := hid hc; have HD := hid hD; have HJ := hid hj; have HB := hid hb; have HAp := hid (hap hpos); have HFc : Hid (qAk room cs D = if qCk (jlen room D) [] cs = 0 then (if (putF 0 cs D).1 = 0 then qNm room (places cs) (putF 0 cs D).2 else putF 0 cs D) else (qCk (jlen room D) [] cs, D)) := hid (by
  unfold qAk; rw [if_neg (by omega), if_neg (by intro h; subst h; simp at hpos)])
 have HJl := hid (fun (v : World) (hv : Mod (fun _ => False) w v) => qLo (hD.mod hv (fun _ _ h => h)) (hj.mod hv (fun h => h)) hb.n hr)
 have hjl : jlen room D <= 16384 := by have := hb.n; unfold jlen; omega
 have d1 : decide (room < cs.length) = false := by rw [decide_eq_false_iff_not]; omega
 have d2 : ((cs.length : Int) == 0) = false := by rw [beq_eq_false_iff_ne]; omega
 generalize qAk room cs D = F at *; generalize jlen room D = len at *; have HFbad : Hid (∀ e, qCk len [] cs = e -> e ≠ 0 -> F = (e, D)) := hid (fun e h1 h2 => by rw [HFc.out, if_neg (by rw [h1]; exact h2), h1])
 obtain ⟨c0, c1⟩ := hj.cells; clear hD hj hc hap hb; have hmm := @run_makeMap Tryz.prog; go_enter Tryz.func35, Tryz.ntmps35
 go_wp2_with fail
 clear c0 c1; go_loopw [5, 31] (fun sl sc wr => ∃ (k : Nat) (la : Option Addr) (cap : Nat), k <= cs.length /\ sl = .slice la k cap /\ sc = .int .i64 (k : Int) /\ CRel w wr len cs k la cap) (fun _ sc _ => cs.length - (intOf sc).toNat)
 case atStart =>
  exact ⟨0, none, 0, Nat.zero_le _, rfl, rfl, rfl, (fun n hn => by cases hn), Own.nil _ _ _, qAv.made KI.kv w, (fun k hk => (qAj k hk).elim), (Mod.refl _ _).alloc _⟩
 case round =>
  obtain ⟨k, la, cap, hk, rfl, rfl, r1, r2, r3, r4, r5, r6⟩ := hrel; have HCk := hid r1; have HPl := hid r2; have HO := hid r3; have HMap := hid r4; have HBl := hid r5; have HM := hid r6; clear r1 r2 r3 r4 r5 r6; by_cases hlt : k < cs.length
  ·obtain ⟨x, hx⟩ : ∃ x, cs[k]? = some x := ⟨_, List.getElem?_eq_getElem hlt⟩; have hxe : cs[k] = x := by rw [List.getElem?_eq_getElem hlt] at hx; exact Option.some.inj hx
   have hq0 := (HC.out.l.old HM.out (fun _ h => h.elim)).cell qIm hx (j := 0) rfl
   have hq1 := (HC.out.l.old HM.out (fun _ h => h.elim)).cell qIm hx (j := 1) rfl
   simp only [Nat.add_zero] at hq0; have hxs := HC.out.s x (List.mem_of_getElem? hx); have hxp := HC.out.p x (List.mem_of_getElem? hx); have HSt : Hid (qCk len [] cs = if x.pos < 0 \/ (len : Int) <= x.pos then 10 else if 1024 < x.data.size then 11 else if x.pos.toNat ∈ places (cs.take k) then 30 else qCk len (places (cs.take k) ++ [x.pos.toNat]) (cs.drop (k + 1))) := hid (by
    rw [HCk.out, List.drop_eq_getElem_cons hlt, hxe]; rfl)
   have HTk : Hid (places (cs.take (k + 1)) = places (cs.take k) ++ [x.pos.toNat]) := hid (by rw [qTf cs k hlt, hxe])
   obtain ⟨pos, data⟩ := x; simp only at hq0 hq1 hxs hxp HSt HTk; unfold maxLen at hxs; obtain ⟨hxp1, hxp2⟩ := hxp; have hma : Mod (fun _ => False) wr (wr.alloc (.cells #[.int .i64 pos, .string data] 167)) := (Mod.refl _ _).alloc _
   have hcb : (wr.alloc (.cells #[.int .i64 pos, .string data] 167)).heap[wr.heap.size]? = some (.cells #[.int .i64 pos, .string data] 167 (0, 0)) := heap_alloc_new _ _; have HMa := hid (HM.out.trans hma); have HOa := hid (HO.out.mod hma (fun _ _ h => h))
   have HMapa := hid (HMap.out.mod hma (fun h => h))
   have HCb := hid hcb; clear hx hxe hma hcb; by_cases hp0 : pos < 0
   ·have e0 : decide (pos < 0) = true := by simpa using hp0
    have HE : Hid (F = (10, D)) := hid (HFbad.out 10 (by rw [HSt.out, if_pos (Or.inl hp0)]) (by decide))
    clear hp0; go_wp2_with fail
    generalize wr.alloc (.cells #[.int .i64 pos, .string data] 167) = C at *; have g0 := fun x : Ext C => x.heap HCb.out
    have k0 : ∀ x : Ext C, x.val.cell? ⟨wr.heap.size, 0, none⟩ = some (.int .i64 pos) := fun x => by rw [cell_of_row _ _ _ _ _ _ (g0 x)]; rfl
    clear g0 hq0 hq1; refine qAm (by kernel_rfl) (by kernel_rfl) ?_
    repeat (go_big_quiet_step ((fail)))
    refine wpQuiet_nil ?_; rintro _ ⟨y, rfl⟩; go_wp2_with fail
    go_ret; rw [HE.out]; exact ⟨rfl, HD.out.mod (HMa.out.trans y.mod) (fun _ _ h => h), (HMa.out.trans y.mod).mono (fun _ _ h => h.elim)⟩
   ·have e0 : decide (pos < 0) = false := by simpa using hp0
    obtain ⟨p, rfl⟩ := Int.eq_ofNat_of_zero_le (show 0 <= pos by omega)
    by_cases hpl : len <= p
    ·have e1 : decide (len <= p) = true := by simpa using hpl
     have HE : Hid (F = (10, D)) := hid (HFbad.out 10 (by rw [HSt.out, if_pos (Or.inr (by omega))]) (by decide))
     clear hp0 hpl; go_wp2_with fail
     generalize wr.alloc (.cells #[.int .i64 (p : Int), .string data] 167) = C at *; have g0 := fun x : Ext C => x.heap HCb.out
     have k0' : ∀ x : Ext C, x.val.cell? ⟨wr.heap.size, 0, none⟩ = some (.int .i64 (p : Int)) := fun x => by rw [cell_of_row _ _ _ _ _ _ (g0 x)]; rfl
     have HK := hid (fun x : Ext C => HJl.out x.val (HMa.out.trans x.mod))
     clear g0 hq0 hq1; refine qAm (by kernel_rfl) (by kernel_rfl) ?_
     repeat (go_big_quiet_step ((go_at_call 27; exact qBe (HK.out _))))
     refine wpQuiet_nil ?_; rintro _ ⟨y, rfl⟩; go_wp2_with fail
     go_ret; rw [HE.out]; exact ⟨rfl, HD.out.mod (HMa.out.trans y.mod) (fun _ _ h => h), (HMa.out.trans y.mod).mono (fun _ _ h => h.elim)⟩
    ·have e1 : decide (len <= p) = false := by simpa using hpl
     have hnot : ¬ ((p : Int) < 0 \/ (len : Int) <= (p : Int)) := by omega
     have hst := HSt.out; rw [if_neg hnot] at hst; have hpl2 : p < len := by omega
     have hp16 : p <= 16384 := by omega
     have HPl2 := hid hpl2; by_cases hds : 1024 < data.size
     ·rw [if_pos hds] at hst; have HE : Hid (F = (11, D)) := hid (HFbad.out 11 hst (by decide))
      have e2 : decide (1024 < (data.size : Int)) = true := by rw [decide_eq_true_iff]; omega
      have e3 : decide (1024 < data.size) = true := by simpa using hds
      clear hp0 hpl hst hnot hpl2 hds; go_wp2_with fail
      generalize wr.alloc (.cells #[.int .i64 (p : Int), .string data] 167) = C at *; have HK := hid (fun x : Ext C => HJl.out x.val (HMa.out.trans x.mod))
      have k0' : ∀ x : Ext C, x.val.cell? ⟨wr.heap.size, 0, none⟩ = some (.int .i64 (p : Int)) := fun x => by rw [cell_of_row _ _ _ _ _ _ (x.heap HCb.out)]; rfl
      have k1' : ∀ x : Ext C, x.val.cell? ⟨wr.heap.size, 1, none⟩ = some (.string data) := fun x => by rw [cell_of_row _ _ _ _ _ _ (x.heap HCb.out)]; rfl
      clear hq0 hq1; refine qAm (by kernel_rfl) (by kernel_rfl) ?_
      repeat (go_big_quiet_step ((go_at_call 27; exact qBe (HK.out _))))
      refine wpQuiet_nil ?_; rintro _ ⟨y, rfl⟩; go_wp2_with fail
      go_ret; rw [HE.out]; exact ⟨rfl, HD.out.mod (HMa.out.trans y.mod) (fun _ _ h => h), (HMa.out.trans y.mod).mono (fun _ _ h => h.elim)⟩
     ·rw [if_neg hds] at hst; have e2 : decide (1024 < (data.size : Int)) = false := by rw [decide_eq_false_iff_not]; omega
      have e3 : decide (1024 < data.size) = false := by simpa using hds
      have HSt2 := hid hst; clear hp0 hpl hst hnot hpl2 hds HSt; go_wp2_with fail
      generalize wr.alloc (.cells #[.int .i64 (p : Int), .string data] 167) = C at *; have HK := hid (fun x : Ext C => HJl.out x.val (HMa.out.trans x.mod))
      have k0' : ∀ x : Ext C, x.val.cell? ⟨wr.heap.size, 0, none⟩ = some (.int .i64 (p : Int)) := fun x => by rw [cell_of_row _ _ _ _ _ _ (x.heap HCb.out)]; rfl
      clear hq0 hq1; refine qAm (by kernel_rfl) (by kernel_rfl) ?_
      repeat (go_big_quiet_step ((go_at_call 27; exact qBe (HK.out _))))
      refine wpQuiet_nil ?_; rintro _ ⟨y, rfl⟩; clear k0'; have HMy := hid (HMa.out.trans y.mod); have HOy := hid (HOa.out.mod y.mod (fun _ _ h => h))
      have HMapy := hid (HMapa.out.mod y.mod (fun h => h))
      have HCy := hid (y.heap HCb.out); generalize y.val = Y at *; clear HK HMa HOa HMapa HCb y; have c0 : Y.cell? ⟨wr.heap.size, 0, none⟩ = some (.int .i64 (p : Int)) := by rw [cell_of_row _ _ _ _ _ _ HCy.out]; rfl
      have c1 : Y.cell? ⟨wr.heap.size, 1, none⟩ = some (.string data) := by rw [cell_of_row _ _ _ _ _ _ HCy.out]; rfl
      have hlk := qCe KI Tryz.underlying82 (qZf _) HMapy.out (p : Int) false; rw [qFy] at hlk; have hpn : ((p : Int)).toNat = p := by omega
      rw [hpn] at HSt2 HTk; have hst := HSt2.out; by_cases hin : p ∈ places (cs.take k)
      ·rw [if_pos hin] at hlk hst; have HE : Hid (F = (30, D)) := hid (HFbad.out 30 hst (by decide))
       have hlk2 : (Instr.lookup 82 (.map (some w.heap.size)) (.int .i64 (p : Int)) false).run Tryz.prog Y = .ok (.int .i64 1) Y := hlk; clear hlk hin hst hpn; go_wp2_with fail
       go_ret; rw [HE.out]; exact ⟨rfl, HD.out.mod HMy.out (fun _ _ h => h), HMy.out.mono (fun _ _ h => h.elim)⟩
      ·rw [if_neg hin] at hlk hst; have hlk2 : (Instr.lookup 82 (.map (some w.heap.size)) (.int .i64 (p : Int)) false).run Tryz.prog Y = .ok (.int .i64 0) Y := hlk; have HAg : Hid (aget (qNl (places (cs.take k))) (p : Int) = none) := hid (by rw [qFy, if_neg hin])
       have HSt3 := hid hst; clear hlk hin hst hpn; have hyz := HMy.out.size; have hwz := HM.out.size; have hml := HMapy.out.lt; have hcl := lth HCy.out; have hmr := HMap.out.lt; go_wp2_with (first
        | (at_mapUpdate; refine qEc rfl _ _ _ 82 rfl KI Tryz.underlying82 w.heap.size _ (p : Int) (.int .i64 1) rfl rfl rfl HMapy.out HAg.out ?_; intro w3 hat hm3; have Hat := hid hat; have Hm3 := hid hm3; clear hat hm3; have HO3 := hid (HOy.out.mod Hm3.out (fun k hk h => by have := HBl.out k hk; omega)); have HSr : Hid (Src (w3.alloc (.cells #[.int .i64 (p : Int)] 3)) 1 (some ⟨w3.heap.size, 0, none⟩) 1 [.int .i64 (p : Int)]) := hid (qAw (heap_alloc_new _ _) rfl); have HO4 := hid (HO3.out.mod (S := fun _ => False) ((Mod.refl _ w3).alloc (.cells #[.int .i64 (p : Int)] 3)) (fun _ _ h => h)); have HMap4 := hid (Hat.out.mod (S := fun _ => False) ((Mod.refl _ w3).alloc (.cells #[.int .i64 (p : Int)] 3)) (fun h => h)); have hsz3 := Hm3.out.size; have x0 : w3.cell? ⟨wr.heap.size, 0, none⟩ = some (.int .i64 (p : Int)) := (Hm3.out.cell (p := ⟨wr.heap.size, 0, none⟩) hcl (fun h => by simp only at h; omega)).trans c0)
        | (at_builtin; refine qAd rfl (.tmp 62) (.tmp 65) 56 rfl 3 i0 _ 1 8 Tryz.underlying56 hi hz0 hz1 hz2 rfl la k cap _ rfl HO4.out (some ⟨w3.heap.size, 0, none⟩) 1 1 _ rfl HSr.out (by intro u hu; simp at hu; subst hu; rfl) (by unfold maxLen; omega) (by omega) ?_; intro la' cap' w5 hown5 hm5 hb5 hn5 hr5; have Hown5 := hid hown5; have Hm5 := hid hm5; have Hb5 := hid hb5; clear hown5 hm5 hb5 hn5 hr5))
       go_roundw
       case rel =>
        refine ⟨k + 1, la', cap', by omega, rfl, by go_num, ?_, fun n hn => ?_, ?_, ?_, fun b hb => ?_, ?_⟩
        ·rw [HTk.out, HSt3.out]
        ·rw [HTk.out] at hn; rcases List.mem_append.1 hn with h | h
         ·exact HPl.out n h
         ·simp at h; have := HPl2.out; omega
        ·rw [HTk.out, qRn]; exact Hown5.out
        ·rw [HTk.out, qOa]; exact HMap4.out.mod Hm5.out (fun h => by have := HBl.out _ h; omega)
        ·rcases Hb5.out b hb with h | h
         ·exact HBl.out b h
         ·simp at h; omega
        ·have h1 : Mod (fun k => w.heap.size <= k) Y (w3.alloc (.cells #[.int .i64 (p : Int)] 3)) := (Hm3.out.mono (fun k _ h => by omega)).alloc _
         exact HMy.out.then (h1.trans (Hm5.out.mono (fun k _ h => by have := HBl.out k h; omega))) (fun i hi h => by omega)
       case measure => simp [intOf]; omega
  ·have hke : k = cs.length := by omega
   subst hke; have HCe : Hid (qCk len [] cs = 0) := hid (by rw [HCk.out, List.drop_length]; rfl)
   have HFok : Hid (F = if (putF 0 cs D).1 = 0 then qNm room (places cs) (putF 0 cs D).2 else putF 0 cs D) := hid (by rw [HFc.out, if_pos HCe.out])
   have HOl : Hid (Own wr 3 1 la cs.length cap (nums (places cs))) := hid (by have := HO.out; rwa [List.take_length] at this)
   have HPl2 : Hid (∀ n ∈ places cs, n <= 16384) := hid (fun n hn => by have := HPl.out n (by rw [List.take_length]; exact hn); omega)
   have HDr := hid (HD.out.mod HM.out (fun _ _ h => h))
   have HMr := hid (HM.out.mono (T := qBj d sa) (fun _ _ h => h.elim))
   have HLa : Hid (∀ b, blk la b -> ¬ qBj d sa b) := hid (fun b hb h => by have := HBl.out b hb; have := HD.out.lt b h; omega)
   obtain ⟨U, rfl⟩ : ∃ U : World, U = wr := ⟨_, rfl⟩; clear HCk HPl HO HMap HM hmm HFc HFbad HCe HBl; go_wp2_with fail
   go_loopw [70] (fun sc wv => ∃ (k : Nat) (D' : Dsk), k <= cs.length /\ sc = .int .i64 (k : Int) /\ qAp wv d sa D' /\ Bud D' (k0 + k) /\ (putF 0 cs D = putF k (cs.drop k) D' /\ D'.secs.length = D.secs.length) /\ Mod (qBj d sa) U wv) (fun sc _ => cs.length - (intOf sc).toNat)
   case atStart => exact ⟨0, D, Nat.zero_le _, rfl, HDr.out, HB.out, ⟨rfl, rfl⟩, Mod.refl _ _⟩
   case round =>
    obtain ⟨wv, rfl⟩ : ∃ wv : World, wv = wr := ⟨_, rfl⟩; obtain ⟨k, D', hk, rfl, r1, r2, r3, r4⟩ := hrel; have HDk := hid r1; have HBk := hid r2; have HPk := hid r3; have HMu := hid r4; have HMw := hid (HMr.out.trans r4); clear r1 r2 r3 r4; by_cases hlt : k < cs.length
    ·obtain ⟨x, hx⟩ : ∃ x, cs[k]? = some x := ⟨_, List.getElem?_eq_getElem hlt⟩; have hxe : cs[k] = x := by rw [List.getElem?_eq_getElem hlt] at hx; exact Option.some.inj hx
     have hcw := (HC.out.mod HMw.out (fun _ => HAp.out)).l
     have hq0 := hcw.cell qIm hx (j := 0) rfl; have hq1 := hcw.cell qIm hx (j := 1) rfl; simp only [Nat.add_zero] at hq0; have hxs := HC.out.s x (List.mem_of_getElem? hx); have HSt : Hid (putF 0 cs D = if (qAz D' (1 + (k : Int)) x.data).1 = 0 then putF (k + 1) (cs.drop (k + 1)) (qAz D' (1 + (k : Int)) x.data).2 else qAz D' (1 + (k : Int)) x.data) := hid (by
      rw [HPk.out.1, List.drop_eq_getElem_cons hlt, hxe, jFl])
     obtain ⟨pos, data⟩ := x; simp only at hq0 hq1 hxs HSt; have hma : Mod (fun _ => False) wv (wv.alloc (.cells #[.int .i64 pos, .string data] 167)) := (Mod.refl _ _).alloc _
     have hcb : (wv.alloc (.cells #[.int .i64 pos, .string data] 167)).heap[wv.heap.size]? = some (.cells #[.int .i64 pos, .string data] 167 (0, 0)) := heap_alloc_new _ _; have HMa := hid (HMw.out.alloc (.cells #[.int .i64 pos, .string data] 167)); have HMua := hid (HMu.out.alloc (.cells #[.int .i64 pos, .string data] 167)); have HDa := hid (HDk.out.mod hma (fun _ _ h => h))
     have HCb := hid hcb; have hcn : ¬ qBj d sa wv.heap.size := fun h => by have := HDk.out.lt _ h; omega
     clear hx hxe hma hcb hcw; go_wp2_with fail
     generalize wv.alloc (.cells #[.int .i64 pos, .string data] 167) = C at *; have HW := hid (qIo (w := C.drew) (HDa.out.mod (Mod.refl (fun _ => False) C).drew (fun _ _ h => h)) (HBk.out.ok (by omega)) (1 + (k : Int)) data hxs)
     have HBw := hid (HBk.out.write (1 + (k : Int)) data); have hwl := qCx D' (1 + (k : Int)) data; rw [HPk.out.2] at hwl; have HWl := hid hwl; have HUp : Hid (∀ v, Mod (qBj d sa) C.drew v -> v.cell? ⟨j, 0, none⟩ = some (.pointer (some ⟨d, 0, none⟩)) /\ v.cell? ⟨wv.heap.size, 1, none⟩ = some (.string data)) := hid (fun v hv => by
      refine ⟨(HJ.out.mod (HMa.out.drew.trans hv) hne).cells.1, ?_⟩; rw [cell_of_row _ _ _ _ _ _ ((hv.block _ (lth HCb.out) hcn).trans HCb.out)]; rfl)
     obtain ⟨z0, z1⟩ := HUp.out C.drew (Mod.refl _ _); generalize qAz D' (1 + (k : Int)) data = q at *; have s1 : IntKind.i64.wrap (1 + (k : Int)) = 1 + (k : Int) := by rw [IntKind.wrap_i64]; omega
     clear hq0 hq1 hwl hxs; go_region_held3 (fun w' => w'.cell? ⟨j, 0, none⟩ = some (.pointer (some ⟨d, 0, none⟩)) /\ w'.cell? ⟨wv.heap.size, 1, none⟩ = some (.string data))
      (first | exact ⟨x0, x1⟩ | exact ⟨z0, z1⟩ | go_keep)
      ((go_at_call 71; (with_reducible refine HW.out.mono ?_); rintro e w2 ⟨rfl, hd2, hm2⟩; have HD3 := hid hd2; obtain ⟨x0, x1⟩ := HUp.out w2 hm2; have HM3 := hid (HMua.out.drew.trans hm2); clear hd2 hm2))
     all_goals
      clear s1; by_cases hq : q.1 = 0
      ·have hq2 : (q.1 == 0) = true := by simpa using hq
       have hq3 : (q.1 != 0) = false := by simpa using hq
       have HS2 : Hid (putF 0 cs D = putF (k + 1) (cs.drop (k + 1)) q.2) := hid (by rw [HSt.out, if_pos hq])
       clear hq; go_wp2_with fail
       go_roundw
       case rel => exact ⟨k + 1, q.2, by omega, by go_num, HD3.out, HBw.out, ⟨HS2.out, HWl.out⟩, HM3.out⟩
       case measure => simp [intOf]; omega
      ·have hq2 : (q.1 == 0) = false := by simpa using hq
       have hq3 : (q.1 != 0) = true := by simpa using hq
       have HS2 : Hid (F = q) := hid (by rw [HFok.out, HSt.out, if_neg hq, if_neg hq])
       clear hq; go_wp2_with fail
       go_ret; rw [HS2.out]; exact ⟨rfl, HD3.out, HMr.out.trans HM3.out⟩
    ·have hke : k = cs.length := by omega
     subst hke; have HPe : Hid (putF 0 cs D = (0, D')) := hid (by rw [HPk.out.1, List.drop_length]; rfl)
     have HFh : Hid (F = qNm room (places cs) D') := hid (by rw [HFok.out, HPe.out, if_pos rfl])
     have HJw := hid (HJ.out.mod HMw.out hne); have HOw := hid (HOl.out.mod HMu.out HLa.out); have hlq : (places cs).length = cs.length := qEd cs; have HOq : Hid (∀ v, Mod (fun _ => False) wv v -> Own v 3 1 la (places cs).length cap (nums (places cs))) := hid (fun v hv => by rw [hlq]; exact HOw.out.mod hv (fun _ _ h => h))
     have HH : Hid (Calls Tryz.prog 72 #[.slice la cs.length cap] wv.drew fun e w' => e = .returned (.string (ba (hdL (places cs)))) /\ Mod (fun _ => False) wv.drew w') := hid (by
      have := qWf (HOq.out wv.drew (Mod.refl _ _).drew) (by omega) HPl2.out
      rwa [hlq] at this)
     have hhs : (ba (hdL (places cs))).size <= maxLen := by
      rw [qAf, <- jCl]; have := jCk (places cs) (places cs).length HPl2.out (by omega)
      unfold maxLen; omega
     have HFh2 : Hid (F = if (qAz D' 0 (ba (hdL (places cs)))).1 = 0 then finF room 0 (places cs) (qAz D' 0 (ba (hdL (places cs)))).2 else qAz D' 0 (ba (hdL (places cs)))) := HFh
     have HWa := hid (fun (v : World) (hv : Mod (fun _ => False) wv v) => qIo (HDk.out.mod hv (fun _ _ h => h)) (HBk.out.ok (by omega)) 0 (ba (hdL (places cs))) hhs)
     have HBw := hid (HBk.out.write 0 (ba (hdL (places cs)))); generalize ba (hdL (places cs)) = hb at *; generalize qAz D' 0 hb = q at *; have HJd : Hid (∀ v, Mod (fun _ => False) wv v -> v.cell? ⟨j, 0, none⟩ = some (.pointer (some ⟨d, 0, none⟩))) := hid (fun v hv => (HJw.out.mod hv (fun h => h)).cells.1)
     have hw0 : Mod (fun _ => False) wv wv.drew := (Mod.refl _ _).drew
     have HW0 := hid hw0; have z0 := HJd.out _ hw0; clear hw0 hhs; go_wp2_with fail
     go_region_held3 (fun w' => w'.cell? ⟨j, 0, none⟩ = some (.pointer (some ⟨d, 0, none⟩)))
      (first | exact x0 | exact y0 | exact z0 | go_keep)
      (first
       | (go_at_call 72; (with_reducible refine HH.out.mono ?_); rintro e v1 ⟨rfl, hm1⟩; have HV1 := hid (HW0.out.trans hm1); have y0 := HJd.out v1 HV1.out; clear hm1)
       | (go_at_call 71; (with_reducible refine (HWa.out _ HV1.out).mono ?_); rintro e w2 ⟨rfl, hd2, hm2⟩; have HD3 := hid hd2; have HJ3 := hid ((HJw.out.mod HV1.out (fun h => h)).mod hm2 hne); obtain ⟨x0, x1⟩ := HJ3.out.cells; have HM3 := hid (((HV1.out.mono (T := qBj d sa) (fun _ _ h => h.elim)).trans hm2)); clear hd2 hm2))
     all_goals
      by_cases hq : q.1 = 0
      ·have hq2 : (q.1 == 0) = true := by simpa using hq
       have hq3 : (q.1 != 0) = false := by simpa using hq
       have HS2 : Hid (F = finF room 0 (places cs) q.2) := hid (by rw [HFh2.out, if_pos hq])
       have HO3 : Hid (Own w2 3 1 la (places cs).length cap (nums (places cs))) := hid (by rw [hlq]; exact HOw.out.mod HM3.out HLa.out)
       have hFi := qOi HD3.out HJ3.out hne HBw.out (by omega) hr HO3.out (by omega) HPl2.out HLa.out
       rw [hlq, <- HS2.out] at hFi; have HFi := hid hFi; clear hq hFi; go_wp2_with fail
       refine HFi.out.mono ?_; rintro e w4 ⟨rfl, hd4, hm4⟩; have HD4 := hid hd4; have HM4 := hid (HMw.out.trans (HM3.out.trans hm4)); clear hd4 hm4; go_wp2_with fail
       go_ret; exact ⟨rfl, HD4.out, HM4.out⟩
      ·have hq2 : (q.1 == 0) = false := by simpa using hq
       have hq3 : (q.1 != 0) = true := by simpa using hq
       have HS2 : Hid (F = q) := hid (by rw [HFh2.out, if_neg hq])
       clear hq; go_wp2_with fail
       go_ret; rw [HS2.out]; exact ⟨rfl, HD3.out, HMw.out.trans HM3.out⟩
theorem qYs {w : World} {j d room k0 : Nat} {sa : Option Addr} {D : Dsk} (hD : qAp w d sa D) (hj : JAt w j d room) (hne : ¬ qBj d sa j) (hb : Bud D k0) (hk0 : k0 <= 1152921504606846976) (hr : room <= 500)
  {a : Option Addr} (cap0 : Nat) {cs : List Chg} (hc : ChAt w a cs) (hap : 0 < cs.length -> ∀ k, blk a k -> ¬ qBj d sa k) (hlen : cs.length <= maxLen) :
  Calls Tryz.prog 35 #[.pointer (some ⟨j, 0, none⟩), .slice a cs.length cap0] w fun e w' => e = .returned (.int .i64 (qAk room cs D).1) /\ qAp w' d sa (qAk room cs D).2 /\ Mod (qBj d sa) w w' := by
 obtain ⟨c0, c1⟩ := hj.cells; unfold maxLen at hlen; by_cases hle : room < cs.length
 ·have e : qAk room cs D = (31, D) := by unfold qAk; rw [if_pos hle]
  rw [e]; have HD := hid hD; have d1 : decide (room < cs.length) = true := by simpa using hle
  clear hD hj hb hc hap e; go_enter Tryz.func35, Tryz.ntmps35
  go_wp2
  go_ret; exact ⟨rfl, HD.out, Mod.refl _ _⟩
 ·by_cases hpos : cs.length = 0
  ·have e : qAk room cs D = (0, D) := by unfold qAk; rw [if_neg hle, if_pos (List.eq_nil_of_length_eq_zero hpos)]
   rw [e, hpos]; have HD := hid hD; have d1 : decide (room < 0) = false := by simp
   clear hD hj hb hc hap e hle hpos hlen; go_enter Tryz.func35, Tryz.ntmps35
   go_wp2
   go_ret; exact ⟨rfl, HD.out, Mod.refl _ _⟩
  ·exact qSc hD hj hne hb hk0 hr hc hap (by omega) (by omega)
end
section
open Go Go.RowKit
def qLc : Go.Shelf.Ren := ⟨fun | 22 => 100 | 17 => 183 | 29 => 129 | 30 => 130 | 36 => 168 | n => n, fun | 24 => 68 | 9 => 9 | 3 => 3 | 4 => 4 | 0 => 0 | n => n, fun | n => n⟩
theorem qMk : Go.Proofs.Lays2.n22 Tryz.prog qLc := {
 mixed := by kernel_rfl
 f17 := Tryz.func183.trans (congrArg some (by kernel_rfl))
 f22 := Tryz.func100.trans (congrArg some (by kernel_rfl))
 f29 := Tryz.func129.trans (congrArg some (by kernel_rfl))
 f30 := Tryz.func130.trans (congrArg some (by kernel_rfl))
 f36 := Tryz.func168.trans (congrArg some (by kernel_rfl))
 t0 := Tryz.underlying0
 a0 := Tryz.isAgg0
 z0 := Tryz.sizeOf0
 v0 := Tryz.zeroValue0
 t3 := Tryz.underlying3
 a3 := Tryz.isAgg3
 z3 := Tryz.sizeOf3
 v3 := Tryz.zeroValue3
 t4 := Tryz.underlying4
 a4 := Tryz.isAgg4
 z4 := Tryz.sizeOf4
 v4 := Tryz.zeroValue4
 t9 := Tryz.underlying9
 a9 := Tryz.isAgg9
 z9 := Tryz.sizeOf9
 v9 := Tryz.zeroValue9
 t24 := Tryz.underlying68
 a24 := Tryz.isAgg68
 z24 := Tryz.sizeOf68
 v24 := Tryz.zeroValue68
 i9 := by kernel_rfl }
end
end Go.Proofs.YtkinkgbmlhiakaaGreatDoor
