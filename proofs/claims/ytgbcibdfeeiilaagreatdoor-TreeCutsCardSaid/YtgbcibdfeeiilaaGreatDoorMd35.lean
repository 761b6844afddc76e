/- merged: TeRef TeHolds TeTot TeCutP TeCutA TeCutO -/
import Derived.Test.YtgbcibdfeeiilaaGreatDoorMd34
namespace Go.Proofs.YtgbcibdfeeiilaaGreatDoor
section
open Go Go.RowKit
theorem jJd : (Tryz.prog.info? 73).map (fun i => (i.zero, i.size, i.bytes)) = some (some (.agg #[.string ⟨#[]⟩, .string ⟨#[]⟩, .bool false]), 3, 40) := by kernel_rfl
theorem jGc (l : List Cg) (c : Cg) : (l ++ [c]).flatMap ccs = l.flatMap ccs ++ [.string c.key, .string c.value, .bool c.gone] := by simp [ccs]
theorem jDd (w : World) (c : Cg) (t : TypeId) : Src (w.alloc (.cells #[.string c.key, .string c.value, .bool c.gone] t)) 3 (some ⟨w.heap.size, 0, none⟩) 1 [.string c.key, .string c.value, .bool c.gone] :=
 qBn (heap_alloc_new _ _) rfl
theorem jDe {a b : ByteArray} {c : Bool} : ∀ u ∈ [Value.string a, .string b, .bool c], u.oneCell' = true := by simp [Value.oneCell']
set_option maxRecDepth 100000
set_option maxHeartbeats 1000000 in
theorem jHd {w : World} {a : Option Addr} (cap0 : Nat) {cs : List Cg} (hc : Lies w 3 ccs a cs) (hb : cs.length <= 1099511627776) :
  Calls Tryz.prog 17 #[.slice a cs.length cap0] w fun e w' => ∃ la cap, e = .returned (.slice la cs.length cap) /\ Own w' 73 3 la cs.length cap (cs.flatMap ccs) /\ (∀ b, blk la b -> w.heap.size <= b) /\ Mod (fun _ => False) w w' := by
 obtain ⟨i0, hi, hz0, hz1, hz2⟩ := info_parts jJd; have HL := hid hc; have HBd := hid hb; clear hc hb; go_enter Tryz.func17, Tryz.ntmps17
 go_upto_region 3 with fail
 go_loopw [3, 8] (fun sl si wr => ∃ (k : Nat) (la : Option Addr) (cap : Nat), k <= cs.length /\ sl = .slice la k cap /\ si = .int .i64 (k : Int) /\ Own wr 73 3 la k cap ((cs.take k).flatMap ccs) /\ (∀ b, blk la b -> w.heap.size <= b) /\ Mod (fun _ => False) w wr) (fun _ si _ => cs.length - (intOf si).toNat)
 case atStart => exact ⟨0, none, 0, Nat.zero_le _, rfl, rfl, Own.nil _ _ _, (fun k hk => (qAk k hk).elim), Mod.refl _ _⟩
 case round =>
  obtain ⟨k, la, cap, hk, rfl, rfl, r4, r5, r6⟩ := hrel; have HO := hid r4; have HB := hid r5; have HM := hid r6; clear r4 r5 r6; by_cases hlt : k < cs.length
  ·have d0 : decide ((k : Int) < (cs.length : Int)) = true := by simp; omega
   have d1 : decide (k < cs.length) = true := by simpa using hlt
   have hdi : ¬ cs.length <= k := by omega
   obtain ⟨⟨xk, xv, xg⟩, hx⟩ : ∃ x, cs[k]? = some x := ⟨_, List.getElem?_eq_getElem hlt⟩; obtain ⟨g, off, rfl⟩ := HL.out.some (by omega)
   have hq0 := (HL.out.ext HM.out).cell ccs_len hx (j := 0) rfl; have hq1 := (HL.out.ext HM.out).cell ccs_len hx (j := 1) rfl; have hq2 := (HL.out.ext HM.out).cell ccs_len hx (j := 2) rfl; simp only [Nat.add_zero] at hq0; have hkb : k + 1 <= 1099511627776 := by have := HBd.out; omega
   have HTk : Hid ((cs.take (k + 1)).flatMap ccs = (cs.take k).flatMap ccs ++ [.string xk, .string xv, .bool xg]) := hid (by
    rw [List.take_add_one, hx]; exact jGc _ _)
   have HS := hid (jDd (wr.alloc (.cells #[.string xk, .string xv, .bool xg] 67)) ⟨xk, xv, xg⟩ 73); have HOa := hid (qDf (qDf HO.out (.cells #[.string xk, .string xv, .bool xg] 67)) (.cells #[.string xk, .string xv, .bool xg] 73)); have HMa := hid ((HM.out.alloc (.cells #[.string xk, .string xv, .bool xg] 67)).alloc (.cells #[.string xk, .string xv, .bool xg] 73)); rw [World.size_alloc] at HS; clear hx
   go_wp2_with (at_builtin; refine qAd rfl (.tmp 12) (.tmp 20) 46 rfl 73 i0 _ 3 40 Tryz.underlying46 hi hz0 hz1 hz2 rfl la k cap _ rfl HOa.out (some ⟨wr.heap.size + 1, 0, none⟩) 1 1 _ rfl HS.out jDe (by unfold maxLen; omega) (by omega) ?_; intro la5 cap5 w5 hown hmo hbo hn5 hr5; have HO5 := hid hown; have HM5 : Hid (Mod (fun _ => False) w w5) := hid (HMa.out.then hmo (fun b hlt hb => by have h1 := HB.out b hb; omega)); have HB5 : Hid (∀ b, blk la5 b -> w.heap.size <= b) := hid (fun b hb => (hbo b hb).elim (fun e => HB.out b e) (fun e => by have h1 := HM.out.size; rw [World.size_alloc, World.size_alloc] at e; omega)); clear hown hmo hbo hn5 hr5)
   go_roundw
   case rel => exact ⟨k + 1, la5, cap5, by omega, rfl, by go_num, by rw [HTk.out]; exact HO5.out, HB5.out, HM5.out⟩
   case measure => simp [intOf]; omega
  ·have hke : k = cs.length := by omega
   subst hke; have d0 : decide ((cs.length : Int) < (cs.length : Int)) = false := by simp
   have d1 : decide (cs.length < cs.length) = false := by simp
   have HO5 : Hid (Own wr 73 3 la cs.length cap (cs.flatMap ccs)) := hid (by have := HO.out; rw [List.take_length] at this; exact this)
   clear HO; go_wp2_with fail
   go_ret; exact ⟨la, cap, rfl, HO5.out, HB.out, HM.out⟩
theorem jHk (b : ByteArray) : b.toList = [] ↔ b.size = 0 := by
 rw [ByteArray.toList_eq, Array.toList_eq_nil_iff, <- Array.size_eq_zero_iff]; rfl
open Classical in
set_option maxHeartbeats 4000000 in
theorem jEf {w : World} {a : Option Addr} (cap : Nat) {cs : List Cg} (hc : Lies w 3 ccs a cs) (hb : cs.length <= 1099511627776000) (hs : ∀ c ∈ cs, c.key.size <= maxLen /\ c.value.size <= maxLen) :
  Calls Tryz.prog 16 #[.slice a cs.length cap] w fun e w' => e = .returned (.int .i64 (chkF [] cs)) /\ Mod (fun _ => False) w w' := by
 have HC := hid hc; have HSz := hid hs; obtain ⟨F, hF⟩ : ∃ z, chkF [] cs = z := ⟨_, rfl⟩; rw [hF]; have HF := hid hF; clear hc hs hF; go_enter Tryz.func16, Tryz.ntmps16
 go_wp2_with fail
 go_loopw [3] (fun sc wr => ∃ k : Nat, k <= cs.length /\ sc = .int .i64 (k : Int) /\ F = chkF ((cs.take k).map (·.key)) (cs.drop k) /\ Mod (fun _ => False) w wr) (fun sc _ => cs.length - (intOf sc).toNat)
 case atStart => exact ⟨0, Nat.zero_le _, rfl, HF.out.symm, Mod.refl _ _⟩
 case round =>
  obtain ⟨k, hk, rfl, r1, r3⟩ := hrel; have HFk := hid r1; have HM := hid r3; clear r1 r3; by_cases hlt : k < cs.length
  ·obtain ⟨x, hx⟩ : ∃ x, cs[k]? = some x := ⟨_, List.getElem?_eq_getElem hlt⟩; have hxe : cs[k] = x := by rw [List.getElem?_eq_getElem hlt] at hx; exact Option.some.inj hx
   obtain ⟨g, off, rfl⟩ := HC.out.some (by omega)
   have hcw := HC.out.ext HM.out; have hq0 := hcw.cell ccs_len hx (j := 0) rfl; have hq1 := hcw.cell ccs_len hx (j := 1) rfl; have hq2 := hcw.cell ccs_len hx (j := 2) rfl; simp only [Nat.add_zero] at hq0; have hxs := HSz.out x (List.mem_of_getElem? hx); have HSt : Hid (F = if x.key.toList = [] \/ 48 < x.key.size then 50 else if 200 < x.value.size then 51 else if x.key ∈ (cs.take k).map (·.key) then 30 else chkF ((cs.take k).map (·.key) ++ [x.key]) (cs.drop (k + 1))) := hid (by
    rw [HFk.out, List.drop_eq_getElem_cons hlt, hxe]; rfl)
   have HTk := hid (qPq cs hx); obtain ⟨xk, xv, xg⟩ := x; simp only at hq0 hq1 hq2 hxs HSt HTk; have hma : Mod (fun _ => False) wr (wr.alloc (.cells #[.string xk, .string xv, .bool xg] 73)) := (Mod.refl _ _).alloc _
   have hcb : (wr.alloc (.cells #[.string xk, .string xv, .bool xg] 73)).heap[wr.heap.size]? = some (.cells #[.string xk, .string xv, .bool xg] 73 (0, 0)) := heap_alloc_new _ _; have HMa := hid (HM.out.trans hma); have HCb := hid hcb; obtain ⟨b0, b1, b2⟩ : (wr.alloc (.cells #[.string xk, .string xv, .bool xg] 73)).cell? ⟨wr.heap.size, 0, none⟩ = some (.string xk) /\ (wr.alloc (.cells #[.string xk, .string xv, .bool xg] 73)).cell? ⟨wr.heap.size, 1, none⟩ = some (.string xv) /\ (wr.alloc (.cells #[.string xk, .string xv, .bool xg] 73)).cell? ⟨wr.heap.size, 2, none⟩ = some (.bool xg) := by
    refine ⟨?_, ?_, ?_⟩ <;> (rw [cell_of_row _ _ _ _ _ _ hcb]; rfl)
   obtain ⟨hs1, hs2⟩ := hxs; unfold maxLen at hs1 hs2; clear hx hxe hma hcb hcw; have hnil := jHk xk; by_cases h1 : xk.size < 1
   ·have e1 : decide ((xk.size : Int) < 1) = true := by simp; omega
    have HE : Hid (F = 50) := hid (by rw [HSt.out, if_pos (.inl (hnil.2 (by omega)))])
    clear hnil; go_wp2_with fail
    go_ret; rw [HE.out]; exact ⟨rfl, HMa.out⟩
   ·have e1 : decide ((xk.size : Int) < 1) = false := by simp; omega
    by_cases h2 : 48 < xk.size
    ·have e2 : decide (48 < (xk.size : Int)) = true := by simp; omega
     have HE : Hid (F = 50) := hid (by rw [HSt.out, if_pos (.inr h2)])
     clear hnil; go_wp2_with fail
     go_ret; rw [HE.out]; exact ⟨rfl, HMa.out⟩
    ·have e2 : decide (48 < (xk.size : Int)) = false := by simp; omega
     have hn12 : ¬ (xk.toList = [] \/ 48 < xk.size) := fun e => e.elim (fun e => h1 (by rw [hnil.1 e]; decide)) h2
     by_cases h3 : 200 < xv.size
     ·have e3 : decide (200 < (xv.size : Int)) = true := by simp; omega
      have HE : Hid (F = 51) := hid (by rw [HSt.out, if_neg hn12, if_pos h3])
      clear hn12 hnil; go_wp2_with fail
      go_ret; rw [HE.out]; exact ⟨rfl, HMa.out⟩
     ·have e3 : decide (200 < (xv.size : Int)) = false := by simp; omega
      have HN : Hid (xk ∉ (cs.take k).map (·.key) -> F = chkF ((cs.take (k + 1)).map (·.key)) (cs.drop (k + 1))) := hid (fun h4 => by rw [HSt.out, if_neg hn12, if_neg h3, if_neg h4, HTk.out])
      have HY : Hid (xk ∈ (cs.take k).map (·.key) -> F = 30) := hid (fun h4 => by rw [HSt.out, if_neg hn12, if_neg h3, if_pos h4])
      clear hn12 HSt HTk hnil; go_wp2_with fail
      have b00 := b0; clear b0 b1 b2 hq0 hq1 hq2; have HAt := hid (fun y : Ext (wr.alloc (.cells #[.string xk, .string xv, .bool xg] 73)) => HM.out.trans (((Mod.refl (fun _ => False) wr).alloc _).trans y.mod))
      have HB0 := hid b00; generalize hV : wr.alloc (.cells #[.string xk, .string xv, .bool xg] 73) = V at *; generalize hwb : wr.heap.size = nb at *; clear b00; go_loopw [5] (fun sj wj => ∃ j : Nat, j <= k /\ sj = .int .i64 (j : Int) /\ xk ∉ (cs.take j).map (·.key) /\ Mod (fun _ => False) V wj) (fun sj _ => k - (intOf sj).toNat)
      case atStart => exact ⟨0, Nat.zero_le _, rfl, by simp, Mod.refl _ _⟩
      case round =>
       obtain ⟨j, hj, rfl, hn, hmj⟩ := hrel; have HNj := hid hn; have HMj := hid hmj; have HMw : Hid (Mod (fun _ => False) w wr) := hid (HAt.out ⟨wr, hmj⟩)
       clear hn; by_cases hjk : j < k
       ·have d0 : decide ((j : Int) < (k : Int)) = true := by simp; omega
        have d1 : decide (j < k) = true := by simpa using hjk
        obtain ⟨⟨yk, yv, yg⟩, hy⟩ : ∃ y, cs[j]? = some y := ⟨_, List.getElem?_eq_getElem (by omega)⟩
        have q0 := (HC.out.ext HMw.out).cell ccs_len hy (j := 0) rfl; have b0 : wr.cell? ⟨nb, 0, none⟩ = some (.string xk) := (⟨wr, hmj⟩ : Ext V).cell HB0.out; simp only [Nat.add_zero] at q0; have HTj := hid (qPq cs hy); have HMem : Hid (yk ∈ (cs.take k).map (·.key)) := hid (List.mem_map.2 ⟨_, List.mem_of_getElem? (by rw [List.getElem?_take, if_pos hjk]; exact hy), rfl⟩)
        have hjl : ¬ cs.length <= j := by omega
        clear hy hmj; by_cases he : yk = xk
        ·subst he; have HE := hid (HY.out HMem.out); have dv := qQh (rfl : yk = yk); go_wp2_with fail
         go_quiet (fail)
         go_wp2_with fail
         go_ret; rw [HE.out]; exact ⟨rfl, HMw.out.trans ⟨rfl, rfl, rfl, Nat.le_refl _, fun _ _ _ => rfl⟩⟩
        ·have dv := qSo he; have HN2 : Hid (xk ∉ (cs.take (j + 1)).map (·.key)) := hid (by
          rw [HTj.out, List.mem_append]; rintro (h | h)
          ·exact HNj.out h
          ·exact he (List.mem_singleton.1 h).symm)
         clear he; go_wp2_with fail
         go_quiet (fail)
         go_wp2_with fail
         go_roundw
         case rel => exact ⟨j + 1, by omega, by go_num, HN2.out, HMj.out.trans ⟨rfl, rfl, rfl, Nat.le_refl _, fun _ _ _ => rfl⟩⟩
         case measure => simp [intOf]; omega
       ·have hje : j = k := by omega
        subst hje; have d0 : decide ((j : Int) < (j : Int)) = false := by simp
        have d1 : decide (j < j) = false := by simp
        have HE := hid (HN.out HNj.out); clear hmj; go_wp2_with fail
        go_roundw
        case rel => exact ⟨j + 1, by omega, by go_num, HE.out, HMw.out⟩
        case measure => simp [intOf]; omega
  ·have hke : k = cs.length := by omega
   subst hke; have d0 : decide ((cs.length : Int) < (cs.length : Int)) = false := by simp
   have d1 : decide (cs.length < cs.length) = false := by simp
   have HE : Hid (F = 0) := hid (by rw [HFk.out, List.drop_length]; rfl)
   go_wp2_with fail
   go_ret; rw [HE.out]; exact ⟨rfl, HM.out⟩
set_option maxHeartbeats 1000000 in
theorem jDz {w : World} {a b : Option Addr} (cap cap2 : Nat) {l : List KV} (ha : Lies w 2 kcs a l) (hb : Lies w 2 kcs b l) (hl : l.length <= 1099511627776) :
  Calls Tryz.prog 27 #[.slice a l.length cap, .slice b l.length cap2] w fun e w' => e = .returned (.bool true) /\ Mod (fun _ => False) w w' := by
 have HA := hid ha; have HB := hid hb; clear ha hb; have dl : ((l.length : Int) != (l.length : Int)) = false := by simp
 go_enter Tryz.func27, Tryz.ntmps27
 go_upto_region 4 with fail
 go_loopw [13] (fun si wr => ∃ i : Nat, i <= l.length /\ si = .int .i64 (i : Int) /\ Mod (fun _ => False) w wr) (fun si _ => l.length - (intOf si).toNat)
 case atStart => exact ⟨0, Nat.zero_le _, rfl, Mod.refl _ _⟩
 case round =>
  obtain ⟨i, hi, rfl, hm⟩ := hrel; have HM := hid hm; by_cases hlt : i < l.length
  ·have d0 : decide ((i : Int) < (l.length : Int)) = true := by simp; omega
   have d1 : decide (i < l.length) = true := by simpa using hlt
   have hdi : ¬ l.length <= i := by omega
   obtain ⟨⟨xk, xv⟩, hx⟩ : ∃ x, l[i]? = some x := ⟨_, List.getElem?_eq_getElem hlt⟩; obtain ⟨g, off, rfl⟩ := HA.out.some (by omega)
   obtain ⟨g2, off2, rfl⟩ := HB.out.some (by omega)
   have q0 := (HA.out.ext hm).cell qDt hx (j := 0) rfl; have q1 := (HA.out.ext hm).cell qDt hx (j := 1) rfl; have r0 := (HB.out.ext hm).cell qDt hx (j := 0) rfl; have r1 := (HB.out.ext hm).cell qDt hx (j := 1) rfl; simp only [Nat.add_zero] at q0 r0; have dv := qQh (rfl : xv = xv); have dk := qQh (rfl : xk = xk); clear hx hm; go_upto_region 6 with fail
   go_quiet (fail)
   go_wp2_with fail
   go_roundw
   case rel => exact ⟨i + 1, by omega, by go_num, HM.out.trans ⟨rfl, rfl, rfl, Nat.le_refl _, fun _ _ _ => rfl⟩⟩
   case measure => simp [intOf]; omega
  ·have hie : i = l.length := by omega
   subst hie; have d0 : decide ((l.length : Int) < (l.length : Int)) = false := by simp
   have d1 : decide (l.length < l.length) = false := by simp
   clear hm; go_wp2_with fail
   go_ret; exact ⟨rfl, HM.out⟩
end
section
open Go Go.RowKit
theorem jIz (a : ByteArray) : kl a ⟨#[]⟩ = false := by
 unfold kl; rw [show (⟨#[]⟩ : ByteArray).toList = [] by rw [ByteArray.toList_eq]]
 cases a.toList <;> rfl
theorem qRb (l : List KV) {most : Int} (h : (l.length : Int) <= most) : qRc l ⟨#[]⟩ most = l := by
 have e : l.filter (geK ⟨#[]⟩) = l := List.filter_eq_self.2 (fun p _ => by unfold geK; rw [jIz]; rfl)
 unfold qRc; rw [e]; exact List.take_of_length_le (by omega)
set_option maxRecDepth 100000
set_option maxHeartbeats 1000000 in
theorem qRx {w : World} {B : TB} {T : TM} {D : Dsk} {k N : Nat} {l : List KV} {la : Option Addr} (lc : Nat) (h : Here w B T D k l N) (hl : Lies w 2 kcs la l) :
  Calls Tryz.prog 21 #[.pointer (some ⟨B.tb, 0, none⟩), .slice la l.length lc] w fun e w' => e = .returned (.bool true) /\ Mod (fun _ => False) w w' := by
 have hll : l.length <= 8388608 := h.len.1; have hN := h.std.ti.secs.1; have hok : ∀ p ∈ l, p.1.size <= 48 /\ p.2.size <= 200 := fun p hp => ⟨(h.std.ti.1.ok p hp).1.2, (h.std.ti.1.ok p hp).2⟩
 have hrb := qIt l hok; have HLn := hid (qPu h); have s1 : IntKind.i64.wrap ((l.length : Int) + 1) = (l.length : Int) + 1 := by rw [IntKind.wrap_i64]; omega
 have HS := hid (qMp h ⟨#[]⟩ ((l.length : Int) + 1)); rw [qRb l (Int.le_of_lt (Int.lt_succ _))] at HS; have HSe := hid (fun y : Ext w => qOg (h.ext y.mod))
 have HRb := hid (fun y : Ext w => qXe lc (hl.ext y.mod) (by omega) hok)
 have HSa := hid (fun (y : Ext w) (xa : Option Addr) (xc : Nat) (hx : Own y.val 32 2 xa l.length xc (l.flatMap kcs)) => jDz xc lc hx.lies (hl.ext y.mod) (by omega))
 obtain ⟨R, hR⟩ : ∃ R, qAv l = R := ⟨_, rfl⟩; rw [hR] at HRb hN hrb; have d0 : ((l.length : Int) == (l.length : Int)) = true := by simp
 have s3 : wrap64 ((R : Int) / 100) = (R : Int) / 100 := IntWalk.wrap64_in _ (by omega)
 have s4 : wrap64 (3 + (R : Int) / 100) = 3 + (R : Int) / 100 := IntWalk.wrap64_in _ (by omega)
 have d2 : decide ((N : Int) + 1 <= 3 + (R : Int) / 100) = true := by rw [decide_eq_true_iff]; omega
 clear hl h hR hN hrb hok; go_enter Tryz.func21, Tryz.ntmps21
 go_wp2_with (first
  | (go_at_call 11; refine HLn.out.mono ?_; rintro e w1 ⟨rfl, rfl⟩)
  | (go_at_call 10; refine HS.out.mono ?_; rintro e w2 ⟨xa, xc, rfl, ho, hb, hm2⟩; have HO := hid ho; have HM2 := hid hm2; clear ho hb hm2)
  | (go_at_call 27; refine (HSa.out ⟨_, HM2.out⟩ _ _ HO.out).mono ?_; rintro e w3 ⟨rfl, hm3⟩; have HM3 := hid (HM2.out.trans hm3); clear hm3)
  | (go_at_call 29; refine (HSe.out ⟨_, HM3.out⟩).mono ?_; rintro e w4 ⟨rfl, rfl⟩)
  | (go_at_call 45; refine (HRb.out ⟨_, HM3.out⟩).mono ?_; rintro e w5 ⟨rfl, hm5⟩; have HM5 := hid (HM3.out.trans hm5); clear hm5))
 go_ret; exact ⟨rfl, HM5.out⟩
end
section
open Go Go.RowKit
set_option maxRecDepth 100000
set_option maxHeartbeats 2000000 in
theorem jHb {w : World} {a b : Option Addr} (cap cap2 : Nat) {l m : List KV} (ha : Lies w 2 kcs a l) (hb : Lies w 2 kcs b m) (hl : l.length <= 1099511627776) (_hm : m.length <= 1099511627776) (hne : l ≠ m) :
  Calls Tryz.prog 27 #[.slice a l.length cap, .slice b m.length cap2] w fun e w' => e = .returned (.bool false) /\ Mod (fun _ => False) w w' := by
 have HA := hid ha; have HB := hid hb; have HNe := hid hne; clear ha hb hne; by_cases he : l.length = m.length
 ·have dl : ((l.length : Int) != (m.length : Int)) = false := by rw [bne_eq_false_iff_eq]; omega
  go_enter Tryz.func27, Tryz.ntmps27
  go_upto_region 4 with fail
  go_loopw [13] (fun si wr => ∃ i : Nat, i <= l.length /\ si = .int .i64 (i : Int) /\ l.take i = m.take i /\ Mod (fun _ => False) w wr) (fun si _ => l.length - (intOf si).toNat)
  case atStart => exact ⟨0, Nat.zero_le _, rfl, rfl, Mod.refl _ _⟩
  case round =>
   obtain ⟨i, hi, rfl, hti, hmm⟩ := hrel; have HM := hid hmm; have HTi := hid hti; clear hti; by_cases hlt : i < l.length
   ·have d0 : decide ((i : Int) < (l.length : Int)) = true := by simp; omega
    have d1 : decide (i < l.length) = true := by simpa using hlt
    have hdi : ¬ l.length <= i := by omega
    have hdj : ¬ m.length <= i := by omega
    have hjm : i < m.length := by omega
    obtain ⟨⟨xk, xv⟩, hx⟩ : ∃ x, l[i]? = some x := ⟨_, List.getElem?_eq_getElem hlt⟩; obtain ⟨⟨yk, yv⟩, hy⟩ : ∃ x, m[i]? = some x := ⟨_, List.getElem?_eq_getElem hjm⟩; obtain ⟨g, off, rfl⟩ := HA.out.some (by omega)
    obtain ⟨g2, off2, rfl⟩ := HB.out.some (by omega)
    have q0 := (HA.out.ext hmm).cell qDt hx (j := 0) rfl; have q1 := (HA.out.ext hmm).cell qDt hx (j := 1) rfl; have r0 := (HB.out.ext hmm).cell qDt hy (j := 0) rfl; have r1 := (HB.out.ext hmm).cell qDt hy (j := 1) rfl; simp only [Nat.add_zero] at q0 r0; have HX := hid hx; have HY := hid hy; clear hx hy hmm; by_cases hk : xk = yk
    ·have dk := qQh hk; by_cases hv : xv = yv
     ·have dv := qQh hv; have HTn : Hid (l.take (i + 1) = m.take (i + 1)) := hid (by rw [List.take_add_one, List.take_add_one, HTi.out, HX.out, HY.out, hk, hv])
      clear hk hv; go_upto_region 6 with fail
      go_quiet (fail)
      go_wp2_with fail
      go_roundw
      case rel => exact ⟨i + 1, by omega, by go_num, HTn.out, HM.out.trans ⟨rfl, rfl, rfl, Nat.le_refl _, fun _ _ _ => rfl⟩⟩
      case measure => simp [intOf]; omega
     ·have dv := qSo hv; clear hk hv; go_upto_region 6 with fail
      go_quiet (fail)
      go_wp2_with fail
      go_ret; exact ⟨rfl, HM.out.trans ⟨rfl, rfl, rfl, Nat.le_refl _, fun _ _ _ => rfl⟩⟩
    ·have dk := qSo hk; clear hk; go_upto_region 6 with fail
     go_quiet (fail)
     go_wp2_with fail
     go_ret; exact ⟨rfl, HM.out.trans ⟨rfl, rfl, rfl, Nat.le_refl _, fun _ _ _ => rfl⟩⟩
   ·exact absurd (by have h := HTi.out; rw [List.take_of_length_le (by omega), List.take_of_length_le (by omega)] at h; exact h) HNe.out
 ·have dl : ((l.length : Int) != (m.length : Int)) = true := by rw [bne_iff_ne]; omega
  go_enter Tryz.func27, Tryz.ntmps27
  go_wp2_with fail
  go_ret; exact ⟨rfl, Mod.refl _ _⟩
set_option maxHeartbeats 2000000 in
theorem jFl {w : World} {B : TB} {T : TM} {D : Dsk} {k N : Nat} {l m : List KV} {ma : Option Addr} (mc : Nat) (h : Here w B T D k l N) (hm : Lies w 2 kcs ma m) (hml : m.length <= 8388608) (hne : l ≠ m) :
  Calls Tryz.prog 21 #[.pointer (some ⟨B.tb, 0, none⟩), .slice ma m.length mc] w fun e w' => e = .returned (.bool false) /\ Mod (fun _ => False) w w' := by
 have hll : l.length <= 8388608 := h.len.1; have HLn := hid (qPu h); by_cases he : l.length = m.length
 ·have d0 : ((l.length : Int) == (m.length : Int)) = true := by rw [beq_iff_eq]; omega
  have s1 : IntKind.i64.wrap ((m.length : Int) + 1) = (m.length : Int) + 1 := by rw [IntKind.wrap_i64]; omega
  have HS := hid (qMp h ⟨#[]⟩ ((m.length : Int) + 1)); rw [qRb l (by omega)] at HS
  have HSa := hid (fun (y : Ext w) (xa : Option Addr) (xc : Nat) (hx : Own y.val 32 2 xa l.length xc (l.flatMap kcs)) => jHb xc mc hx.lies (hm.ext y.mod) (by omega) (by omega) hne)
  clear hm h hne he; go_enter Tryz.func21, Tryz.ntmps21
  go_wp2_with (first
   | (go_at_call 11; refine HLn.out.mono ?_; rintro e w1 ⟨rfl, rfl⟩)
   | (go_at_call 10; refine HS.out.mono ?_; rintro e w2 ⟨xa, xc, rfl, ho, hb, hm2⟩; have HO := hid ho; have HM2 := hid hm2; clear ho hb hm2)
   | (go_at_call 27; refine (HSa.out ⟨_, HM2.out⟩ _ _ HO.out).mono ?_; rintro e w3 ⟨rfl, hm3⟩; have HM3 := hid (HM2.out.trans hm3); clear hm3))
  go_ret; exact ⟨rfl, HM3.out⟩
 ·have d0 : ((l.length : Int) == (m.length : Int)) = false := by rw [beq_eq_false_iff_ne]; omega
  clear hm h hne; go_enter Tryz.func21, Tryz.ntmps21
  go_wp2_with (go_at_call 11; refine HLn.out.mono ?_; rintro e w1 ⟨rfl, rfl⟩)
  go_ret; exact ⟨rfl, Mod.refl _ _⟩
end
section
open Go Go.RowKit
theorem qSe {room : Nat} {c : Nat -> ByteArray} {D : Dsk} (hN : D.secs.length <= 16384) (hr : room <= 500) (hsm : Sm D) (hoff : D.off = false) (h : Cln room c D) (cs : List Chg) (h1 : ¬ room < cs.length) (h2 : cs ≠ []) (h3 : qBz (jlen room D) [] cs = 0) :
  ((qAh room cs D).2.off = false /\ (qAh room cs D).1 = 0 /\ Cln room (upc c cs) (qAh room cs D).2) \/ ((qAh room cs D).2.off = true /\ (qAh room cs D).1 = 12 /\ Inv room c (upc c cs) (qAh room cs D).2) := by
 obtain ⟨c1, c2, _⟩ := qEq cs [] h3; obtain ⟨x, hx⟩ := List.exists_mem_of_ne_nil cs h2; have hj := (c1 x hx).2.1; have hjd : jlen room D = D.secs.length - room - 1 := rfl; obtain ⟨p1, p2, p3⟩ := qZw cs 0 D hoff hsm (by omega) (fun c hc => (c1 c hc).2.2)
 have hlen : (putF 0 cs D).2.secs.length = D.secs.length := qHj _ _ _; have hplen : ∀ n ∈ qAe cs, n < jlen room D := fun n hn => by
  obtain ⟨y, hy, rfl⟩ := List.mem_map.1 hn; exact (c1 y hy).2.1
 have hsz : (ba (hdL (qAe cs))).size <= 1024 := qMr (fun n hn => by have := hplen n hn; omega) (by rw [qBx]; omega)
 have e : qAh room cs D = if (putF 0 cs D).1 = 0 then qJc room (qAe cs) (putF 0 cs D).2 else putF 0 cs D := by unfold qAh; rw [if_neg h1, if_neg h2, if_pos h3]
 rw [e]; have hcln : ∀ D' : Dsk, D'.secs.length = D.secs.length -> (∀ j, j <= 0 \/ 0 + cs.length < j -> sec D' j = sec D j) -> Cln room c D' := fun D' hl hj => by
  refine ⟨by unfold qQp; rw [hj 0 (.inl (Nat.le_refl _))]; exact h.1, fun q hq => ?_⟩
  rw [hj _ (.inr (by omega))]
  exact h.2 q (by unfold jlen at hq ⊢; rw [hl] at hq; exact hq)
 rcases p3 with ⟨p3, p4⟩ | ⟨p3, p4, p5⟩
 ·rw [if_neg (by rw [p3]; decide)]
  exact .inr ⟨p4, p3, .inl (hcln _ hlen p1)⟩
 ·rw [if_pos p3]; unfold qJc; have h0 : 0 < (putF 0 cs D).2.secs.length := by omega
  rcases qLd p4 0 h0 hsz with w | w
  ·rw [show qAr (putF 0 cs D).2 0 (ba (hdL (qAe cs))) = _ from w, if_neg (show ¬ (12 : Int) = 0 by decide)]
   exact .inr ⟨rfl, rfl, .inl (hcln _ hlen p1)⟩
  ·rw [show qAr (putF 0 cs D).2 0 (ba (hdL (qAe cs))) = _ from w, if_pos rfl]
   obtain ⟨D1, hD1⟩ : ∃ D1, (putF 0 cs D).2.put 0 (ba (hdL (qAe cs))) = D1 := ⟨_, rfl⟩; have hl1 : D1.secs.length = D.secs.length := by rw [<- hD1, qDk, hlen]
   have hj1 : jlen room D1 = jlen room D := by unfold jlen; rw [hl1]
   have hs1 : sec D1 0 = pad (ba (hdL (qAe cs))) := by rw [<- hD1, qCg _ _ _ _ h0 hsz, if_pos rfl]
   have hso : ∀ j, 0 < j -> sec D1 j = sec (putF 0 cs D).2 j := fun j hj => by rw [<- hD1, qCg _ _ _ _ h0 hsz, if_neg (by omega)]
   have hnum : numF room (jlen room D1) (sec D1 0) = some (qAe cs) := by
    rw [hs1, hj1]; exact jEw (by omega) (by rw [qBx]; omega) hr hplen c2
   have hne : qAe cs ≠ [] := fun hh => h2 (List.eq_nil_of_length_eq_zero (by rw [<- qBx, hh]; rfl))
   have hnew : ∀ (m n : Nat), (qAe cs)[m]? = some n -> upc c cs n = pad (sec D1 (1 + m)) := fun m n hm => by
    unfold qAe at hm; rw [List.getElem?_map, Option.map_eq_some_iff] at hm; obtain ⟨x, hx, rfl⟩ := hm; have hxs := (c1 x (List.mem_of_getElem? hx)).2.2; rw [qLe c2 hx, hso _ (by omega), show 1 + m = 1 + 0 + m by omega, p5 m x hx, qZz hxs]
   have hold : ∀ q, q < jlen room D1 -> q ∉ qAe cs -> sec D1 (room + 1 + q) = c q /\ upc c cs q = c q := fun q hq hn => by
    refine ⟨?_, qLf hn⟩; rw [hso _ (by omega), p1 _ (.inr (by omega))]
    exact h.2 q (by rw [<- hj1]; exact hq)
   rw [hD1]; have hoff1 : D1.off = false := by rw [<- hD1]; exact p4
   have hsm1 : Sm D1 := by rw [<- hD1]; exact p2.put _ hsz
   rcases jBm (old := c) (new := upc c cs) (qAe cs) (by omega) hnum hne (qAe cs) [] D1 rfl rfl hsm1 hoff1 rfl (fun _ _ => rfl) hnew hold (fun q hq => by cases hq) with ⟨x, y, z⟩ | ⟨x, y, z⟩
   ·exact .inl ⟨y, x, z⟩
   ·exact .inr ⟨y, x, .inr (.inl z)⟩
theorem qLp {room : Nat} {D : Dsk} (hoff : D.off = false) (hc : qQp D) : Cln room (qDc room D) D :=
 ⟨hc, fun q hq => by rw [qFk hoff, if_pos hq]⟩
theorem qWf {room : Nat} {c : Nat -> ByteArray} {D : Dsk} (hoff : D.off = false) (h : Cln room c D) (hc : ∀ q, jlen room D <= q -> c q = ⟨#[]⟩) : qDc room D = c := funext fun q => by
 rw [qFk hoff]; by_cases hq : q < jlen room D
 ·rw [if_pos hq, h.2 q hq]
 ·rw [if_neg hq, hc q (by omega)]
theorem qUw {room : Nat} {D : Dsk} (hoff : D.off = false) {q : Nat} (hq : jlen room D <= q) : qDc room D q = ⟨#[]⟩ := by rw [qFk hoff, if_neg (by omega)]
theorem qLg {D D3 : Dsk} {room : Nat} {T : TM} {l : List KV} {N : Nat} (hs : Std room D T l N) (hoff : D.off = false) (hl : D3.secs.length = D.secs.length) (h3 : D3.off = false) (hc : Cln room (qDc room D) D3) : Std room D3 T l N := by
 have hjl : jlen room D3 = jlen room D := by unfold jlen; rw [hl]
 have hsec := qWf h3 hc (fun q hq => qUw hoff (by rw [<- hjl]; exact hq))
 exact ⟨hc.1, by rw [hjl, hsec]; exact hs.dt, hs.ti, by rw [hjl]; exact hs.next, hs.r1, hs.r2⟩
theorem qUu {D : Dsk} {k room : Nat} {T : TM} {l l' : List KV} {N N' : Nat} {W' : WM} {ls : List Chg} {ln : List (Int × NP)} {la : List (Int × Int)} (hb : Bud D k) (hoff : D.off = false) (hs : Std room D T l N) (hW : WI T 250 W' l' 26 N') (hn : W'.next <= (jlen room D : Int)) (hlaid : Laid W' ls ln la) :
  qBz (jlen room D) [] ls = 0 /\ ls ≠ [] /\ ∀ D3 : Dsk, D3.secs.length = D.secs.length -> D3.off = false -> Cln room (upc (qDc room D) ls) D3 -> Std room D3 (W'.done T) l' N' := by
 have hj : jlen room D <= 16384 := by have := hb.n; unfold jlen; omega
 obtain ⟨r1, r2, r3, r4, r5, r6, r7⟩ := hW.rng; have hf := hW.fits hn hj r7; have hlo : qHc W' ls := by
  obtain ⟨_, _, h3⟩ := hW; rcases h3 with ⟨_, _, _, F, hA⟩ | ⟨ht, t, F, hR, _⟩
  ·exact qDh hA hlaid
  ·exact qDh hR.acc hlaid
 have hck := qOa hf hlo; have hne : ls ≠ [] := fun e => by
  have h1 := qVt hlaid; rw [e] at h1; simp at h1
 have hin : ∀ c ∈ ls, c.pos.toNat < jlen room D := fun c hc => (qEq ls [] hck).1 c hc |>.2.1
 refine ⟨hck, hne, fun D3 hl h3 hc => ?_⟩
 have hjl : jlen room D3 = jlen room D := by unfold jlen; rw [hl]
 have hsec := qWf h3 hc (fun q hq => by
  rw [hjl] at hq; rw [qLf (fun hm => by obtain ⟨c, hc, rfl⟩ := List.mem_map.1 hm; have := hin c hc; omega), qUw hoff hq])
 refine ⟨hc.1, ?_, qQe hW, by rw [hjl]; exact hn, hs.r1, hs.r2⟩
 rw [hjl, hsec]; refine jBu hs.dt hf hlo (fun x hx => ?_)
 obtain ⟨_, _, h3⟩ := hs.ti; rcases h3 with ⟨_, _, _, F, hA⟩ | ⟨ht, t, F, hR, _⟩
 ·have := hA.out x (fun h => hx h.1)
  exact ⟨this.2.2.2.1, this.2.2.2.2⟩
 ·have := hR.acc.out x (fun h => hx h.1)
  exact ⟨this.2.2.2.1, this.2.2.2.2⟩
end
section
open Go Go.RowKit
structure qLb (w : World) (B : TB) (T : TM) (D : Dsk) (k : Nat) (l : List KV) (N : Nat) : Prop where
 tree : qAo (TS B) w B T D false
 b : Bud D k
 on : D.off = false
 std : Std B.room D T l N
 ne : B.nb ≠ B.ab
theorem qLb.ext {w w' : World} {B : TB} {T : TM} {D : Dsk} {k : Nat} {l : List KV} {N : Nat} (h : qLb w B T D k l N) (hm : Mod (fun _ => False) w w') : qLb w' B T D k l N := ⟨h.tree.mod hm (fun _ e => e.elim) (fun _ e => e.elim), h.b, h.on, h.std, h.ne⟩
def qEe (room n : Nat) (l l' : List KV) (D : Dsk) : Prop :=
 ∃ (c c' : Nat -> ByteArray) (T T' : TM) (N N' : Nat), Inv room c c' D /\ (∀ D3 : Dsk, D3.secs.length = n -> D3.off = false -> Cln room c D3 -> Std room D3 T l N) /\ (∀ D3 : Dsk, D3.secs.length = n -> D3.off = false -> Cln room c' D3 -> Std room D3 T' l' N')
theorem qLb.between {w : World} {B : TB} {T : TM} {D : Dsk} {k : Nat} {l : List KV} {N : Nat} (h : qLb w B T D k l N) : qEe B.room D.secs.length l l D :=
 ⟨_, _, T, T, N, N, .inl (qLp h.on h.std.clear), fun _ hl h3 hc => qLg h.std h.on hl h3 hc, fun _ hl h3 hc => qLg h.std h.on hl h3 hc⟩
def CApp (w : World) (B : TB) (T : TM) (D : Dsk) (k : Nat) (l : List KV) (N : Nat) (cs : List Cg) (e : Ending) (w' : World) : Prop :=
 (chkF [] cs ≠ 0 /\ e = .returned (.int .i64 (chkF [] cs)) /\ qLb w' B T D k l N /\ Mod (fun _ => False) w w') ∨
 (chkF [] cs = 0 /\ e = .returned (.int .i64 0) /\ ∃ (T' : TM) (D' : Dsk) (N' : Nat), qLb w' B T' D' (k + 1002) (chgs cs l) N' /\ D'.secs.length = D.secs.length /\ Mod (TS B) w w') ∨
 (chkF [] cs = 0 /\ e = .returned (.int .i64 12) /\ ∃ D' : Dsk, qAo (TS B) w' B T D' true /\ D'.off = true /\ Bud D' (k + 1002) /\ D'.secs.length = D.secs.length /\ qEe B.room D.secs.length l (chgs cs l) D' /\ Mod (TS B) w w')
theorem qTa {D : Dsk} {k room : Nat} {T : TM} {l : List KV} {N : Nat} (hL : Bud D k) (hs : Std room D T l N) (cs : List Cg) (hc : ∀ c ∈ cs, CgOk c) (hn : cs.length <= 1048576) :
  ∃ (W' : WM) (N' : Nat), allM T (jlen room D : Int) 70 cs T.begin = some W' /\ WI T 250 W' (chgs cs l) 26 N' /\ (W'.full = true -> (jlen room D : Int) <= (N : Int) + 8 * cs.length) /\ (W'.full = false -> W'.next <= (jlen room D : Int)) /\ W'.next <= 16384 + 32 * cs.length ∧
   ∀ (ls : List Chg) (ln : List (Int × NP)) (la : List (Int × Int)), Laid W' ls ln la -> W'.full = false -> ls.length <= 21 * cs.length + 1 := by
 have hj : jlen room D <= 16384 := by have := hL.n; unfold jlen; omega
 have hnx := hs.next; obtain ⟨W', N', h1, h2, h3⟩ := qSq (L := (jlen room D : Int)) cs hc hs.ti (by omega)
 have hb : T.begin.next = T.next := rfl; obtain ⟨q1, q2⟩ := h3.sharp rfl (by rw [hb]; exact hnx) (by omega)
 refine ⟨W', N', h1, h2, q1, fun hf => (q2 hf).1, by have := h3.hi; rw [hb] at this; omega, fun ls ln la hlaid hf => ?_⟩
 obtain ⟨_, _, X, x1, x2⟩ := q2 hf; have hlo : qHc W' ls := by
  obtain ⟨_, _, h3⟩ := h2; rcases h3 with ⟨_, _, _, F, hA⟩ | ⟨ht, t, F, hR, _⟩
  ·exact qDh hA hlaid
  ·exact qDh hR.acc hlaid
 have h4 := qJv hlo (X := X) (fun y hy => (x2 y hy).resolve_right (fun h => h.elim (fun h => h rfl) (fun h => h rfl)))
 omega
theorem jCb {w : World} {B : TB} {T : TM} {D : Dsk} {k : Nat} {l : List KV} {N : Nat} (h : qLb w B T D k l N) (hk0 : k <= 1152921504606846976) {a : Option Addr} (cap : Nat) {cs : List Cg} (hc : Lies w 3 ccs a cs) (hcl : cs.length <= 1048576) (hs : ∀ c ∈ cs, c.key.size <= maxLen /\ c.value.size <= maxLen)
  (hfull : (N : Int) + 8 * cs.length < (jlen B.room D : Int)) (hbig : 21 * cs.length + 1 <= B.room) :
  Calls Tryz.prog 15 #[.pointer (some ⟨B.tb, 0, none⟩), .slice a cs.length cap] w (CApp w B T D k l N cs) := by
 by_cases hchk : chkF [] cs = 0
 ·obtain ⟨W', N', h1, h2, h3, h4, h5, h6⟩ := qTa h.b h.std cs (fun c hc => qFu hchk c hc) hcl
  obtain ⟨r1, r2, r3, r4, r5, r6, r7⟩ := h2.rng; have ht := h.std.ti.rng; have hj : jlen B.room D <= 16384 := by have := h.b.n; unfold jlen; omega
  have hnx := h.std.next; have hr := h.std.r2; obtain ⟨t1, t2, t3, t4, _⟩ := ht; have e1 : T.begin.count = T.count := rfl; have e2 : T.begin.next = T.next := rfl; rw [e1, e2] at t4; rw [e2] at t2; refine (qWl h.tree cap hc (by omega) hs hchk h1 (by omega) (by omega) (by omega) (fun x hx => by have := r5 x hx; omega) (fun x y hy => by have := r6 x y hy; omega) (fun ls hnd hls => ?_) h.b hk0 h.ne).mono (fun e w' ha => ?_)
  ·have q1 := qFo (m := (List.range W'.next.toNat).map (fun i : Nat => (i : Int))) hnd (fun x hx => by
    have := r5 x (hls x hx); exact List.mem_map.2 ⟨x.toNat, List.mem_range.2 (by omega), by omega⟩)
   rw [List.length_map, List.length_range] at q1; omega
  ·obtain ⟨ls, ln, la, hlaid, hh⟩ := ha; rcases hh with ⟨a1, rfl, a3, a4⟩ | ⟨a1, a2, rfl, a3, a4⟩ | ⟨a1, a2, a3, rfl, a4, a5⟩ | ⟨a1, a2, a3, a4, rfl, a5, a6⟩ | ⟨a1, a2, a3, a4, rfl, a6, a7⟩
   ·have := h3 a1; omega
   ·have := h6 ls ln la hlaid a1; omega
   ·refine .inr (.inl ⟨hchk, rfl, T, D, N, ?_, rfl, a5.mono (fun _ _ e => e.elim)⟩)
    rw [a3]; exact ⟨a4, h.b.le (by omega), h.on, h.std, h.ne⟩
   ·obtain ⟨n1, n2, n3⟩ := qUu h.b h.on h.std h2 (h4 a1) hlaid; rcases qSe h.b.n hr h.b.s h.on (qLp h.on h.std.clear) ls (by omega) n2 n1 with ⟨_, z, _⟩ | ⟨z1, z2, z3⟩
    ·exact absurd z a4
    ·rw [z2] at a5; refine .inr (.inr ⟨hchk, by rw [z2], _, a5, z1, (h.b.commit B.room ls).le (by omega), qEb _ _ _, ⟨_, _, T, W'.done T, N, N', z3, fun _ hl h3 hc => qLg h.std h.on hl h3 hc, n3⟩, a6⟩)
   ·obtain ⟨n1, n2, n3⟩ := qUu h.b h.on h.std h2 (h4 a1) hlaid; rcases qSe h.b.n hr h.b.s h.on (qLp h.on h.std.clear) ls (by omega) n2 n1 with ⟨z1, z2, z3⟩ | ⟨_, z, _⟩
    ·exact .inr (.inl ⟨hchk, rfl, _, _, N', ⟨a6, (h.b.commit B.room ls).le (by omega), z1, n3 _ (qEb _ _ _) z1 z3, h.ne⟩, qEb _ _ _, a7⟩)
    ·rw [z] at a4; cases a4
 ·exact (qSr h.tree cap hc (by omega) hs hchk).mono (fun e w' ⟨he, hm⟩ => .inl ⟨hchk, he, h.ext hm, hm⟩)
theorem qYv {D : Dsk} {k room : Nat} {T : TM} {l : List KV} {N : Nat} (hb : Bud D k) (hoff : D.off = false) (hs : Std room D T l N) : (qCu room D 0).2 = 0 /\ qPh (qDc room D) (jlen room D) = some T := by
 have hj : jlen room D <= 16384 := by have := hb.n; unfold jlen; omega
 have hrg := hs.ti.rng; have hn1 : 1 <= T.next := hrg.2.1; have hnx := hs.next; refine ⟨qPc hoff (by omega) (by omega), ?_⟩
 have hN : N < 2 * 5 ^ 6 := by
  have h1 := hs.ti.spots; have h2 : (N : Int) <= T.next - 1 := h1.1; omega
 exact qMd (WI.high hs.ti 6 hN) (by omega) hs.next hj hs.dt (fun x => qIa hb x)
theorem qKo {D : Dsk} {k room n : Nat} {l l' : List KV} (hb : Bud D k) (hn : D.secs.length = n) (h0 : 0 < n) (hoff : D.off = false) (h : qEe room n l l' D) :
  (∃ (D2 : Dsk) (T2 : TM) (L : List KV) (N2 : Nat), qDm room D = (0, D2, some T2) /\ D2.off = false /\ D2.secs.length = n /\ Bud D2 (k + room + 1) /\ Std room D2 T2 L N2 /\ (L = l \/ L = l') /\ qEe room n l l' D2) ∨
  (∃ D2 : Dsk, qDm room D = (12, D2, none) /\ D2.off = true /\ D2.secs.length = n /\ Bud D2 (k + room + 1) /\ qEe room n l l' D2) := by
 obtain ⟨c, c', T, T', N, N', hi, f1, f2⟩ := h; have hl := jAd room D; have hbo := hb.open room; rcases jEm hb.n (by omega) hb.s hoff hi with ⟨z1, z2, z3⟩ | ⟨z1, z2, z3⟩
 ·obtain ⟨⟨E, D2⟩, hE⟩ : ∃ R, qBt room D = R := ⟨_, rfl⟩; rw [hE] at z1 z2 z3 hl hbo; simp only at z1 z2 z3 hl hbo; subst z1; have hi2 : Inv room c c' D2 := z3.elim .inl (fun h => .inr (.inr h))
  have go : ∀ (T2 : TM) (L : List KV) (N2 : Nat), Std room D2 T2 L N2 -> qDm room D = (0, D2, some T2) := fun T2 L N2 hs => by
   obtain ⟨q1, q2⟩ := qYv hbo z2 hs; unfold qDm; rw [hE]; simp only [ne_eq, not_true_eq_false, if_false]; rw [q1]; simp only [not_true_eq_false, if_false]; rw [q2]
  rcases z3 with z | z
  ·have hs := f1 D2 (by omega) z2 z
   exact .inl ⟨D2, T, l, N, go _ _ _ hs, z2, by omega, hbo, hs, .inl rfl, ⟨c, c', T, T', N, N', hi2, f1, f2⟩⟩
  ·have hs := f2 D2 (by omega) z2 z
   exact .inl ⟨D2, T', l', N', go _ _ _ hs, z2, by omega, hbo, hs, .inr rfl, ⟨c, c', T, T', N, N', hi2, f1, f2⟩⟩
 ·refine .inr ⟨(qBt room D).2, ?_, z2, by omega, hbo, ⟨c, c', T, T', N, N', z3, f1, f2⟩⟩
  unfold qDm; rw [z1, if_pos (by decide)]
theorem Bud.cut {D : Dsk} {k : Nat} (h : Bud D k) (n : Int) : Bud (D.cut n) k :=
 ⟨h.n, h.w0, h.w1, h.h0, h.h1, by show (0 : Int) <= max 0 (min n 1152921504606846976) + 1; omega, by show max 0 (min n 1152921504606846976) + 1 <= 4611686018427387904; omega, h.s⟩
theorem Bud.start {D : Dsk} {k : Nat} (h : Bud D k) : Bud { D with off := false, left := 0 } k :=
 ⟨h.n, h.w0, h.w1, h.h0, h.h1, Int.le_refl _, by show (0 : Int) <= 4611686018427387904; decide, h.s⟩
theorem qEe.same {room n : Nat} {l l' : List KV} {D D' : Dsk} (h : qEe room n l l' D) (hs : D'.secs = D.secs) : qEe room n l l' D' := by
 obtain ⟨c, c', T, T', N, N', hi, f1, f2⟩ := h; exact ⟨c, c', T, T', N, N', hi.same hs, f1, f2⟩
end
section
open Go Go.RowKit
theorem qRg {D : Dsk} {k room : Nat} (h : Lit D k) (h0 : 0 < D.secs.length) (he : (qBt room D).1 = 0) : Lit (qBt room D).2 (k + room + 1) := by
 have hr : qCz D 0 = (sec D 0, 0) := h.read 0 h0; have e : qBt room D = qTn room D (numF room (jlen room D) (sec D 0)) := by
  unfold qBt; rw [hr]; rfl
 rw [e] at he ⊢; cases hn : numF room (jlen room D) (sec D 0) with
 | none => rw [hn] at he; exact absurd he (show ¬ (32 : Int) = 0 by decide)
 | some l =>
  obtain ⟨n1, n2, n3⟩ := qMi hn; cases l with
  | nil => exact h.le (by omega)
  | cons x r =>
   obtain ⟨_, f2, _⟩ := qMs room (x :: r) 0 k D h h0 (fun n hn => by have := n3 n hn; unfold jlen at this; omega) (by omega) n2
   exact Lit.le f2 (by omega)
theorem jAb {D : Dsk} {k room n : Nat} {l l' : List KV} (hL : Lit D k) (hn : D.secs.length = n) (h0 : 0 < n) (h : qEe room n l l' D) :
  ∃ (D2 : Dsk) (T2 : TM) (L : List KV) (N2 : Nat), qDm room D = (0, D2, some T2) /\ Lit D2 (k + room + 1) /\ Std room D2 T2 L N2 /\ (L = l \/ L = l') := by
 have hz : (qBt room D).2 = (qDm room D).2.1 := by
  unfold qDm; split
  ·rfl
  ·split
   ·rfl
   ·split <;> rfl
 rcases qKo hL.b hn h0 hL.off h with ⟨D2, T2, L, N2, h1, h2, _, _, h5, h6, _⟩ | ⟨D2, h1, h2, _⟩
 ·have e0 : (qBt room D).1 = 0 := by
   by_cases hc : (qBt room D).1 = 0
   ·exact hc
   ·exfalso
    unfold qDm at h1; rw [if_pos hc] at h1; have h9 := congrArg (·.2.2) h1; simp only at h9; cases h9
  have h8 := qRg hL (by omega) e0
  rw [hz, h1] at h8; exact ⟨D2, T2, L, N2, h1, h8, h5, h6⟩
 ·exfalso
  have e0 : (qBt room D).1 = 12 := by
   by_cases hc : (qBt room D).1 = 0
   ·exfalso
    have h8 := qRg hL (by omega) hc
    rw [hz, h1] at h8; rw [h8.off] at h2; cases h2
   ·unfold qDm at h1; rw [if_pos hc] at h1; exact congrArg (·.1) h1
  have hr : qCz D 0 = (sec D 0, 0) := hL.read 0 (by omega)
  have e : qBt room D = qTn room D (numF room (jlen room D) (sec D 0)) := by
   unfold qBt; rw [hr]; rfl
  rw [e] at e0; cases hn2 : numF room (jlen room D) (sec D 0) with
  | none => rw [hn2] at e0; exact absurd e0 (show ¬ (32 : Int) = 12 by decide)
  | some m =>
   rw [hn2] at e0; obtain ⟨n1, n2, n3⟩ := qMi hn2; cases m with
   | nil => exact absurd e0 (show ¬ (0 : Int) = 12 by decide)
   | cons x r =>
    obtain ⟨f1, _⟩ := qMs room (x :: r) 0 k D hL (by omega) (fun n hn => by have := n3 n hn; unfold jlen at this; omega) (by omega) n2
    have e1 : (finF room 0 (x :: r) D).1 = 12 := e0; rw [f1] at e1; exact absurd e1 (by decide)
end
end Go.Proofs.YtgbcibdfeeiilaaGreatDoor
