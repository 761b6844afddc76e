/- merged: RwX RoA RoAll -/
import Derived.Test.YtkinkgbmlhiakaaGreatDoorNc15
import Derived.Test.YtkinkgbmlhiakaaGreatDoorNc31
import Derived.Test.YtkinkgbmlhiakaaGreatDoorNc14
import Derived.Test.YtkinkgbmlhiakaaGreatDoorNc13
namespace Go.Proofs.YtkinkgbmlhiakaaGreatDoor
section
open Go Go.RowKit
theorem jHl : (Tryz.prog.info? 46).map (fun i => (i.zero, i.size, i.bytes)) = some (some (.agg #[.int .i64 0, .string ⟨#[]⟩]), 2, 24) := by kernel_rfl
theorem qKl {a b : ByteArray} (h : a.toList = b.toList) : a = b := by
 rw [ByteArray.toList_eq, ByteArray.toList_eq] at h; exact qLw h
def qMd (w : World) (name : Int) (cols : List Int) (keys idx : Int) (ks vs : ByteArray) (e : Ending) (w' : World) : Prop :=
 Mod (fun _ => False) w w' /\ ((∃ r la cap, qEs name cols keys idx ks vs r /\ r.length = cols.length /\ (∀ v ∈ r, v.Ok /\ v.s.size <= 4194304) /\ e = .returned (.tuple #[.slice la r.length cap, .int .i64 0]) /\ Lies w' 2 Vl.cs la r /\ ∀ b, blk la b -> w.heap.size <= b) ∨
  ((∀ r, ¬ qEs name cols keys idx ks vs r) /\ e = .returned (.tuple #[.slice none 0 0, .int .i64 60])))
theorem qHq {w w' : World} {name : Int} {cols : List Int} {keys idx : Int} {ks vs : ByteArray} (hm : Mod (fun _ => False) w w') (h : ∀ r, ¬ qEs name cols keys idx ks vs r) : qMd w name cols keys idx ks vs (.returned (.tuple #[.slice none 0 0, .int .i64 60])) w' := ⟨hm, .inr ⟨h, rfl⟩⟩
structure DLoop (C wr : World) (cols : List Int) (K : Nat) (ks vs : ByteArray) (k : Nat) (la : Option Addr) (cap : Nat) (done : List Vl) (a b : Nat) : Prop where
 own : Own wr 46 2 la k cap (done.flatMap Vl.cs)
 new : ∀ b, blk la b -> C.heap.size <= b
 mod : Mod (fun _ => False) C wr
 len : done.length = k
 at' : a <= ks.size
 rd : qEu K ks vs 0 cols 2 0 = (qEu K ks vs k (cols.drop k) a b).map (done ++ ·)
set_option maxRecDepth 100000
set_option maxHeartbeats 8000000 in
theorem qJq {w : World} {ca : Option Addr} {cols : List Int} (name keys idx : Int) (cc : Nat) (ks vs : ByteArray) (hl : Lies w 1 oneI ca cols) (hn : cols.length <= 4194304) (hks : ks.size <= 4194304) (hvs : vs.size <= 4194304) :
  Calls Tryz.prog 30 #[.agg #[.int .u8 name, .slice ca cols.length cc, .int .i64 keys, .int .i64 idx], .agg #[.string ks, .string vs]] w fun e w' => qMd w name cols keys idx ks vs e w' := by
 obtain ⟨i0, hi0, hz0, hz1, hz2⟩ := info_parts jHl; have hma : Mod (fun _ => False) w ((w.alloc (.cells #[.int .u8 name, .slice ca cols.length cc, .int .i64 keys, .int .i64 idx] 24)).alloc (.cells #[.string ks, .string vs] 41)) := ((Mod.refl _ _).alloc _).alloc _
 have hs1 : (w.alloc (.cells #[.int .u8 name, .slice ca cols.length cc, .int .i64 keys, .int .i64 idx] 24)).heap.size = w.heap.size + 1 := by simp
 have ha : ((w.alloc (.cells #[.int .u8 name, .slice ca cols.length cc, .int .i64 keys, .int .i64 idx] 24)).alloc (.cells #[.string ks, .string vs] 41)).heap[w.heap.size]? = some (.cells #[.int .u8 name, .slice ca cols.length cc, .int .i64 keys, .int .i64 idx] 24 (0, 0)) := by
  rw [Below.heap_alloc _ _ _ (by omega)]
  exact heap_alloc_new _ _
 have hb : ((w.alloc (.cells #[.int .u8 name, .slice ca cols.length cc, .int .i64 keys, .int .i64 idx] 24)).alloc (.cells #[.string ks, .string vs] 41)).heap[w.heap.size + 1]? = some (.cells #[.string ks, .string vs] 41 (0, 0)) := by
  rw [<- hs1]; exact heap_alloc_new _ _
 have HM := hid hma; have HA := hid ha; have HB := hid hb; have HL := hid hl; have HF := hid (qGv name keys idx cc (hl.ext hma) (by omega))
 clear hma hs1 ha hb hl; obtain ⟨b0, b1, b2, b3⟩ := row4 HA.out; obtain ⟨c0, c1, _, _⟩ := row2 HB.out; cases hfit : qDw name cols keys idx with
 | false =>
  have HN : Hid (∀ r, ¬ qEs name cols keys idx ks vs r) := hid (fun r h => by have := jHy h; rw [hfit] at this; cases this)
  rw [hfit] at HF; clear hfit; go_enter Tryz.func30, Tryz.ntmps30
  go_wp2_with (go_at_call 37; refine HF.out.mono ?_; rintro e w1 ⟨rfl, hm⟩; have HM1 := hid (HM.out.trans hm); clear hm)
  go_ret2; exact qHq HM1.out HN.out
 | true =>
  obtain ⟨i1, n1, n2, i2, i3, i4, i5⟩ := qGw hfit; obtain ⟨K, rfl⟩ : ∃ K : Nat, keys = (K : Int) := ⟨keys.toNat, by omega⟩
  rw [hfit] at HF; clear hfit i1; have HPx := hid (fun W : World => Tryz.strings_HasPrefix ks (ba (qAj name.toNat 0)) W)
  rw [qDs] at HPx; have HRow := hid (fun (W : World) (hm : Mod (fun _ => False) ((w.alloc (.cells #[.int .u8 name, .slice ca cols.length cc, .int .i64 (K : Int), .int .i64 idx] 24)).alloc (.cells #[.string ks, .string vs] 41)) W) => (fun x y => And.intro x y) (row4 ((hm.block _ (lth HA.out) (fun h => h)).trans HA.out)) (row2 ((hm.block _ (lth HB.out) (fun h => h)).trans HB.out)))
  have HCv : Hid (∀ W : World, (convert 128 9 (.slice (some ⟨W.heap.size, 0, none⟩) 2 2)).run Tryz.prog (W.alloc (.cells #[.int .u8 name, .int .u8 0] 5)) = .ok (.string (ba (qAj name.toNat 0))) (W.alloc (.cells #[.int .u8 name, .int .u8 0] 5))) := hid (fun W =>
   run_convert_bytes_back (P := Tryz.prog) _ 128 9 5 ⟨W.heap.size, 0, none⟩ 2 (qAj name.toNat 0) Tryz.underlying128 Tryz.underlying5 Tryz.underlying9 (fun j hj => by
    rw [Addr.add_lit, cell_of_row _ _ _ _ _ _ (heap_alloc_new _ _)]; have : j = 0 \/ j = 1 := by simp [qAj] at hj; omega
    rcases this with rfl | rfl
    ·simp [qAj]; omega
    ·simp [qAj]))
  cases hpre : Lib.hasPrefix ks.data.toList (qAj name.toNat 0) with
  | false =>
   have HN : Hid (∀ r, ¬ qEs name cols (K : Int) idx ks vs r) := hid (fun r h => by have := qWh h; rw [hpre] at this; cases this)
   rw [hpre] at HPx; clear hpre; go_enter Tryz.func30, Tryz.ntmps30
   go_wp2_with (first | (go_at_call 37; refine HF.out.mono ?_; rintro e w1 ⟨rfl, hm⟩; have HM1 := hid (HM.out.trans hm); clear b0 b1 b2 b3 c0 c1; obtain ⟨⟨b0, b1, b2, b3⟩, c0, c1, _, _⟩ := HRow.out w1 hm; have hcv := HCv.out w1; clear hm) | (go_at_call 54; refine (HPx.out _).mono ?_; rintro e w2 ⟨rfl, rfl⟩))
   go_ret2; exact qHq (HM1.out.alloc _) HN.out
  | true =>
   rw [hpre] at HPx; have h2 : 2 <= ks.size := qVq hpre; clear hpre; go_enter Tryz.func30, Tryz.ntmps30
   go_upto_region 5 with (first | (go_at_call 37; refine HF.out.mono ?_; rintro e w1 ⟨rfl, hm⟩; have HM1 := hid hm; clear b0 b1 b2 b3 c0 c1; obtain ⟨⟨b0, b1, b2, b3⟩, c0, c1, _, _⟩ := HRow.out w1 hm; have hcv := HCv.out w1; clear hm) | (go_at_call 54; refine (HPx.out _).mono ?_; rintro e w2 ⟨rfl, rfl⟩))
   obtain ⟨C, hC⟩ : ∃ C, ((w.alloc (.cells #[.int .u8 name, .slice ca cols.length cc, .int .i64 (K : Int), .int .i64 idx] 24)).alloc (.cells #[.string ks, .string vs] 41)) = C := ⟨_, rfl⟩; rw [hC] at HM HA HB HM1 HRow; clear hC HF b0 b1 b2 b3 c0 c1 hcv; have HMV := hid (HM1.out.alloc (.cells #[.int .u8 name, .int .u8 0] 5)); generalize w1.alloc (.cells #[.int .u8 name, .int .u8 0] 5) = V at *; obtain ⟨⟨b0, b1, b2, b3⟩, c0, c1, _, _⟩ := HRow.out V HMV.out; go_wp2_with fail
   clear b0 b1 b2 b3 c0 c1; go_loopw [6, 7, 8, 31] (fun so sa sb sc wr => ∃ (k : Nat) (la : Option Addr) (cap : Nat) (done : List Vl) (a b : Nat), k <= cols.length /\ so = .slice la k cap /\ sa = .int .i64 (a : Int) /\ sb = .int .i64 (b : Int) /\ sc = .int .i64 (k : Int) /\ DLoop C wr cols K ks vs k la cap done a b) (fun _ _ _ sc _ => cols.length - (intOf sc).toNat)
   case atStart => exact ⟨0, none, 0, [], 2, 0, Nat.zero_le _, rfl, rfl, rfl, rfl, ⟨Own.nil _ _ _, (fun k hk => (qAm k hk).elim), HMV.out, rfl, h2, by simp⟩⟩
   case round =>
    obtain ⟨k, la, cap, done, a, b, hk, rfl, rfl, rfl, rfl, hd⟩ := hrel; have HD := hid hd; clear hd; obtain ⟨⟨b0, b1, b2, b3⟩, c0, c1, _, _⟩ := HRow.out wr HD.out.mod; by_cases hlt : k < cols.length
    case neg =>
     have hke : k = cols.length := by omega
     subst hke; have hrd : qEu K ks vs 0 cols 2 0 = some done := by rw [HD.out.rd, List.drop_length]; unfold qEu; simp
     obtain ⟨hdl, hdo⟩ := qNv hks hvs (by decide) cols 0 2 0 done hrd
     obtain ⟨z1, z2⟩ := qFu hn (fun v hv => (hdo v hv).1) (fun v hv => (hdo v hv).2)
     have HOw := hid HD.out.own; have hlen := HD.out.len; have HE := hid (qOr (w := wr) name (K : Int) idx cc cap ((HL.out.ext HM.out).ext HD.out.mod) (by have := HOw.out; rw [<- hdl] at this; exact this.lies) (by omega) (by omega) (fun v hv => (hdo v hv).1) z1 z2)
     rw [hdl] at HE; have HRd := hid hrd; have HDo := hid hdo; have HDl := hid hdl; clear hrd hdo hlen hdl z1 z2; cases hP : qDn name cols (K : Int) idx done with
     | none =>
      have HN : Hid (∀ r, ¬ qEs name cols (K : Int) idx ks vs r) := hid (fun r h => by
       have h1 := h.1; rw [Int.toNat_natCast, HRd.out] at h1; cases h1
       obtain ⟨p, hp, _⟩ := h.2; rw [hP] at hp; cases hp)
      rw [hP, show qOs none = .tuple #[.agg #[.string ⟨#[]⟩, .string ⟨#[]⟩], .int .i64 60] from rfl] at HE
      clear hP; go_wp2_with (go_at_call 19; refine HE.out.mono ?_; rintro e w5 ⟨rfl, hm5⟩; have HM5 := hid hm5; clear hm5)
      go_ret2; exact qHq ((HM.out.trans (HD.out.mod.trans HM5.out)).alloc _) HN.out
     | some p =>
      have HP := hid hP; rw [hP, show qOs (some p) = .tuple #[.agg #[.string (ba p.k), .string (ba p.v)], .int .i64 0] from rfl] at HE
      clear hP; go_upto_region 18 with (go_at_call 19; refine HE.out.mono ?_; rintro e w5 ⟨rfl, hm5⟩; have HM5 := hid hm5; clear hm5)
      have HM6 := hid (HM5.out.alloc (.cells #[.string (ba p.k), .string (ba p.v)] 41)); have hnew : (w5.alloc (.cells #[.string (ba p.k), .string (ba p.v)] 41)).heap[w5.heap.size]? = some (.cells #[.string (ba p.k), .string (ba p.v)] 41 (0, 0)) := heap_alloc_new _ _; obtain ⟨d0, d1, _, _⟩ := row2 hnew; clear b0 b1 b2 b3 c0 c1 hnew; obtain ⟨⟨b0, b1, b2, b3⟩, c0, c1, _, _⟩ := HRow.out _ (HD.out.mod.trans HM6.out); generalize w5.alloc (.cells #[.string (ba p.k), .string (ba p.v)] 41) = V6 at *; have HBad : Hid ((¬ (ba p.k = ks /\ ba p.v = vs)) -> ∀ r, ¬ qEs name cols (K : Int) idx ks vs r) := hid (fun hne r h => by
       have h1 := h.1; rw [Int.toNat_natCast, HRd.out] at h1; cases h1
       obtain ⟨p', hp, h2, h3⟩ := h.2; rw [HP.out] at hp; cases hp
       exact hne ⟨h2, h3⟩)
      by_cases e1 : (ba p.k).toList = ks.toList
      case neg =>
       have HN := hid (HBad.out (fun h => e1 (by rw [h.1])))
       go_wp2_with fail
       go_ret2; exact qHq (HM.out.trans (HD.out.mod.trans HM6.out)) HN.out
      case pos =>
       by_cases e2 : (ba p.v).toList = vs.toList
       case neg =>
        have HN := hid (HBad.out (fun h => e2 (by rw [h.2])))
        go_wp2_with fail
        go_ret2; exact qHq (HM.out.trans (HD.out.mod.trans HM6.out)) HN.out
       case pos =>
        have HY : Hid (qEs name cols (K : Int) idx ks vs done) := hid ⟨by rw [Int.toNat_natCast]; exact HRd.out, p, HP.out, qKl e1, qKl e2⟩
        go_wp2_with fail
        go_ret2; refine ⟨HM.out.trans (HD.out.mod.trans HM6.out), .inl ⟨done, la, cap, HY.out, HDl.out, HDo.out, by rw [HDl.out]; rfl, ?_, fun b hb => by have := HD.out.new b hb; have := HM.out.size; omega⟩⟩
        have hown := HOw.out; rw [<- HDl.out] at hown; exact hown.lies.ext HM6.out
    case pos =>
     obtain ⟨c, hc⟩ : ∃ c, cols[k]? = some c := ⟨_, List.getElem?_eq_getElem hlt⟩; have HDr : Hid (cols.drop k = c :: cols.drop (k + 1)) := hid (by rw [List.drop_eq_getElem_cons hlt]; rw [List.getElem?_eq_getElem hlt] at hc; cases hc; rfl)
     have hlc := (HL.out.ext HM.out).ext HD.out.mod; obtain ⟨g, off, rfl⟩ := hlc.some (by omega)
     have q0 := hlc.cell qDb hc (j := 0) rfl; rw [Nat.add_zero, Nat.mul_one] at q0; have HRd := hid HD.out.rd; rw [HDr.out] at HRd; have hVA : Mod (fun _ => False) wr (wr.alloc (.cells #[.int .i64 0, .string ⟨#[]⟩] 46)) := (Mod.refl _ _).alloc _
     have HVA := hid hVA; have HVb : Hid ((wr.alloc (.cells #[.int .i64 0, .string ⟨#[]⟩] 46)).heap[wr.heap.size]? = some (.cells #[.int .i64 0, .string ⟨#[]⟩] 46 (0, 0))) := hid (heap_alloc_new _ _); clear hlc hc hVA; by_cases hkK : k < K
     case pos =>
      have dk : decide (k < K) = true := by rw [decide_eq_true_iff]; exact hkK
      have HU := hid (fun W : World => qVf c ks a W (by omega) HD.out.at')
      have HNx := hid (qYm HRd.out hkK); have HUo := hid (qPh c ks a (by omega))
      obtain ⟨⟨x0, x1, x2, x3⟩, y0, y1, _, _⟩ := HRow.out _ (HD.out.mod.trans HVA.out); go_upto_region 11 with fail
      clear b0 b1 b2 b3 q0 c0 c1; generalize wr.alloc (.cells #[.int .i64 0, .string ⟨#[]⟩] 46) = VA at *; generalize qBy c ks a = x at *; obtain ⟨⟨n, t⟩, nx, ok⟩ := x; have hrv : rvV ⟨⟨n, t⟩, nx, ok⟩ = .tuple #[.agg #[.int .i64 n, .string t], .int .i64 (nx : Int), .bool ok] := rfl; rw [hrv] at HU; have HX := hid (fun (W : World) (hm : Mod (fun _ => False) VA W) => row2 ((hm.block _ (lth HVb.out) (fun h => h)).trans HVb.out))
      clear hrv; go_upto_region 13 with (go_at_call 58; refine (HU.out _).mono ?_; rintro e w5 ⟨rfl, hm5⟩; have HM5 := hid hm5; clear hm5; obtain ⟨d0, d1, f0, f1⟩ := HX.out w5 HM5.out)
      have hZ : (((w5.setCell ⟨wr.heap.size, 0, none⟩ (.int .i64 n)).setCell ⟨wr.heap.size, 1, none⟩ (.string t)).heap[wr.heap.size]? = some (.cells #[.int .i64 n, .string t] 46 (0, 0))) := (set2 (set2 ((HM5.out.block _ (lth HVb.out) (fun h => h)).trans HVb.out) (.int .i64 n)).1 (.string t)).2
      have HMZ : Hid (Mod (fun j => wr.heap.size <= j) wr ((w5.setCell ⟨wr.heap.size, 0, none⟩ (.int .i64 n)).setCell ⟨wr.heap.size, 1, none⟩ (.string t))) := hid (Mod.setCell (S := fun j => wr.heap.size <= j) (p := ⟨wr.heap.size, 1, none⟩) (Mod.setCell (S := fun j => wr.heap.size <= j) (p := ⟨wr.heap.size, 0, none⟩) ((HVA.out.trans HM5.out).mono (fun _ _ h => h.elim)) (fun _ => Nat.le_refl _) _) (fun _ => Nat.le_refl _) _)
      clear d0 d1 f0 f1 x0 x1 x2 x3 y0 y1; generalize (w5.setCell ⟨wr.heap.size, 0, none⟩ (.int .i64 n)).setCell ⟨wr.heap.size, 1, none⟩ (.string t) = Z at *; have HMCZ := hid (HD.out.mod.then HMZ.out (fun i hi h => by have := HD.out.mod.size; omega))
      have HZ := hid hZ; clear hZ; cases ok with
      | false =>
       have HN : Hid (∀ r, ¬ qEs name cols (K : Int) idx ks vs r) := hid (fun r h => by
        have h1 := h.1; rw [Int.toNat_natCast, HNx.out.2 (by trivial)] at h1
        cases h1)
       go_wp2_with fail
       go_ret2; exact qHq (HM.out.trans HMCZ.out) HN.out
      | true =>
       obtain ⟨d0, d1, _, _⟩ := row2 HZ.out; have HRn := hid (HNx.out.1 (by trivial))
       have HOz := hid (HD.out.own.mod HMZ.out (fun j hj h => by have := HD.out.own.lt j hj; omega))
       have HOa := hid (HOz.out.mod (S := fun _ => False) ((Mod.refl _ _).alloc (.cells #[.int .i64 n, .string t] 46)) (fun _ _ h => h))
       have HSa : Hid (Src (Z.alloc (.cells #[.int .i64 n, .string t] 46)) 2 (some ⟨Z.heap.size, 0, none⟩) 1 [.int .i64 n, .string t]) := hid (qBp (heap_alloc_new _ _) rfl); have HMa := hid (HMCZ.out.alloc (.cells #[.int .i64 n, .string t] 46)); clear HU HNx
       go_wp2_with (at_builtin; refine qAe rfl (.tmp 60) (.tmp 62) 26 rfl 46 i0 _ 2 24 Tryz.underlying26 hi0 hz0 hz1 hz2 rfl la k cap _ rfl HOa.out (some ⟨Z.heap.size, 0, none⟩) 1 1 _ rfl HSa.out (by intro u hu; simp at hu; rcases hu with rfl | rfl <;> rfl) (by unfold maxLen; omega) (by omega) ?_; intro la' cap' w6 hown6 hm6 hb6 hn6 hr6; have HO6 := hid hown6; have HM6 := hid hm6; have HB6 := hid hb6; clear hown6 hm6 hb6 hn6 hr6 d0 d1)
       go_roundw
       case rel =>
        refine ⟨k + 1, la', cap', done ++ [⟨n, t⟩], nx, b, by omega, rfl, rfl, rfl, by go_num, ⟨?_, fun j hj => ?_, ?_, by rw [List.length_append, HD.out.len]; rfl, HUo.out.2.2 (by trivial) HD.out.at', HRn.out⟩⟩
        ·have := HO6.out; rw [List.flatMap_append]
         simpa [Vl.cs] using this
        ·rcases HB6.out j hj with h | h
         ·exact HD.out.new j h
         ·have := HMa.out.size; omega
        ·exact HMa.out.then HM6.out (fun i hi h => by have := HD.out.new i h; omega)
       case measure => simp [intOf]; omega
     case neg =>
      have dk : decide (k < K) = false := by rw [decide_eq_false_iff_not]; exact hkK
      have HU := hid (fun W : World => qVd c vs b W (by unfold maxLen; omega))
      have HNx := hid (qYl HRd.out hkK); have HUo := hid (qPg c vs b (by omega))
      obtain ⟨⟨x0, x1, x2, x3⟩, y0, y1, _, _⟩ := HRow.out _ (HD.out.mod.trans HVA.out); go_upto_region 12 with fail
      clear b0 b1 b2 b3 q0 c0 c1; generalize wr.alloc (.cells #[.int .i64 0, .string ⟨#[]⟩] 46) = VA at *; generalize qCo c vs b = x at *; obtain ⟨⟨n, t⟩, nx, ok⟩ := x; have hrv : rvV ⟨⟨n, t⟩, nx, ok⟩ = .tuple #[.agg #[.int .i64 n, .string t], .int .i64 (nx : Int), .bool ok] := rfl; rw [hrv] at HU; have HX := hid (fun (W : World) (hm : Mod (fun _ => False) VA W) => row2 ((hm.block _ (lth HVb.out) (fun h => h)).trans HVb.out))
      clear hrv; go_upto_region 13 with (go_at_call 59; refine (HU.out _).mono ?_; rintro e w5 ⟨rfl, hm5⟩; have HM5 := hid hm5; clear hm5; obtain ⟨d0, d1, f0, f1⟩ := HX.out w5 HM5.out)
      have hZ : (((w5.setCell ⟨wr.heap.size, 0, none⟩ (.int .i64 n)).setCell ⟨wr.heap.size, 1, none⟩ (.string t)).heap[wr.heap.size]? = some (.cells #[.int .i64 n, .string t] 46 (0, 0))) := (set2 (set2 ((HM5.out.block _ (lth HVb.out) (fun h => h)).trans HVb.out) (.int .i64 n)).1 (.string t)).2
      have HMZ : Hid (Mod (fun j => wr.heap.size <= j) wr ((w5.setCell ⟨wr.heap.size, 0, none⟩ (.int .i64 n)).setCell ⟨wr.heap.size, 1, none⟩ (.string t))) := hid (Mod.setCell (S := fun j => wr.heap.size <= j) (p := ⟨wr.heap.size, 1, none⟩) (Mod.setCell (S := fun j => wr.heap.size <= j) (p := ⟨wr.heap.size, 0, none⟩) ((HVA.out.trans HM5.out).mono (fun _ _ h => h.elim)) (fun _ => Nat.le_refl _) _) (fun _ => Nat.le_refl _) _)
      clear d0 d1 f0 f1 x0 x1 x2 x3 y0 y1; generalize (w5.setCell ⟨wr.heap.size, 0, none⟩ (.int .i64 n)).setCell ⟨wr.heap.size, 1, none⟩ (.string t) = Z at *; have HMCZ := hid (HD.out.mod.then HMZ.out (fun i hi h => by have := HD.out.mod.size; omega))
      have HZ := hid hZ; clear hZ; cases ok with
      | false =>
       have HN : Hid (∀ r, ¬ qEs name cols (K : Int) idx ks vs r) := hid (fun r h => by
        have h1 := h.1; rw [Int.toNat_natCast, HNx.out.2 (by trivial)] at h1
        cases h1)
       go_wp2_with fail
       go_ret2; exact qHq (HM.out.trans HMCZ.out) HN.out
      | true =>
       obtain ⟨d0, d1, _, _⟩ := row2 HZ.out; have HRn := hid (HNx.out.1 (by trivial))
       have HOz := hid (HD.out.own.mod HMZ.out (fun j hj h => by have := HD.out.own.lt j hj; omega))
       have HOa := hid (HOz.out.mod (S := fun _ => False) ((Mod.refl _ _).alloc (.cells #[.int .i64 n, .string t] 46)) (fun _ _ h => h))
       have HSa : Hid (Src (Z.alloc (.cells #[.int .i64 n, .string t] 46)) 2 (some ⟨Z.heap.size, 0, none⟩) 1 [.int .i64 n, .string t]) := hid (qBp (heap_alloc_new _ _) rfl); have HMa := hid (HMCZ.out.alloc (.cells #[.int .i64 n, .string t] 46)); clear HU HNx
       go_wp2_with (at_builtin; refine qAe rfl (.tmp 60) (.tmp 62) 26 rfl 46 i0 _ 2 24 Tryz.underlying26 hi0 hz0 hz1 hz2 rfl la k cap _ rfl HOa.out (some ⟨Z.heap.size, 0, none⟩) 1 1 _ rfl HSa.out (by intro u hu; simp at hu; rcases hu with rfl | rfl <;> rfl) (by unfold maxLen; omega) (by omega) ?_; intro la' cap' w6 hown6 hm6 hb6 hn6 hr6; have HO6 := hid hown6; have HM6 := hid hm6; have HB6 := hid hb6; clear hown6 hm6 hb6 hn6 hr6 d0 d1)
       go_roundw
       case rel =>
        refine ⟨k + 1, la', cap', done ++ [⟨n, t⟩], a, nx, by omega, rfl, rfl, rfl, by go_num, ⟨?_, fun j hj => ?_, ?_, by rw [List.length_append, HD.out.len]; rfl, HD.out.at', HRn.out⟩⟩
        ·have := HO6.out; rw [List.flatMap_append]
         simpa [Vl.cs] using this
        ·rcases HB6.out j hj with h | h
         ·exact HD.out.new j h
         ·have := HMa.out.size; omega
        ·exact HMa.out.then HM6.out (fun i hi h => by have := HD.out.new i h; omega)
       case measure => simp [intOf]; omega
end
section
open Go Go.RowKit
def idxQ {α : Type} (f : α -> Bool) (l : List α) : Int := match l.findIdx? f with
 | some k => (k : Int)
 | none => -1
theorem jEq {α : Type} {f : α -> Bool} {l : List α} {k : Nat} {x : α} (h : ∀ j y, j < k -> l[j]? = some y -> f y = false) (hx : l[k]? = some x) (hf : f x = true) : idxQ f l = (k : Int) := by
 obtain ⟨hlt, he⟩ := List.getElem?_eq_some_iff.1 hx; have : l.findIdx? f = some k := by
  rw [List.findIdx?_eq_some_iff_getElem]; refine ⟨hlt, by rw [he]; exact hf, fun j hj => ?_⟩
  rw [h j l[j] hj (List.getElem?_eq_getElem _)]; simp
 unfold idxQ; rw [this]
theorem qZw {α : Type} {f : α -> Bool} {l : List α} (h : ∀ j y, j < l.length -> l[j]? = some y -> f y = false) : idxQ f l = -1 := by
 have : l.findIdx? f = none := by
  rw [List.findIdx?_eq_none_iff]; intro x hx; obtain ⟨j, hj⟩ := List.getElem?_of_mem hx; exact h j x (List.getElem?_eq_some_iff.1 hj).1 hj
 unfold idxQ; rw [this]
theorem qZv {α : Type} (f : α -> Bool) : ∀ l : List α, (idxQ (fun x => !f x) l = -1 /\ l.takeWhile f = l) \/ ∃ k, k <= l.length /\ idxQ (fun x => !f x) l = (k : Nat) /\ l.takeWhile f = l.take k := fun l => by
 unfold idxQ; cases h : l.findIdx? (fun x => !f x) with
 | none =>
  rw [List.findIdx?_eq_none_iff] at h; refine .inl ⟨rfl, ?_⟩; have : ∀ x ∈ l, f x = true := fun x hx => by simpa using h x hx
  clear h; induction l with
  | nil => rfl
  | cons x r ih => rw [List.takeWhile_cons_of_pos (this x List.mem_cons_self), ih (fun y hy => this y (List.mem_cons_of_mem _ hy))]
 | some k =>
  obtain ⟨hlt, hf, hj⟩ := List.findIdx?_eq_some_iff_getElem.1 h; refine .inr ⟨k, by omega, rfl, ?_⟩
  have h1 : ∀ j, j < k -> ∀ x, l[j]? = some x -> f x = true := fun j hjk x hx => by
   obtain ⟨hl, rfl⟩ := List.getElem?_eq_some_iff.1 hx
   simpa using hj j hjk
  have h2 : ∀ x, l[k]? = some x -> f x = false := fun x hx => by
   obtain ⟨hl, rfl⟩ := List.getElem?_eq_some_iff.1 hx
   simpa using hf
  clear h hf hj; induction l generalizing k with
  | nil => simp at hlt
  | cons x r ih =>
   cases k with
   | zero => rw [List.takeWhile_cons_of_neg (by rw [h2 x rfl]; simp)]; rfl
   | succ k =>
    rw [List.takeWhile_cons_of_pos (h1 0 (by omega) x rfl), List.take_succ_cons, ih k (by simpa using hlt) (fun j hj y hy => h1 (j + 1) (by omega) y hy) (fun y hy => h2 y hy)]
theorem qVx {α : Type} {w : World} {size : Nat} {f : α -> List Value} {a : Option Addr} {ls : List α} (hf : ∀ x, (f x).length = size) (h : Lies w size f a ls) (k : Nat) : Lies w size f a (ls.take k) := by
 have e := qQj hf ls k; refine ⟨⟨?_, fun ha => ?_, fun a' ha j u hu => ?_⟩, fun h0 => h.spot (by rw [List.length_take] at h0; omega), fun b hb hk => h.lt b (by rw [List.length_take] at hb; omega) hk⟩
 ·rw [qDf hf]
 ·have := h.src.2.1 ha; rw [List.length_take]; omega
 ·rw [<- e, List.getElem?_take] at hu; split at hu
  ·exact h.src.2.2 a' ha j u hu
  ·cases hu
theorem jGx (s : ByteArray) (p : KV) : Lib.hasPrefix p.1.data.toList s.data.toList = preB s p := rfl
set_option maxRecDepth 100000
theorem jBd {w : World} {b : Nat} {s : ByteArray} (hb : w.cell? ⟨b, 0, none⟩ = some (.string s)) (p : KV) : Calls Tryz.prog 79 #[.agg #[.string p.1, .string p.2], .pointer (some ⟨b, 0, none⟩)] w fun e w' => e = .returned (.bool (!preB s p)) /\ Mod (fun _ => False) w w' := by
 have hma : Mod (fun _ => False) w (w.alloc (.cells #[.string p.1, .string p.2] 41)) := (Mod.refl _ _).alloc _
 have HM := hid hma; have hb2 : (w.alloc (.cells #[.string p.1, .string p.2] 41)).cell? ⟨b, 0, none⟩ = some (.string s) := (⟨_, hma⟩ : Ext w).cell hb; have HPx := hid (fun W : World => Tryz.strings_HasPrefix p.1 s W)
 rw [jGx] at HPx; clear hma; cases hp : preB s p with
 | true =>
  rw [hp] at HPx; clear hp; go_enter Tryz.func79, Tryz.ntmps79
  go_wp2_with (go_at_call 54; refine (HPx.out _).mono ?_; rintro e w2 ⟨rfl, rfl⟩)
  go_ret; exact ⟨rfl, HM.out⟩
 | false =>
  rw [hp] at HPx; clear hp; go_enter Tryz.func79, Tryz.ntmps79
  go_wp2_with (go_at_call 54; refine (HPx.out _).mono ?_; rintro e w2 ⟨rfl, rfl⟩)
  go_ret; exact ⟨rfl, HM.out⟩
set_option maxHeartbeats 1000000 in
theorem qZx {w : World} {a : Option Addr} {l : List KV} (cap b : Nat) (p : KV -> Bool) (hl : Lies w 2 kcs a l) (hn : l.length <= 140737488351232)
  (hf : ∀ (w1 : World) (x : KV), Mod (fun _ => False) w w1 -> x ∈ l -> Calls Tryz.prog 79 #[.agg #[.string x.1, .string x.2], .pointer (some ⟨b, 0, none⟩)] w1 fun e w' => e = .returned (.bool (p x)) /\ Mod (fun _ => False) w1 w') :
  Calls Tryz.prog 78 #[.slice a l.length cap, .func (.func 79) #[] #[.pointer (some ⟨b, 0, none⟩)]] w fun e w' => e = .returned (.int .i64 (idxQ p l)) /\ Mod (fun _ => False) w w' := by
 have HL := hid hl; have HF := hid hf; clear hl hf; go_enter Tryz.func78, Tryz.ntmps78
 go_wp2
 go_loopw [8] (fun c wr => ∃ k : Nat, k <= l.length /\ c = .int .i64 (k : Int) /\ (∀ j y, j < k -> l[j]? = some y -> p y = false) /\ Mod (fun _ => False) w wr) (fun c _ => l.length - (intOf c).toNat)
 case atStart => exact ⟨0, Nat.zero_le _, rfl, (fun j y h => by omega), Mod.refl _ _⟩
 case round =>
  obtain ⟨k, hk, rfl, hno, hm⟩ := hrel; have HNo := hid hno; have HM := hid hm; clear hno hm; by_cases hlt : k < l.length
  ·obtain ⟨x, hx⟩ : ∃ x, l[k]? = some x := ⟨_, List.getElem?_eq_getElem hlt⟩; have hlc := HL.out.ext HM.out; obtain ⟨g, off, rfl⟩ := hlc.some (by omega)
   have q0 := hlc.cell qHn hx (j := 0) rfl; have q1 := hlc.cell qHn hx (j := 1) rfl; have HX := hid hx; have HC := hid (HF.out wr x HM.out (List.mem_of_getElem? hx)); clear hx hlc; rw [Nat.add_zero] at q0; go_wp2_with fail
   refine HC.out.mono ?_; rintro e w2 ⟨rfl, hm2⟩; have HM2 := hid hm2; clear hm2 q0 q1; cases hp : p x with
   | true =>
    have HV : Hid (idxQ p l = (k : Int)) := hid (jEq HNo.out HX.out hp); clear hp; go_wp2_with fail
    go_ret; exact ⟨by rw [HV.out]; rfl, HM.out.trans HM2.out⟩
   | false =>
    have HP := hid hp; clear hp; go_wp2_with fail
    go_roundw
    case rel =>
     refine ⟨k + 1, by omega, by go_num, fun j y hj hy => ?_, HM.out.trans HM2.out⟩
     by_cases hjk : j = k
     ·subst hjk; rw [HX.out] at hy; cases hy
      exact HP.out
     ·exact HNo.out j y (by omega) hy
    case measure => simp [intOf]; omega
  ·have hke : k = l.length := by omega
   subst hke; have HV : Hid (idxQ p l = -1) := hid (qZw HNo.out); go_wp2_with fail
   go_ret; exact ⟨by rw [HV.out]; rfl, HM.out⟩
def jBw (w : World) (L : List KV) (e : Ending) (w' : World) : Prop := ∃ la cap, e = .returned (.slice la L.length cap) /\ Lies w' 2 kcs la L /\ Mod (fun _ => False) w w'
set_option maxHeartbeats 2000000 in
theorem qNm {w : World} {B : TB} {T : TM} {D : Dsk} {k : Nat} {l : List KV} {N : Nat} (h : Here w B T D k l N) (s : ByteArray) :
  Calls Tryz.prog 38 #[.pointer (some ⟨B.tb, 0, none⟩), .string s] w (jBw w (l.filter (preB s))) := by
 have hll := h.len.1; have hma : Mod (fun _ => False) w (w.alloc (.cells #[.string s] 9)) := (Mod.refl _ _).alloc _
 have hbx : (w.alloc (.cells #[.string s] 9)).heap[w.heap.size]? = some (.cells #[.string s] 9 (0, 0)) := heap_alloc_new _ _; have HM := hid hma; have HBx := hid hbx; have HH := hid (h.ext hma); have HLn := hid (qUb HH.out); have hG : qRg l s (l.length : Int) = l.filter (geK s) := by
  unfold qRg; refine List.take_of_length_le ?_; have := List.length_filter_le (geK s) l; omega
 have HSc := hid (fun (W : World) (hm : Mod (fun _ => False) (w.alloc (.cells #[.string s] 9)) W) => (by have := jAb (HH.out.ext hm) s (l.length : Int); rw [hG] at this; exact this : Calls Tryz.prog 12 #[.pointer (some ⟨B.tb, 0, none⟩), .string s, .int .i64 (l.length : Int)] W (qMb W (l.filter (geK s)))))
 have hgl : (l.filter (geK s)).length <= 8388608 := by have := List.length_filter_le (geK s) l; omega
 have HBg := hid (jBo (s := s) h.std.ti.1.asc); have b0 : (w.alloc (.cells #[.string s] 9)).cell? ⟨w.heap.size, 0, none⟩ = some (.string s) := by rw [cell_of_row _ _ _ _ _ _ hbx]; rfl
 clear hma hbx hG h hll; generalize l.filter (geK s) = G at *; go_enter Tryz.func38, Tryz.ntmps38
 go_upto_region 1 with fail
 generalize w.alloc (.cells #[.string s] 9) = C at *; go_region_held3 (fun w' => w'.cell? ⟨w.heap.size, 0, none⟩ = some (.string s))
  (first | exact b0 | exact c0 | go_keep)
  (first
   | (go_at_call 77; (with_reducible refine (qUb (HH.out.ext (Mod.refl _ C).drew)).mono ?_); rintro e w1 ⟨rfl, rfl⟩)
   | (go_at_call 12; (with_reducible refine (HSc.out _ (Mod.refl _ C).drew).mono ?_); rintro e w2 ⟨xa, xc, rfl, ho, hb, hm2⟩; have hcap := ho.2.1; have HO := hid ho.lies; have HM2 : Hid (Mod (fun _ => False) C w2) := hid ((Mod.refl _ C).drew.trans hm2); have c0 : w2.cell? ⟨w.heap.size, 0, none⟩ = some (.string s) := (⟨_, HM2.out⟩ : Ext C).cell b0; clear ho hb hm2))
 all_goals
  have HI := hid (qZx (cap := xc) (b := w.heap.size) (p := fun x => !preB s x) HO.out (by omega) (fun w1 x hm _ => jBd ((⟨_, hm⟩ : Ext _).cell c0) x))
  have hk := qZv (preB s) G; rw [HBg.out] at hk; go_upto_region 3 with (go_at_call 78; refine HI.out.mono ?_; rintro e w3 ⟨rfl, hm3⟩; have HO3 := hid (HO.out.ext hm3); have HM3 := hid (HM.out.trans (HM2.out.trans hm3)); clear hm3)
  rcases hk with ⟨e1, e2⟩ | ⟨k, h1, e1, e2⟩
  ·rw [e1]; rw [<- e2] at HO3; have dl : decide ((-1 : Int) < 0) = true := rfl; go_wp2_with fail
   go_ret; exact ⟨xa, xc, by rw [e2]; rfl, HO3.out, HM3.out⟩
  ·rw [e1]; have dl : decide ((k : Int) < 0) = false := by simp
   have hkc : k <= xc := by omega
   have HF := hid (qVx qHn HO3.out k); rw [<- e2] at HF; go_wp2_with fail
   go_ret; exact ⟨xa, _, by rw [e2, List.length_take, Nat.min_eq_left h1]; rfl, HF.out, HM3.out⟩
end
section
open Go Go.RowKit
structure RwV where
 a : Option Addr
 cap : Nat
 vs : List Vl
abbrev RwV.c (x : RwV) : List Value := [.slice x.a x.vs.length x.cap]
theorem qYd (x : RwV) : x.c.length = 1 := rfl
theorem qZu : (Tryz.prog.info? 26).map (fun i => (i.zero, i.size, i.bytes)) = some (some (.slice none 0 0), 1, 24) := by kernel_rfl
structure qKe (w : World) (la : Option Addr) (xs : List RwV) : Prop where
 lies : Lies w 1 RwV.c la xs
 rows : ∀ x ∈ xs, Lies w 2 Vl.cs x.a x.vs
 ok : ∀ x ∈ xs, ∀ v ∈ x.vs, v.Ok /\ v.s.size <= 4194304
theorem qKe.ext {w w' : World} {la : Option Addr} {xs : List RwV} (h : qKe w la xs) (hm : Mod (fun _ => False) w w') : qKe w' la xs := ⟨h.lies.ext hm, fun x hx => (h.rows x hx).ext hm, h.ok⟩
def jKd (name : Int) (cols : List Int) (keys idx : Int) (L : List KV) (xs : List RwV) : Prop := xs.length = L.length /\ ∀ (i : Nat) (p : KV) (x : RwV), L[i]? = some p -> xs[i]? = some x -> qEs name cols keys idx p.1 p.2 x.vs /\ x.vs.length = cols.length
def jKe (w : World) (name : Int) (cols : List Int) (keys idx : Int) (L : List KV) (e : Ending) (w' : World) : Prop :=
 Mod (fun _ => False) w w' /\ ((∃ xs la cap, jKd name cols keys idx L xs /\ e = .returned (.tuple #[.slice la xs.length cap, .int .i64 0]) /\ qKe w' la xs) ∨
  ((∃ p ∈ L, ∀ r, ¬ qEs name cols keys idx p.1 p.2 r) /\ e = .returned (.tuple #[.slice none 0 0, .int .i64 60])))
structure jBx (v wr : World) (name : Int) (cols : List Int) (keys idx : Int) (L : List KV) (i : Nat) (oa : Option Addr) (oc : Nat) (xs : List RwV) : Prop where
 own : Own wr 26 1 oa i oc (xs.flatMap RwV.c)
 new : ∀ b, blk oa b -> v.heap.size <= b
 mod : Mod (fun _ => False) v wr
 len : xs.length = i
 dec : ∀ (j : Nat) (p : KV) (x : RwV), L[j]? = some p -> xs[j]? = some x -> qEs name cols keys idx p.1 p.2 x.vs /\ x.vs.length = cols.length
 rows : ∀ x ∈ xs, Lies wr 2 Vl.cs x.a x.vs
 apart : ∀ x ∈ xs, ∀ b, blk x.a b -> ¬ blk oa b
 ok : ∀ x ∈ xs, ∀ v ∈ x.vs, v.Ok /\ v.s.size <= 4194304
 ne : ∀ x ∈ xs, 0 < x.vs.length
theorem jBx.next {v wr z w4 w5 : World} {name : Int} {cols : List Int} {keys idx : Int} {L : List KV} {i : Nat} {oa oa' : Option Addr} {oc oc' : Nat} {xs : List RwV} (h : jBx v wr name cols keys idx L i oa oc xs) {p : KV} (hp : L[i]? = some p) {r : List Vl} {ra : Option Addr} {rc : Nat}
  (hd : qEs name cols keys idx p.1 p.2 r) (hl : r.length = cols.length) (hc : 1 <= cols.length) (hok : ∀ v ∈ r, v.Ok /\ v.s.size <= 4194304) (hm1 : Mod (fun _ => False) wr z) (hr : Lies w4 2 Vl.cs ra r) (hrn : ∀ b, blk ra b -> z.heap.size <= b) (hm2 : Mod (fun _ => False) z w4)
  (ho : Own w5 26 1 oa' (i + 1) oc' (xs.flatMap RwV.c ++ [.slice ra r.length rc])) (hm3 : Mod (blk oa) w4 w5) (hb : ∀ b, blk oa' b -> blk oa b \/ w4.heap.size <= b) : jBx v w5 name cols keys idx L (i + 1) oa' oc' (xs ++ [⟨ra, rc, r⟩]) := by
 have hlt : ∀ b, blk oa b -> b < wr.heap.size := h.own.lt; have hs1 := hm1.size; have hs2 := hm2.size; have hs0 := h.mod.size; have hrlt : ∀ b, blk ra b -> b < w4.heap.size := fun b hb => hr.lt b (by omega) hb
 have hxlt : ∀ x ∈ xs, ∀ b, blk x.a b -> b < wr.heap.size := fun x hx b hb => (h.rows x hx).lt b (h.ne x hx) hb
 refine ⟨by rw [List.flatMap_append]; exact ho, fun b hb' => ?_, ((h.mod.trans hm1).trans hm2).then hm3 (fun b hb' e => by have := h.new b e; omega), by rw [List.length_append, h.len]; rfl, fun j q x hq hx => ?_, fun x hx => ?_, fun x hx b hb' e => ?_, fun x hx => ?_, fun x hx => ?_⟩
 ·rcases hb b hb' with e | e
  ·exact h.new b e
  ·omega
 ·rw [List.getElem?_append] at hx; split at hx
  ·exact h.dec j q x hq hx
  ·rename_i hj
   have hlen := h.len; have hj2 : j = i := by
    have := (List.getElem?_eq_some_iff.1 hx).1; simp at this
    omega
   subst hj2; rw [hp] at hq; cases hq
   rw [hlen, Nat.sub_self] at hx; cases hx
   exact ⟨hd, hl⟩
 ·rcases List.mem_append.1 hx with hx | hx
  ·exact (((h.rows x hx).ext hm1).ext hm2).mod hm3 (fun _ b hb => h.apart x hx b hb)
  ·rw [List.mem_singleton] at hx; subst hx; exact hr.mod hm3 (fun _ b hb e => by have := hrn b hb; have := hlt b e; omega)
 ·rcases List.mem_append.1 hx with hx | hx
  ·rcases hb b e with e | e
   ·exact h.apart x hx b hb' e
   ·have := hxlt x hx b hb'; omega
  ·rw [List.mem_singleton] at hx; subst hx; have h1 := hrn b hb'; have h2 := hrlt b hb'; rcases hb b e with e | e
   ·have := hlt b e; omega
   ·omega
 ·rcases List.mem_append.1 hx with hx | hx
  ·exact h.ok x hx
  ·rw [List.mem_singleton] at hx; subst hx; exact hok
 ·rcases List.mem_append.1 hx with hx | hx
  ·exact h.ne x hx
  ·rw [List.mem_singleton] at hx; subst hx; show 0 < r.length; omega
theorem qMd.norm {w w' : World} {name : Int} {cols : List Int} {keys idx : Int} {ks vs : ByteArray} {e : Ending} (h : qMd w name cols keys idx ks vs e w') :
  ∃ (la : Option Addr) (n cap : Nat) (E : Int), e = .returned (.tuple #[.slice la n cap, .int .i64 E]) /\ Mod (fun _ => False) w w' ∧
   ((E = 0 /\ ∃ r : List Vl, r.length = n /\ qEs name cols keys idx ks vs r /\ r.length = cols.length /\ (∀ v ∈ r, v.Ok /\ v.s.size <= 4194304) /\ Lies w' 2 Vl.cs la r /\ ∀ b, blk la b -> w.heap.size <= b) \/ (E = 60 /\ ∀ r, ¬ qEs name cols keys idx ks vs r)) := by
 obtain ⟨hm, ⟨r, la, cap, h1, h2, h3, rfl, h4, h5⟩ | ⟨h1, rfl⟩⟩ := h
 ·exact ⟨la, r.length, cap, 0, rfl, hm, .inl ⟨rfl, r, rfl, h1, h2, h3, h4, h5⟩⟩
 ·exact ⟨none, 0, 0, 60, rfl, hm, .inr ⟨rfl, h1⟩⟩
set_option maxRecDepth 100000
theorem qQu {w : World} {ca : Option Addr} {cols : List Int} {name keys idx : Int} {cc : Nat} (x : Value) (hl : Lies w 1 oneI ca cols) (hn : cols.length <= 4194304) (hf : qDw name cols keys idx = false) :
  Calls Tryz.prog 14 #[x, .agg #[.int .u8 name, .slice ca cols.length cc, .int .i64 keys, .int .i64 idx]] w fun e w' => e = .returned (.tuple #[.slice none 0 0, .int .i64 60]) /\ Mod (fun _ => False) w w' := by
 have hma : Mod (fun _ => False) w (w.alloc (.cells #[.int .u8 name, .slice ca cols.length cc, .int .i64 keys, .int .i64 idx] 24)) := (Mod.refl _ _).alloc _
 have ha : (w.alloc (.cells #[.int .u8 name, .slice ca cols.length cc, .int .i64 keys, .int .i64 idx] 24)).heap[w.heap.size]? = some (.cells #[.int .u8 name, .slice ca cols.length cc, .int .i64 keys, .int .i64 idx] 24 (0, 0)) := heap_alloc_new _ _; have HM := hid hma; have HF := hid (qGv name keys idx cc (hl.ext hma) (by omega))
 rw [hf] at HF; obtain ⟨b0, b1, b2, b3⟩ := row4 ha; clear hma ha hl hf; go_enter Tryz.func14, Tryz.ntmps14
 go_wp2_with (go_at_call 37; refine HF.out.mono ?_; rintro e w1 ⟨rfl, hm⟩; have HM1 := hid (HM.out.trans hm); clear hm)
 go_ret2; exact ⟨rfl, HM1.out⟩
set_option maxHeartbeats 4000000 in
theorem qUs {w : World} {ca : Option Addr} {cols : List Int} {name keys idx : Int} {cc : Nat} (x : Value) {L : List KV} (hl : Lies w 1 oneI ca cols) (hn : cols.length <= 4194304) (hf : qDw name cols keys idx = true) (hL : L.length <= 8388608) (hsz : ∀ p ∈ L, p.1.size <= 4194304 /\ p.2.size <= 4194304)
  (hb : ∀ V : World, Mod (fun _ => False) w V -> Calls Tryz.prog 38 #[x, .string (ba (qAj name.toNat 0))] V (jBw V L)) :
  Calls Tryz.prog 14 #[x, .agg #[.int .u8 name, .slice ca cols.length cc, .int .i64 keys, .int .i64 idx]] w (jKe w name cols keys idx L) := by
 obtain ⟨i0, hi0, hz0, hz1, hz2⟩ := info_parts qZu; have hma : Mod (fun _ => False) w (w.alloc (.cells #[.int .u8 name, .slice ca cols.length cc, .int .i64 keys, .int .i64 idx] 24)) := (Mod.refl _ _).alloc _
 have ha : (w.alloc (.cells #[.int .u8 name, .slice ca cols.length cc, .int .i64 keys, .int .i64 idx] 24)).heap[w.heap.size]? = some (.cells #[.int .u8 name, .slice ca cols.length cc, .int .i64 keys, .int .i64 idx] 24 (0, 0)) := heap_alloc_new _ _; obtain ⟨_, n1, n2, k1, k2, _, _⟩ := qGw hf; have HM := hid hma; have HF := hid (qGv name keys idx cc (hl.ext hma) (by omega))
 rw [hf] at HF; have HL := hid (hl.ext hma); have HSz := hid hsz; have HBg := hid (fun (V : World) (hm : Mod (fun _ => False) (w.alloc (.cells #[.int .u8 name, .slice ca cols.length cc, .int .i64 keys, .int .i64 idx] 24)) V) => hb V (hma.trans hm))
 have HRow := hid (fun (V : World) (hm : Mod (fun _ => False) (w.alloc (.cells #[.int .u8 name, .slice ca cols.length cc, .int .i64 keys, .int .i64 idx] 24)) V) => row4 ((hm.block _ (lth ha) (fun h => h)).trans ha))
 have HCv : Hid (∀ W : World, (convert 128 9 (.slice (some ⟨W.heap.size, 0, none⟩) 2 2)).run Tryz.prog (W.alloc (.cells #[.int .u8 name, .int .u8 0] 5)) = .ok (.string (ba (qAj name.toNat 0))) (W.alloc (.cells #[.int .u8 name, .int .u8 0] 5))) := hid (fun W =>
  run_convert_bytes_back (P := Tryz.prog) _ 128 9 5 ⟨W.heap.size, 0, none⟩ 2 (qAj name.toNat 0) Tryz.underlying128 Tryz.underlying5 Tryz.underlying9 (fun j hj => by
   rw [Addr.add_lit, cell_of_row _ _ _ _ _ _ (heap_alloc_new _ _)]; have : j = 0 \/ j = 1 := by simp [qAj] at hj; omega
   rcases this with rfl | rfl
   ·simp [qAj]; omega
   ·simp [qAj]))
 obtain ⟨b0, b1, b2, b3⟩ := row4 ha; have hcl : 1 <= cols.length := by omega
 clear hma ha hl hf hb hsz; go_enter Tryz.func14, Tryz.ntmps14
 go_upto_region 1 with fail
 generalize w.alloc (.cells #[.int .u8 name, .slice ca cols.length cc, .int .i64 keys, .int .i64 idx] 24) = C at *; go_upto_region 5 with (first
  | (go_at_call 37; refine HF.out.mono ?_; rintro e w1 ⟨rfl, hm⟩; have HM1 := hid hm; clear b0 b1 b2 b3; obtain ⟨b0, b1, b2, b3⟩ := HRow.out w1 hm; have hcv := HCv.out w1; clear hm)
  | (go_at_call 38; refine (HBg.out _ (HM1.out.alloc _)).mono ?_; rintro e w2 ⟨la, lc, rfl, hl2, hm2⟩; have HL2 := hid hl2; have HM2 := hid ((HM1.out.alloc _).trans hm2); clear hl2 hm2))
 clear b0 b1 b2 b3 HF HBg HCv hcv; have HDec := hid (fun (V : World) (hm : Mod (fun _ => False) w2 V) (p : KV) (hp : p ∈ L) => qJq (w := V) name keys idx cc p.1 p.2 (HL.out.ext (HM2.out.trans hm)) hn (HSz.out p hp).1 (HSz.out p hp).2)
 have HRow2 := hid (fun (V : World) (hm : Mod (fun _ => False) w2 V) => HRow.out V (HM2.out.trans hm))
 have HI := hid hi0; have HI0 := hid hz0; have HI1 := hid hz1; have HI2 := hid hz2; clear HRow hi0 hz0 hz1 hz2; go_loopw [6, 21] (fun so si wr => ∃ (i : Nat) (oa : Option Addr) (oc : Nat) (xs : List RwV), i <= L.length /\ so = .slice oa i oc /\ si = .int .i64 (i : Int) /\ jBx w2 wr name cols keys idx L i oa oc xs) (fun _ si _ => L.length - (intOf si).toNat)
 case atStart => exact ⟨0, none, 0, [], Nat.zero_le _, rfl, rfl, ⟨Own.nil _ _ _, (fun b hb => (qAm b hb).elim), Mod.refl _ _, rfl, (fun j p x _ hx => by simp at hx), (fun x hx => by cases hx), (fun x hx => by cases hx), (fun x hx => by cases hx), fun x hx => by cases hx⟩⟩
 case round =>
  obtain ⟨i, oa, oc, xs, hil, rfl, rfl, hrel⟩ := hrel; have HRel := hid hrel; clear hrel; by_cases hlt : i < L.length
  ·have d0 : decide ((i : Int) < (L.length : Int)) = true := by simp; omega
   have d1 : decide (i < L.length) = true := by simpa using hlt
   have hdi : ¬ L.length <= i := by omega
   obtain ⟨⟨pk, pv⟩, hx⟩ : ∃ p, L[i]? = some p := ⟨_, List.getElem?_eq_getElem hlt⟩; have HX := hid hx; have hlw := HL2.out.ext HRel.out.mod; obtain ⟨g, off, rfl⟩ := hlw.some (by omega)
   have q0 := hlw.cell qHn hx (j := 0) rfl; have q1 := hlw.cell qHn hx (j := 1) rfl; simp only [Nat.add_zero] at q0; have hmz : Mod (fun _ => False) wr (wr.alloc (.cells #[.string pk, .string pv] 41)) := (Mod.refl _ _).alloc _
   have HMz := hid hmz; have HMw := hid (HRel.out.mod.trans hmz); have hbz : (wr.alloc (.cells #[.string pk, .string pv] 41)).heap[wr.heap.size]? = some (.cells #[.string pk, .string pv] 41 (0, 0)) := heap_alloc_new _ _; have HBz := hid hbz; have HD := hid (HDec.out _ (HRel.out.mod.trans hmz) (pk, pv) (List.mem_of_getElem? hx)); clear hx hlw hmz hbz; go_upto_region 7 with fail
   generalize wr.alloc (.cells #[.string pk, .string pv] 41) = Z at *; obtain ⟨b0, b1, b2, b3⟩ := HRow2.out Z HMw.out; have z0 : Z.cell? ⟨wr.heap.size, 0, none⟩ = some (.string pk) := by rw [cell_of_row _ _ _ _ _ _ HBz.out]; rfl
   have z1 : Z.cell? ⟨wr.heap.size, 1, none⟩ = some (.string pv) := by rw [cell_of_row _ _ _ _ _ _ HBz.out]; rfl
   clear q0 q1; go_upto_if 32 with (go_at_call 30; refine HD.out.mono ?_; intro e w3 h3; obtain ⟨ra, n, rc, E, rfl, hm3, hE⟩ := h3.norm; have HM3 := hid hm3; have HE := hid hE; clear h3 hm3 hE)
   clear b0 b1 b2 b3 z0 z1; rcases HE.out with ⟨rfl, r, rfl, e1, e2, e3, e4, e5⟩ | ⟨rfl, hno⟩
   ·have HSr : Hid (Src (w3.alloc (.cells #[.slice ra r.length rc] 26)) 1 (some ⟨w3.heap.size, 0, none⟩) 1 [.slice ra r.length rc]) := hid (qBp (heap_alloc_new _ _) rfl); have hm4 : Mod (fun _ => False) w3 (w3.alloc (.cells #[.slice ra r.length rc] 26)) := (Mod.refl _ _).alloc _
    have HOb := hid (((HRel.out.own.mod HMz.out (fun _ _ e => e)).mod HM3.out (fun _ _ e => e)).mod hm4 (fun _ _ e => e))
    have HM4 := hid (HM3.out.trans hm4); have HR4 := hid (e4.ext hm4); have HE1 := hid e1; have HE3 := hid e3; have HE5 := hid e5; have HE2 := hid e2; clear e1 e2 e3 e4 e5 hm4 HE; go_wp2_with (at_builtin; refine qAe rfl (.tmp 34) (.tmp 36) 51 rfl 26 i0 _ 1 24 Tryz.underlying51 HI.out HI0.out HI1.out HI2.out rfl oa i oc _ rfl HOb.out (some ⟨w3.heap.size, 0, none⟩) 1 1 _ rfl HSr.out (by intro u hu; simp at hu; subst hu; rfl) (by unfold maxLen; omega) (by omega) ?_; intro oa' oc' w5 hown5 hm5 hb5 hn5 hr5; have Hown5 := hid hown5; have Hm5 := hid hm5; have Hb5 := hid hb5; clear hown5 hm5 hb5 hn5 hr5)
    have HN := hid (HRel.out.next HX.out HE1.out HE2.out hcl HE3.out HMz.out HR4.out HE5.out HM4.out Hown5.out Hm5.out Hb5.out); go_roundw
    case rel => exact ⟨i + 1, oa', oc', _, by omega, rfl, by go_num, HN.out⟩
    case measure => simp [intOf]; omega
   ·have HNo := hid hno; clear hno HE; go_wp2_with fail
    go_ret2; exact ⟨HM.out.trans (HM2.out.trans (HMw.out.trans HM3.out)), .inr ⟨⟨(pk, pv), List.mem_of_getElem? HX.out, HNo.out⟩, rfl⟩⟩
  ·have hie : i = L.length := by omega
   have d0 : decide ((i : Int) < (L.length : Int)) = false := by simp; omega
   have d1 : decide (i < L.length) = false := by simpa using hlt
   clear hlt; go_wp2_with fail
   go_ret2; refine ⟨HM.out.trans (HM2.out.trans HRel.out.mod), .inl ⟨xs, oa, oc, ⟨by rw [HRel.out.len, hie], HRel.out.dec⟩, by rw [HRel.out.len]; rfl, ?_⟩⟩
   have ho := HRel.out.own; rw [<- HRel.out.len] at ho; exact ⟨ho.lies, HRel.out.rows, HRel.out.ok⟩
end
end Go.Proofs.YtkinkgbmlhiakaaGreatDoor
