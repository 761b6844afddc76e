/- merged: RwW RoFin Open1 UpG -/
import Derived.Test.YtkinkgbmlhiakaaGreatDoorNc32
import Derived.Test.YtkinkgbmlhiakaaGreatDoorNc33
import Derived.Test.YtkinkgbmlhiakaaGreatDoorProg
import Derived.Test.YtkinkgbmlhiakaaGreatDoorNc01
import Derived.Test.YtkinkgbmlhiakaaGreatDoorRows
namespace Go.Proofs.YtkinkgbmlhiakaaGreatDoor
section
open Go Go.RowKit
theorem jEn : (Tryz.prog.info? 3).map (fun i => (i.zero, i.size, i.bytes)) = some (some (.int .i64 0), 1, 8) := by kernel_rfl
theorem jDs (cs : List Int) (k : Nat) (hk : k < cs.length) : (cs.take (k + 1)).flatMap oneI = (cs.take k).flatMap oneI ++ [.int .i64 cs[k]] := by
 rw [List.take_succ_eq_append_getElem hk, List.flatMap_append]; simp [oneI]
theorem qYa {w : World} {b : Nat} {v0 v1 v2 v3 : Value} {t : TypeId} (h : w.heap[b]? = some (.cells #[v0, v1, v2, v3] t (0, 0))) (u : Value) :
  (w.setCell ⟨b, 0, none⟩ u).heap[b]? = some (.cells #[u, v1, v2, v3] t (0, 0)) /\ (w.setCell ⟨b, 1, none⟩ u).heap[b]? = some (.cells #[v0, u, v2, v3] t (0, 0)) /\ (w.setCell ⟨b, 2, none⟩ u).heap[b]? = some (.cells #[v0, v1, u, v3] t (0, 0)) /\ (w.setCell ⟨b, 3, none⟩ u).heap[b]? = some (.cells #[v0, v1, v2, u] t (0, 0)) :=
 ⟨heap_setCell_same w b 0 _ t u h, heap_setCell_same w b 1 _ t u h, heap_setCell_same w b 2 _ t u h, heap_setCell_same w b 3 _ t u h⟩
structure jJv (w wr : World) (name keys idx : Int) (cols : List Int) (k : Nat) (la : Option Addr) (cap : Nat) : Prop where
 own : Own wr 3 1 la k cap ((cols.take k).flatMap oneI)
 new : ∀ b, blk la b -> w.heap.size + 3 <= b
 mod : Mod (fun _ => False) w wr
 out : wr.heap[w.heap.size + 1]? = some (.cells #[.int .u8 0, .slice none 0 0, .int .i64 0, .int .i64 0] 58 (0, 0))
 tab : wr.heap[w.heap.size + 1 + 1]? = some (.cells #[.int .u8 name, .slice la k cap, .int .i64 keys, .int .i64 idx] 58 (0, 0))
theorem jJq {V : World} {b : Nat} {v0 v1 v2 v3 : Value} {T : TypeId} (h : V.heap[b]? = some (.cells #[v0, v1, v2, v3] T (0, 0))) : V.frozen? ⟨b, 0, none⟩ = false /\ V.frozen? ⟨b, 1, none⟩ = false /\ V.frozen? ⟨b, 2, none⟩ = false /\ V.frozen? ⟨b, 3, none⟩ = false :=
 ⟨frozen_of_row _ _ 0 _ _ h, frozen_of_row _ _ 1 _ _ h, frozen_of_row _ _ 2 _ _ h, frozen_of_row _ _ 3 _ _ h⟩
set_option maxRecDepth 100000
set_option maxHeartbeats 4000000 in
theorem qPo {w : World} {ca : Option Addr} {cols : List Int} (name keys idx : Int) (cc : Nat) (hl : Lies w 1 oneI ca cols) (hn : cols.length <= 4194304) :
  Calls Tryz.prog 16 #[.agg #[.int .u8 name, .slice ca cols.length cc, .int .i64 keys, .int .i64 idx]] w fun e w' => Mod (fun _ => False) w w' /\ ∃ la cap, e = .returned (.agg #[.int .u8 name, .slice la cols.length cap, .int .i64 keys, .int .i64 idx]) /\ Lies w' 1 oneI la cols := by
 obtain ⟨i0, hi0, hz0, hz1, hz2⟩ := info_parts jEn; have hma : Mod (fun _ => False) w (((w.alloc (.cells #[.int .u8 name, .slice ca cols.length cc, .int .i64 keys, .int .i64 idx] 24)).alloc (.cells #[.int .u8 0, .slice none 0 0, .int .i64 0, .int .i64 0] 58)).alloc (.cells #[.int .u8 name, .slice none 0 0, .int .i64 keys, .int .i64 idx] 58)) := (((Mod.refl _ _).alloc _).alloc _).alloc _
 obtain ⟨a1, a2, a3⟩ := jGh w (.cells #[.int .u8 name, .slice ca cols.length cc, .int .i64 keys, .int .i64 idx] 24) (.cells #[.int .u8 0, .slice none 0 0, .int .i64 0, .int .i64 0] 58) (.cells #[.int .u8 name, .slice none 0 0, .int .i64 keys, .int .i64 idx] 58); have hma2 : (w.alloc (.cells #[.int .u8 name, .slice ca cols.length cc, .int .i64 keys, .int .i64 idx] 24)).heap[w.heap.size]? = some (.cells #[.int .u8 name, .slice ca cols.length cc, .int .i64 keys, .int .i64 idx] 24 (0, 0)) := heap_alloc_new _ _
 have hma3 : ((w.alloc (.cells #[.int .u8 name, .slice ca cols.length cc, .int .i64 keys, .int .i64 idx] 24)).alloc (.cells #[.int .u8 0, .slice none 0 0, .int .i64 0, .int .i64 0] 58)).heap[w.heap.size]? = some (.cells #[.int .u8 name, .slice ca cols.length cc, .int .i64 keys, .int .i64 idx] 24 (0, 0)) := (((Mod.refl (fun _ => False) _).alloc _).block _ (lth hma2) (fun h => h)).trans hma2
 have hs3 : (((w.alloc (.cells #[.int .u8 name, .slice ca cols.length cc, .int .i64 keys, .int .i64 idx] 24)).alloc (.cells #[.int .u8 0, .slice none 0 0, .int .i64 0, .int .i64 0] 58)).alloc (.cells #[.int .u8 name, .slice none 0 0, .int .i64 keys, .int .i64 idx] 58)).heap.size = w.heap.size + 3 := by simp
 have HStart : Hid (jJv w _ name keys idx cols 0 none 0) := hid ⟨Own.nil _ _ _, (fun k hk => (qAm k hk).elim), hma, a2, a3⟩
 have HB := hid a1; have HL := hid hl; have HS3 := hid hs3; obtain ⟨p0, p1, p2, p3⟩ := row4 hma3; obtain ⟨b0, b1, b2, b3⟩ := row4 a1; clear hma a1 a2 a3 hma2 hma3 hl hs3; go_enter Tryz.func16, Tryz.ntmps16
 go_wp2_with fail
 clear b0 b1 b2 b3 p0 p1 p2 p3; generalize (((w.alloc (.cells #[.int .u8 name, .slice ca cols.length cc, .int .i64 keys, .int .i64 idx] 24)).alloc (.cells #[.int .u8 0, .slice none 0 0, .int .i64 0, .int .i64 0] 58)).alloc (.cells #[.int .u8 name, .slice none 0 0, .int .i64 keys, .int .i64 idx] 58)) = C at *; go_loopw [16] (fun sc wr => ∃ (k : Nat) (la : Option Addr) (cap : Nat), k <= cols.length /\ sc = .int .i64 (k : Int) /\ jJv w wr name keys idx cols k la cap) (fun sc _ => cols.length - (intOf sc).toNat)
 case atStart => exact ⟨0, none, 0, Nat.zero_le _, rfl, HStart.out⟩
 case round =>
  obtain ⟨k, la, cap, hk, rfl, hd⟩ := hrel; have HD := hid hd; clear hd; by_cases hlt : k < cols.length
  case neg =>
   have hke : k = cols.length := by omega
   subst hke; obtain ⟨c0, c1, c2, c3⟩ := row4 HD.out.tab; obtain ⟨d0, d1, d2, d3⟩ := row4 HD.out.out; obtain ⟨f0, f1, f2, f3⟩ := jJq HD.out.out; go_wp2_with fail
   have h4 := (qYa (qYa (qYa (qYa HD.out.out (.int .u8 name)).1 (.slice la cols.length cap)).2.1 (.int .i64 keys)).2.2.1 (.int .i64 idx)).2.2.2; have HM4 : Hid (Mod (fun j => j = w.heap.size + 1) wr ((((wr.setCell ⟨w.heap.size + 1, 0, none⟩ (.int .u8 name)).setCell ⟨w.heap.size + 1, 1, none⟩ (.slice la cols.length cap)).setCell ⟨w.heap.size + 1, 2, none⟩ (.int .i64 keys)).setCell ⟨w.heap.size + 1, 3, none⟩ (.int .i64 idx))) :=
    hid (Mod.setCell (S := fun j => j = w.heap.size + 1) (Mod.setCell (S := fun j => j = w.heap.size + 1) (Mod.setCell (S := fun j => j = w.heap.size + 1) (Mod.setCell (S := fun j => j = w.heap.size + 1) (Mod.refl _ _) (fun _ => rfl) _) (fun _ => rfl) _) (fun _ => rfl) _) (fun _ => rfl) _)
   clear c0 c1 c2 c3 d0 d1 d2 d3 f0 f1 f2 f3; generalize ((((wr.setCell ⟨w.heap.size + 1, 0, none⟩ (.int .u8 name)).setCell ⟨w.heap.size + 1, 1, none⟩ (.slice la cols.length cap)).setCell ⟨w.heap.size + 1, 2, none⟩ (.int .i64 keys)).setCell ⟨w.heap.size + 1, 3, none⟩ (.int .i64 idx)) = Z at *; obtain ⟨g0, g1, g2, g3⟩ := row4 h4; refine bodyPost_ret (v := .agg #[.int .u8 name, .slice la cols.length cap, .int .i64 keys, .int .i64 idx]) (by simp [results, Tryz.results16, go_sem, g0, g1, g2, g3]) rfl ⟨HD.out.mod.then HM4.out (fun i hi h => by omega), la, cap, rfl, ?_⟩
   have hown := HD.out.own; rw [List.take_length] at hown; exact hown.lies.mod HM4.out (fun _ j hj h => by have := HD.out.new j hj; omega)
  case pos =>
   obtain ⟨c, hc⟩ : ∃ c, cols[k]? = some c := ⟨_, List.getElem?_eq_getElem hlt⟩; have hce : cols[k] = c := by rw [List.getElem?_eq_getElem hlt] at hc; exact Option.some.inj hc
   have HTk : Hid ((cols.take (k + 1)).flatMap oneI = (cols.take k).flatMap oneI ++ [.int .i64 c]) := hid (by rw [jDs cols k hlt, hce])
   have hlc := HL.out.ext HD.out.mod; obtain ⟨g, off, rfl⟩ := hlc.some (by omega)
   have q0 := hlc.cell qDb hc (j := 0) rfl; rw [Nat.add_zero, Nat.mul_one] at q0; obtain ⟨c0, c1, c2, c3⟩ := row4 HD.out.tab; have hma : Mod (fun _ => False) wr (wr.alloc (.cells #[.int .i64 c] 3)) := (Mod.refl _ _).alloc _
   have HMa := hid (HD.out.mod.trans hma); have HOa := hid (HD.out.own.mod hma (fun _ _ h => h))
   have HSa : Hid (Src (wr.alloc (.cells #[.int .i64 c] 3)) 1 (some ⟨wr.heap.size, 0, none⟩) 1 [.int .i64 c]) := hid (qBp (heap_alloc_new _ _) rfl); have HTa := hid ((hma.block _ (lth HD.out.tab) (fun h => h)).trans HD.out.tab)
   have HOu := hid ((hma.block _ (lth HD.out.out) (fun h => h)).trans HD.out.out)
   have HSz := hid (Nat.lt_of_lt_of_le (lth HD.out.tab) hma.size); clear hc hce hlc hma
   go_wp2_with (at_builtin; refine qAe rfl (.tmp 21) (.tmp 23) 56 rfl 3 i0 _ 1 8 Tryz.underlying56 hi0 hz0 hz1 hz2 rfl la k cap _ rfl HOa.out (some ⟨wr.heap.size, 0, none⟩) 1 1 _ rfl HSa.out (by intro u hu; simp at hu; subst hu; rfl) (by unfold maxLen; omega) (by omega) ?_; intro la' cap' w6 hown6 hm6 hb6 hn6 hr6; have HO6 := hid hown6; have HM6 := hid hm6; have HB6 := hid hb6; clear hown6 hm6 hb6 hn6 hr6 c0 c1 c2 c3; have HT6 := hid ((HM6.out.block _ (lth HTa.out) (fun h => by have := HD.out.new _ h; omega)).trans HTa.out); have HU6 := hid ((HM6.out.block _ (lth HOu.out) (fun h => by have := HD.out.new _ h; omega)).trans HOu.out); obtain ⟨d0, d1, d2, d3⟩ := row4 HT6.out; obtain ⟨f0, f1, f2, f3⟩ := jJq HT6.out)
   go_roundw
   case rel =>
    have HBn : ∀ b, blk la' b -> w.heap.size + 3 <= b := fun b hb => by
     rcases HB6.out b hb with h | h
     ·exact HD.out.new b h
     ·have := HSz.out; omega
    have hm7 : Mod (fun j => j = w.heap.size + 1 + 1) w6 (w6.setCell ⟨w.heap.size + 1 + 1, 1, none⟩ (.slice la' (k + 1) cap')) := Mod.setCell (S := fun j => j = w.heap.size + 1 + 1) (Mod.refl _ _) (fun _ => rfl) _
    refine ⟨k + 1, la', cap', by omega, by go_num, ⟨?_, HBn, (HMa.out.then HM6.out (fun i hi h => by have := HD.out.new i h; omega)).then hm7 (fun i hi h => by omega), qCp HU6.out (by omega) _, (qYa HT6.out _).2.1⟩⟩
    rw [HTk.out]; exact HO6.out.mod hm7 (fun j hj h => by have := HBn j hj; omega)
   case measure => simp [intOf]; omega
def qDm : List Int := [0, 1]
def qCy : List Vl := [⟨5, ⟨#[]⟩⟩, ⟨0, ⟨#[120]⟩⟩]
def qFi : List UInt8 := [97, 0, 128, 0, 0, 0, 0, 0, 0, 5]
def qTo : List UInt8 := [97, 1, 120, 0, 128, 0, 0, 0, 0, 0, 0, 5]
theorem qYu (w : World) : Calls Tryz.prog 29 #[] w fun e w' => Mod (fun _ => False) w w' /\ ∃ ca, e = .returned (.agg #[.int .u8 97, .slice ca qDm.length 2, .int .i64 1, .int .i64 1]) /\ Lies w' 1 oneI ca qDm := by
 have hs : (w.alloc (.cells #[.int .u8 97, .slice (some ⟨w.heap.size + 1, 0, none⟩) 2 2, .int .i64 1, .int .i64 1] 24)).heap.size = w.heap.size + 1 := by simp
 have h1 : ((w.alloc (.cells #[.int .u8 97, .slice (some ⟨w.heap.size + 1, 0, none⟩) 2 2, .int .i64 1, .int .i64 1] 24)).alloc (.cells #[.int .i64 0, .int .i64 1] 44)).heap[w.heap.size]? = some (.cells #[.int .u8 97, .slice (some ⟨w.heap.size + 1, 0, none⟩) 2 2, .int .i64 1, .int .i64 1] 24 (0, 0)) := by
  rw [Below.heap_alloc _ _ _ (by omega)]
  exact heap_alloc_new _ _
 have h2 : ((w.alloc (.cells #[.int .u8 97, .slice (some ⟨w.heap.size + 1, 0, none⟩) 2 2, .int .i64 1, .int .i64 1] 24)).alloc (.cells #[.int .i64 0, .int .i64 1] 44)).heap[w.heap.size + 1]? = some (.cells (qDm.flatMap oneI).toArray 44 (0, 0)) := by
  have h := heap_alloc_new (w.alloc (.cells #[.int .u8 97, .slice (some ⟨w.heap.size + 1, 0, none⟩) 2 2, .int .i64 1, .int .i64 1] 24)) (.cells #[.int .i64 0, .int .i64 1] 44); rw [hs] at h; exact h
 have HM : Hid (Mod (fun _ => False) w ((w.alloc (.cells #[.int .u8 97, .slice (some ⟨w.heap.size + 1, 0, none⟩) 2 2, .int .i64 1, .int .i64 1] 24)).alloc (.cells #[.int .i64 0, .int .i64 1] 44))) := hid (((Mod.refl _ _).alloc _).alloc _)
 have H1 := hid h1; have H2 := hid h2; clear hs h1 h2; go_enter Tryz.func29, Tryz.ntmps29
 go_wp2_with fail
 generalize (w.alloc (.cells #[.int .u8 97, .slice (some ⟨w.heap.size + 1, 0, none⟩) 2 2, .int .i64 1, .int .i64 1] 24)).alloc (.cells #[.int .i64 0, .int .i64 1] 44) = Z at *; obtain ⟨g0, g1, g2, g3⟩ := row4 H1.out; exact bodyPost_ret (v := .agg #[.int .u8 97, .slice (some ⟨w.heap.size + 1, 0, none⟩) 2 2, .int .i64 1, .int .i64 1]) (by simp [results, Tryz.results29, go_sem, g0, g1, g2, g3]) rfl ⟨HM.out, _, rfl, qEz qDb H2.out⟩
theorem jCd : uvar 1 = [1] := by rw [qCj (by decide)]; rfl
theorem qVr : Good 97 qDm 1 1 qCy := by
 refine ⟨?_, rfl, fun j c v hc hv => ?_, fun j v _ hv => ?_⟩
 ·unfold qDw; rw [if_pos (fun k hk => by simp [qDm] at hk; rcases hk with rfl | rfl; exact .inl rfl; exact .inr rfl)]
  rfl
 ·have hj := (List.getElem?_eq_some_iff.1 hv).1; have h2 : j = 0 \/ j = 1 := by simp [qCy] at hj; omega
  rcases h2 with rfl | rfl
  ·cases hc; cases hv; unfold qDg; rw [if_pos rfl, ByteArray.toList_eq]; rfl
  ·cases hc; cases hv; rfl
 ·have hj := (List.getElem?_eq_some_iff.1 hv).1; have h2 : j = 0 \/ j = 1 := by simp [qCy] at hj; omega
  rcases h2 with rfl | rfl <;> cases hv <;> rfl
theorem qTn : pxOf 97 qDm 1 1 qCy = ⟨qFi, [1, 120], qTo⟩ := by
 have ho : ordL 5 = [128, 0, 0, 0, 0, 0, 0, 5] := by decide +kernel
 have h1 : qEf qDm qCy 1 = [128, 0, 0, 0, 0, 0, 0, 5] := by
  unfold qEf qDm qCy; simp [qCe, qQh, ho]
 have h2 : valL qDm qCy 1 2 = [1, 120] := by
  have ht : qEa ⟨#[120]⟩ = [1, 120] := by
   unfold qEa; rw [show (⟨#[120]⟩ : ByteArray).size = 1 from rfl, jCd]; rfl
  unfold valL qDm qCy; simp [qKg, ht]
 have h3 : idxL qDm qCy 1 = [120, 0] := by
  unfold idxL qDm qCy; simp [qCe, qQh]
 unfold pxOf qHc qYt pxL; rw [show (1 : Int).toNat = 1 from rfl, show (97 : Int).toNat = 97 from rfl, h1, show qDm.length = 2 from rfl, h2, h3, if_pos (by decide)]
 simp [qAj, qFi, qTo]
theorem qMu : qDn 97 qDm 1 1 qCy = some ⟨qFi, [1, 120], qTo⟩ := by
 rw [qJe qVr (by rw [qTn]; decide), qTn]
theorem qNx : ∀ v ∈ qCy, v.Ok := by
 intro v hv; simp [qCy] at hv
 rcases hv with rfl | rfl
 ·exact ⟨by decide, by decide, by decide⟩
 ·exact ⟨by decide, by decide, by decide⟩
theorem qLb : (∀ k, (qEf qDm qCy k).length <= 1152921504606846976) /\ ∀ j k, (valL qDm qCy j k).length <= 1152921504606846976 :=
 qFu (by decide) qNx (fun v hv => by simp [qCy] at hv; rcases hv with rfl | rfl <;> decide)
set_option maxHeartbeats 4000000 in
theorem qVa (w : World) : Calls Tryz.prog 9 #[] w fun e w' => e = .returned (.bool true) /\ Mod (fun _ => False) w w' := by
 have HP := hid (fun W : World => qYu W)
 have HE := hid (fun (W : World) (ca ra : Option Addr) (hl : Lies W 1 oneI ca qDm) (hr : Lies W 2 Vl.cs ra qCy) => qOr (w := W) 97 1 1 2 2 hl hr (by decide) (by decide) qNx qLb.1 qLb.2)
 rw [qMu] at HE; have he : qOs (some ⟨qFi, [1, 120], qTo⟩) = .tuple #[.agg #[.string (ba qFi), .string (ba [1, 120])], .int .i64 0] := rfl; rw [he] at HE; clear he; go_enter Tryz.func9, Tryz.ntmps9
 go_upto_region 2 with (first
  | (go_at_call 29; refine (HP.out _).mono ?_; rintro e w1 ⟨hm1, ca, rfl, hl1⟩; have HM1 := hid hm1; have HL1 := hid hl1; have HR1 : Hid (Lies (w1.alloc (.cells #[.int .i64 5, .string ⟨#[]⟩, .int .i64 0, .string ⟨#[120]⟩] 46)) 2 Vl.cs (some ⟨w1.heap.size, 0, none⟩) qCy) := hid (qEz qHf (heap_alloc_new _ _)); have HL2 := hid (hl1.ext ((Mod.refl (fun _ => False) _).alloc (.cells #[.int .i64 5, .string ⟨#[]⟩, .int .i64 0, .string ⟨#[120]⟩] 46))); clear hm1 hl1)
  | (go_at_call 19; refine (HE.out _ _ _ HL2.out HR1.out).mono ?_; rintro e w2 ⟨rfl, hm2⟩; have HM2 := hid hm2; clear hm2))
 have HMU := hid (((HM1.out.alloc (.cells #[.int .i64 5, .string ⟨#[]⟩, .int .i64 0, .string ⟨#[120]⟩] 46)).trans HM2.out).alloc (.cells #[.string (ba qFi), .string (ba [1, 120])] 41)); have HX : Hid (∀ W, Mod (fun _ => False) (w2.alloc (.cells #[.string (ba qFi), .string (ba [1, 120])] 41)) W -> W.cell? ⟨w2.heap.size, 0, none⟩ = some (.string (ba qFi)) /\ W.cell? ⟨w2.heap.size, 1, none⟩ = some (.string (ba [1, 120]))) := hid (fun W hm => by
  have h := row2 ((hm.block _ (lth (heap_alloc_new _ _)) (fun h => h)).trans (heap_alloc_new _ _))
  exact ⟨h.1, h.2.1⟩)
 clear HE; generalize w2.alloc (.cells #[.string (ba qFi), .string (ba [1, 120])] 41) = U at *; have HD := hid (fun (W : World) (ca : Option Addr) (hl : Lies W 1 oneI ca qDm) => ((qJq (w := W) 97 1 1 2 (ba qFi) (ba [1, 120]) hl (by decide) (by decide) (by decide)).mono (fun e w' h => by
  refine ⟨h.1, ?_⟩; have hy := jFj qNx qMu; rcases h.2 with ⟨r, la, cap, h1, h2, h3, h4, h5, h6⟩ | ⟨h1, h2⟩
  ·have hr := jAx hy h1; subst hr; exact ⟨la, cap, h4, h5⟩
  ·exact absurd hy (h1 _) : ∀ e w', qMd W 97 qDm 1 1 (ba qFi) (ba [1, 120]) e w' -> Mod (fun _ => False) W w' /\ ∃ la cap, e = .returned (.tuple #[.slice la qCy.length cap, .int .i64 0]) /\ Lies w' 2 Vl.cs la qCy)))
 have hU0 : Mod (fun _ => False) U U.drew := (Mod.refl _ _).drew
 obtain ⟨y0, y1⟩ := HX.out _ hU0; go_region_held3 (fun W' => W'.cell? ⟨w2.heap.size, 0, none⟩ = some (.string (ba qFi)) /\ W'.cell? ⟨w2.heap.size, 1, none⟩ = some (.string (ba [1, 120])))
  (first | exact ⟨u0, u1⟩ | exact ⟨z0, z1⟩ | exact ⟨y0, y1⟩ | go_keep)
  (first
   | (go_at_call 29; refine (HP.out _).mono ?_; rintro e w3 ⟨hm3, ca3, rfl, hl3⟩; have HM3 := hid (hU0.trans hm3); have HL3 := hid hl3; obtain ⟨z0, z1⟩ := HX.out _ HM3.out; clear hm3 hl3)
   | (go_at_call 30; refine (HD.out _ _ HL3.out).mono ?_; rintro e w4 ⟨hm4, la4, cap4, rfl, hl4⟩; have HM4 := hid (HM3.out.trans hm4); have HL4 := hid hl4; obtain ⟨u0, u1⟩ := HX.out _ HM4.out; clear hm4 hl4))
 all_goals
  rw [show ba qFi = (⟨#[97, 0, 128, 0, 0, 0, 0, 0, 0, 5]⟩ : ByteArray) from rfl] at u0
  rw [show ba [1, 120] = (⟨#[1, 120]⟩ : ByteArray) from rfl] at u1
  have h2 : qCy.length = 2 := rfl; obtain ⟨g, off, rfl⟩ := HL4.out.some (by decide)
  have q0 := HL4.out.cell qHf (i := 0) (x := ⟨5, ⟨#[]⟩⟩) rfl (j := 0) rfl; simp only [Nat.zero_mul, Nat.add_zero] at q0; go_wp2_with fail
  go_ret; exact ⟨rfl, HMU.out.trans HM4.out⟩
end
section
open Go Go.RowKit
theorem qUe : (newD 1500).secs.length = 1500 := List.length_replicate ..
namespace RowsFinds
set_option maxRecDepth 100000
set_option maxHeartbeats 8000000 in
theorem walk' (W : World) (name keys idx : Int) (ca : Option Addr) (cc : Nat) (cols : List Int) (hl : Lies W 1 oneI ca cols) (hn : cols.length <= 1048576) (ta : Option Addr) (tc : Nat) (cs : List Cg) (hcs : Lies W 3 ccs ta cs) (hsz : ∀ c ∈ cs, c.key.size <= maxLen /\ c.value.size <= maxLen) (hcl : cs.length <= 1048576) (v : Vl) (hv : v.Ok) :
  Calls Tryz.prog 5 #[.agg #[.int .u8 name, .slice ca cols.length cc, .int .i64 keys, .int .i64 idx], .slice ta cs.length tc, .agg #[.int .i64 v.n, .string v.s]] W fun e w' => e = .returned (.bool true) /\ RowKit.Below W.heap.size W w' := by
 obtain ⟨hma, ha, hb⟩ := box2 W (.cells #[.int .u8 name, .slice ca cols.length cc, .int .i64 keys, .int .i64 idx] 24 (0, 0)) (.cells #[.int .i64 v.n, .string v.s] 46 (0, 0)); have HM := hid hma; have HL := hid (hl.ext hma); have HCs := hid (hcs.ext hma); have HRow := hid (fun (V : World) (hm : Mod (fun _ => False) ((W.alloc (.cells #[.int .u8 name, .slice ca cols.length cc, .int .i64 keys, .int .i64 idx] 24 (0, 0))).alloc (.cells #[.int .i64 v.n, .string v.s] 46 (0, 0))) V) => row4 ((hm.block _ (lth ha) (fun h => h)).trans ha))
 have HVl := hid (fun (V : World) (hm : Mod (fun _ => False) ((W.alloc (.cells #[.int .u8 name, .slice ca cols.length cc, .int .i64 keys, .int .i64 idx] 24 (0, 0))).alloc (.cells #[.int .i64 v.n, .string v.s] 46 (0, 0))) V) => row2 ((hm.block _ (lth hb) (fun h => h)).trans hb))
 have HSz := hid hsz; have HV := hid hv; clear hma ha hb hl hcs hsz hv; go_enter Tryz.func5, Tryz.ntmps5
 go_upto_region 1 with fail
 generalize (W.alloc (.cells #[.int .u8 name, .slice ca cols.length cc, .int .i64 keys, .int .i64 idx] 24 (0, 0))).alloc (.cells #[.int .i64 v.n, .string v.s] 46 (0, 0)) = C at *; have HNw := hid (jHf (w := C) 1500); go_upto_region 2 with (first
  | (go_at_call 8; refine HNw.out.mono ?_; rintro e w1 ⟨d, sa, rfl, hd0, hs0, hD, hm1⟩; have HD0 := hid hd0; have HS0 := hid hs0; have HD := hid hD; have HM1 := hid hm1; clear hd0 hs0 hD hm1)
  | (go_at_call 7; refine (jEr (room := 500) HD.out (by omega) (by omega) (by unfold jlen; rw [qUe]; omega) (by rw [qUe]; omega)).mono ?_; rintro e w2 ⟨B, rfl, hh, hb1, hb2, hb3, hlo, hm2⟩; have HH := hid hh; have HNb := hid (qWo hb1 hb2 HD0.out HS0.out HM1.out.size hlo); have HM2 : Hid (Mod (fun k => C.heap.size <= k) C w2) := hid (((HM1.out.mono (fun _ _ e => e.elim)) : Mod (fun k => C.heap.size <= k) C _).trans (hm2.mono (fun k _ e => by rcases e with e | e; (have := HD0.out; omega); (exact HS0.out k e)))); clear hh hb1 hb2 hb3 hlo hm2))
 go_upto_region 4 with (go_at_call 9; refine (qVa _).mono ?_; rintro e w3 ⟨rfl, hm3⟩; have HM3 := hid (HM2.out.trans (hm3.mono (fun _ _ e => e.elim))); have HH3 := hid (HH.out.ext hm3); clear hm3)
 clear HNw HD HM1 HM2 HH HD0 HS0; have HEnd : Hid (∀ w', Mod (fun _ => False) C w' -> RowKit.Below W.heap.size W w') := hid (fun w' h => (HM.out.trans h).below (Nat.le_refl _) (fun _ e => e.elim))
 go_upto_if 37 with fail
 go_cut [7] (fun tx wx => tx = .pointer (some ⟨B.tb, 0, none⟩) /\ Mod (fun k => C.heap.size <= k) C wx /\ ∃ (T : TM) (D : Dsk) (k : Nat) (l : List KV) (N : Nat), Here wx B T D k l N)
 case first =>
  by_cases h20 : cs.length <= 20
  ·have d20 : decide (cs.length <= 20) = true := by simpa using h20
   have d21 : decide ((cs.length : Int) <= 20) = true := by rw [decide_eq_true_iff]; omega
   have HA := hid (qWb HH3.out (by omega) tc (HCs.out.ext (qTe HM3.out)) (by omega) HSz.out)
   go_wp2_with (go_at_call 11; refine HA.out.mono ?_; intro e w5 ha; obtain ⟨E, rfl, hm5, hE⟩ := ha.brief; have HM5 := hid (HM3.out.trans (hm5.mono (fun b _ e => HNb.out b e))); have HE := hid hE; clear ha hm5 hE)
   go_meet; exact ⟨rfl, HM5.out, HE.out.elim (fun ⟨_, T', D', N', h, _⟩ => ⟨T', D', _, _, N', h⟩) (fun ⟨_, h⟩ => ⟨_, _, _, _, _, h⟩)⟩
  ·have d20 : decide (cs.length <= 20) = false := by simpa using h20
   have d21 : decide ((cs.length : Int) <= 20) = false := by rw [decide_eq_false_iff_not]; omega
   go_wp2_with fail
   go_meet; exact ⟨rfl, HM3.out, _, _, _, _, _, HH3.out⟩
 case rest =>
  obtain ⟨rfl, hmc, T, D, k, l, N, hh⟩ := hcut; have HMc := hid (qTe hmc); have HH := hid hh; clear hmc hh; have HA := hid (jFv HH.out name keys idx cc (HL.out.ext HMc.out) (by omega))
  obtain ⟨b0, b1, b2, b3⟩ := HRow.out wc HMc.out; go_upto_region 7 with (go_at_call 14; refine HA.out.mono ?_; rintro e w4 ⟨hm4, xs, la, capa, E, rfl, hr4, h1, h2, hxn, h3⟩; have HM4 := hid (HMc.out.trans hm4); have HR4 := hid hr4; have HE1 := hid h1; have HE2 := hid h2; have HE3 := hid h3; have HH4 := hid (HH.out.ext hm4); clear hm4 hr4 h1 h2 h3)
  have HFd := hid (jAo HH4.out name keys idx cc HV.out (HL.out.ext HM4.out) (by omega))
  clear b0 b1 b2 b3 HA; obtain ⟨b0, b1, b2, b3⟩ := HRow.out w4 HM4.out; obtain ⟨d0, d1, _, _⟩ := HVl.out w4 HM4.out; go_upto_region 8 with (go_at_call 15; refine HFd.out.mono ?_; rintro e w5 ⟨hm5, ys, lb, capb, F, rfl, hr5, h1, h2, h3, h4, hyn, h5⟩; have HM5 := hid (HM4.out.trans hm5); have HR5 := hid hr5; have HF1 := hid h1; have HF2 := hid h2; have HF3 := hid h3; have HF4 := hid h4; have HF5 := hid h5; have HH5 := hid (HH4.out.ext hm5); have HX5 := hid (HR4.out.ext hm5); clear hm5 hr5 h1 h2 h3 h4 h5)
  have HNn := hid (jIk (w := w5) name keys idx cc (HL.out.ext HM5.out) (by omega))
  clear b0 b1 b2 b3 d0 d1 HFd; obtain ⟨b0, b1, b2, b3⟩ := HRow.out w5 HM5.out; go_upto_region 9 with (go_at_call 14; refine HNn.out.mono ?_; rintro e w6 ⟨⟨na, nc, rfl⟩, hm6⟩; have HMs := hid hm6; have HM6 := hid (HM5.out.trans hm6); clear hm6)
  have HTr := hid (qPo (w := w6) name keys idx cc (HL.out.ext HM6.out) (by omega))
  clear b0 b1 b2 b3 HNn; obtain ⟨b0, b1, b2, b3⟩ := HRow.out w6 HM6.out; go_upto_region 10 with (go_at_call 16; refine HTr.out.mono ?_; rintro e w7 ⟨hm7, ra, rcap, rfl, hl7⟩; have HMt := hid (HMs.out.trans hm7); have HL7 := hid hl7; clear hm7 hl7)
  clear b0 b1 b2 b3 HTr; have hmy : Mod (fun _ => False) w7 (w7.alloc (.cells #[.int .u8 name, .slice ra cols.length rcap, .int .i64 keys, .int .i64 idx] 58)) := (Mod.refl _ _).alloc _
  have hay : (w7.alloc (.cells #[.int .u8 name, .slice ra cols.length rcap, .int .i64 keys, .int .i64 idx] 58)).heap[w7.heap.size]? = some (.cells #[.int .u8 name, .slice ra cols.length rcap, .int .i64 keys, .int .i64 idx] 58 (0, 0)) := heap_alloc_new _ _; have HMy := hid (HMt.out.trans hmy); have HLy := hid (HL7.out.ext hmy); have HAy := hid hay; obtain ⟨r0, r1, r2, r3⟩ := row4 hay; clear hmy hay; generalize w7.alloc (.cells #[.int .u8 name, .slice ra cols.length rcap, .int .i64 keys, .int .i64 idx] 58) = Y at *; have HRf := hid (jCz name keys idx rcap HLy.out (by omega))
  obtain ⟨fit, hfit⟩ : ∃ b, qDw name cols keys idx = b := ⟨_, rfl⟩; rw [hfit] at HRf HE1 HF1; rw [hfit]; have HFit := hid hfit; obtain ⟨gv, hgv⟩ : ∃ g : Int, (if fit = true then (0 : Int) else 60) = g := ⟨_, rfl⟩
  rw [hgv]; have HGv := hid hgv; clear hfit hgv; go_upto_region 11 with (go_at_call 17; refine HRf.out.mono ?_; rintro e w8 ⟨rfl, hm8⟩; have HM8 := hid (HMy.out.trans hm8); have HAz := hid ((hm8.block _ (lth HAy.out) (fun h => h)).trans HAy.out); have HLz := hid (HLy.out.ext hm8); clear hm8)
  clear r0 r1 r2 r3 HRf; go_cut [83] (fun c wx => c = .bool false /\ wx = w8)
  case first =>
   cases fit with
   | false =>
    have hG : gv = 60 := HGv.out.symm; have hE : E = 60 := HE1.out rfl; have hF : F = 60 := HF1.out rfl; clear HE1 HE2 HF1 HF2 HF3 HF4; clear HGv; subst hE hF hG; go_wp2_with fail
    go_meet; exact ⟨rfl, rfl⟩
   | true =>
    have hG : gv = 0 := HGv.out.symm; clear HGv; subst hG; go_wp2_with fail
    go_meet; exact ⟨rfl, rfl⟩
  case rest =>
   obtain ⟨rfl, rfl⟩ := hcut; go_upto_region 13 with fail
   go_cut [108] (fun c wx => c = .bool false /\ Mod (fun _ => False) wc wx)
   case first =>
    have HM8c := hid (HM5.out.trans HM8.out); obtain ⟨b0, b1, b2, b3⟩ := HRow.out _ HM8c.out; obtain ⟨d0, d1, _, _⟩ := HVl.out _ HM8c.out; obtain ⟨r0, r1, r2, r3⟩ := row4 HAz.out; have x3 := fun x : Ext wc => x.cell b3
    have y0 := fun x : Ext wc => x.cell d0
    have y1 := fun x : Ext wc => x.cell d1
    have z1 := fun x : Ext wc => x.cell r1
    clear b0 b1 b2 b3 d0 d1 r0 r1 r2 r3; cases fit with
    | false =>
     refine qAc (by kernel_rfl) (by kernel_rfl) ?_
     repeat (go_big_quiet_step (fail))
     refine wpQuiet_nil ?_; rintro _ ⟨x, rfl⟩; go_wp2_with fail
     go_meet; exact ⟨rfl, x.mod⟩
    | true =>
     by_cases hi : idx < 0
     ·have hF : F = 60 := HF2.out hi; have di : decide (idx < 0) = true := by rw [decide_eq_true_iff]; exact hi
      clear HF1 HF2 HF3 HF4 hi; subst hF; refine qAc (by kernel_rfl) (by kernel_rfl) ?_
      repeat (go_big_quiet_step (fail))
      refine wpQuiet_nil ?_; rintro _ ⟨x, rfl⟩; go_wp2_with fail
      go_meet; exact ⟨rfl, x.mod⟩
     ·have di : decide (idx < 0) = false := by rw [decide_eq_false_iff_not]; exact hi
      obtain ⟨_, _, _, _, _, _, hi2⟩ := qGw HFit.out; obtain ⟨I, rfl⟩ : ∃ I : Nat, idx = (I : Int) := ⟨idx.toNat, by omega⟩
      have hic : I < cols.length := by omega
      obtain ⟨c, hc⟩ : ∃ c, cols[I]? = some c := ⟨_, List.getElem?_eq_getElem hic⟩; obtain ⟨g, off, rfl⟩ := HLz.out.some (by omega)
      have q0 := HLz.out.cell qDb hc (j := 0) rfl; rw [Nat.add_zero, Nat.mul_one] at q0; have z2 := fun x : Ext wc => x.cell q0
      have HFs := hid (fun x : Ext wc => qYh c v x.val HV.out)
      have HBad := hid (HF3.out c (by rw [Int.toNat_natCast]; exact hc))
      clear hi hc q0 HF1 HF2 HF3 HF4; cases hfv : qEd c v with
      | false =>
       have hF : F = 60 := HBad.out hfv; rw [hfv] at HFs; clear hfv HBad; subst hF; refine qAc (by kernel_rfl) (by kernel_rfl) ?_
       repeat (go_big_quiet_step ((go_at_call 18; exact qAt (HFs.out _))))
       refine wpQuiet_nil ?_; rintro _ ⟨x, rfl⟩; go_wp2_with fail
       go_meet; exact ⟨rfl, x.mod⟩
      | true =>
       rw [hfv] at HFs; clear hfv HBad; refine qAc (by kernel_rfl) (by kernel_rfl) ?_
       repeat (go_big_quiet_step ((go_at_call 18; exact qAt (HFs.out _))))
       refine wpQuiet_nil ?_; rintro _ ⟨x, rfl⟩; go_wp2_with fail
       go_meet; exact ⟨rfl, x.mod⟩
   case rest =>
    obtain ⟨rfl, hmr⟩ := hcut; have HM9 := hid (HM8.out.trans hmr); have HX9 := hid (HX5.out.ext HM9.out); have HY9 := hid (HR5.out.ext HM9.out); have HH9 := hid (HH5.out.ext HM9.out); have HMc9 := hid (HM5.out.trans HM9.out); clear hmr HX5 HR5 HH5 HM8 HM9 HR4 HH4 HE1 HF1 HF2 HF3 HMy HMt HAy HAz HLy HLz HL7; go_wp2_with fail
    go_loopw [111] (fun si wr => ∃ i : Nat, i <= xs.length /\ si = .int .i64 (i : Int) /\ Mod (fun _ => False) wc wr) (fun si _ => xs.length - (intOf si).toNat)
    case atStart => exact ⟨0, Nat.zero_le _, rfl, Mod.refl _ _⟩
    case round =>
     obtain ⟨i, hil, rfl, hmr⟩ := hrel; have HMr := hid hmr; clear hmr; by_cases hlt : i < xs.length
     ·have d0 : decide ((i : Int) < (xs.length : Int)) = true := by simp; omega
      have d1 : decide (i < xs.length) = true := by simpa using hlt
      have hdi : ¬ xs.length <= i := by omega
      obtain ⟨x, hx⟩ : ∃ x, xs[i]? = some x := ⟨_, List.getElem?_eq_getElem hlt⟩; have hxm := List.mem_of_getElem? hx; obtain ⟨hxl, q, hq, hqm⟩ := HE3.out x hxm; have hlx := (HX9.out.ext HMr.out).lies; obtain ⟨g, off, rfl⟩ := hlx.some (by omega)
      have q0 := hlx.cell qYd hx (j := 0) rfl; rw [Nat.add_zero, Nat.mul_one] at q0; have hrx := (HX9.out.ext HMr.out).rows x hxm; have hok := HX9.out.ok x hxm; obtain ⟨z1, z2⟩ := qFu (cols := cols) (r := x.vs) (by omega) (fun v hv => (hok v hv).1) (fun v hv => (hok v hv).2)
      have HEn := hid (qOr (w := wr) name keys idx cc x.cap (HL.out.ext (HMc9.out.trans HMr.out)) hrx (by omega) (by omega) (fun v hv => (hok v hv).1) z1 z2)
      rw [hq, show qOs (some q) = .tuple #[.agg #[.string (ba q.k), .string (ba q.v)], .int .i64 0] from rfl] at HEn
      have HG := hid (fun (V : World) (hm : Mod (fun _ => False) wc V) => qUc (HH9.out.ext hm) (ba q.k))
      rw [qYg HH9.out.std.ti.1.asc hqm] at HG; obtain ⟨b0, b1, b2, b3⟩ := HRow.out wr (HMc9.out.trans HMr.out); clear hlx hx hxm hrx hok z1 z2 hq hqm hxl; go_upto_region 19 with (go_at_call 19; refine HEn.out.mono ?_; rintro e w9 ⟨rfl, hm9⟩; have HM10 := hid (HMr.out.trans hm9); clear hm9)
      clear b0 b1 b2 b3 q0 HEn; have hnz : (w9.alloc (.cells #[.string (ba q.k), .string (ba q.v)] 41)).heap[w9.heap.size]? = some (.cells #[.string (ba q.k), .string (ba q.v)] 41 (0, 0)) := heap_alloc_new _ _; have HMz := hid (HM10.out.trans ((Mod.refl _ _).alloc _ : Mod (fun _ => False) w9 (w9.alloc (.cells #[.string (ba q.k), .string (ba q.v)] 41))))
      have HNz := hid hnz; obtain ⟨c0, c1, _, _⟩ := row2 hnz; clear hnz; generalize w9.alloc (.cells #[.string (ba q.k), .string (ba q.v)] 41) = Z at *; have HGt := hid (HG.out Z HMz.out); go_upto_region 20 with (go_at_call 20; refine HGt.out.mono ?_; rintro e w10 ⟨rfl, hm10⟩; have HM11 := hid (HMz.out.trans hm10); clear c0 c1; obtain ⟨c0, c1, _, _⟩ := row2 ((hm10.block _ (lth HNz.out) (fun h => h)).trans HNz.out); clear hm10)
      generalize ba q.k = bk at *; generalize ba q.v = bv at *; have dv := beq_t (rfl : bv = bv); clear HG HGt HNz hil d0 d1; go_upto_if 139 with fail
      go_wp2_with fail
      go_roundw
      case rel => exact ⟨i + 1, by omega, by go_num, HM11.out⟩
      case measure => simp [intOf]; omega
     ·have hie : i = xs.length := by omega
      have d0 : decide ((i : Int) < (xs.length : Int)) = false := by simp; omega
      have d1 : decide (i < xs.length) = false := by simpa using hlt
      clear hlt; go_wp2_with fail
      go_loopw [143] (fun sj wr => ∃ j : Nat, j <= ys.length /\ sj = .int .i64 (j : Int) /\ Mod (fun _ => False) wc wr) (fun sj _ => ys.length - (intOf sj).toNat)
      case atStart => exact ⟨0, Nat.zero_le _, rfl, HMr.out⟩
      case round =>
       obtain ⟨j, hjl, rfl, hms⟩ := hrel; have HMs2 := hid hms; clear hms; by_cases hlt : j < ys.length
       ·have d2 : decide ((j : Int) < (ys.length : Int)) = true := by simp; omega
        have d3 : decide (j < ys.length) = true := by simpa using hlt
        have hdj : ¬ ys.length <= j := by omega
        obtain ⟨y, hy⟩ : ∃ y, ys[j]? = some y := ⟨_, List.getElem?_eq_getElem hlt⟩; have hym := List.mem_of_getElem? hy; obtain ⟨hi0, hyv⟩ := HF5.out y hym; obtain ⟨I, rfl⟩ : ∃ I : Nat, idx = (I : Int) := ⟨idx.toNat, by omega⟩
        rw [Int.toNat_natCast] at hyv; have hIy : I < y.vs.length := (List.getElem?_eq_some_iff.1 hyv).1; have di : decide ((I : Int) < 0) = false := by rw [decide_eq_false_iff_not]; omega
        have hly := (HY9.out.ext HMs2.out).lies; obtain ⟨g, off, rfl⟩ := hly.some (by omega)
        have q0 := hly.cell qYd hy (j := 0) rfl; rw [Nat.add_zero, Nat.mul_one] at q0; have hry := (HY9.out.ext HMs2.out).rows y hym; obtain ⟨ya, ycap, yvs⟩ := y; simp only at hyv hIy hry q0; obtain ⟨g2, off2, rfl⟩ := hry.some (by omega)
        have p0 := hry.cell qHf hyv (j := 0) rfl; have p1 := hry.cell qHf hyv (j := 1) rfl; rw [Nat.add_zero] at p0; obtain ⟨_, _, _, b3⟩ := HRow.out wr (HMc9.out.trans HMs2.out); obtain ⟨d0, d1, _, _⟩ := HVl.out wr (HMc9.out.trans HMs2.out); have x0 := fun x : Ext wr => x.cell b3
        have x1 := fun x : Ext wr => x.cell p0
        have x2 := fun x : Ext wr => x.cell p1
        have x3 := fun x : Ext wr => x.cell d0
        have x4 := fun x : Ext wr => x.cell d1
        clear hly hry p0 p1 b3 d0 d1 hy hym; go_upto_region 26 with fail
        clear q0; refine qAc (by kernel_rfl) (by kernel_rfl) ?_
        repeat (go_big_quiet_step (fail))
        refine wpQuiet_nil ?_; rintro _ ⟨x, rfl⟩; have HMx := hid (HMs2.out.trans x.mod); clear x0 x1 x2 x3 x4; go_wp2_with fail
        go_roundw
        case rel => exact ⟨j + 1, by omega, by go_num, HMx.out⟩
        case measure => simp [intOf]; omega
       ·have hje : j = ys.length := by omega
        have d2 : decide ((j : Int) < (ys.length : Int)) = false := by simp; omega
        have d3 : decide (j < ys.length) = false := by simpa using hlt
        have HFin := hid (HEnd.out _ (HMc9.out.trans HMs2.out)); have hE := HE2.out; have hF := HF4.out; clear hlt HE2 HF4 HE3 HF5 HX9 HY9; rcases hE with rfl | ⟨rfl, rfl⟩
        ·rcases hF with rfl | ⟨rfl, rfl⟩
         ·go_wp2_with fail
          go_ret; exact ⟨rfl, HFin.out⟩
         ·go_wp2_with fail
          go_ret; exact ⟨rfl, HFin.out⟩
        ·rcases hF with rfl | ⟨rfl, rfl⟩
         ·go_wp2_with fail
          go_ret; exact ⟨rfl, HFin.out⟩
         ·go_wp2_with fail
          go_ret; exact ⟨rfl, HFin.out⟩
end RowsFinds
end
section
open Go Go.RowKit
theorem qUn : Tryz.prog.cellsOf 3 = 1 := by kernel_rfl
theorem cellsStr : Tryz.prog.cellsOf 9 = 1 := by kernel_rfl
theorem jIv {n : Int} (h : (Lit.int .i64 n).wf = true) : -9223372036854775808 <= n /\ n <= 9223372036854775807 := by
 simp only [Lit.wf, Bool.and_eq_true, decide_eq_true_eq] at h; have a1 : IntKind.min .i64 = -9223372036854775808 := rfl; have a2 : IntKind.max .i64 = 9223372036854775807 := rfl; rw [a1, a2] at h; exact h
section
variable {H : Type} {enc : TypeId × Value -> H} {w : World} {base : Nat} {spare : Nat -> Bool} {held : Bool}
end
end
section
open Go Go.RowKit
theorem jFx (a : Addr) (x j : Nat) : (a.add x).add j = a.add (x + j) := by
 unfold Addr.add; by_cases hz : x = 0 <;> by_cases hj : j = 0 <;> simp [hz, hj]
 ·omega
section
variable {H : Type} {enc : TypeId × Value -> H} {w : World} {base : Nat} {spare : Nat -> Bool} {held : Bool}
theorem jFp (d : DataW H) : 1 <= Rows.uptoBulk d := by
 cases d with
 | lit l => cases l <;> simp [Rows.uptoBulk]
 | _ => simp [Rows.uptoBulk]
theorem qOx {d : DataW H} {l : List (DataW H)} (h : d ∈ l) : Rows.uptoBulk d <= Rows.uptoBulkAll l := by
 induction l with
 | nil => cases h
 | cons x r ih =>
  simp only [Rows.uptoBulkAll]; rcases List.mem_cons.1 h with rfl | e
  ·omega
  ·have := ih e; omega
theorem jFq (l : List (DataW H)) : l.length <= Rows.uptoBulkAll l := by
 induction l with
 | nil => simp [Rows.uptoBulkAll]
 | cons x r ih => have := jFp x; simp only [Rows.uptoBulkAll, List.length_cons]; omega
theorem bulk_all {l : List (DataW H)} (hk : Rows.uptoSmall H l = true) : ∀ d ∈ l, Rows.uptoBulk d <= 1048576 := fun d hd => by
 have h1 : Rows.uptoBulkAll l <= 1048576 := of_decide_eq_true hk; exact Nat.le_trans (qOx hd) h1
theorem open_small {α : Type} {f : α -> List Value} {Q : α -> Prop} {size : Nat} {t e : TypeId} {fuel : Nat} {cs : List Value} {y : DataW H × List MemPlace} (ht : Tryz.prog.underlying t = some (.slice e)) (hc : Tryz.prog.cellsOf e = size) (hs0 : 0 < size)
  (hf : ∀ x, (f x).length = size) (hel : ∀ (n : Nat) (cs : List Value) (y : DataW H × List MemPlace), DataW.trod enc Tryz.prog w base spare held n e cs = some y -> Rows.uptoBulk y.1 <= 1048576 -> ∃ x, cs = f x /\ Q x)
  (h : DataW.trod enc Tryz.prog w base spare held fuel t cs = some y) (hfit : Rows.uptoBulk y.1 <= 1048576) :
  ∃ (a : Option Addr) (cap : Nat) (ls : List α), cs = [.slice a ls.length cap] /\ Lies w size f a ls /\ (∀ x ∈ ls, Q x) /\ ls.length <= 1048576 := by
 rcases Deep.open_slice ht h with ⟨rfl, _⟩ | ⟨a', len, cap, m, n, D, Pl, rfl, hb, hl, hm, hmm, hx, hev0⟩
 ·exact ⟨none, 0, [], rfl, ⟨⟨by simp, fun _ => rfl, fun a ha => by cases ha⟩, fun h => by simp at h, fun _ h => by simp at h⟩, fun x hx => by simp at hx, Nat.zero_le _⟩
 ·have hml : len <= m := by rw [hmm]; split <;> omega
  rw [hx] at hfit; simp only [Rows.uptoBulk] at hfit; have hlen0 := jFq ((List.range len).map D); rw [List.length_map, List.length_range] at hlen0; have hev : ∀ i, i < len -> ∃ x, w.cells? base (a'.add (i * size)) size = some (f x) /\ Q x := fun i hi => by
   obtain ⟨cs', h1, h2⟩ := hev0 i (by omega)
   have hbi := qOx (H := H) (d := D i) (l := (List.range len).map D) (List.mem_map.2 ⟨i, List.mem_range.2 hi, rfl⟩); obtain ⟨x, rfl, hq⟩ := hel n cs' _ h2 (by show Rows.uptoBulk (D i) <= 1048576; omega)
   rw [hc] at h1; exact ⟨x, h1, hq⟩
  have hlist : ∀ k, k <= len -> ∃ ls : List α, ls.length = k /\ (∀ x ∈ ls, Q x) /\ ∀ (i : Nat) x, ls[i]? = some x -> w.cells? base (a'.add (i * size)) size = some (f x) := by
   intro k; induction k with
   | zero => exact fun _ => ⟨[], rfl, fun x h => by simp at h, fun i x h => by simp at h⟩
   | succ k ih =>
    intro hk; obtain ⟨ls, h1, hq, h2⟩ := ih (by omega)
    obtain ⟨x, hx', hqx⟩ := hev k (by omega)
    refine ⟨ls ++ [x], by simp [h1], fun z hz => ?_, fun i y hy => ?_⟩
    ·rcases List.mem_append.1 hz with h | h
     ·exact hq z h
     ·simp at h; subst h; exact hqx
    ·rw [List.getElem?_append] at hy; split at hy
     ·exact h2 i y hy
     ·have : i = k := by
       rcases Nat.lt_or_ge (i - ls.length) 1 with h | h
       ·omega
       ·rw [List.getElem?_eq_none (by simpa using h)] at hy; cases hy
      subst this; rw [h1, Nat.sub_self] at hy; simp at hy
      subst hy; exact hx'
  obtain ⟨ls, h1, hq, h2⟩ := hlist len (Nat.le_refl _); have hcell : ∀ (i : Nat) x, ls[i]? = some x -> ∀ j u, (f x)[j]? = some u -> w.cell? (a'.add (i * size + j)) = some u := by
   intro i x hi j u hu; have h3 := (World.cells?_some (h2 i x hi)).2.2 j (by have := (List.getElem?_eq_some_iff.1 hu).1; rwa [hf] at this)
   rw [hu] at h3; rw [<- h3]; rw [jFx]
  refine ⟨some a', cap, ls, by rw [h1], ⟨⟨by rw [qDf hf], fun h => (by cases h), fun a'' ha j u hu => ?_⟩, fun hlen x hx => ?_, fun k hlen hk => ?_⟩, hq, by omega⟩
  ·cases ha
   have hj : j = j / size * size + j % size := by rw [Nat.mul_comm]; exact (Nat.div_add_mod j size).symm
   rw [hj, qIm hf ls _ _ (Nat.mod_lt _ hs0)] at hu; rw [hj]; cases hls : ls[j / size]? with
   | none => rw [hls] at hu; cases hu
   | some x => rw [hls] at hu; exact hcell _ x hls _ u hu
  ·cases hx
   obtain ⟨x, hx0⟩ : ∃ x, ls[0]? = some x := ⟨ls[0]'(by omega), by simp⟩
   have := hcell 0 x hx0 0 _ (List.getElem?_eq_getElem (by rw [hf]; exact hs0))
   simp only [Nat.zero_mul, Nat.add_zero] at this; unfold World.cell? at this; simp only [Addr.add, if_true] at this; split at this
   ·split at this
    ·cases this
    ·rename_i h; simpa using h
   ·cases this
  ·obtain ⟨a'', ha, rfl⟩ := hk; cases ha
   obtain ⟨x, hx0⟩ : ∃ x, ls[0]? = some x := ⟨ls[0]'(by omega), by simp⟩
   have := hcell 0 x hx0 0 _ (List.getElem?_eq_getElem (by rw [hf]; exact hs0))
   have := World.block_lt_of_cell? _ _ this
   simpa [Addr.add] using this
theorem small_text {n : Nat} {cs : List Value} {y : DataW H × List MemPlace} (h : DataW.trod enc Tryz.prog w base spare held n 9 cs = some y) (hfit : Rows.uptoBulk y.1 <= 1048576) : ∃ s : ByteArray, cs = [.string s] /\ s.size <= 1048576 := by
 obtain ⟨s, hcs, hx, _⟩ := DataW.trod_string Tryz.underlying9 h; refine ⟨s, hcs, ?_⟩; rw [hx] at hfit; simp only [Rows.uptoBulk] at hfit; have e : s.data.toList.length = s.size := by rw [Array.length_toList]; rfl
 omega
theorem field_small {fs : Array Field} {t : TypeId} {fuel : Nat} {cs : List Value} {x : DataW H × List MemPlace} (ht : Tryz.prog.underlying t = some (.struct fs)) (h : DataW.trod enc Tryz.prog w base spare held fuel t cs = some x) (hfit : Rows.uptoBulk x.1 <= 1048576)
  (i : Nat) (f : Field) (hf : fs[i]? = some f) : ∃ n y, DataW.trod enc Tryz.prog w base spare held n f.type ((cs.drop f.offset).take (Tryz.prog.cellsOf f.type)) = some y /\ Rows.uptoBulk y.1 <= 1048576 := by
 obtain ⟨xs, n, _, hx, _, hlen, hall⟩ := DataW.trod_struct ht h; have hi : i < xs.length := by rw [hlen]; exact (Array.getElem?_eq_some_iff.1 hf).1
 refine ⟨n, xs[i], by rw [hall i f hf]; simp [hi], ?_⟩
 rw [hx] at hfit; simp only [Rows.uptoBulk] at hfit; have := qOx (H := H) (d := xs[i].1) (l := xs.map (·.1)) (List.mem_map.2 ⟨xs[i], by simp, rfl⟩)
 omega
end
end
end Go.Proofs.YtkinkgbmlhiakaaGreatDoor
