/- merged: RwW -/
import Derived.Test.YtkinkgbmlhiakaaGreatDoorNb28
namespace Go.Proofs.YtkinkgbmlhiakaaGreatDoor
section
open Go Go.RowKit
def qCy : List Int := [0, 1]
def qCo : List Vl := [⟨5, ⟨#[]⟩⟩, ⟨0, ⟨#[120]⟩⟩]
def qEw : List UInt8 := [97, 0, 128, 0, 0, 0, 0, 0, 0, 5]
def qTa : List UInt8 := [97, 1, 120, 0, 128, 0, 0, 0, 0, 0, 0, 5]
set_option maxRecDepth 100000
theorem qYb (w : World) : Calls Tryz.prog 29 #[] w fun e w' => Mod (fun _ => False) w w' /\ ∃ ca, e = .returned (.agg #[.int .u8 97, .slice ca qCy.length 2, .int .i64 1, .int .i64 1]) /\ Lies w' 1 oneI ca qCy := by
 have hs : (w.alloc (.cells #[.int .u8 97, .slice (some ⟨w.heap.size + 1, 0, none⟩) 2 2, .int .i64 1, .int .i64 1] 24)).heap.size = w.heap.size + 1 := by simp
 have h1 : ((w.alloc (.cells #[.int .u8 97, .slice (some ⟨w.heap.size + 1, 0, none⟩) 2 2, .int .i64 1, .int .i64 1] 24)).alloc (.cells #[.int .i64 0, .int .i64 1] 44)).heap[w.heap.size]? = some (.cells #[.int .u8 97, .slice (some ⟨w.heap.size + 1, 0, none⟩) 2 2, .int .i64 1, .int .i64 1] 24 (0, 0)) := by
  rw [Below.heap_alloc _ _ _ (by omega)]
  exact heap_alloc_new _ _
 have h2 : ((w.alloc (.cells #[.int .u8 97, .slice (some ⟨w.heap.size + 1, 0, none⟩) 2 2, .int .i64 1, .int .i64 1] 24)).alloc (.cells #[.int .i64 0, .int .i64 1] 44)).heap[w.heap.size + 1]? = some (.cells (qCy.flatMap oneI).toArray 44 (0, 0)) := by
  have h := heap_alloc_new (w.alloc (.cells #[.int .u8 97, .slice (some ⟨w.heap.size + 1, 0, none⟩) 2 2, .int .i64 1, .int .i64 1] 24)) (.cells #[.int .i64 0, .int .i64 1] 44); rw [hs] at h; exact h
 have HM : Hid (Mod (fun _ => False) w ((w.alloc (.cells #[.int .u8 97, .slice (some ⟨w.heap.size + 1, 0, none⟩) 2 2, .int .i64 1, .int .i64 1] 24)).alloc (.cells #[.int .i64 0, .int .i64 1] 44))) := hid (((Mod.refl _ _).alloc _).alloc _)
 have H1 := hid h1; have H2 := hid h2; clear hs h1 h2; go_enter Tryz.func29, Tryz.ntmps29
 go_wp2_with fail
 generalize (w.alloc (.cells #[.int .u8 97, .slice (some ⟨w.heap.size + 1, 0, none⟩) 2 2, .int .i64 1, .int .i64 1] 24)).alloc (.cells #[.int .i64 0, .int .i64 1] 44) = Z at *; obtain ⟨g0, g1, g2, g3⟩ := row4 H1.out; exact bodyPost_ret (v := .agg #[.int .u8 97, .slice (some ⟨w.heap.size + 1, 0, none⟩) 2 2, .int .i64 1, .int .i64 1]) (by simp [results, Tryz.results29, go_sem, g0, g1, g2, g3]) rfl ⟨HM.out, _, rfl, qCz oneI_len H2.out⟩
theorem jBb : uvar 1 = [1] := by rw [qCb (by decide)]; rfl
theorem qVc : Good 97 qCy 1 1 qCo := by
 refine ⟨?_, rfl, fun j c v hc hv => ?_, fun j v _ hv => ?_⟩
 ·unfold qIs; rw [if_pos (fun k hk => by simp [qCy] at hk; rcases hk with rfl | rfl; exact .inl rfl; exact .inr rfl)]
  rfl
 ·have hj := (List.getElem?_eq_some_iff.1 hv).1; have h2 : j = 0 \/ j = 1 := by simp [qCo] at hj; omega
  rcases h2 with rfl | rfl
  ·cases hc; cases hv; unfold qCk; rw [if_pos rfl, ByteArray.toList_eq]; rfl
  ·cases hc; cases hv; rfl
 ·have hj := (List.getElem?_eq_some_iff.1 hv).1; have h2 : j = 0 \/ j = 1 := by simp [qCo] at hj; omega
  rcases h2 with rfl | rfl <;> cases hv <;> rfl
theorem qSz : pxOf 97 qCy 1 1 qCo = ⟨qEw, [1, 120], qTa⟩ := by
 have ho : ordL 5 = [128, 0, 0, 0, 0, 0, 0, 5] := by decide +kernel
 have h1 : qDj qCy qCo 1 = [128, 0, 0, 0, 0, 0, 0, 5] := by
  unfold qDj qCy qCo; simp [qDr, qPt, ho]
 have h2 : valL qCy qCo 1 2 = [1, 120] := by
  have ht : qDu ⟨#[120]⟩ = [1, 120] := by
   unfold qDu; rw [show (⟨#[120]⟩ : ByteArray).size = 1 from rfl, jBb]; rfl
  unfold valL qCy qCo; simp [qIj, ht]
 have h3 : idxL qCy qCo 1 = [120, 0] := by
  unfold idxL qCy qCo; simp [qDr, qPt]
 unfold pxOf qFk qVa pxL; rw [show (1 : Int).toNat = 1 from rfl, show (97 : Int).toNat = 97 from rfl, h1, show qCy.length = 2 from rfl, h2, h3, if_pos (by decide)]
 simp [qAl, qEw, qTa]
theorem qLz : qBs 97 qCy 1 1 qCo = some ⟨qEw, [1, 120], qTa⟩ := by
 rw [qGh qVc (by rw [qSz]; decide), qSz]
theorem qNk : ∀ v ∈ qCo, v.Ok := by
 intro v hv; simp [qCo] at hv
 rcases hv with rfl | rfl
 ·exact ⟨by decide, by decide, by decide⟩
 ·exact ⟨by decide, by decide, by decide⟩
theorem qKi : (∀ k, (qDj qCy qCo k).length <= 1152921504606846976) /\ ∀ j k, (valL qCy qCo j k).length <= 1152921504606846976 :=
 qKc (by decide) qNk (fun v hv => by simp [qCo] at hv; rcases hv with rfl | rfl <;> decide)
set_option maxHeartbeats 4000000 in
theorem qUl (w : World) : Calls Tryz.prog 9 #[] w fun e w' => e = .returned (.bool true) /\ Mod (fun _ => False) w w' := by
 have HP := hid (fun W : World => qYb W)
 have HE := hid (fun (W : World) (ca ra : Option Addr) (hl : Lies W 1 oneI ca qCy) (hr : Lies W 2 Vl.cs ra qCo) => qTs (w := W) 97 1 1 2 2 hl hr (by decide) (by decide) qNk qKi.1 qKi.2)
 rw [qLz] at HE; have he : qPw (some ⟨qEw, [1, 120], qTa⟩) = .tuple #[.agg #[.string (ba qEw), .string (ba [1, 120])], .int .i64 0] := rfl; rw [he] at HE; clear he; go_enter Tryz.func9, Tryz.ntmps9
 go_upto_region 2 with (first
  | (go_at_call 29; refine (HP.out _).mono ?_; rintro e w1 ⟨hm1, ca, rfl, hl1⟩; have HM1 := hid hm1; have HL1 := hid hl1; have HR1 : Hid (Lies (w1.alloc (.cells #[.int .i64 5, .string ⟨#[]⟩, .int .i64 0, .string ⟨#[120]⟩] 46)) 2 Vl.cs (some ⟨w1.heap.size, 0, none⟩) qCo) := hid (qCz qEt (heap_alloc_new _ _)); have HL2 := hid (hl1.ext ((Mod.refl (fun _ => False) _).alloc (.cells #[.int .i64 5, .string ⟨#[]⟩, .int .i64 0, .string ⟨#[120]⟩] 46))); clear hm1 hl1)
  | (go_at_call 19; refine (HE.out _ _ _ HL2.out HR1.out).mono ?_; rintro e w2 ⟨rfl, hm2⟩; have HM2 := hid hm2; clear hm2))
 have HMU := hid (((HM1.out.alloc (.cells #[.int .i64 5, .string ⟨#[]⟩, .int .i64 0, .string ⟨#[120]⟩] 46)).trans HM2.out).alloc (.cells #[.string (ba qEw), .string (ba [1, 120])] 41)); have HX : Hid (∀ W, Mod (fun _ => False) (w2.alloc (.cells #[.string (ba qEw), .string (ba [1, 120])] 41)) W -> W.cell? ⟨w2.heap.size, 0, none⟩ = some (.string (ba qEw)) /\ W.cell? ⟨w2.heap.size, 1, none⟩ = some (.string (ba [1, 120]))) := hid (fun W hm => by
  have h := row2 ((hm.block _ (lth (heap_alloc_new _ _)) (fun h => h)).trans (heap_alloc_new _ _))
  exact ⟨h.1, h.2.1⟩)
 clear HE; generalize w2.alloc (.cells #[.string (ba qEw), .string (ba [1, 120])] 41) = U at *; have HD := hid (fun (W : World) (ca : Option Addr) (hl : Lies W 1 oneI ca qCy) => ((qMr (w := W) 97 1 1 2 (ba qEw) (ba [1, 120]) hl (by decide) (by decide) (by decide)).mono (fun e w' h => by
  refine ⟨h.1, ?_⟩; have hy := qTv qNk qLz; rcases h.2 with ⟨r, la, cap, h1, h2, h3, h4, h5, h6⟩ | ⟨h1, h2⟩
  ·have hr := qZw hy h1; subst hr; exact ⟨la, cap, h4, h5⟩
  ·exact absurd hy (h1 _) : ∀ e w', qSc W 97 qCy 1 1 (ba qEw) (ba [1, 120]) e w' -> Mod (fun _ => False) W w' /\ ∃ la cap, e = .returned (.tuple #[.slice la qCo.length cap, .int .i64 0]) /\ Lies w' 2 Vl.cs la qCo)))
 have hU0 : Mod (fun _ => False) U U.drew := (Mod.refl _ _).drew
 obtain ⟨y0, y1⟩ := HX.out _ hU0; go_region_held3 (fun W' => W'.cell? ⟨w2.heap.size, 0, none⟩ = some (.string (ba qEw)) /\ W'.cell? ⟨w2.heap.size, 1, none⟩ = some (.string (ba [1, 120])))
  (first | exact ⟨u0, u1⟩ | exact ⟨z0, z1⟩ | exact ⟨y0, y1⟩ | go_keep)
  (first
   | (go_at_call 29; refine (HP.out _).mono ?_; rintro e w3 ⟨hm3, ca3, rfl, hl3⟩; have HM3 := hid (hU0.trans hm3); have HL3 := hid hl3; obtain ⟨z0, z1⟩ := HX.out _ HM3.out; clear hm3 hl3)
   | (go_at_call 30; refine (HD.out _ _ HL3.out).mono ?_; rintro e w4 ⟨hm4, la4, cap4, rfl, hl4⟩; have HM4 := hid (HM3.out.trans hm4); have HL4 := hid hl4; obtain ⟨u0, u1⟩ := HX.out _ HM4.out; clear hm4 hl4))
 all_goals
  rw [show ba qEw = (⟨#[97, 0, 128, 0, 0, 0, 0, 0, 0, 5]⟩ : ByteArray) from rfl] at u0
  rw [show ba [1, 120] = (⟨#[1, 120]⟩ : ByteArray) from rfl] at u1
  have h2 : qCo.length = 2 := rfl; obtain ⟨g, off, rfl⟩ := HL4.out.some (by decide)
  have q0 := HL4.out.cell qEt (i := 0) (x := ⟨5, ⟨#[]⟩⟩) rfl (j := 0) rfl; simp only [Nat.zero_mul, Nat.add_zero] at q0; go_wp2_with fail
  go_ret; exact ⟨rfl, HMU.out.trans HM4.out⟩
end
end Go.Proofs.YtkinkgbmlhiakaaGreatDoor
