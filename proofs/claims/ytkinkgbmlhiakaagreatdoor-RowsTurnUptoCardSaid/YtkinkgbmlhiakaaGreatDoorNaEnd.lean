/- merged: RwW RoTurn Open1 UpG RwOpn RoTurnC -/
import Derived.Test.YtkinkgbmlhiakaaGreatDoorNa32
import Derived.Test.YtkinkgbmlhiakaaGreatDoorProg
import Derived.Test.YtkinkgbmlhiakaaGreatDoorNa01
import Derived.Test.YtkinkgbmlhiakaaGreatDoorRows
import Derived.Test.YtkinkgbmlhiakaaGreatDoorCards
import Derived.Test.YtkinkgbmlhiakaaGreatDoorTie
import Derived.OpenShut
import Derived.Lay
import Derived.Deep.DeepHandedRow
namespace Go.Proofs.YtkinkgbmlhiakaaGreatDoor
section
open Go Go.RowKit
def qDj : List Int := [0, 1]
def qCy : List Vl := [⟨5, ⟨#[]⟩⟩, ⟨0, ⟨#[120]⟩⟩]
def qFf : List UInt8 := [97, 0, 128, 0, 0, 0, 0, 0, 0, 5]
def qUa : List UInt8 := [97, 1, 120, 0, 128, 0, 0, 0, 0, 0, 0, 5]
set_option maxRecDepth 100000
theorem qZh (w : World) : Calls Tryz.prog 29 #[] w fun e w' => Mod (fun _ => False) w w' /\ ∃ ca, e = .returned (.agg #[.int .u8 97, .slice ca qDj.length 2, .int .i64 1, .int .i64 1]) /\ Lies w' 1 oneI ca qDj := by
 have hs : (w.alloc (.cells #[.int .u8 97, .slice (some ⟨w.heap.size + 1, 0, none⟩) 2 2, .int .i64 1, .int .i64 1] 24)).heap.size = w.heap.size + 1 := by simp
 have h1 : ((w.alloc (.cells #[.int .u8 97, .slice (some ⟨w.heap.size + 1, 0, none⟩) 2 2, .int .i64 1, .int .i64 1] 24)).alloc (.cells #[.int .i64 0, .int .i64 1] 44)).heap[w.heap.size]? = some (.cells #[.int .u8 97, .slice (some ⟨w.heap.size + 1, 0, none⟩) 2 2, .int .i64 1, .int .i64 1] 24 (0, 0)) := by
  rw [Below.heap_alloc _ _ _ (by omega)]
  exact heap_alloc_new _ _
 have h2 : ((w.alloc (.cells #[.int .u8 97, .slice (some ⟨w.heap.size + 1, 0, none⟩) 2 2, .int .i64 1, .int .i64 1] 24)).alloc (.cells #[.int .i64 0, .int .i64 1] 44)).heap[w.heap.size + 1]? = some (.cells (qDj.flatMap oneI).toArray 44 (0, 0)) := by
  have h := heap_alloc_new (w.alloc (.cells #[.int .u8 97, .slice (some ⟨w.heap.size + 1, 0, none⟩) 2 2, .int .i64 1, .int .i64 1] 24)) (.cells #[.int .i64 0, .int .i64 1] 44); rw [hs] at h; exact h
 have HM : Hid (Mod (fun _ => False) w ((w.alloc (.cells #[.int .u8 97, .slice (some ⟨w.heap.size + 1, 0, none⟩) 2 2, .int .i64 1, .int .i64 1] 24)).alloc (.cells #[.int .i64 0, .int .i64 1] 44))) := hid (((Mod.refl _ _).alloc _).alloc _)
 have H1 := hid h1; have H2 := hid h2; clear hs h1 h2; go_enter Tryz.func29, Tryz.ntmps29
 go_wp2_with fail
 generalize (w.alloc (.cells #[.int .u8 97, .slice (some ⟨w.heap.size + 1, 0, none⟩) 2 2, .int .i64 1, .int .i64 1] 24)).alloc (.cells #[.int .i64 0, .int .i64 1] 44) = Z at *; obtain ⟨g0, g1, g2, g3⟩ := row4 H1.out; exact bodyPost_ret (v := .agg #[.int .u8 97, .slice (some ⟨w.heap.size + 1, 0, none⟩) 2 2, .int .i64 1, .int .i64 1]) (by simp [results, Tryz.results29, go_sem, g0, g1, g2, g3]) rfl ⟨HM.out, _, rfl, qEv qFr H2.out⟩
theorem jCg : uvar 1 = [1] := by rw [qCi (by decide)]; rfl
theorem qWg : Good 97 qDj 1 1 qCy := by
 refine ⟨?_, rfl, fun j c v hc hv => ?_, fun j v _ hv => ?_⟩
 ·unfold qMt; rw [if_pos (fun k hk => by simp [qDj] at hk; rcases hk with rfl | rfl; exact .inl rfl; exact .inr rfl)]
  rfl
 ·have hj := (List.getElem?_eq_some_iff.1 hv).1; have h2 : j = 0 \/ j = 1 := by simp [qCy] at hj; omega
  rcases h2 with rfl | rfl
  ·cases hc; cases hv; unfold qDe; rw [if_pos rfl, ByteArray.toList_eq]; rfl
  ·cases hc; cases hv; rfl
 ·have hj := (List.getElem?_eq_some_iff.1 hv).1; have h2 : j = 0 \/ j = 1 := by simp [qCy] at hj; omega
  rcases h2 with rfl | rfl <;> cases hv <;> rfl
theorem qTz : pxOf 97 qDj 1 1 qCy = ⟨qFf, [1, 120], qUa⟩ := by
 have ho : ordL 5 = [128, 0, 0, 0, 0, 0, 0, 5] := by decide +kernel
 have h1 : qDq qDj qCy 1 = [128, 0, 0, 0, 0, 0, 0, 5] := by
  unfold qDq qDj qCy; simp [qEa, qSn, ho]
 have h2 : valL qDj qCy 1 2 = [1, 120] := by
  have ht : qCv ⟨#[120]⟩ = [1, 120] := by
   unfold qCv; rw [show (⟨#[120]⟩ : ByteArray).size = 1 from rfl, jCg]; rfl
  unfold valL qDj qCy; simp [qKm, ht]
 have h3 : idxL qDj qCy 1 = [120, 0] := by
  unfold idxL qDj qCy; simp [qEa, qSn]
 unfold pxOf qFz qZg pxL; rw [show (1 : Int).toNat = 1 from rfl, show (97 : Int).toNat = 97 from rfl, h1, show qDj.length = 2 from rfl, h2, h3, if_pos (by decide)]
 simp [qBg, qFf, qUa]
theorem qNc : qBu 97 qDj 1 1 qCy = some ⟨qFf, [1, 120], qUa⟩ := by
 rw [qJk qWg (by rw [qTz]; decide), qTz]
theorem qOj : ∀ v ∈ qCy, v.Ok := by
 intro v hv; simp [qCy] at hv
 rcases hv with rfl | rfl
 ·exact ⟨by decide, by decide, by decide⟩
 ·exact ⟨by decide, by decide, by decide⟩
theorem qLh : (∀ k, (qDq qDj qCy k).length <= 1152921504606846976) /\ ∀ j k, (valL qDj qCy j k).length <= 1152921504606846976 :=
 qHi (by decide) qOj (fun v hv => by simp [qCy] at hv; rcases hv with rfl | rfl <;> decide)
set_option maxHeartbeats 4000000 in
theorem qVn (w : World) : Calls Tryz.prog 9 #[] w fun e w' => e = .returned (.bool true) /\ Mod (fun _ => False) w w' := by
 have HP := hid (fun W : World => qZh W)
 have HE := hid (fun (W : World) (ca ra : Option Addr) (hl : Lies W 1 oneI ca qDj) (hr : Lies W 2 Vl.cs ra qCy) => qUs (w := W) 97 1 1 2 2 hl hr (by decide) (by decide) qOj qLh.1 qLh.2)
 rw [qNc] at HE; have he : qQu (some ⟨qFf, [1, 120], qUa⟩) = .tuple #[.agg #[.string (ba qFf), .string (ba [1, 120])], .int .i64 0] := rfl; rw [he] at HE; clear he; go_enter Tryz.func9, Tryz.ntmps9
 go_upto_region 2 with (first
  | (go_at_call 29; refine (HP.out _).mono ?_; rintro e w1 ⟨hm1, ca, rfl, hl1⟩; have HM1 := hid hm1; have HL1 := hid hl1; have HR1 : Hid (Lies (w1.alloc (.cells #[.int .i64 5, .string ⟨#[]⟩, .int .i64 0, .string ⟨#[120]⟩] 46)) 2 Vl.cs (some ⟨w1.heap.size, 0, none⟩) qCy) := hid (qEv qHy (heap_alloc_new _ _)); have HL2 := hid (hl1.ext ((Mod.refl (fun _ => False) _).alloc (.cells #[.int .i64 5, .string ⟨#[]⟩, .int .i64 0, .string ⟨#[120]⟩] 46))); clear hm1 hl1)
  | (go_at_call 19; refine (HE.out _ _ _ HL2.out HR1.out).mono ?_; rintro e w2 ⟨rfl, hm2⟩; have HM2 := hid hm2; clear hm2))
 have HMU := hid (((HM1.out.alloc (.cells #[.int .i64 5, .string ⟨#[]⟩, .int .i64 0, .string ⟨#[120]⟩] 46)).trans HM2.out).alloc (.cells #[.string (ba qFf), .string (ba [1, 120])] 41)); have HX : Hid (∀ W, Mod (fun _ => False) (w2.alloc (.cells #[.string (ba qFf), .string (ba [1, 120])] 41)) W -> W.cell? ⟨w2.heap.size, 0, none⟩ = some (.string (ba qFf)) /\ W.cell? ⟨w2.heap.size, 1, none⟩ = some (.string (ba [1, 120]))) := hid (fun W hm => by
  have h := row2 ((hm.block _ (lth (heap_alloc_new _ _)) (fun h => h)).trans (heap_alloc_new _ _))
  exact ⟨h.1, h.2.1⟩)
 clear HE; generalize w2.alloc (.cells #[.string (ba qFf), .string (ba [1, 120])] 41) = U at *; have HD := hid (fun (W : World) (ca : Option Addr) (hl : Lies W 1 oneI ca qDj) => ((qWv (w := W) 97 1 1 2 (ba qFf) (ba [1, 120]) hl (by decide) (by decide) (by decide)).mono (fun e w' h => by
  refine ⟨h.1, ?_⟩; have hy := jFf qOj qNc; rcases h.2 with ⟨r, la, cap, h1, h2, h3, h4, h5, h6⟩ | ⟨h1, h2⟩
  ·have hr := jHr hy h1; subst hr; exact ⟨la, cap, h4, h5⟩
  ·exact absurd hy (h1 _) : ∀ e w', qTc W 97 qDj 1 1 (ba qFf) (ba [1, 120]) e w' -> Mod (fun _ => False) W w' /\ ∃ la cap, e = .returned (.tuple #[.slice la qCy.length cap, .int .i64 0]) /\ Lies w' 2 Vl.cs la qCy)))
 have hU0 : Mod (fun _ => False) U U.drew := (Mod.refl _ _).drew
 obtain ⟨y0, y1⟩ := HX.out _ hU0; go_region_held3 (fun W' => W'.cell? ⟨w2.heap.size, 0, none⟩ = some (.string (ba qFf)) /\ W'.cell? ⟨w2.heap.size, 1, none⟩ = some (.string (ba [1, 120])))
  (first | exact ⟨u0, u1⟩ | exact ⟨z0, z1⟩ | exact ⟨y0, y1⟩ | go_keep)
  (first
   | (go_at_call 29; refine (HP.out _).mono ?_; rintro e w3 ⟨hm3, ca3, rfl, hl3⟩; have HM3 := hid (hU0.trans hm3); have HL3 := hid hl3; obtain ⟨z0, z1⟩ := HX.out _ HM3.out; clear hm3 hl3)
   | (go_at_call 30; refine (HD.out _ _ HL3.out).mono ?_; rintro e w4 ⟨hm4, la4, cap4, rfl, hl4⟩; have HM4 := hid (HM3.out.trans hm4); have HL4 := hid hl4; obtain ⟨u0, u1⟩ := HX.out _ HM4.out; clear hm4 hl4))
 all_goals
  rw [show ba qFf = (⟨#[97, 0, 128, 0, 0, 0, 0, 0, 0, 5]⟩ : ByteArray) from rfl] at u0
  rw [show ba [1, 120] = (⟨#[1, 120]⟩ : ByteArray) from rfl] at u1
  have h2 : qCy.length = 2 := rfl; obtain ⟨g, off, rfl⟩ := HL4.out.some (by decide)
  have q0 := HL4.out.cell qHy (i := 0) (x := ⟨5, ⟨#[]⟩⟩) rfl (j := 0) rfl; simp only [Nat.zero_mul, Nat.add_zero] at q0; go_wp2_with fail
  go_ret; exact ⟨rfl, HMU.out.trans HM4.out⟩
end
section
open Go Go.RowKit
theorem qSe : (newD 3000).secs.length = 3000 := List.length_replicate ..
theorem jJe : jlen 500 (newD 3000) = 2499 := by
 unfold jlen; rw [qSe]
theorem qTr {l : List KV} {n : Int} (h : (l.length : Int) <= n) : qRr l ⟨#[]⟩ n = l := by
 have e : l.filter (geK ⟨#[]⟩) = l := List.filter_eq_self.2 (fun p _ => by
  unfold geK kl; rw [show (⟨#[]⟩ : ByteArray).toList = [] by rw [ByteArray.toList_eq]]
  cases p.1.toList <;> rfl)
 unfold qRr; rw [e]; exact List.take_of_length_le (by omega)
theorem qQi {w : World} {t : TypeId} {size n cap : Nat} {a : Option Addr} {xs : List Value} (h : Own w t size a n cap xs) (h0 : 0 < n) : ∃ g off, a = some ⟨g, off, none⟩ := by
 rcases h.2.2.2 with ⟨_, hc⟩ | ⟨g, off, _, h1, _⟩
 ·have := h.2.1; omega
 ·exact ⟨g, off, h1⟩
namespace RowsTurn
set_option maxRecDepth 100000
set_option maxHeartbeats 4000000 in
theorem walk' (W : World) (name keys idx : Int) (ca : Option Addr) (cc : Nat) (cols : List Int) (hl : Lies W 1 oneI ca cols) (hn : cols.length <= 1048576) (ra : Option Addr) (rc : Nat) (r : List Vl) (hr : Lies W 2 Vl.cs ra r) (hv : ∀ x ∈ r, x.Ok /\ x.s.size <= 1048576) (hrn : r.length <= 1048576) (fa : Option Addr) (fc : Nat) (f : List Vl) (hf : Lies W 2 Vl.cs fa f) (hvf : ∀ x ∈ f, x.Ok /\ x.s.size <= 1048576) (hfn : f.length <= 1048576) :
  Calls Tryz.prog 3 #[.agg #[.int .u8 name, .slice ca cols.length cc, .int .i64 keys, .int .i64 idx], .slice ra r.length rc, .slice fa f.length fc] W fun e w' => e = .returned (.bool true) /\ RowKit.Below W.heap.size W w' := by
 have hma : Mod (fun _ => False) W (W.alloc (.cells #[.int .u8 name, .slice ca cols.length cc, .int .i64 keys, .int .i64 idx] 24)) := (Mod.refl _ _).alloc _
 have ha : (W.alloc (.cells #[.int .u8 name, .slice ca cols.length cc, .int .i64 keys, .int .i64 idx] 24)).heap[W.heap.size]? = some (.cells #[.int .u8 name, .slice ca cols.length cc, .int .i64 keys, .int .i64 idx] 24 (0, 0)) := heap_alloc_new _ _; have HM := hid hma; have HL := hid (hl.ext hma); have HR := hid (hr.ext hma); have HF := hid (hf.ext hma); have i1 : qMk cols r := ⟨hrn, hv⟩; have i2 : qMk cols f := ⟨hfn, hvf⟩; have i0 : qMk cols [] := ⟨Nat.zero_le _, fun x hx => by cases hx⟩
 have HRow := hid (fun (V : World) (hm : Mod (fun _ => False) (W.alloc (.cells #[.int .u8 name, .slice ca cols.length cc, .int .i64 keys, .int .i64 idx] 24)) V) => row4 ((hm.block _ (lth ha) (fun h => h)).trans ha))
 clear hma ha hl hr hf hv hrn hvf hfn; go_enter Tryz.func3, Tryz.ntmps3
 go_upto_region 1 with fail
 generalize W.alloc (.cells #[.int .u8 name, .slice ca cols.length cc, .int .i64 keys, .int .i64 idx] 24) = C at *; have HNw := hid (jGy (w := C) 3000); go_upto_region 2 with (first
  | (go_at_call 8; refine HNw.out.mono ?_; rintro e w1 ⟨d, sa, rfl, hd0, hs0, hD, hm1⟩; have HD0 := hid hd0; have HS0 := hid hs0; have HD := hid hD; have HM1 := hid hm1; clear hd0 hs0 hD hm1)
  | (go_at_call 7; refine (jEq (room := 500) HD.out (by omega) (by omega) (by rw [jJe]; omega) (by rw [qSe]; omega)).mono ?_; rintro e w2 ⟨B, rfl, hh, hb1, hb2, hb3, hlo, hm2⟩; have HH := hid hh; have HBr := hid hb3; have HNb := hid (qXd hb1 hb2 HD0.out HS0.out HM1.out.size hlo); have HM2 : Hid (Mod (fun k => C.heap.size <= k) C w2) := hid (((HM1.out.mono (fun _ _ e => e.elim)) : Mod (fun k => C.heap.size <= k) C _).trans (hm2.mono (fun k _ e => by rcases e with e | e; (have := HD0.out; omega); (exact HS0.out k e)))); clear hh hb1 hb2 hb3 hlo hm2))
 go_upto_region 4 with (go_at_call 9; refine (qVn _).mono ?_; rintro e w3 ⟨rfl, hm3⟩; have HM3 := hid (HM2.out.trans (hm3.mono (fun _ _ e => e.elim))); have HH3 := hid (HH.out.ext hm3); clear hm3)
 clear HNw HD HM1 HM2 HH; obtain ⟨R, hR⟩ : ∃ R, rowK name cols keys idx r = R := ⟨_, rfl⟩; obtain ⟨F, hF⟩ : ∃ F, rowK name cols keys idx f = F := ⟨_, rfl⟩; have HEnd : Hid (∀ w', Mod (fun k => C.heap.size <= k) C w' -> RowKit.Below W.heap.size W w') := hid (fun w' h => (HM.out.trans (qKp h)).below (Nat.le_refl _) (fun _ e => e.elim))
 have hs3 := qKp HM3.out; obtain ⟨b0, b1, b2, b3⟩ := HRow.out _ hs3; by_cases hb1 : RBad (rowK name cols keys idx []) (rowK name cols keys idx r) ([] : List Vl).length r.length
 ·have HC1 := hid (qLz (w := w3) (rc := 0) (fc := rc) (cc := cc) (ra := none) (HL.out.ext hs3) (qUi _ _ _ _) (HR.out.ext hs3) hn i0 i1 hb1); clear hb1 hs3; go_wp2_with (go_at_call 10; refine HC1.out.mono ?_; rintro e w4 ⟨rfl, hm4⟩; have HM4 := hid (HM3.out.trans (hm4.mono (fun _ _ e => e.elim))); clear hm4)
  go_ret; exact ⟨rfl, HEnd.out _ HM4.out⟩
 ·obtain ⟨cs1, hcs1⟩ : ∃ cs1, qFy (rowK name cols keys idx []) (rowK name cols keys idx r) = cs1 := ⟨_, rfl⟩; have HC1 := hid (qMa (w := w3) (rc := 0) (fc := rc) (cc := cc) (ra := none) (HL.out.ext hs3) (qUi _ _ _ _) (HR.out.ext hs3) hn i0 i1 hb1 hcs1); have hk1 := qOc (qIf hb1); rw [hcs1] at hk1; have HK1 := hid hk1; rw [jDb, hR] at hcs1; have HCs1 := hid hcs1; have hsz1 : ∀ c ∈ cs1, c.key.size <= maxLen /\ c.value.size <= maxLen := fun c hc => by
   have := qGl hk1.1 c hc; have h1 := this.key; have h2 := this.value; unfold maxLen; omega
  have hl3 := hk1.2; clear hb1 hs3 hcs1 hk1; go_upto_region 5 with (go_at_call 10; refine HC1.out.mono ?_; rintro e w4 ⟨la4, cp4, rfl, hl4, hm4⟩; have HL4 := hid hl4; have HM4 := hid (HM3.out.trans (hm4.mono (fun _ _ e => e.elim))); have HH4 := hid (HH3.out.ext hm4); clear hl4 hm4)
  have HA1 := hid (qJr HH4.out (by omega) cp4 HL4.out (by omega) hsz1)
  clear HC1 hsz1 b0 b1 b2 b3; go_upto_if 39 with (go_at_call 11; refine HA1.out.mono ?_; intro e w5 ha; obtain ⟨E, rfl, hm5, hE⟩ := ha.brief; have HM5 := hid (HM4.out.trans (hm5.mono (fun b _ e => HNb.out b e))); have HE := hid hE; clear ha hm5 hE)
  rcases HE.out with ⟨rfl, T1, D1, N1, h5, hn5⟩ | ⟨hne, h5⟩
  ·have hl1 : (chgs cs1 []).length <= 3 := by have := qPh cs1 (l := []); simp only [List.length_nil] at this; omega
   obtain ⟨l1, hl1e⟩ : ∃ l, chgs cs1 [] = l := ⟨_, rfl⟩; rw [hl1e] at h5 hl1; have HL1e := hid hl1e; have HH5 := hid h5; have HN5 := hid (hn5.trans qSe); have HSc := hid (qQr HH5.out ⟨#[]⟩ 99); rw [qTr (by omega)] at HSc
   clear h5 hn5 hl1e HA1 HL4 HH4 HH3 HE HK1; go_upto_region 8 with (go_at_call 12; refine HSc.out.mono ?_; rintro e w6 ⟨xa, xc, rfl, ho6, hb6, hm6⟩; have HO6 := hid ho6; have HB6 := hid hb6; have HM6 := hid (HM5.out.trans (hm6.mono (fun _ _ e => e.elim))); have HH6 := hid (HH5.out.ext hm6); clear ho6 hb6 hm6)
   have hs6 := qKp HM6.out; obtain ⟨b0, b1, b2, b3⟩ := HRow.out _ hs6; by_cases hb2 : RBad (rowK name cols keys idx r) (rowK name cols keys idx f) r.length f.length
   ·have HC2 := hid (qLz (w := w6) (rc := rc) (fc := fc) (cc := cc) (HL.out.ext hs6) (HR.out.ext hs6) (HF.out.ext hs6) hn i1 i2 hb2); clear hb2 hs6; go_wp2_with (go_at_call 10; refine HC2.out.mono ?_; rintro e w7 ⟨rfl, hm7⟩; have HM7 := hid (HM6.out.trans (hm7.mono (fun _ _ e => e.elim))); clear hm7)
    go_ret; exact ⟨rfl, HEnd.out _ HM7.out⟩
   ·have hb3 := qZe hb2; obtain ⟨cs2, hcs2⟩ : ∃ cs2, qFy (rowK name cols keys idx r) (rowK name cols keys idx f) = cs2 := ⟨_, rfl⟩; obtain ⟨cs3, hcs3⟩ : ∃ cs3, qFy (rowK name cols keys idx f) (rowK name cols keys idx r) = cs3 := ⟨_, rfl⟩; have HC2 := hid (qMa (w := w6) (rc := rc) (fc := fc) (cc := cc) (HL.out.ext hs6) (HR.out.ext hs6) (HF.out.ext hs6) hn i1 i2 hb2 hcs2); have HC3 := hid (fun (V : World) (hm : Mod (fun _ => False) C V) => qMa (w := V) (rc := fc) (fc := rc) (cc := cc) (HL.out.ext hm) (HF.out.ext hm) (HR.out.ext hm) hn i2 i1 hb3 hcs3)
    have hback := qYc (name := name) (cols := cols) (keys := keys) (idx := idx) (r := r) (r' := f) (qIf hb2); have hk2 := qOc (qIf hb2); have hk3 := qOc (qIf hb3); rw [hcs2] at hk2; rw [hcs3] at hk3; rw [hcs2, hcs3, hR, HCs1.out, HL1e.out] at hback; have HBack := hid hback; have HK2 := hid hk2; have HK3 := hid hk3; have hc2 := hk2.2; have hc3 := hk3.2; have hg : ∀ cs : List Cg, chkF [] cs = 0 -> ∀ c ∈ cs, c.key.size <= maxLen /\ c.value.size <= maxLen := fun cs h c hc => by
     have := qGl h c hc; have h1 := this.key; have h2 := this.value; unfold maxLen; omega
    have HG := hid hg; clear hb2 hb3 hs6 hcs2 hcs3 hback hk2 hk3 hg; go_upto_region 9 with (go_at_call 10; refine HC2.out.mono ?_; rintro e w7 ⟨la7, cp7, rfl, hl7, hm7⟩; have HL7 := hid hl7; have HM7 := hid (HM6.out.trans (hm7.mono (fun _ _ e => e.elim))); have HH7 := hid (HH6.out.ext hm7); have HO7 := hid (HO6.out.mod hm7 (fun _ _ e => e)); clear hl7 hm7)
    have HA2 := hid (qJr HH7.out (by omega) cp7 HL7.out (by omega) (HG.out _ HK2.out.1))
    have HNt : Hid (∀ b, blk xa b -> ¬ TS B b) := hid (fun b hb e => by have h1 := HB6.out b hb; have h2 := HH5.out.tree.lt' e; omega)
    clear HC2 b0 b1 b2 b3; go_upto_region 11 with (go_at_call 11; refine HA2.out.mono ?_; intro e w8 ha; obtain ⟨rfl, T8, D8, N8, h8, hn8, hm8⟩ := HApp.made HH7.out ha HK2.out.1 (by omega) (by omega) HBr.out (by rw [HN5.out]; decide); have HH8 := hid h8; have HN8 := hid (hn8.trans HN5.out); have HM8 := hid (HM7.out.trans (hm8.mono (fun b _ e => HNb.out b e))); have HO8 := hid (HO7.out.mod hm8 (fun b hb => HNt.out b hb)); clear ha h8 hn8 hm8)
    have hs8 := qKp HM8.out; obtain ⟨b0, b1, b2, b3⟩ := HRow.out _ hs8; have HC3' := hid (HC3.out _ hs8); have hl2 : (chgs cs2 l1).length <= 6 := by have := qPh cs2 (l := l1); omega
    clear hs8; go_upto_region 12 with (go_at_call 10; refine HC3'.out.mono ?_; rintro e w9 ⟨la9, cp9, rfl, hl9, hm9⟩; have HL9 := hid hl9; have HM9 := hid (HM8.out.trans (hm9.mono (fun _ _ e => e.elim))); have HH9 := hid (HH8.out.ext hm9); have HO9 := hid (HO8.out.mod hm9 (fun _ _ e => e)); clear hl9 hm9)
    have HA3 := hid (qJr HH9.out (by omega) cp9 HL9.out (by omega) (HG.out _ HK3.out.1))
    clear HC3 HC3' b0 b1 b2 b3; go_upto_region 14 with (go_at_call 11; refine HA3.out.mono ?_; intro e wa ha; obtain ⟨rfl, Ta, Da, Na, h8, hn8, hm8⟩ := HApp.made HH9.out ha HK3.out.1 (by omega) (by omega) HBr.out (by rw [HN8.out]; decide); rw [HBack.out] at h8; have HHa := hid h8; have HMa := hid (HM9.out.trans (hm8.mono (fun b _ e => HNb.out b e))); have HOa := hid (HO9.out.mod hm8 (fun b hb => HNt.out b hb)); clear ha h8 hn8 hm8)
    have HSd := hid (qQr HHa.out ⟨#[]⟩ 99); rw [qTr (by omega)] at HSd
    have dne : ((l1.length : Int) != (l1.length : Int)) = false := by simp
    clear HA3 HHa HH9 HH8 HH7 HH6 HH5 HL7 HL9; go_upto_region 17 with (go_at_call 12; refine HSd.out.mono ?_; rintro e wb ⟨ya, yc, rfl, hob, hbb, hmb⟩; have HOy := hid hob; have HMb := hid (HMa.out.trans (hmb.mono (fun _ _ e => e.elim))); have HOx := hid (HOa.out.mod hmb (fun _ _ e => e)); clear hob hbb hmb)
    go_wp2_with fail
    go_loopw [83] (fun si wr => ∃ i : Nat, i <= l1.length /\ si = .int .i64 (i : Int) /\ Mod (fun _ => False) wb wr) (fun si _ => l1.length - (intOf si).toNat)
    case atStart => exact ⟨0, Nat.zero_le _, rfl, Mod.refl _ _⟩
    case round =>
     obtain ⟨i, hil, rfl, hmr⟩ := hrel; have HMr := hid hmr; by_cases hlt : i < l1.length
     ·have e0 : decide ((i : Int) < (l1.length : Int)) = true := by simp; omega
      have e1 : decide (i < l1.length) = true := by simpa using hlt
      have hdi : ¬ l1.length <= i := by omega
      obtain ⟨⟨xk, xv⟩, hx⟩ : ∃ x, l1[i]? = some x := ⟨_, List.getElem?_eq_getElem hlt⟩; obtain ⟨g1, o1, rfl⟩ := qQi HOx.out (by omega)
      obtain ⟨g2, o2, rfl⟩ := qQi HOy.out (by omega)
      have q0 : wr.cell? ⟨g1, o1 + i * 2, none⟩ = some (.string xk) := by have := (HOx.out.mod hmr (fun _ _ e => e)).elem qOt hx (j := 0) rfl; rw [Nat.add_zero] at this; exact this
      have q1 := (HOx.out.mod hmr (fun _ _ e => e)).elem qOt hx (j := 1) rfl
      have r0 : wr.cell? ⟨g2, o2 + i * 2, none⟩ = some (.string xk) := by have := (HOy.out.mod hmr (fun _ _ e => e)).elem qOt hx (j := 0) rfl; rw [Nat.add_zero] at this; exact this
      have r1 := (HOy.out.mod hmr (fun _ _ e => e)).elem qOt hx (j := 1) rfl
      have dv := jJm (rfl : xv = xv); have du := jJm (rfl : xk = xk); clear hmr hx; go_upto_region 20 with fail
      go_quiet (fail)
      go_wp2_with fail
      go_roundw
      case rel => exact ⟨i + 1, by omega, by go_num, HMr.out.trans ⟨rfl, rfl, rfl, Nat.le_refl _, fun _ _ _ => rfl⟩⟩
      case measure => simp [intOf]; omega
     ·have hie : i = l1.length := by omega
      subst hie; have e0 : decide ((l1.length : Int) < (l1.length : Int)) = false := by simp
      have e1 : decide (l1.length < l1.length) = false := by simp
      have HFn := hid (HMb.out.trans (HMr.out.mono (fun _ _ e => e.elim)))
      go_wp2_with fail
      go_ret; exact ⟨rfl, HEnd.out _ HFn.out⟩
  ·have dE : (E != 0) = true := by rw [bne_iff_ne]; exact hne
   clear hne h5 HA1 HL4; go_wp2_with fail
   go_ret; exact ⟨rfl, HEnd.out _ HM5.out⟩
end RowsTurn
end
section
open Go Go.RowKit
theorem qVa : Tryz.prog.cellsOf 3 = 1 := by kernel_rfl
theorem jFi : Tryz.prog.cellsOf 9 = 1 := by kernel_rfl
theorem jIm {n : Int} (h : (Lit.int .i64 n).wf = true) : -9223372036854775808 <= n /\ n <= 9223372036854775807 := by
 simp only [Lit.wf, Bool.and_eq_true, decide_eq_true_eq] at h; have a1 : IntKind.min .i64 = -9223372036854775808 := rfl; have a2 : IntKind.max .i64 = 9223372036854775807 := rfl; rw [a1, a2] at h; exact h
section
variable {H : Type} {enc : TypeId × Value -> H} {w : World} {base : Nat} {spare : Nat -> Bool} {held : Bool}
end
end
section
open Go Go.RowKit
theorem jFs (a : Addr) (x j : Nat) : (a.add x).add j = a.add (x + j) := by
 unfold Addr.add; by_cases hz : x = 0 <;> by_cases hj : j = 0 <;> simp [hz, hj]
 ·omega
section
variable {H : Type} {enc : TypeId × Value -> H} {w : World} {base : Nat} {spare : Nat -> Bool} {held : Bool}
theorem jFk (d : DataW H) : 1 <= Rows.uptoBulk d := by
 cases d with
 | lit l => cases l <;> simp [Rows.uptoBulk]
 | _ => simp [Rows.uptoBulk]
theorem qPk {d : DataW H} {l : List (DataW H)} (h : d ∈ l) : Rows.uptoBulk d <= Rows.uptoBulkAll l := by
 induction l with
 | nil => cases h
 | cons x r ih =>
  simp only [Rows.uptoBulkAll]; rcases List.mem_cons.1 h with rfl | e
  ·omega
  ·have := ih e; omega
theorem jFl (l : List (DataW H)) : l.length <= Rows.uptoBulkAll l := by
 induction l with
 | nil => simp [Rows.uptoBulkAll]
 | cons x r ih => have := jFk x; simp only [Rows.uptoBulkAll, List.length_cons]; omega
theorem bulk_all {l : List (DataW H)} (hk : Rows.uptoSmall H l = true) : ∀ d ∈ l, Rows.uptoBulk d <= 1048576 := fun d hd => by
 have h1 : Rows.uptoBulkAll l <= 1048576 := of_decide_eq_true hk; exact Nat.le_trans (qPk hd) h1
theorem qNg {α : Type} {f : α -> List Value} {Q : α -> Prop} {size : Nat} {t e : TypeId} {fuel : Nat} {cs : List Value} {y : DataW H × List MemPlace} (ht : Tryz.prog.underlying t = some (.slice e)) (hc : Tryz.prog.cellsOf e = size) (hs0 : 0 < size)
  (hf : ∀ x, (f x).length = size) (hel : ∀ (n : Nat) (cs : List Value) (y : DataW H × List MemPlace), DataW.trod enc Tryz.prog w base spare held n e cs = some y -> Rows.uptoBulk y.1 <= 1048576 -> ∃ x, cs = f x /\ Q x)
  (h : DataW.trod enc Tryz.prog w base spare held fuel t cs = some y) (hfit : Rows.uptoBulk y.1 <= 1048576) :
  ∃ (a : Option Addr) (cap : Nat) (ls : List α), cs = [.slice a ls.length cap] /\ Lies w size f a ls /\ (∀ x ∈ ls, Q x) /\ ls.length <= 1048576 := by
 rcases Deep.open_slice ht h with ⟨rfl, _⟩ | ⟨a', len, cap, m, n, D, Pl, rfl, hb, hl, hm, hmm, hx, hev0⟩
 ·exact ⟨none, 0, [], rfl, ⟨⟨by simp, fun _ => rfl, fun a ha => by cases ha⟩, fun h => by simp at h, fun _ h => by simp at h⟩, fun x hx => by simp at hx, Nat.zero_le _⟩
 ·have hml : len <= m := by rw [hmm]; split <;> omega
  rw [hx] at hfit; simp only [Rows.uptoBulk] at hfit; have hlen0 := jFl ((List.range len).map D); rw [List.length_map, List.length_range] at hlen0; have hev : ∀ i, i < len -> ∃ x, w.cells? base (a'.add (i * size)) size = some (f x) /\ Q x := fun i hi => by
   obtain ⟨cs', h1, h2⟩ := hev0 i (by omega)
   have hbi := qPk (H := H) (d := D i) (l := (List.range len).map D) (List.mem_map.2 ⟨i, List.mem_range.2 hi, rfl⟩); obtain ⟨x, rfl, hq⟩ := hel n cs' _ h2 (by show Rows.uptoBulk (D i) <= 1048576; omega)
   rw [hc] at h1; exact ⟨x, h1, hq⟩
  have hlist : ∀ k, k <= len -> ∃ ls : List α, ls.length = k /\ (∀ x ∈ ls, Q x) /\ ∀ (i : Nat) x, ls[i]? = some x -> w.cells? base (a'.add (i * size)) size = some (f x) := by
   intro k; induction k with
   | zero => exact fun _ => ⟨[], rfl, fun x h => by simp at h, fun i x h => by simp at h⟩
   | succ k ih =>
    intro hk; obtain ⟨ls, h1, hq, h2⟩ := ih (by omega)
    obtain ⟨x, hx', hqx⟩ := hev k (by omega)
    refine ⟨ls ++ [x], by simp [h1], fun z hz => ?_, fun i y hy => ?_⟩
    ·rcases List.mem_append.1 hz with h | h
     ·exact hq z h
     ·simp at h; subst h; exact hqx
    ·rw [List.getElem?_append] at hy; split at hy
     ·exact h2 i y hy
     ·have : i = k := by
       rcases Nat.lt_or_ge (i - ls.length) 1 with h | h
       ·omega
       ·rw [List.getElem?_eq_none (by simpa using h)] at hy; cases hy
      subst this; rw [h1, Nat.sub_self] at hy; simp at hy
      subst hy; exact hx'
  obtain ⟨ls, h1, hq, h2⟩ := hlist len (Nat.le_refl _); have hcell : ∀ (i : Nat) x, ls[i]? = some x -> ∀ j u, (f x)[j]? = some u -> w.cell? (a'.add (i * size + j)) = some u := by
   intro i x hi j u hu; have h3 := (World.cells?_some (h2 i x hi)).2.2 j (by have := (List.getElem?_eq_some_iff.1 hu).1; rwa [hf] at this)
   rw [hu] at h3; rw [<- h3]; rw [jFs]
  refine ⟨some a', cap, ls, by rw [h1], ⟨⟨by rw [qDr hf], fun h => (by cases h), fun a'' ha j u hu => ?_⟩, fun hlen x hx => ?_, fun k hlen hk => ?_⟩, hq, by omega⟩
  ·cases ha
   have hj : j = j / size * size + j % size := by rw [Nat.mul_comm]; exact (Nat.div_add_mod j size).symm
   rw [hj, qGu hf ls _ _ (Nat.mod_lt _ hs0)] at hu; rw [hj]; cases hls : ls[j / size]? with
   | none => rw [hls] at hu; cases hu
   | some x => rw [hls] at hu; exact hcell _ x hls _ u hu
  ·cases hx
   obtain ⟨x, hx0⟩ : ∃ x, ls[0]? = some x := ⟨ls[0]'(by omega), by simp⟩
   have := hcell 0 x hx0 0 _ (List.getElem?_eq_getElem (by rw [hf]; exact hs0))
   simp only [Nat.zero_mul, Nat.add_zero] at this; unfold World.cell? at this; simp only [Addr.add, if_true] at this; split at this
   ·split at this
    ·cases this
    ·rename_i h; simpa using h
   ·cases this
  ·obtain ⟨a'', ha, rfl⟩ := hk; cases ha
   obtain ⟨x, hx0⟩ : ∃ x, ls[0]? = some x := ⟨ls[0]'(by omega), by simp⟩
   have := hcell 0 x hx0 0 _ (List.getElem?_eq_getElem (by rw [hf]; exact hs0))
   have := World.block_lt_of_cell? _ _ this
   simpa [Addr.add] using this
theorem qVz {n : Nat} {cs : List Value} {y : DataW H × List MemPlace} (h : DataW.trod enc Tryz.prog w base spare held n 9 cs = some y) (hfit : Rows.uptoBulk y.1 <= 1048576) : ∃ s : ByteArray, cs = [.string s] /\ s.size <= 1048576 := by
 obtain ⟨s, hcs, hx, _⟩ := DataW.trod_string Tryz.underlying9 h; refine ⟨s, hcs, ?_⟩; rw [hx] at hfit; simp only [Rows.uptoBulk] at hfit; have e : s.data.toList.length = s.size := by rw [Array.length_toList]; rfl
 omega
theorem qLu {fs : Array Field} {t : TypeId} {fuel : Nat} {cs : List Value} {x : DataW H × List MemPlace} (ht : Tryz.prog.underlying t = some (.struct fs)) (h : DataW.trod enc Tryz.prog w base spare held fuel t cs = some x) (hfit : Rows.uptoBulk x.1 <= 1048576)
  (i : Nat) (f : Field) (hf : fs[i]? = some f) : ∃ n y, DataW.trod enc Tryz.prog w base spare held n f.type ((cs.drop f.offset).take (Tryz.prog.cellsOf f.type)) = some y /\ Rows.uptoBulk y.1 <= 1048576 := by
 obtain ⟨xs, n, _, hx, _, hlen, hall⟩ := DataW.trod_struct ht h; have hi : i < xs.length := by rw [hlen]; exact (Array.getElem?_eq_some_iff.1 hf).1
 refine ⟨n, xs[i], by rw [hall i f hf]; simp [hi], ?_⟩
 rw [hx] at hfit; simp only [Rows.uptoBulk] at hfit; have := qPk (H := H) (d := xs[i].1) (l := xs.map (·.1)) (List.mem_map.2 ⟨xs[i], by simp, rfl⟩)
 omega
end
end
section
open Go Go.RowKit
section
variable {H : Type} {enc : TypeId × Value -> H} {w : World} {base : Nat} {spare : Nat -> Bool} {held : Bool}
theorem jIb : Tryz.prog.cellsOf 5 = 1 := by kernel_rfl
theorem jFj : Tryz.prog.cellsOf 2 = 1 := by kernel_rfl
theorem jBm : Tryz.prog.cellsOf 44 = 1 := by kernel_rfl
theorem qXa : Tryz.prog.cellsOf 22 = 1 := by kernel_rfl
theorem jFh : Tryz.prog.cellsOf 24 = 4 := by kernel_rfl
theorem qUz : Tryz.prog.cellsOf 46 = 2 := by kernel_rfl
theorem qVx : ∃ f0 f1 f2 f3 : Field, Tryz.prog.underlying 24 = some (.struct #[f0, f1, f2, f3]) /\ f0.offset = 0 /\ f0.type = 5 /\ f1.offset = 1 /\ f1.type = 22 /\ f2.offset = 2 /\ f2.type = 3 /\ f3.offset = 3 /\ f3.type = 3 :=
 ⟨_, _, _, _, Tryz.underlying24, rfl, rfl, rfl, rfl, rfl, rfl, rfl, rfl⟩
theorem qVo : ∃ f0 f1 : Field, Tryz.prog.underlying 46 = some (.struct #[f0, f1]) /\ f0.offset = 0 /\ f0.type = 2 /\ f1.offset = 1 /\ f1.type = 9 :=
 ⟨_, _, Tryz.underlying46, rfl, rfl, rfl, rfl⟩
set_option maxRecDepth 100000
theorem qRn {fuel : Nat} {cs : List Value} {y : DataW H × List MemPlace} (h : DataW.trod enc Tryz.prog w base spare held fuel 22 cs = some y) (hfit : Rows.uptoBulk y.1 <= 1048576) :
  ∃ (a : Option Addr) (cap : Nat) (ls : List Int), cs = [.slice a ls.length cap] /\ Lies w 1 oneI a ls /\ (∀ x ∈ ls, True) /\ ls.length <= 1048576 :=
 qNg (f := oneI) (Q := fun _ => True) Tryz.underlying22 jBm (by decide) qFr (fun n cs y hy _ => by
  obtain ⟨m, rfl, _, _⟩ := DataW.trod_int Tryz.underlying44 hy; exact ⟨m, rfl, trivial⟩) h hfit
theorem qYp {fuel : Nat} {cs : List Value} {y : DataW H × List MemPlace} (h : DataW.trod enc Tryz.prog w base spare held fuel 46 cs = some y) (hfit : Rows.uptoBulk y.1 <= 1048576) :
  ∃ v : Vl, cs = v.cs /\ v.Ok /\ v.s.size <= 1048576 := by
 obtain ⟨f0, f1, hu, o0, t0, o1, t1⟩ := qVo; have hl := qIm hu h; rw [qUz] at hl; obtain ⟨n, g0, hwf⟩ := qIr hu h 0 f0 rfl (by rw [t0]; exact Tryz.underlying2) (by rw [t0]; exact jFj)
 obtain ⟨n1, y1, h1, s1⟩ := qLu hu h hfit 1 f1 rfl; rw [t1] at h1; obtain ⟨s, e1, z1⟩ := qVz h1 s1; rw [jFi] at e1; have g1 := qGh e1; rw [o0] at g0; rw [o1] at g1; have hw := jIm hwf; refine ⟨⟨n, s⟩, ?_, ⟨hw.1, hw.2, by simp only; omega⟩, z1⟩
 apply List.ext_getElem?; intro j
 match j with
 | 0 => exact g0
 | 1 => exact g1
 | j + 2 => rw [List.getElem?_eq_none (by omega), List.getElem?_eq_none (by simp [Vl.cs])]
theorem open_row {r : Reach} {b0 : Nat} {v : Value} {d : DataW H} {ps : List MemPlace} (hval : Value.okWide Tryz.prog w r b0 26 v) (hd : DataW.Trod enc Tryz.prog w base spare held 26 v d ps) (hb : Rows.uptoBulk d <= 1048576) :
  ∃ (a : Option Addr) (cap : Nat) (ls : List Vl), v = .slice a ls.length cap /\ Lies w 2 Vl.cs a ls /\ (∀ x ∈ ls, x.Ok /\ x.s.size <= 1048576) /\ ls.length <= 1048576 := by
 obtain ⟨a, len, cap, rfl⟩ := WideShapes.okWide_slice Tryz.underlying26 hval; obtain ⟨fuel, hf⟩ := hd; obtain ⟨a', cap', ls, e, l, q, z⟩ := qNg (f := Vl.cs) (Q := fun x => x.Ok /\ x.s.size <= 1048576) Tryz.underlying26 qUz (by decide) qHy (fun n cs y hy hb => qYp hy hb) hf hb
 simp only [Value.cells] at e; cases e
 exact ⟨a, cap, ls, rfl, l, q, z⟩
theorem open_table {r : Reach} {b0 : Nat} {v : Value} {d : DataW H} {ps : List MemPlace} (hval : Value.okWide Tryz.prog w r b0 24 v) (hd : DataW.Trod enc Tryz.prog w base spare held 24 v d ps) (hb : Rows.uptoBulk d <= 1048576) :
  ∃ (name keys idx : Int) (ca : Option Addr) (cc : Nat) (cols : List Int), v = .agg #[.int .u8 name, .slice ca cols.length cc, .int .i64 keys, .int .i64 idx] /\ Lies w 1 oneI ca cols /\ cols.length <= 1048576 := by
 obtain ⟨f0, f1, f2, f3, hu, o0, t0, o1, t1, o2, t2, o3, t3⟩ := qVx; obtain ⟨cs, n, rfl, h⟩ := jDt hu hval hd; have hl := qIm hu h; rw [jFh] at hl; obtain ⟨name, g0, _⟩ := qIr hu h 0 f0 rfl (by rw [t0]; exact Tryz.underlying5) (by rw [t0]; exact jIb)
 obtain ⟨keys, g2, _⟩ := qIr hu h 2 f2 rfl (by rw [t2]; exact Tryz.underlying3) (by rw [t2]; exact qVa)
 obtain ⟨idx, g3, _⟩ := qIr hu h 3 f3 rfl (by rw [t3]; exact Tryz.underlying3) (by rw [t3]; exact qVa)
 obtain ⟨n1, y1, h1, s1⟩ := qLu hu h hb 1 f1 rfl; rw [t1] at h1; obtain ⟨ca, cc, cols, e1, l1, _, z1⟩ := qRn h1 s1; rw [qXa] at e1; have g1 := qGh e1; rw [o0] at g0; rw [o1] at g1; rw [o2] at g2; rw [o3] at g3; refine ⟨name, keys, idx, ca, cc, cols, ?_, l1, z1⟩; have : cs = [.int .u8 name, .slice ca cols.length cc, .int .i64 keys, .int .i64 idx] := by
  apply List.ext_getElem?; intro j
  match j with
  | 0 => exact g0
  | 1 => exact g1
  | 2 => exact g2
  | 3 => exact g3
  | j + 4 => rw [List.getElem?_eq_none (by omega), List.getElem?_eq_none (by simp)]
 rw [this]
end
end
end Go.Proofs.YtkinkgbmlhiakaaGreatDoor
namespace Go.Proofs.YtkinkgbmlhiakaaGreatDoor
open Go Go.RowKit
namespace RowsTurn
open Go.ChangeShapes Go.WideShapes Go.ChangeAt
theorem own : ownKnob Tryz.prog.godebug = none := by kernel_rfl
theorem laidOut : laidOutB Tryz.prog = true := by kernel_rfl
set_option maxRecDepth 100000 in
theorem contract (H : Type) (enc : TypeId × Value → H) (W : World) (base : Nat) (args : Array Value) (ds gs : List (DataW H)) (before : List MemPlace)
    (hval0 : ∀ (j : Nat) t v, Tryz.f3.params[j]? = some t → args[j]? = some v → Value.okWide Tryz.prog W .any base t v)
    (hW : DataW.Whole enc Tryz.prog Tryz.f3.params.toList Rows.rowsTurnSpec.vars false W args.toList ds gs before) (hk : Rows.uptoSmall H (ds ++ gs) = true) :
    Calls Tryz.prog 3 args W fun e W' => ∃ v, e = .returned v ∧ Rows.rowsTurnSpec.post enc Tryz.prog Tryz.f3 false true false false W args v W' := by
  have hbk := bulk_all hk
  have hval : ∀ (j : Nat) t v, Tryz.f3.params[j]? = some t → args[j]? = some v → Value.okWide Tryz.prog W .any base t v := hval0
  have hW' := hW
  obtain ⟨p, q, hA0, hV, rfl, hfz, hnd⟩ := hW
  have hA : DataW.TrodAll enc Tryz.prog W 0 (fun _ => true) true Tryz.f3.params.toList args.toList ds p := hA0
  rw [Tryz.params3] at hA hval
  obtain ⟨v0, vs0, d0, ds0, p0, q0, hargs, rfl, rfl, h0, r0⟩ := trodAll_cons hA
  obtain ⟨v1, vs1, d1, ds1, p1, q1, rfl, rfl, rfl, h1, r1⟩ := trodAll_cons r0
  obtain ⟨v2, vs2, d2, ds2, p2, q2, rfl, rfl, rfl, h2, r2⟩ := trodAll_cons r1
  obtain ⟨rfl, rfl, rfl⟩ := trodAll_nil r2
  obtain rfl : args = #[v0, v1, v2] := by cases args; simp_all
  obtain ⟨rfl, rfl⟩ := trodVars_none hV
  have lt0 : ∀ x ∈ p0, x.block < W.heap.size := by obtain ⟨m, hm⟩ := h0; exact DataW.trod_lt m _ _ _ hm
  have lt1 : ∀ x ∈ p1, x.block < W.heap.size := by obtain ⟨m, hm⟩ := h1; exact DataW.trod_lt m _ _ _ hm
  have lt2 : ∀ x ∈ p2, x.block < W.heap.size := by obtain ⟨m, hm⟩ := h2; exact DataW.trod_lt m _ _ _ hm
  obtain ⟨x0a, x0b, x0c, x0d, x0e, x0f, rfl, f0a, f0b⟩ := open_table (hval 0 24 v0 rfl rfl) h0 (hbk d0 (by simp))
  obtain ⟨x1a, x1b, x1c, rfl, f1a, f1b, f1c⟩ := open_row (hval 1 26 v1 rfl rfl) h1 (hbk d1 (by simp))
  obtain ⟨x2a, x2b, x2c, rfl, f2a, f2b, f2c⟩ := open_row (hval 2 26 v2 rfl rfl) h2 (hbk d2 (by simp))
  clear hA0 hval0
  refine (walk' W x0a x0b x0c x0d x0e x0f f0a f0b x1a x1b x1c f1a f1b f1c x2a x2b x2c f2a f2b f2c).mono fun e W' ⟨he, bel⟩ => ?_
  subst he
  exact ⟨_, rfl, _, _, _, [], _, [], hW', trodAll_mk1 (shut_bool Tryz.underlying4 _), (trodAll_cons_mk (RowKit.Below.trod laidOut (by kernel_rfl) (of_decide_eq_true (by kernel_rfl)) h0 bel lt0) (trodAll_cons_mk (RowKit.Below.trod laidOut (by kernel_rfl) (of_decide_eq_true (by kernel_rfl)) h1 bel lt1) (trodAll_cons_mk (RowKit.Below.trod laidOut (by kernel_rfl) (of_decide_eq_true (by kernel_rfl)) h2 bel lt2) trodAll_mk0))), rfl, bel.frame _, fun h => by cases h⟩
noncomputable def laidWorld (os : Os) : World := World.laidAll Tryz.prog os Rows.rowsTurnUptoRow.laid
theorem laid_met (os : Os) : laidMetH Tryz.prog Rows.rowsTurnUptoRow.laid ((laidWorld os).forCall (fun _ _ => 0) ⟨#[], #[.agg #[.int .u8 0, .slice none 0 0, .int .i64 0, .int .i64 0], .slice none 0 0, .slice none 0 0], []⟩).memory := by
  rw [MakeChecks.laidMetH_plain _ _ _ (by kernel_rfl)]
  exact laidMet_laidAll _ (by kernel_rfl) (by kernel_rfl)
theorem reads (os : Os) {H : Type} (enc : TypeId × Value → H) : ∃ places, DataW.whole enc Tryz.prog ((laidWorld os).forCall (fun _ _ => 0) ⟨#[], #[.agg #[.int .u8 0, .slice none 0 0, .int .i64 0, .int .i64 0], .slice none 0 0, .slice none 0 0], []⟩).memory Tryz.f3.params.toList Rows.rowsTurnSpec.vars false #[Value.agg #[.int .u8 0, .slice none 0 0, .int .i64 0, .int .i64 0], Value.slice none 0 0, Value.slice none 0 0].toList 8 = some ([.agg [.lit (.int .u8 0), .nil, .lit (.int .i64 0), .lit (.int .i64 0)], .nil, .nil], [], places) :=
  ⟨[], by kernel_rfl⟩
set_option maxRecDepth 100000 in
theorem lifted (os : Os) (started : os.Started) (H : Type) (enc : TypeId × Value → H) (F : Stop.Interp) :
    ReturnsInHanded {} Tryz.checked os 3 .any ((Rows.OpenSpec.upto Rows.rowsTurnSpec).preRow enc Tryz.prog Tryz.f3 Rows.rowsTurnUptoRow.domain false Rows.rowsTurnUptoRow.laid) (((Rows.OpenSpec.upto Rows.rowsTurnSpec).at F).post enc Tryz.prog Tryz.f3 false true false false) := by
  obtain ⟨places, hx⟩ := reads os enc
  refine returnsInHanded_of_row (C := Tryz.checked) (s := Rows.OpenSpec.upto Rows.rowsTurnSpec) own started (by kernel_rfl) Tryz.func3
    (witness_row_at (enc := enc) (C := Tryz.checked) false (laidWorld os) #[.agg #[.int .u8 0, .slice none 0 0, .int .i64 0, .int .i64 0], .slice none 0 0, .slice none 0 0] (World.laidAll_os _ _ _) (by kernel_rfl) (by kernel_rfl) (by kernel_rfl)
      (OpenSpec.preRow_of_cond 8 hx (by kernel_rfl) (fun k hk => by cases hk; kernel_rfl) (by kernel_rfl) (laid_met os))) ?_
  intro W base args ds gs before hval hW _ hcond _ _ _ _
  exact contract H enc W base args ds gs before hval hW (hcond _ rfl)
theorem saidUpto : Rows.RowsTurnUptoSaid :=
  OpenClaim.holds_of_cond 3 Tryz.f3 rfl rfl rfl rfl rfl rfl rfl ⟨rfl, rfl, rfl, rfl, rfl⟩ rfl rfl rfl rfl rfl (by kernel_rfl) Tryz.func3 (by kernel_rfl)
    (of_decide_eq_true (by kernel_rfl)) (by unfold Func.isWrapper; first | (rw [if_pos (by decide +kernel)]; kernel_rfl) | (rw [if_neg (by decide +kernel)]; exact ⟨rfl, rfl⟩))
    (fun os started H enc _ F => by rw [OpenClaim.pre_eq_preRow]; exact lifted os started H enc F)
theorem plain (f : FuncId) (fn : Func) (hf : Tryz.pinned.checked.prog.funcNamed "chandler/chandlerlaw06.RowsTurn" = some f) (hfn : Tryz.pinned.checked.prog.funcs[f]? = some fn) :
    false = Tryz.pinned.checked.prog.looks [] ∧ ∀ (j : Nat) t, fn.params[j]? = some t → Tryz.pinned.checked.prog.wantsStandIn t = false := by
  obtain rfl : f = 3 := Option.some.inj ((show Tryz.prog.funcNamed "chandler/chandlerlaw06.RowsTurn" = some 3 by kernel_rfl).symm.trans hf) |>.symm
  obtain rfl : fn = Tryz.f3 := (Option.some.inj (Tryz.func3.symm.trans hfn)).symm
  refine ⟨by kernel_rfl, fun j t ht => ?_⟩
  rw [Tryz.params3] at ht
  have ht2 : t = 24 ∨ t = 26 := by simpa using Array.mem_of_getElem? ht
  rcases ht2 with rfl | rfl
  · exact (show Tryz.prog.wantsStandIn 24 = false by kernel_rfl)
  · exact (show Tryz.prog.wantsStandIn 26 = false by kernel_rfl)
theorem cardUpto : Rows.RowsTurnUptoCardSaid :=
  Claim7.holds_tied_plain_at .later [] _ _ _ _ saidUpto (fun _ h => by cases h) (by kernel_rfl) (fun _ h => by cases h) rowsTurnUpto_row_tie rfl ⟨rfl, rfl⟩ (by kernel_rfl) rfl plain (by kernel_rfl)
end RowsTurn
theorem rowsTurn_holds : Rows.RowsTurnUptoCardSaid := RowsTurn.cardUpto
end Go.Proofs.YtkinkgbmlhiakaaGreatDoor
