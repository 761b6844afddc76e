/- merged: TeSpo TePlN TeSpoilt Open1 TeUp TeSpoiltC -/
import Derived.Test.YtgbcibdfeeiilaaGreatDoorMe33
import Derived.Test.YtgbcibdfeeiilaaGreatDoorMe34
import Derived.Test.YtgbcibdfeeiilaaGreatDoorProg
import Derived.Test.YtgbcibdfeeiilaaGreatDoorMe01
import Derived.Test.YtgbcibdfeeiilaaGreatDoorRows
import Derived.WalkKit
import Derived.ProofKit
import Derived.OpenShut
import Derived.Lay
import Derived.Deep.DeepHandedRow
import Derived.Test.YtgbcibdfeeiilaaGreatDoorCards
import Derived.Test.YtgbcibdfeeiilaaGreatDoorTie
import Derived.ShutString
import Derived.ChangeMaps5
namespace Go.Proofs.YtgbcibdfeeiilaaGreatDoor
section
open Go Go.RowKit
theorem jHl (w : World) (v : Value) : Calls Tryz.prog 25 #[.pointer none, v] w fun e w' => e = .returned (.tuple #[.string ⟨#[]⟩, .bool false]) /\ w = w' := by
 go_enter Tryz.func25, Tryz.ntmps25
 go_wp2
 go_ret2; exact ⟨rfl, rfl⟩
theorem jHk (w : World) : Calls Tryz.prog 11 #[.pointer none] w fun e w' => e = .returned (.int .i64 0) /\ w = w' := by
 go_enter Tryz.func11, Tryz.ntmps11
 go_wp2
 go_ret; exact ⟨rfl, rfl⟩
theorem qTg (w : World) : Calls Tryz.prog 29 #[.pointer none] w fun e w' => e = .returned (.int .i64 0) /\ w = w' := by
 go_enter Tryz.func29, Tryz.ntmps29
 go_wp2
 go_ret; exact ⟨rfl, rfl⟩
set_option maxRecDepth 100000
theorem qZt (w : World) (v : Value) : Calls Tryz.prog 15 #[.pointer none, v] w fun e w' => e = .returned (.int .i64 1) /\ w = w' := by
 go_enter Tryz.func15, Tryz.ntmps15
 go_wp2
 go_ret; exact ⟨rfl, rfl⟩
structure Un (w : World) (B : TB) (T : TM) (D : Dsk) (l : List KV) : Prop where
 tree : qAp (TS B) w B T D false
 wu : WU T false T.begin l 17
 next : T.next <= 2000
 ne : B.nb ≠ B.ab
theorem WU.weak {T : TM} {u : Bool} {W : WM} {l : List KV} {h : Nat} (k : WU T u W l h) : WU T false W l h :=
 ⟨k.1, k.2.1, k.2.2.imp id (fun ⟨x, F, h1, h2, h3, h4⟩ => ⟨x, F, h1, h2.weak, h3, h4⟩)⟩
theorem WU.up {T : TM} {u : Bool} {W : WM} {l : List KV} {h : Nat} (k : WU T u W l h) : WU T u W l (h + 1) :=
 ⟨k.1, k.2.1, k.2.2.imp id (fun ⟨x, F, h1, h2, h3, h4⟩ => ⟨x, F, h1, h2.up, h3, h4⟩)⟩
theorem Un.ext {w w' : World} {B : TB} {T : TM} {D : Dsk} {l : List KV} (h : Un w B T D l) (hm : Mod (fun _ => False) w w') : Un w' B T D l := ⟨h.tree.mod hm (fun _ e => e.elim) (fun _ e => e.elim), h.wu, h.next, h.ne⟩
theorem Un.len {w : World} {B : TB} {T : TM} {D : Dsk} {l : List KV} (h : Un w B T D l) : l.length <= 1048575 /\ T.count = l.length := by
 have h1 := h.wu.rng; have h2 := h.wu.2.1; have e1 : T.begin.count = T.count := rfl; have e2 : T.begin.next = T.next := rfl; have h3 := h.next; rw [e1] at h1 h2; rw [e2] at h1; omega
theorem jIu {w : World} {B : TB} {T : TM} {D : Dsk} {l : List KV} (h : Un w B T D l) : Calls Tryz.prog 11 #[.pointer (some ⟨B.tb, 0, none⟩)] w fun e w' => e = .returned (.int .i64 (l.length : Int)) /\ w = w' :=
 (qUm h.tree).mono (fun e w' ⟨he, hw⟩ => ⟨by rw [he, h.len.2], hw⟩)
theorem jGq {w : World} {B : TB} {T : TM} {D : Dsk} {l : List KV} (h : Un w B T D l) : Calls Tryz.prog 10 #[.pointer (some ⟨B.tb, 0, none⟩), .string ⟨#[]⟩, .int .i64 1048576] w fun e w' => (∃ la cap, e = .returned (.slice la l.length cap)) /\ Mod (fun _ => False) w w' := by
 have hl := h.len.1; rcases h.wu.2.2 with ⟨h0, rfl, _⟩ | ⟨x, F, hr, hS, hfl, hA⟩
 ·exact (qPa h.tree (.inl h0) _).mono (fun e w' ⟨he, hm⟩ => ⟨⟨none, 0, he⟩, hm⟩)
 ·have hnz : T.root ≠ 0 := by
   have := hA.spot (x := x.spot) (.inl hS.mem); have e1 : T.begin.root = T.root := rfl; rw [<- e1, hr]; omega
  have hw := jGe ⟨#[]⟩ 17 x hS (by rw [hfl]; exact h.wu.1.asc)
  have hr' : T.root = x.spot := hr; have e : x.fl.filter (geK ⟨#[]⟩) = l := by
   rw [hfl]; exact List.filter_eq_self.2 (fun p _ => by unfold geK; rw [jJg]; rfl)
  have hw2 : qFl T.nodes 18 T.root ⟨#[]⟩ = some l := by rw [hr', <- e]; exact hw
  refine (qUr h.tree hnz (most := 1048576) (by omega) hw2 (by omega)).mono (fun e w' ⟨la, cap, he, _, _, hm⟩ => ⟨⟨la, cap, ?_⟩, hm⟩)
  rw [List.take_of_length_le (by omega)] at he
  exact he
def abC : Cg := ⟨⟨#[97]⟩, ⟨#[98]⟩, false⟩
theorem jGl : chkF [] [abC] = 0 := by
 unfold abC; rw [qMx, if_neg (by rw [qPj]; decide), if_neg (by decide), if_neg (by simp)]
 rfl
theorem jCz {w : World} {B : TB} {T : TM} {D : Dsk} {k : Nat} {l : List KV} (h : qAp (TS B) w B T D false) (hne : B.nb ≠ B.ab) (hW : WU T true T.begin l 16) (hn : T.next <= (jlen B.room D : Int)) (hj2 : jlen B.room D <= 2000) (hr : B.room <= 500) (hL : Lit D k) (hk0 : k <= 1152921504606846976) {a : Option Addr} (cap : Nat) (hc : Lies w 3 ccs a [abC]) :
  Calls Tryz.prog 15 #[.pointer (some ⟨B.tb, 0, none⟩), .slice a ([abC] : List Cg).length cap] w fun e w' => ∃ (E : Int) (T' : TM) (D' : Dsk) (l' : List KV), e = .returned (.int .i64 E) /\ Un w' B T' D' l' /\ Mod (TS B) w w' := by
 have hgood := qFt jGl abC List.mem_cons_self; have hb : T.begin.next = T.next := rfl; have hbc : T.begin.count = T.count := rfl; have hj : jlen B.room D <= 16384 := by have := hL.b.n; unfold jlen; omega
 obtain ⟨W', h1, h2, h3⟩ := one_u (L := (jlen B.room D : Int)) (f := 70) hgood hW (by omega) (by rw [hb]; omega)
 have hall : allM T (jlen B.room D : Int) 70 [abC] T.begin = some W' := by
  unfold allM; rw [h1]; rfl
 obtain ⟨r1, r2, r3, r4, r5, r6, r7⟩ := h2.rng; have hr0 := hW.rng; rw [hb, hbc] at hr0; have hhi := h3.hi; rw [hb] at hhi; have hsame : Un w B T D l := ⟨h, hW.weak.up, by omega, hne⟩
 refine (qWf h cap hc (by simp) (fun c hc => by
  rw [List.mem_singleton] at hc; subst hc; have := hgood.key; have := hgood.value; unfold maxLen; omega) jGl hall (by omega) (by omega) (by omega) (fun x hx => by have := r5 x hx; omega) (fun x y hy => by have := r6 x y hy; omega) (fun ls hnd hls => ?_) hL.b hk0 hne).mono (fun e w' ha => ?_)
 ·have q1 := qEs (m := (List.range W'.next.toNat).map (fun i : Nat => (i : Int))) hnd (fun x hx => by
   have := r5 x (hls x hx); exact List.mem_map.2 ⟨x.toNat, List.mem_range.2 (by omega), by omega⟩)
  rw [List.length_map, List.length_range] at q1; omega
 ·obtain ⟨ls, ln, la, hlaid, hh⟩ := ha; have hnx : W'.full = false -> W'.next <= (jlen B.room D : Int) := fun hf => by
   have := h3.room hf; rw [hb] at this; omega
  rcases hh with ⟨a1, rfl, a3, a4⟩ | ⟨a1, a2, rfl, a3, a4⟩ | ⟨a1, a2, a3, rfl, a4, a5⟩ | ⟨a1, a2, a3, a4, _⟩ | ⟨a1, a2, a3, a4, rfl, a6, a7⟩
  ·exact ⟨52, T, D, l, rfl, ⟨a3, hsame.wu, hsame.next, hne⟩, a4.mono (fun _ _ e => e.elim)⟩
  ·exact ⟨31, T, D, l, rfl, ⟨a3, hsame.wu, hsame.next, hne⟩, a4.mono (fun _ _ e => e.elim)⟩
  ·cases a3
  ·exact absurd (jFr hL hr h2 (hnx a1) hlaid a2).1 a4
  ·exact ⟨0, _, _, _, rfl, ⟨a6, jJq h2, by show W'.next <= 2000; have := hnx a1; omega, hne⟩, a7⟩
theorem jAc {D : Dsk} {k : Nat} (h : Lit D k) {i : Nat} (hi : i < D.secs.length) (s : ByteArray) : Lit (qAv D (i : Int) s).2 (k + 1) /\ (qAv D (i : Int) s).2.secs.length = D.secs.length := by
 by_cases hs : s.size <= 1024
 ·rw [h.write i hi hs]; exact ⟨h.put i hi hs, qEk ..⟩
 ·have hr : qBc D (i : Int) = 0 := by
   have := h.write i hi (s := ⟨#[]⟩) (by decide)
   unfold qAv at this; split at this
   ·exfalso
    rename_i hn
    exact hn (congrArg (·.1) this)
   ·rename_i hn
    exact Decidable.not_not.1 hn
  unfold qAv; rw [if_neg (fun e => e hr), if_pos (by omega)]
  exact ⟨h.le (by omega), rfl⟩
theorem qRh {D : Dsk} {k room : Nat} (h : Lit D k) (hj : 1 <= jlen room D) (hr : room <= 500) :
  (∃ (D2 : Dsk) (E : Int), qFa room D = (E, D2, none) /\ (E = 32 \/ E = 53)) ∨
  (∃ (D2 : Dsk) (T : TM), qFa room D = (0, D2, some T) /\ Lit D2 (k + room + 1) /\ D2.secs.length = D.secs.length /\ qLa (qDx room D2) (jlen room D2) = some T) := by
 have h0 : 0 < D.secs.length := by unfold jlen at hj; omega
 have hl := qZr room D; have hcase : (qDb room D).1 = 32 \/ (qDb room D).1 = 0 := by
  have hrd : qDa D 0 = (sec D 0, 0) := h.read 0 h0; have e : qDb room D = qXa room D (numF room (jlen room D) (sec D 0)) := by
   unfold qDb; rw [hrd]; rfl
  rw [e]; cases hn : numF room (jlen room D) (sec D 0) with
  | none => exact .inl rfl
  | some m =>
   obtain ⟨n1, n2, n3⟩ := qRn hn; cases m with
   | nil => exact .inr rfl
   | cons x r =>
    obtain ⟨f1, _⟩ := qMp room (x :: r) 0 k D h h0 (fun n hn => by have := n3 n hn; unfold jlen at this; omega) (by omega) n2
    exact .inr f1
 rcases hcase with e | e
 ·refine .inl ⟨(qDb room D).2, 32, ?_, .inl rfl⟩; unfold qFa; rw [e, if_pos (by decide)]
 ·have hlit := qZq h h0 e; have hj2 : jlen room (qDb room D).2 = jlen room D := by unfold jlen; rw [hl]
  have hrd : (qCt room (qDb room D).2 0).2 = 0 := qPd hlit.off (by omega) (by omega)
  unfold qFa; rw [e]; simp only [ne_eq, not_true_eq_false, if_false]; rw [hrd]; simp only [not_true_eq_false, if_false]; cases ho : qLa (qDx room (qDb room D).2) (jlen room (qDb room D).2) with
  | none => exact .inl ⟨_, 53, rfl, .inr rfl⟩
  | some T => exact .inr ⟨_, T, rfl, hlit, hl, ho⟩
theorem HApp.any {w w' : World} {B : TB} {T : TM} {D : Dsk} {k : Nat} {l : List KV} {N : Nat} {cs : List Cg} {e : Ending} (h : HApp w B T D k l N cs e w') :
  ∃ (E : Int) (T' : TM) (D' : Dsk) (l' : List KV) (N' : Nat), e = .returned (.int .i64 E) /\ Here w' B T' D' (k + 1002) l' N' /\ D'.secs.length = D.secs.length /\ Mod (TS B) w w' := by
 obtain ⟨E, he, hm, hc⟩ := h.cases rfl; rcases hc with ⟨_, _, hh⟩ | ⟨_, _, _, hh⟩ | ⟨_, _, _, hh⟩ | ⟨_, _, T', D', N', hh, hn⟩
 ·exact ⟨E, T, D, l, N, he, hh.le (by omega), rfl, hm⟩
 ·exact ⟨E, T, D, l, N, he, hh.le (by omega), rfl, hm⟩
 ·exact ⟨E, T, D, l, N, he, hh.le (by omega), rfl, hm⟩
 ·exact ⟨E, T', D', _, N', he, hh, hn, hm⟩
end
section
open Go Go.RowKit
theorem qPm {w w' : World} (h : Mod (fun b => w.heap.size <= b) w w') : Mod (fun _ => False) w w' := h.mono (fun k hk e => by omega)
end
section
open Go Go.RowKit
theorem qVq {D : Dsk} (h : D.secs.length = 60) : jlen 30 D = 29 := by
 unfold jlen; rw [h]
set_option maxRecDepth 100000
set_option maxHeartbeats 4000000 in
theorem spoilt_walk (w : World) (a : Option Addr) (cap : Nat) (cs : List Cg) (hcs : Lies w 3 ccs a cs) (hcl : cs.length <= 1048576) (hsz : ∀ c ∈ cs, c.key.size <= maxLen /\ c.value.size <= maxLen) (n : Int) (s : ByteArray) (hs : s.size <= maxLen) :
  Calls Tryz.prog 6 #[.slice a cs.length cap, .int .i64 n, .string s] w fun e w' => e = .returned (.bool true) /\ Mod (fun _ => False) w w' := by
 have HNw := hid (qZv (w := w) 60); have hl2 : (newD 60).secs.length = 60 := List.length_replicate ..; have HStd := hid (qYr (n := 60) (room := 30) (by omega) (by omega) (by rw [qVq hl2]; omega))
 have HLen := hid hl2; have HC := hid hcs; obtain ⟨m, hm, hm60⟩ : ∃ m : Nat, (max 0 n).tmod 60 = (m : Int) /\ m < 60 := by
  have h1 : (0 : Int) <= max 0 n := by omega
  rw [Int.tmod_eq_emod_of_nonneg h1]; exact ⟨((max 0 n) % 60).toNat, by omega, by omega⟩
 clear hl2 hcs; go_enter Tryz.func6, Tryz.ntmps6
 go_upto_region 5 with (first
  | (go_at_call 25; refine (jHl _ _).mono ?_; rintro e wg ⟨rfl, rfl⟩)
  | (go_at_call 12; refine HNw.out.mono ?_; rintro e w1 ⟨d, sa, rfl, hd0, hs0, hD, hm1⟩; have HM1 := hid hm1; have HD := hid hD; have HDk : Hid (∀ k, qBe d sa k -> w.heap.size <= k) := hid (fun k e => e.elim (fun e => by omega) (fun e => hs0 k e)); have HDlt := hid hD.lt; clear hd0 hs0 hD hm1)
  | (go_at_call 13; refine (qMn HD.out (qTj 60) (by omega) HStd.out).mono ?_; rintro e w2 ⟨B, rfl, hh, hBd, hBs, hBr, hlo, hm2⟩; have HH2 := hid hh; have HBd := hid hBd; have HBs := hid hBs; have HBr := hid hBr; have HLo := hid hlo; have HM2 := hid hm2; clear hh hBd hBs hBr hlo hm2))
 go_upto_region 7 with (first
  | (go_at_call 9; refine (qYj _).mono ?_; rintro e w3 ⟨rfl, hm3⟩; have HM3 := hid hm3; clear hm3)
  | (go_at_call 10; refine (qZb _ _ _).mono ?_; rintro e w4 ⟨rfl, hm4⟩; have HM4 := hid (HM3.out.trans hm4); clear hm4)
  | (go_at_call 11; refine (jHk _).mono ?_; rintro e w5 ⟨rfl, rfl⟩)
  | (go_at_call 29; refine (qTg _).mono ?_; rintro e w5 ⟨rfl, rfl⟩)
  | (go_at_call 15; refine (qZt _ _).mono ?_; rintro e w5 ⟨rfl, rfl⟩))
 have hmV : Mod (fun b => w.heap.size <= b) w w4 := ((HM1.out.mono (fun _ _ e => e.elim)).trans (HM2.out.mono (fun k _ e => HDk.out k e))).trans (HM4.out.mono (fun _ _ e => e.elim))
 have HMV := hid hmV; have HLoT : Hid (∀ b, TS B b -> w.heap.size <= b) := hid (fun b hb => by
  obtain ⟨l1, l2, l3, l4⟩ := HLo.out; have hs1 : w.heap.size <= w1.heap.size := HM1.out.size; rcases hb with e | e | e | e | e
  ·omega
  ·omega
  ·omega
  ·omega
  ·rw [HBd.out, HBs.out] at e; exact HDk.out b e)
 have HAp := hid (qOh (HH2.out.ext HM4.out) (by omega) cap (HC.out.old hmV (fun _ e => e)) hcl hsz)
 clear hmV; go_upto_region 8 with (go_at_call 15; refine HAp.out.mono ?_; intro e w5 ha; obtain ⟨E, T', D', l', N', rfl, hh, hn, hm5⟩ := ha.any; have HH5 := hid hh; have HN5 := hid (hn.trans HLen.out); have HMV5 := hid (HMV.out.trans (hm5.mono (fun b _ e => HLoT.out b e))); clear ha hh hn hm5)
 have hd5 : qAn w5 d sa D' := by have h9 := HH5.out.tree.disk; rw [HBd.out, HBs.out] at h9; exact h9
 have HWr := hid (qGk hd5 (HH5.out.lit.b.ok (by omega)) (m : Int) s hs)
 obtain ⟨hl6, hn6⟩ := jAc HH5.out.lit (i := m) (by rw [HN5.out]; exact hm60) s
 rw [HN5.out] at hn6; have HL6 := hid hl6; have HN6 := hid hn6; clear hd5 hl6 hn6 hm60; obtain ⟨⟨e6, D6⟩, hD6⟩ : ∃ R, qAv D' (m : Int) s = R := ⟨_, rfl⟩; rw [hD6] at HWr HL6 HN6; simp only at HWr HL6 HN6; clear hD6; go_upto_region 9 with (go_at_call 30; refine HWr.out.mono ?_; rintro e w6 ⟨rfl, hd6, hm6⟩; have HD6 := hid hd6; have HMV6 := hid (HMV5.out.trans (hm6.mono (fun b _ e => HDk.out b e))); clear hd6 hm6)
 have hj := qVq HN6.out; have HTo := hid (qQx (room := 30) HD6.out HL6.out.b (by omega) (by decide) (by decide))
 rcases qRh (room := 30) HL6.out (by omega) (by decide) with ⟨D7, E7, o1, o2⟩ | ⟨D7, T7, o1, o2, o3, o4⟩
 ·rw [o1] at HTo; clear o1; rcases o2 with rfl | rfl
  ·go_wp2_with (go_at_call 13; refine HTo.out.mono ?_; rintro e w7 ⟨hd7, hm7, rfl, _⟩; have HMV7 := hid (HMV6.out.trans (hm7.mono (fun b _ e => HDk.out b e))); clear hd7 hm7)
   go_ret; exact ⟨rfl, qPm HMV7.out⟩
  ·go_wp2_with (go_at_call 13; refine HTo.out.mono ?_; rintro e w7 ⟨hd7, hm7, rfl, _⟩; have HMV7 := hid (HMV6.out.trans (hm7.mono (fun b _ e => HDk.out b e))); clear hd7 hm7)
   go_ret; exact ⟨rfl, qPm HMV7.out⟩
 ·rw [o1] at HTo; have hn7 : D7.secs.length = 60 := o3.trans HN6.out; rw [qVq hn7] at o4; obtain ⟨l7, u1, u2, u3⟩ := jJa (by omega) o4
  have HU := hid u1; have HNx := hid u3; have HL7 := hid o2; have HN7 := hid hn7; clear o1 o2 o3 o4 u1 u2 u3 hn7 hj; go_upto_region 12 with (go_at_call 13; refine HTo.out.mono ?_; rintro e w7 ⟨hd7, hm7, B7, rfl, hop⟩; have HOp := hid hop; have HMV7 := hid (HMV6.out.trans (hm7.mono (fun b _ e => HDk.out b e))); have HB7 : Hid (∀ b, TS B7 b -> w.heap.size <= b) := hid (fun b hb => by (have hs6 := HMV6.out.size; obtain ⟨l1, l2, l3, l4⟩ := hop.lo; rcases hb with e | e | e | e | e <;> first | omega | (rw [hop.d, hop.sa] at e; exact HDk.out b e))); clear hd7 hm7 hop)
  have hma : Mod (fun _ => False) w7 (w7.alloc (.cells #[.string ⟨#[97]⟩, .string ⟨#[98]⟩, .bool false] 67)) := (Mod.refl _ _).alloc _
  have hj7 : jlen B7.room D7 = 29 := by rw [HOp.out.room]; exact qVq HN7.out
  have HA7 := hid (jCz (HOp.out.tree.mod hma (fun _ e => e.elim) (fun _ e => e.elim)) HOp.out.ne HU.out (by rw [hj7]; exact HNx.out) (by omega) (by rw [HOp.out.room]; decide) HL7.out (by omega) 1 (qFe qGg (heap_alloc_new w7 _)))
  have HMa := hid hma; clear hma hj7; go_wp2_with (first
   | (go_at_call 15; refine HA7.out.mono ?_; rintro e w8 ⟨E8, T8, D8, l8, rfl, hu, hm8⟩; have HU8 := hid hu; have HMV8 := hid ((HMV7.out.trans (HMa.out.mono (fun _ _ e => e.elim))).trans (hm8.mono (fun b _ e => HB7.out b e))); clear hu hm8)
   | (go_at_call 10; refine (jGq HU8.out).mono ?_; rintro e w9 ⟨⟨la, lc, rfl⟩, hm9⟩; have HM9 := hid hm9; clear hm9)
   | (go_at_call 11; refine (jIu (HU8.out.ext HM9.out)).mono ?_; rintro e w10 ⟨rfl, rfl⟩))
  go_ret; exact ⟨rfl, qPm (HMV8.out.trans (HM9.out.mono (fun _ _ e => e.elim)))⟩
end
section
open Go Go.RowKit
theorem jFs : Tryz.prog.cellsOf 9 = 1 := by kernel_rfl
theorem wf_i64 {n : Int} (h : (Lit.int .i64 n).wf = true) : -9223372036854775808 <= n /\ n <= 9223372036854775807 := by
 simp only [Lit.wf, Bool.and_eq_true, decide_eq_true_eq] at h; have a1 : IntKind.min .i64 = -9223372036854775808 := rfl; have a2 : IntKind.max .i64 = 9223372036854775807 := rfl; rw [a1, a2] at h; exact h
section
variable {H : Type} {enc : TypeId × Value -> H} {w : World} {base : Nat} {spare : Nat -> Bool} {held : Bool}
end
end
section
open Go Go.RowKit
theorem jFz (a : Addr) (x j : Nat) : (a.add x).add j = a.add (x + j) := by
 unfold Addr.add; by_cases hz : x = 0 <;> by_cases hj : j = 0 <;> simp [hz, hj]
 ·omega
section
variable {H : Type} {enc : TypeId × Value -> H} {w : World} {base : Nat} {spare : Nat -> Bool} {held : Bool}
theorem jFt (d : DataW H) : 1 <= Rows.uptoBulk d := by
 cases d with
 | lit l => cases l <;> simp [Rows.uptoBulk]
 | _ => simp [Rows.uptoBulk]
theorem qQg {d : DataW H} {l : List (DataW H)} (h : d ∈ l) : Rows.uptoBulk d <= Rows.uptoBulkAll l := by
 induction l with
 | nil => cases h
 | cons x r ih =>
  simp only [Rows.uptoBulkAll]; rcases List.mem_cons.1 h with rfl | e
  ·omega
  ·have := ih e; omega
theorem jFu (l : List (DataW H)) : l.length <= Rows.uptoBulkAll l := by
 induction l with
 | nil => simp [Rows.uptoBulkAll]
 | cons x r ih => have := jFt x; simp only [Rows.uptoBulkAll, List.length_cons]; omega
theorem bulk_all {l : List (DataW H)} (hk : Rows.uptoSmall H l = true) : ∀ d ∈ l, Rows.uptoBulk d <= 1048576 := fun d hd => by
 have h1 : Rows.uptoBulkAll l <= 1048576 := of_decide_eq_true hk; exact Nat.le_trans (qQg hd) h1
theorem qWz {α : Type} {f : α -> List Value} {Q : α -> Prop} {size : Nat} {t e : TypeId} {fuel : Nat} {cs : List Value} {y : DataW H × List MemPlace} (ht : Tryz.prog.underlying t = some (.slice e)) (hc : Tryz.prog.cellsOf e = size) (hs0 : 0 < size)
  (hf : ∀ x, (f x).length = size) (hel : ∀ (n : Nat) (cs : List Value) (y : DataW H × List MemPlace), DataW.trod enc Tryz.prog w base spare held n e cs = some y -> Rows.uptoBulk y.1 <= 1048576 -> ∃ x, cs = f x /\ Q x)
  (h : DataW.trod enc Tryz.prog w base spare held fuel t cs = some y) (hfit : Rows.uptoBulk y.1 <= 1048576) :
  ∃ (a : Option Addr) (cap : Nat) (ls : List α), cs = [.slice a ls.length cap] /\ Lies w size f a ls /\ (∀ x ∈ ls, Q x) /\ ls.length <= 1048576 := by
 rcases Deep.open_slice ht h with ⟨rfl, _⟩ | ⟨a', len, cap, m, n, D, Pl, rfl, hb, hl, hm, hmm, hx, hev0⟩
 ·exact ⟨none, 0, [], rfl, ⟨⟨by simp, fun _ => rfl, fun a ha => by cases ha⟩, fun h => by simp at h, fun _ h => by simp at h⟩, fun x hx => by simp at hx, Nat.zero_le _⟩
 ·have hml : len <= m := by rw [hmm]; split <;> omega
  rw [hx] at hfit; simp only [Rows.uptoBulk] at hfit; have hlen0 := jFu ((List.range len).map D); rw [List.length_map, List.length_range] at hlen0; have hev : ∀ i, i < len -> ∃ x, w.cells? base (a'.add (i * size)) size = some (f x) /\ Q x := fun i hi => by
   obtain ⟨cs', h1, h2⟩ := hev0 i (by omega)
   have hbi := qQg (H := H) (d := D i) (l := (List.range len).map D) (List.mem_map.2 ⟨i, List.mem_range.2 hi, rfl⟩); obtain ⟨x, rfl, hq⟩ := hel n cs' _ h2 (by show Rows.uptoBulk (D i) <= 1048576; omega)
   rw [hc] at h1; exact ⟨x, h1, hq⟩
  have hlist : ∀ k, k <= len -> ∃ ls : List α, ls.length = k /\ (∀ x ∈ ls, Q x) /\ ∀ (i : Nat) x, ls[i]? = some x -> w.cells? base (a'.add (i * size)) size = some (f x) := by
   intro k; induction k with
   | zero => exact fun _ => ⟨[], rfl, fun x h => by simp at h, fun i x h => by simp at h⟩
   | succ k ih =>
    intro hk; obtain ⟨ls, h1, hq, h2⟩ := ih (by omega)
    obtain ⟨x, hx', hqx⟩ := hev k (by omega)
    refine ⟨ls ++ [x], by simp [h1], fun z hz => ?_, fun i y hy => ?_⟩
    ·rcases List.mem_append.1 hz with h | h
     ·exact hq z h
     ·simp at h; subst h; exact hqx
    ·rw [List.getElem?_append] at hy; split at hy
     ·exact h2 i y hy
     ·have : i = k := by
       rcases Nat.lt_or_ge (i - ls.length) 1 with h | h
       ·omega
       ·rw [List.getElem?_eq_none (by simpa using h)] at hy; cases hy
      subst this; rw [h1, Nat.sub_self] at hy; simp at hy
      subst hy; exact hx'
  obtain ⟨ls, h1, hq, h2⟩ := hlist len (Nat.le_refl _); have hcell : ∀ (i : Nat) x, ls[i]? = some x -> ∀ j u, (f x)[j]? = some u -> w.cell? (a'.add (i * size + j)) = some u := by
   intro i x hi j u hu; have h3 := (World.cells?_some (h2 i x hi)).2.2 j (by have := (List.getElem?_eq_some_iff.1 hu).1; rwa [hf] at this)
   rw [hu] at h3; rw [<- h3]; rw [jFz]
  refine ⟨some a', cap, ls, by rw [h1], ⟨⟨by rw [qEa hf], fun h => (by cases h), fun a'' ha j u hu => ?_⟩, fun hlen x hx => ?_, fun k hlen hk => ?_⟩, hq, by omega⟩
  ·cases ha
   have hj : j = j / size * size + j % size := by rw [Nat.mul_comm]; exact (Nat.div_add_mod j size).symm
   rw [hj, qJh hf ls _ _ (Nat.mod_lt _ hs0)] at hu; rw [hj]; cases hls : ls[j / size]? with
   | none => rw [hls] at hu; cases hu
   | some x => rw [hls] at hu; exact hcell _ x hls _ u hu
  ·cases hx
   obtain ⟨x, hx0⟩ : ∃ x, ls[0]? = some x := ⟨ls[0]'(by omega), by simp⟩
   have := hcell 0 x hx0 0 _ (List.getElem?_eq_getElem (by rw [hf]; exact hs0))
   simp only [Nat.zero_mul, Nat.add_zero] at this; unfold World.cell? at this; simp only [Addr.add, if_true] at this; split at this
   ·split at this
    ·cases this
    ·rename_i h; simpa using h
   ·cases this
  ·obtain ⟨a'', ha, rfl⟩ := hk; cases ha
   obtain ⟨x, hx0⟩ : ∃ x, ls[0]? = some x := ⟨ls[0]'(by omega), by simp⟩
   have := hcell 0 x hx0 0 _ (List.getElem?_eq_getElem (by rw [hf]; exact hs0))
   have := World.block_lt_of_cell? _ _ this
   simpa [Addr.add] using this
theorem qNt {n : Nat} {cs : List Value} {y : DataW H × List MemPlace} (h : DataW.trod enc Tryz.prog w base spare held n 9 cs = some y) (hfit : Rows.uptoBulk y.1 <= 1048576) : ∃ s : ByteArray, cs = [.string s] /\ s.size <= 1048576 := by
 obtain ⟨s, hcs, hx, _⟩ := DataW.trod_string Tryz.underlying9 h; refine ⟨s, hcs, ?_⟩; rw [hx] at hfit; simp only [Rows.uptoBulk] at hfit; have e : s.data.toList.length = s.size := by rw [Array.length_toList]; rfl
 omega
theorem qMq {fs : Array Field} {t : TypeId} {fuel : Nat} {cs : List Value} {x : DataW H × List MemPlace} (ht : Tryz.prog.underlying t = some (.struct fs)) (h : DataW.trod enc Tryz.prog w base spare held fuel t cs = some x) (hfit : Rows.uptoBulk x.1 <= 1048576)
  (i : Nat) (f : Field) (hf : fs[i]? = some f) : ∃ n y, DataW.trod enc Tryz.prog w base spare held n f.type ((cs.drop f.offset).take (Tryz.prog.cellsOf f.type)) = some y /\ Rows.uptoBulk y.1 <= 1048576 := by
 obtain ⟨xs, n, _, hx, _, hlen, hall⟩ := DataW.trod_struct ht h; have hi : i < xs.length := by rw [hlen]; exact (Array.getElem?_eq_some_iff.1 hf).1
 refine ⟨n, xs[i], by rw [hall i f hf]; simp [hi], ?_⟩
 rw [hx] at hfit; simp only [Rows.uptoBulk] at hfit; have := qQg (H := H) (d := xs[i].1) (l := xs.map (·.1)) (List.mem_map.2 ⟨xs[i], by simp, rfl⟩)
 omega
theorem jCf : Tryz.prog.cellsOf 67 = 3 := by kernel_rfl
theorem jCg : Tryz.prog.cellsOf 4 = 1 := by kernel_rfl
theorem jCc : ∃ f0 f1 f2 : Field, Tryz.prog.underlying 67 = some (.struct #[f0, f1, f2]) /\ f0.offset = 0 /\ f0.type = 9 /\ f1.offset = 1 /\ f1.type = 9 /\ f2.offset = 2 /\ f2.type = 4 := ⟨_, _, _, Tryz.underlying67, rfl, rfl, rfl, rfl, rfl, rfl⟩
theorem qUp : 1048576 <= maxLen := by unfold maxLen; decide
theorem jJb {n : Nat} {cs : List Value} {y : DataW H × List MemPlace} (h : DataW.trod enc Tryz.prog w base spare held n 67 cs = some y) (hfit : Rows.uptoBulk y.1 <= 1048576) : ∃ c : Cg, cs = ccs c /\ (c.key.size <= maxLen /\ c.value.size <= maxLen) := by
 obtain ⟨f0, f1, f2, hu, o0, t0, o1, t1, o2, t2⟩ := jCc; have hl := qPq hu h; rw [jCf] at hl; obtain ⟨n0, y0, h0, s0⟩ := qMq hu h hfit 0 f0 rfl; obtain ⟨n1, y1, h1, s1⟩ := qMq hu h hfit 1 f1 rfl; obtain ⟨b, hc2⟩ := qXn hu h 2 f2 rfl (by rw [t2]; exact Tryz.underlying4) (by rw [t2]; exact jCg)
 rw [t0] at h0; rw [t1] at h1; obtain ⟨k, e0, z0⟩ := qNt h0 s0; obtain ⟨v, e1, z1⟩ := qNt h1 s1; rw [jFs] at e0 e1; have g0 := qGw e0; have g1 := qGw e1; rw [o0] at g0; rw [o1] at g1; rw [o2] at hc2; refine ⟨⟨k, v, b⟩, ?_, Nat.le_trans z0 qUp, Nat.le_trans z1 qUp⟩; apply List.ext_getElem?; intro j
 match j with
 | 0 => exact g0
 | 1 => exact g1
 | 2 => exact hc2
 | j + 3 => rw [List.getElem?_eq_none (by omega), List.getElem?_eq_none (by simp)]
theorem small_chs {fuel : Nat} {cs : List Value} {y : DataW H × List MemPlace} (h : DataW.trod enc Tryz.prog w base spare held fuel 43 cs = some y) (hfit : Rows.uptoBulk y.1 <= 1048576) :
  ∃ (a : Option Addr) (cap : Nat) (ls : List Cg), cs = [.slice a ls.length cap] /\ Lies w 3 ccs a ls /\ (∀ c ∈ ls, c.key.size <= maxLen /\ c.value.size <= maxLen) /\ ls.length <= 1048576 :=
 qWz (f := ccs) (Q := fun c => c.key.size <= maxLen /\ c.value.size <= maxLen) Tryz.underlying43 jCf (by decide) qGg (fun n cs y hy hb => jJb hy hb) h hfit
end
end
end Go.Proofs.YtgbcibdfeeiilaaGreatDoor
namespace Go.Proofs.YtgbcibdfeeiilaaGreatDoor
open Go Go.RowKit
section
variable {H : Type} {enc : TypeId × Value → H} {w : World} {base : Nat} {spare : Nat → Bool} {held : Bool}
set_option maxRecDepth 100000 in
theorem open_batch {r : Reach} {b0 : Nat} {v : Value} {d : DataW H} {ps : List MemPlace} (hval : Value.okWide Tryz.prog w r b0 43 v) (hd : DataW.Trod enc Tryz.prog w base spare held 43 v d ps) (hb : Rows.uptoBulk d ≤ 1048576) :
    ∃ (a : Option Addr) (cap : Nat) (ls : List Cg), v = .slice a ls.length cap ∧ Lies w 3 ccs a ls ∧ (∀ c ∈ ls, c.key.size ≤ maxLen ∧ c.value.size ≤ maxLen) ∧ ls.length ≤ 1048576 := by
  obtain ⟨a, len, cap, rfl⟩ := WideShapes.okWide_slice Tryz.underlying43 hval
  obtain ⟨fuel, hf⟩ := hd
  obtain ⟨a', cap', ls, e, l, q, z⟩ := small_chs hf hb
  simp only [Value.cells] at e
  cases e
  exact ⟨a, cap, ls, rfl, l, q, z⟩
end
namespace TreeSpoilt
open Go.ChangeShapes Go.WideShapes Go.ChangeAt
open Go.ChangeMaps (open_string)
set_option maxRecDepth 100000 in
theorem walk' (W : World) (a : Option Addr) (cap : Nat) (cs : List Cg) (hcs : Lies W 3 ccs a cs) (hsz : ∀ c ∈ cs, c.key.size ≤ maxLen ∧ c.value.size ≤ maxLen) (hcl : cs.length ≤ 1048576) (n : Int) (_n1 : -9223372036854775808 ≤ n) (_n2 : n ≤ 9223372036854775807) (s : ByteArray) (hs : s.size ≤ maxLen) :
    Calls Tryz.prog 6 #[.slice a cs.length cap, .int .i64 n, .string s] W fun e w' => e = .returned (.bool true) ∧ RowKit.Below W.heap.size W w' := (spoilt_walk W a cap cs hcs hcl hsz n s hs).mono fun _ _ ⟨he, hm⟩ => ⟨he, hm.below (Nat.le_refl _) (fun _ e => e.elim)⟩
theorem own : ownKnob Tryz.prog.godebug = none := by kernel_rfl
theorem laidOut : laidOutB Tryz.prog = true := by kernel_rfl
set_option maxRecDepth 100000 in
theorem contract (H : Type) (enc : TypeId × Value → H) (W : World) (base : Nat) (args : Array Value) (ds gs : List (DataW H)) (before : List MemPlace)
    (hval0 : ∀ (j : Nat) t v, Tryz.f6.params[j]? = some t → args[j]? = some v → Value.okWide Tryz.prog W .any base t v)
    (hW : DataW.Whole enc Tryz.prog Tryz.f6.params.toList Rows.treeSpoiltSpec.vars false W args.toList ds gs before) (hk : Rows.uptoSmall H (ds ++ gs) = true) :
    Calls Tryz.prog 6 args W fun e W' => ∃ v, e = .returned v ∧ Rows.treeSpoiltSpec.post enc Tryz.prog Tryz.f6 false true false false W args v W' := by
  have hbk := bulk_all hk
  have hval : ∀ (j : Nat) t v, Tryz.f6.params[j]? = some t → args[j]? = some v → Value.okWide Tryz.prog W .any base t v := hval0
  have hW' := hW
  obtain ⟨p, q, hA0, hV, rfl, hfz, hnd⟩ := hW
  have hA : DataW.TrodAll enc Tryz.prog W 0 (fun _ => true) true Tryz.f6.params.toList args.toList ds p := hA0
  rw [Tryz.params6] at hA hval
  obtain ⟨v0, vs0, d0, ds0, p0, q0, hargs, rfl, rfl, h0, r0⟩ := trodAll_cons hA
  obtain ⟨v1, vs1, d1, ds1, p1, q1, rfl, rfl, rfl, h1, r1⟩ := trodAll_cons r0
  obtain ⟨v2, vs2, d2, ds2, p2, q2, rfl, rfl, rfl, h2, r2⟩ := trodAll_cons r1
  obtain ⟨rfl, rfl, rfl⟩ := trodAll_nil r2
  obtain rfl : args = #[v0, v1, v2] := by cases args; simp_all
  obtain ⟨rfl, rfl⟩ := trodVars_none hV
  have lt0 : ∀ x ∈ p0, x.block < W.heap.size := by obtain ⟨m, hm⟩ := h0; exact DataW.trod_lt m _ _ _ hm
  have lt1 : ∀ x ∈ p1, x.block < W.heap.size := by obtain ⟨m, hm⟩ := h1; exact DataW.trod_lt m _ _ _ hm
  have lt2 : ∀ x ∈ p2, x.block < W.heap.size := by obtain ⟨m, hm⟩ := h2; exact DataW.trod_lt m _ _ _ hm
  obtain ⟨x0a, x0b, x0c, rfl, f0a, f0b, f0c⟩ := open_batch (hval 0 43 v0 rfl rfl) h0 (hbk d0 (by simp))
  obtain ⟨n1, rfl, _, _, wf1⟩ := open_int Tryz.underlying3 (hval 1 3 v1 rfl rfl) h1
  have lh1 := wf_i64 wf1
  obtain ⟨s2, rfl, _, _, ws2⟩ := open_string Tryz.underlying9 (hval 2 9 v2 rfl rfl) h2
  clear hA0 hval0
  refine (walk' W x0a x0b x0c f0a f0b f0c n1 lh1.1 lh1.2 s2 ws2).mono fun e W' ⟨he, bel⟩ => ?_
  subst he
  exact ⟨_, rfl, _, _, _, [], _, [], hW', trodAll_mk1 (shut_bool Tryz.underlying4 _), (trodAll_cons_mk (RowKit.Below.trod laidOut (by kernel_rfl) (of_decide_eq_true (by kernel_rfl)) h0 bel lt0) (trodAll_cons_mk (RowKit.Below.trod laidOut (by kernel_rfl) (of_decide_eq_true (by kernel_rfl)) h1 bel lt1) (trodAll_cons_mk (RowKit.Below.trod laidOut (by kernel_rfl) (of_decide_eq_true (by kernel_rfl)) h2 bel lt2) trodAll_mk0))), rfl, bel.frame _, fun h => by cases h⟩
noncomputable def laidWorld (os : Os) : World := World.laidAll Tryz.prog os Rows.treeSpoiltUptoRow.laid
theorem laid_met (os : Os) : laidMetH Tryz.prog Rows.treeSpoiltUptoRow.laid ((laidWorld os).forCall (fun _ _ => 0) ⟨#[], #[.slice none 0 0, .int .i64 0, .string ⟨#[]⟩], []⟩).memory := by
  rw [MakeChecks.laidMetH_plain _ _ _ (by kernel_rfl)]
  exact laidMet_laidAll _ (by kernel_rfl) (by kernel_rfl)
theorem reads (os : Os) {H : Type} (enc : TypeId × Value → H) : ∃ places, DataW.whole enc Tryz.prog ((laidWorld os).forCall (fun _ _ => 0) ⟨#[], #[.slice none 0 0, .int .i64 0, .string ⟨#[]⟩], []⟩).memory Tryz.f6.params.toList Rows.treeSpoiltSpec.vars false #[Value.slice none 0 0, Value.int .i64 0, Value.string ⟨#[]⟩].toList 8 = some ([.nil, .lit (.int .i64 0), .lit (.string [])], [], places) :=
  ⟨[], by kernel_rfl⟩
set_option maxRecDepth 100000 in
theorem lifted (os : Os) (started : os.Started) (H : Type) (enc : TypeId × Value → H) (F : Stop.Interp) :
    ReturnsInHanded {} Tryz.checked os 6 .any ((Rows.OpenSpec.upto Rows.treeSpoiltSpec).preRow enc Tryz.prog Tryz.f6 Rows.treeSpoiltUptoRow.domain false Rows.treeSpoiltUptoRow.laid) (((Rows.OpenSpec.upto Rows.treeSpoiltSpec).at F).post enc Tryz.prog Tryz.f6 false true false false) := by
  obtain ⟨places, hx⟩ := reads os enc
  refine returnsInHanded_of_row (C := Tryz.checked) (s := Rows.OpenSpec.upto Rows.treeSpoiltSpec) own started (by kernel_rfl) Tryz.func6
    (witness_row_at (enc := enc) (C := Tryz.checked) false (laidWorld os) #[.slice none 0 0, .int .i64 0, .string ⟨#[]⟩] (World.laidAll_os _ _ _) (by kernel_rfl) (by kernel_rfl) (by kernel_rfl)
      (OpenSpec.preRow_of_cond 8 hx (by kernel_rfl) (fun k hk => by cases hk; kernel_rfl) (by kernel_rfl) (laid_met os))) ?_
  intro W base args ds gs before hval hW _ hcond _ _ _ _
  exact contract H enc W base args ds gs before hval hW (hcond _ rfl)
theorem saidUpto : Rows.TreeSpoiltUptoSaid :=
  OpenClaim.holds_of_cond 6 Tryz.f6 rfl rfl rfl rfl rfl rfl rfl ⟨rfl, rfl, rfl, rfl, rfl⟩ rfl rfl rfl rfl rfl (by kernel_rfl) Tryz.func6 (by kernel_rfl)
    (of_decide_eq_true (by kernel_rfl)) (by unfold Func.isWrapper; first | (rw [if_pos (by decide +kernel)]; kernel_rfl) | (rw [if_neg (by decide +kernel)]; exact ⟨rfl, rfl⟩))
    (fun os started H enc _ F => by rw [OpenClaim.pre_eq_preRow]; exact lifted os started H enc F)
theorem plain (f : FuncId) (fn : Func) (hf : Tryz.pinned.checked.prog.funcNamed "chandler/chandlerlaw05.TreeSpoilt" = some f) (hfn : Tryz.pinned.checked.prog.funcs[f]? = some fn) :
    false = Tryz.pinned.checked.prog.looks [] ∧ ∀ (j : Nat) t, fn.params[j]? = some t → Tryz.pinned.checked.prog.wantsStandIn t = false := by
  obtain rfl : f = 6 := Option.some.inj ((show Tryz.prog.funcNamed "chandler/chandlerlaw05.TreeSpoilt" = some 6 by kernel_rfl).symm.trans hf) |>.symm
  obtain rfl : fn = Tryz.f6 := (Option.some.inj (Tryz.func6.symm.trans hfn)).symm
  refine ⟨by kernel_rfl, fun j t ht => ?_⟩
  rw [Tryz.params6] at ht
  have ht2 : t = 43 ∨ t = 3 ∨ t = 9 := by simpa using Array.mem_of_getElem? ht
  rcases ht2 with rfl | rfl | rfl
  · exact (show Tryz.prog.wantsStandIn 43 = false by kernel_rfl)
  · exact (show Tryz.prog.wantsStandIn 3 = false by kernel_rfl)
  · exact (show Tryz.prog.wantsStandIn 9 = false by kernel_rfl)
theorem cardUpto : Rows.TreeSpoiltUptoCardSaid :=
  Claim7.holds_tied_plain_at .later [] _ _ _ _ saidUpto (fun _ h => by cases h) (by kernel_rfl) (fun _ h => by cases h) treeSpoiltUpto_row_tie rfl ⟨rfl, rfl⟩ (by kernel_rfl) rfl plain (by kernel_rfl)
end TreeSpoilt
theorem treeSpoilt_holds : Rows.TreeSpoiltUptoCardSaid := TreeSpoilt.cardUpto
end Go.Proofs.YtgbcibdfeeiilaaGreatDoor
