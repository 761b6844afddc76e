/- merged: TeAppl TePlN TePlays Open1 -/
import Derived.Test.YtgbcibdfeeiilaaGreatDoorMc35
import Derived.Test.YtgbcibdfeeiilaaGreatDoorProg
import Derived.Test.YtgbcibdfeeiilaaGreatDoorMc01
namespace Go.Proofs.YtgbcibdfeeiilaaGreatDoor
section
open Go Go.RowKit
theorem jJq : (Tryz.prog.info? 67).map (fun i => (i.zero, i.size, i.bytes)) = some (some (.agg #[.string ⟨#[]⟩, .string ⟨#[]⟩, .bool false]), 3, 40) := by kernel_rfl
theorem jIs (l : List Cg) : ∀ u ∈ l.flatMap ccs, u.oneCell' = true := by
 intro u hu; obtain ⟨p, _, hp⟩ := List.mem_flatMap.1 hu; exact qUn u hp
theorem jJj {w : World} {e : TypeId} {size : Nat} {a : Option Addr} {n c : Nat} {xs : List Value} (h : Own w e size a n c xs) (hn : 0 < n) : ∃ g off, a = some ⟨g, off, none⟩ := by
 rcases h.2.2.2 with ⟨_, h0⟩ | ⟨g, off, _, h0, _⟩
 ·have := h.2.1; omega
 ·exact ⟨g, off, h0⟩
theorem Here.small {w : World} {B : TB} {T : TM} {D : Dsk} {k : Nat} {l : List KV} {N : Nat} (h : Here w B T D k l N) : N <= 16384 /\ jlen B.room D <= 16384 /\ B.room <= 500 := by
 have h4 := h.std.ti.spots; have h5 : (N : Int) <= T.next - 1 := h4.1; have hj : jlen B.room D <= 16384 := by have := h.lit.b.n; unfold jlen; omega
 have hnx := h.std.next; have := h.std.r2; exact ⟨by omega, hj, this⟩
set_option maxRecDepth 100000
set_option maxHeartbeats 2000000 in
theorem qZy {w : World} {a ca : Option Addr} (cap0 cap1 : Nat) {l : List KV} {cs : List Cg} (hl : Lies w 2 kcs a l) (hc : Lies w 3 ccs ca cs) (hb : l.length + cs.length <= 1099511627776) :
  Calls Tryz.prog 18 #[.slice a l.length cap0, .slice ca cs.length cap1] w fun e w' => ∃ la cap, e = .returned (.slice la (rapp cs l).length cap) /\ Lies w' 2 kcs la (rapp cs l) /\ (∀ b, blk la b -> blk a b \/ (w.heap.size <= b /\ b < w'.heap.size)) /\ Mod (fun _ => False) w w' := by
 have HC := hid hc; have HL := hid hl; have HB := hid hb; clear hc hl hb; go_enter Tryz.func18, Tryz.ntmps18
 go_wp2_with fail
 go_loopw [0, 5] (fun sl si wr => ∃ (k : Nat) (L : List KV) (la : Option Addr) (cap : Nat), k <= cs.length /\ sl = .slice la L.length cap /\ si = .int .i64 (k : Int) /\ L = rapp (cs.take k) l /\ Lies wr 2 kcs la L /\ (∀ b, blk la b -> blk a b \/ (w.heap.size <= b /\ b < wr.heap.size)) /\ Mod (fun _ => False) w wr) (fun _ si _ => cs.length - (intOf si).toNat)
 case atStart => exact ⟨0, l, a, cap0, Nat.zero_le _, rfl, rfl, rfl, HL.out, fun b hb => .inl hb, Mod.refl _ _⟩
 case round =>
  obtain ⟨k, L, la, cap, hk, rfl, rfl, hL, r1, r2, r3⟩ := hrel; have HLe := hid hL; have HO := hid r1; have HBl := hid r2; have HM := hid r3; clear hL r1 r2 r3; by_cases hlt : k < cs.length
  ·obtain ⟨x, hx⟩ : ∃ x, cs[k]? = some x := ⟨_, List.getElem?_eq_getElem hlt⟩; have hcw := HC.out.ext HM.out; obtain ⟨g, off, rfl⟩ := HC.out.some (by omega)
   have hq0 := hcw.cell qBp hx (j := 0) rfl; have hq1 := hcw.cell qBp hx (j := 1) rfl; have hq2 := hcw.cell qBp hx (j := 2) rfl; simp only [Nat.add_zero] at hq0; have hkb : k + 1 <= 1099511627776 := by have := HB.out; omega
   have hll : L.length <= l.length + k := by
    rw [HLe.out]; have := jEi (cs.take k) l; rw [List.length_take] at this; omega
   have HOne := hid (jHq (w := wr) cap HO.out x (by have := HB.out; omega))
   have HNx : Hid (oneP x x.gone L = rapp (cs.take (k + 1)) l) := hid (by rw [qZz cs l hx, <- HLe.out])
   clear hx hcw hll; go_wp2_with (go_at_call 42; refine HOne.out.mono ?_; rintro e w5 ⟨la5, cap5, rfl, ho5, hb5, hm5⟩; have HO5 := hid ho5; have HB5 := hid hb5; have HM5 := hid hm5; clear ho5 hb5 hm5)
   go_roundw
   case rel => exact ⟨k + 1, oneP x x.gone L, la5, cap5, by omega, rfl, by go_num, HNx.out, HO5.out.lies, fun b hb => .inr (by have h1 := HB5.out b hb; have h2 := HM.out.size; have h3 := HO5.out.lt b hb; omega), HM.out.trans HM5.out⟩
   case measure => simp [intOf]; omega
  ·have HE : Hid (L = rapp cs l) := hid (by rw [HLe.out, List.take_of_length_le (by omega)])
   go_wp2_with fail
   go_ret; rw [<- HE.out]; exact ⟨la, cap, rfl, HO.out, HBl.out, HM.out⟩
theorem qTb {w : World} {a ca : Option Addr} (cap0 cap1 : Nat) {l : List KV} {cs : List Cg} (hA : Asc l) (hl : Lies w 2 kcs a l) (hc : Lies w 3 ccs ca cs) (hb : l.length + cs.length <= 1099511627776) :
  Calls Tryz.prog 18 #[.slice a l.length cap0, .slice ca cs.length cap1] w fun e w' => ∃ la cap, e = .returned (.slice la (chgs cs l).length cap) /\ Lies w' 2 kcs la (chgs cs l) /\ (∀ b, blk la b -> blk a b \/ (w.heap.size <= b /\ b < w'.heap.size)) /\ Mod (fun _ => False) w w' := by
 have h := qZy cap0 cap1 hl hc hb; rw [show rapp cs l = chgs cs l from (qRa cs l hA).1] at h
 exact h
theorem HApp.cases {w w' : World} {B : TB} {T : TM} {D : Dsk} {k : Nat} {l : List KV} {N : Nat} {cs : List Cg} {e : Ending} {c : Int} (hc : chkF [] cs = c) (h : HApp w B T D k l N cs e w') :
  ∃ E : Int, e = .returned (.int .i64 E) /\ Mod (TS B) w w' /\ ((c ≠ 0 /\ E = c /\ Here w' B T D k l N) \/ (c = 0 /\ E = 52 /\ (jlen B.room D : Int) <= (N : Int) + 8 * cs.length /\ Here w' B T D k l N) \/ (c = 0 /\ E = 31 /\ B.room < 21 * cs.length + 1 /\ Here w' B T D k l N) \/ (c = 0 /\ E = 0 /\ ∃ (T' : TM) (D' : Dsk) (N' : Nat), Here w' B T' D' (k + 1002) (chgs cs l) N' /\ D'.secs.length = D.secs.length)) := by
 unfold HApp at h; rw [hc] at h; rcases h with ⟨h1, rfl, h2, h3⟩ | ⟨h0, ⟨rfl, h1, h2, h3⟩ | ⟨rfl, ⟨h1, _⟩, h2, h3⟩ | ⟨rfl, T', D', N', h2, h3, h4⟩⟩
 ·exact ⟨_, rfl, h3.mono (fun _ _ e => e.elim), .inl ⟨h1, rfl, h2⟩⟩
 ·exact ⟨52, rfl, h3.mono (fun _ _ e => e.elim), .inr (.inl ⟨h0, rfl, h1, h2⟩)⟩
 ·exact ⟨31, rfl, h3.mono (fun _ _ e => e.elim), .inr (.inr (.inl ⟨h0, rfl, h1, h2⟩))⟩
 ·exact ⟨0, rfl, h4, .inr (.inr (.inr ⟨h0, rfl, T', D', N', h2, h3⟩))⟩
def jCz (w : World) (B : TB) (k : Nat) (la : Option Addr) (n : Nat) (e : Ending) (w' : World) : Prop :=
 ∃ (T' : TM) (D' : Dsk) (l' : List KV) (N' : Nat) (la' : Option Addr) (lc' : Nat), e = .returned (.tuple #[.slice la' l'.length lc', .bool true]) /\ Here w' B T' D' (k + 1002) l' N' /\ D'.secs.length = n /\ Lies w' 2 kcs la' l' /\ (∀ b, blk la' b -> (blk la b \/ w.heap.size <= b) /\ b < w'.heap.size) /\ Mod (TS B) w w'
set_option maxHeartbeats 4000000 in
theorem qUd {w : World} {B : TB} {T : TM} {D : Dsk} {k N : Nat} {l : List KV} {la : Option Addr} (lc : Nat) (h : Here w B T D k l N) (hk0 : k <= 1152921504606846976) (hl : Lies w 2 kcs la l) (hla : ∀ b, blk la b -> ¬ TS B b) (hlt : ∀ b, blk la b -> b < w.heap.size)
  {a : Option Addr} (cap : Nat) {cs : List Cg} (hc : Lies w 3 ccs a cs) (hca : 0 < cs.length -> ∀ b, blk a b -> ¬ TS B b) (hcl : cs.length <= 1048576) (hs : ∀ c ∈ cs, c.key.size <= maxLen /\ c.value.size <= maxLen) :
  Calls Tryz.prog 24 #[.pointer (some ⟨B.tb, 0, none⟩), .int .i64 (jlen B.room D : Int), .int .i64 (B.room : Int), .slice la l.length lc, .slice a cs.length cap] w (jCz w B k la D.secs.length) := by
 obtain ⟨i0, hi, hz0, hz1, hz2⟩ := info_parts jJq; obtain ⟨hNs, hJs, hRs⟩ := h.small; have hll : l.length <= 8388608 := h.len.1; have HH := hid h; have HL := hid hl; have HLa := hid hla; have HC := hid hc; have HCa := hid hca; have HSz := hid hs; have HSe := hid (fun y : Ext w => qKd (h.ext y.mod))
 have HAsc := hid h.std.ti.1.asc; have HLt := hid hlt; have HSt : Hid (∀ w' : World, Here w' B T D k l N -> Mod (TS B) w w' -> jCz w B k la D.secs.length (.returned (.tuple #[.slice la l.length lc, .bool true])) w') := hid (fun w' hh hm => ⟨T, D, l, N, la, lc, rfl, hh.le (by omega), rfl, hl.mod hm (fun _ b hb => hla b hb), fun b hb => ⟨.inl hb, by have := hlt b hb; have := hm.size; omega⟩, hm⟩)
 have s1 : IntKind.i64.wrap (9 * (cs.length : Int)) = 9 * (cs.length : Int) := by rw [IntKind.wrap_i64]; omega
 have s2 : IntKind.i64.wrap ((N : Int) + 1 + 9 * (cs.length : Int)) = (N : Int) + 1 + 9 * (cs.length : Int) := by rw [IntKind.wrap_i64]; omega
 have s3 : IntKind.i64.wrap (24 * (cs.length : Int)) = 24 * (cs.length : Int) := by rw [IntKind.wrap_i64]; omega
 have s4 : IntKind.i64.wrap (24 * (cs.length : Int) + 1) = 24 * (cs.length : Int) + 1 := by rw [IntKind.wrap_i64]; omega
 clear h hl hla hc hca hs; go_enter Tryz.func24, Tryz.ntmps24
 go_upto_region 3 with (first
  | (at_builtin; refine qAc rfl (.const (.slice none 0 0)) (.tmp 17) 43 rfl 67 i0 _ 3 40 Tryz.underlying43 hi hz0 hz1 hz2 rfl none 0 0 [] rfl (Own.nil _ _ _) a cs.length cap _ rfl HC.out.src (jIs _) (by unfold maxLen; omega) (by omega) ?_; intro ga gc w1 hown hmo hbo hn5 hr5; rw [Nat.zero_add, List.nil_append] at hown; rw [Nat.zero_add]; have HO1 := hid hown; have HM1 : Hid (Mod (fun _ => False) w w1) := hid (hmo.mono (fun b _ e => (qAg b e).elim)); have HB1 : Hid (∀ b, blk ga b -> w.heap.size <= b) := hid (fun b hb => (hbo b hb).elim (fun e => (qAg b e).elim) id); clear hown hmo hbo hn5 hr5)
  | (go_at_call 29; refine (HSe.out ⟨_, HM1.out⟩).mono ?_; rintro e w2 ⟨rfl, rfl⟩))
 obtain ⟨c, hcc⟩ : ∃ c, chkF [] cs = c := ⟨_, rfl⟩; have HCh := hid hcc; have HAp := hid (qNz (HH.out.ext HM1.out) hk0 gc HO1.out.lies hcl HSz.out); clear HSe hi hz0 hz1 hz2 hcc; go_upto_region 5 with (go_at_call 15; refine HAp.out.mono ?_; intro e w3 ha; obtain ⟨E, rfl, hm3, hE⟩ := ha.cases HCh.out; have HM3 := hid hm3; have HE := hid hE; clear ha hm3 hE)
 have HC3 := hid ((HC.out.ext HM1.out).mod HM3.out (fun h b hb => HCa.out h b hb))
 have HG3 := hid (HO1.out.mod HM3.out (fun b hb e => by have h1 := HB1.out b hb; have h2 := HH.out.tree.lt' e; omega))
 have HMw3 := hid ((HM1.out.mono (fun _ _ e => e.elim)).trans HM3.out)
 clear HAp HO1 HM3 HC; go_loopw [26] (fun si wr => ∃ i : Nat, i <= cs.length /\ si = .int .i64 (i : Int) /\ Mod (fun _ => False) w3 wr) (fun si _ => cs.length - (intOf si).toNat)
 case atStart => exact ⟨0, Nat.zero_le _, rfl, Mod.refl _ _⟩
 case round =>
  obtain ⟨i, hil, rfl, hmr⟩ := hrel; have HMr := hid hmr; by_cases hlt : i < cs.length
  ·have d0 : decide ((i : Int) < (cs.length : Int)) = true := by simp; omega
   have d1 : decide (i < cs.length) = true := by simpa using hlt
   have hdi : ¬ cs.length <= i := by omega
   obtain ⟨⟨xk, xv, xg⟩, hx⟩ : ∃ x, cs[i]? = some x := ⟨_, List.getElem?_eq_getElem hlt⟩; obtain ⟨g1, o1, rfl⟩ := HC3.out.some (by omega)
   obtain ⟨g2, o2, rfl⟩ := jJj HG3.out (by omega)
   have q0 := (HC3.out.ext hmr).cell qBp hx (j := 0) rfl; have q1 := (HC3.out.ext hmr).cell qBp hx (j := 1) rfl; have q2 := (HC3.out.ext hmr).cell qBp hx (j := 2) rfl; have r0 := (HG3.out.lies.ext hmr).cell qBp hx (j := 0) rfl; have r1 := (HG3.out.lies.ext hmr).cell qBp hx (j := 1) rfl; have r2 := (HG3.out.lies.ext hmr).cell qBp hx (j := 2) rfl; simp only [Nat.add_zero] at q0 r0; have dv := qNg (rfl : xv = xv); have dk := qNg (rfl : xk = xk); clear hx hmr; go_upto_region 7 with fail
   go_quiet (fail)
   go_wp2_with fail
   go_roundw
   case rel => exact ⟨i + 1, by omega, by go_num, HMr.out.trans ⟨rfl, rfl, rfl, Nat.le_refl _, fun _ _ _ => rfl⟩⟩
   case measure => simp [intOf]; omega
  ·have hie : i = cs.length := by omega
   subst hie; have d0 : decide ((cs.length : Int) < (cs.length : Int)) = false := by simp
   have d1 : decide (cs.length < cs.length) = false := by simp
   obtain ⟨wz, rfl⟩ : ∃ y, y = wr := ⟨wr, rfl⟩; have HRf := hid (fun y : Ext wz => jHj cap (HC3.out.ext (hmr.trans y.mod)) (by omega))
   have HRc := hid (fun (y : Ext wz) (ra : Option Addr) (rc : Nat) (hr : Own y.val 73 3 ra cs.length rc (cs.flatMap ccs)) => jEh rc hr.lies (by omega) HSz.out)
   rw [HCh.out] at HRc; have HMz := hid (HMw3.out.trans (hmr.mono (fun _ _ e => e.elim)))
   clear hmr; rcases HE.out with ⟨hc0, rfl, hh⟩ | ⟨rfl, rfl, hj, hh⟩ | ⟨rfl, rfl, hj, hh⟩ | ⟨rfl, rfl, T', D', N', hh, hn⟩
   ·have dc : (E != 0) = true := by rw [bne_iff_ne]; exact hc0
    have de : (E == E) = true := beq_self_eq_true _; have HHz := hid (hh.ext HMr.out); clear hh hc0; go_wp2_with (first
     | (go_at_call 17; refine (HRf.out ⟨_, Mod.refl _ _⟩).mono ?_; rintro e w5 ⟨ra, rc, rfl, ho5, hb5, hm5⟩; have HO5 := hid ho5; have HM5 := hid hm5; clear ho5 hb5 hm5)
     | (go_at_call 16; refine (HRc.out ⟨_, HM5.out⟩ _ _ HO5.out).mono ?_; rintro e w6 ⟨rfl, hm6⟩; have HM6 := hid (HM5.out.trans hm6); clear hm6))
    go_ret2; exact HSt.out _ (HHz.out.ext HM6.out) (HMz.out.trans (HM6.out.mono (fun _ _ e => e.elim)))
   ·have dj : decide ((jlen B.room D : Int) < (N : Int) + 1 + 9 * (cs.length : Int)) = true := by rw [decide_eq_true_iff]; omega
    have HHz := hid (hh.ext HMr.out); clear hh hj; go_wp2_with (first
     | (go_at_call 17; refine (HRf.out ⟨_, Mod.refl _ _⟩).mono ?_; rintro e w5 ⟨ra, rc, rfl, ho5, hb5, hm5⟩; have HO5 := hid ho5; have HM5 := hid hm5; clear ho5 hb5 hm5)
     | (go_at_call 16; refine (HRc.out ⟨_, HM5.out⟩ _ _ HO5.out).mono ?_; rintro e w6 ⟨rfl, hm6⟩; have HM6 := hid (HM5.out.trans hm6); clear hm6))
    go_ret2; exact HSt.out _ (HHz.out.ext HM6.out) (HMz.out.trans (HM6.out.mono (fun _ _ e => e.elim)))
   ·have dj : decide ((B.room : Int) < 24 * (cs.length : Int) + 1) = true := by rw [decide_eq_true_iff]; omega
    have HHz := hid (hh.ext HMr.out); clear hh hj; go_wp2_with (first
     | (go_at_call 17; refine (HRf.out ⟨_, Mod.refl _ _⟩).mono ?_; rintro e w5 ⟨ra, rc, rfl, ho5, hb5, hm5⟩; have HO5 := hid ho5; have HM5 := hid hm5; clear ho5 hb5 hm5)
     | (go_at_call 16; refine (HRc.out ⟨_, HM5.out⟩ _ _ HO5.out).mono ?_; rintro e w6 ⟨rfl, hm6⟩; have HM6 := hid (HM5.out.trans hm6); clear hm6))
    go_ret2; exact HSt.out _ (HHz.out.ext HM6.out) (HMz.out.trans (HM6.out.mono (fun _ _ e => e.elim)))
   ·have HHz := hid (hh.ext HMr.out); have HLz := hid ((HL.out.mod HMz.out (fun _ b hb => HLa.out b hb)))
    have HRa := hid (fun (y : Ext wz) (ra : Option Addr) (rc : Nat) (hr : Own y.val 73 3 ra cs.length rc (cs.flatMap ccs)) => qTb lc rc HAsc.out (HLz.out.ext y.mod) hr.lies (by omega))
    have HDn := hid hn; clear hh hn; go_wp2_with (first
     | (go_at_call 17; first
       | (refine (HRf.out ⟨_, HM6.out⟩).mono ?_; rintro e w7 ⟨ra7, rc7, rfl, ho7, hb7, hm7⟩; have HO7 := hid ho7; have HM7 := hid (HM6.out.trans hm7); clear ho7 hb7 hm7)
       | (refine (HRf.out ⟨_, Mod.refl _ _⟩).mono ?_; rintro e w5 ⟨ra, rc, rfl, ho5, hb5, hm5⟩; have HO5 := hid ho5; have HM5 := hid hm5; clear ho5 hb5 hm5))
     | (go_at_call 16; refine (HRc.out ⟨_, HM5.out⟩ _ _ HO5.out).mono ?_; rintro e w6 ⟨rfl, hm6⟩; have HM6 := hid (HM5.out.trans hm6); clear hm6)
     | (go_at_call 18; refine (HRa.out ⟨_, HM7.out⟩ _ _ HO7.out).mono ?_; rintro e w8 ⟨la8, lc8, rfl, hl8, hb8, hm8⟩; have HL8 := hid hl8; have HB8 := hid hb8; have HM8 := hid (HM7.out.trans hm8); have HS8 := hid hm8.size; clear hl8 hb8 hm8))
    go_ret2; refine ⟨T', D', _, N', la8, lc8, rfl, HHz.out.ext HM8.out, HDn.out, HL8.out, fun b hb => ?_, HMz.out.trans (HM8.out.mono (fun _ _ e => e.elim))⟩
    rcases HB8.out b hb with h | ⟨h1, h2⟩
    ·exact ⟨.inl h, by have := HLt.out b h; have := HMz.out.size; have := HM8.out.size; omega⟩
    ·exact ⟨.inr (by have h3 := HMz.out.size; have h4 := HM7.out.size; omega), h2⟩
end
section
open Go Go.RowKit
theorem qAp.redisk {w w' : World} {B : TB} {T : TM} {D D' : Dsk} {off : Bool} (h : qAp (TS B) w B T D off) (hm : Mod (qAq B.d B.sa) w w') (hd : qAl w' B.d B.sa D') (hn : D'.secs.length <= 16384) (hne : ¬ qAq B.d B.sa B.tb /\ ¬ qAq B.d B.sa B.nb /\ ¬ qAq B.d B.sa B.ab) : qAp (TS B) w' B T D' off :=
 ⟨(hm.block B.tb (lth h.box) hne.1).trans h.box, h.nodes.mod hm (fun _ e => .inr (.inr (.inr (.inr e)))) hne.2.1, h.after.mod hm hne.2.2, hd, h.jr.mod hm h.sep, h.sep, hn, h.hr⟩
set_option maxRecDepth 100000
theorem qYx {w : World} {d : Nat} (room : Int) (h : room < 1 \/ 500 < room) : Calls Tryz.prog 13 #[.pointer (some ⟨d, 0, none⟩), .int .i64 room] w fun e w' => e = .returned (.tuple #[.pointer none, .int .i64 2]) /\ w = w' := by
 have HO := hid (qVo (w := w) (d := d) room h); go_enter Tryz.func13, Tryz.ntmps13
 go_wp2_with (go_at_call 22; refine HO.out.mono ?_; rintro e w1 ⟨rfl, rfl⟩)
 go_ret2; exact ⟨rfl, rfl⟩
theorem qPf {w w' : World} (h : Mod (fun b => w.heap.size <= b) w w') : Mod (fun _ => False) w w' := h.mono (fun k hk e => by omega)
def jKd (w : World) (d : Nat) (sa : Option Addr) (n E : Int) (e : Ending) (w' : World) : Prop :=
 e = .returned (.tuple #[.pointer none, .int .i64 E]) /\ qAl w' d sa (newD n) /\ Mod (qAq d sa) w w'
theorem qXf {D : Dsk} (h0 : D.secs.length = 0) (hoff : D.off = false) : (qDd D 0).2 = 10 := by
 rw [qIp]; unfold qAx; simp [h0, hoff]
theorem qNq {n : Int} {room : Nat} (h0 : (newD n).secs.length = 0) : qEj room (newD n) = (10, newD n) := by
 have h1 := qXf h0 (show (newD n).off = false from rfl)
 unfold qEj; rw [h1, if_neg (by decide)]
theorem qLy {n : Int} {room : Nat} (h0 : 0 < (newD n).secs.length) : qEj room (newD n) = (0, newD n) := qVn (qPi n) h0 (qSd n)
theorem qQq {n : Int} {room : Nat} (h0 : 0 < (newD n).secs.length) (h1 : jlen room (newD n) = 0) : qEo room (newD n) = (10, newD n, none) := by
 have h2 : (qCq room (newD n) 0).2 = 10 := by unfold qCq; rw [h1, if_pos (.inr (by simp))]
 unfold qEo; rw [qLy h0]; simp only; rw [if_neg (by simp), if_pos (by rw [h2]; decide), h2]
theorem qSt {n : Int} {room : Nat} (h0 : (newD n).secs.length = 0) : qEo room (newD n) = (10, newD n, none) := by
 unfold qEo; rw [qNq h0]; simp only; rw [if_pos (by decide)]
theorem qUq {w : World} {d r : Nat} {sa : Option Addr} {n : Int} (hD : qAl w d sa (newD n)) (h1 : 1 <= r) (h2 : r <= 500) (h : qEo r (newD n) = (10, newD n, none)) : Calls Tryz.prog 13 #[.pointer (some ⟨d, 0, none⟩), .int .i64 (r : Int)] w (jKd w d sa n 10) :=
 (qQp hD (qKh n) (by omega) h1 h2).mono (fun e w' ha => by
  rw [h] at ha; obtain ⟨a1, a2, rfl, _⟩ := ha; exact ⟨rfl, a1, a2⟩)
theorem jFh {w : World} {d r : Nat} {sa : Option Addr} {n : Int} (hD : qAl w d sa (newD n)) (h1 : 1 <= r) (h2 : r <= 500) (h : qEj r (newD n) = (10, newD n)) : Calls Tryz.prog 22 #[.pointer (some ⟨d, 0, none⟩), .int .i64 (r : Int)] w (jKd w d sa n 10) :=
 (qPb hD (qKh n) (by omega) h1 h2).mono (fun e w' ha => by
  rw [h] at ha; obtain ⟨a1, a2, ⟨h0, _⟩ | ⟨_, rfl⟩⟩ := ha
  ·cases h0
  ·exact ⟨rfl, a1, a2⟩)
theorem qVv {w : World} {d r : Nat} {sa : Option Addr} {n : Int} (hD : qAl w d sa (newD n)) (h1 : 1 <= r) (h2 : r <= 500) (h : qEj r (newD n) = (0, newD n)) : Calls Tryz.prog 22 #[.pointer (some ⟨d, 0, none⟩), .int .i64 (r : Int)] w fun e w' => (∃ j, e = .returned (.tuple #[.pointer (some ⟨j, 0, none⟩), .int .i64 0])) /\ qAl w' d sa (newD n) /\ Mod (qAq d sa) w w' :=
 (qPb hD (qKh n) (by omega) h1 h2).mono (fun e w' ha => by
  rw [h] at ha; obtain ⟨a1, a2, ⟨_, j, rfl, _⟩ | ⟨h0, _⟩⟩ := ha
  ·exact ⟨⟨j, rfl⟩, a1, a2⟩
  ·exact absurd rfl h0)
end
section
open Go Go.RowKit
structure OpR where
 kind : Int
 n : Int
 ca : Option Addr
 cc : Nat
 cs : List Cg
 key : ByteArray
abbrev OpR.vs (o : OpR) : List Value := [.int .i64 o.kind, .int .i64 o.n, .slice o.ca o.cs.length o.cc, .string o.key]
theorem qLx (o : OpR) : o.vs.length = 4 := rfl
structure OpOk (w : World) (o : OpR) : Prop where
 lies : Lies w 3 ccs o.ca o.cs
 len : o.cs.length <= 1048576
 sz : ∀ c ∈ o.cs, c.key.size <= maxLen /\ c.value.size <= maxLen
structure qJn (w wr : World) (B : TB) (T : TM) (D : Dsk) (k : Nat) (l : List KV) (N i : Nat) (la : Option Addr) (d : Nat) (sa : Option Addr) (r n : Nat) : Prop where
 here : Here wr B T D k l N
 d : B.d = d
 sa : B.sa = sa
 room : B.room = r
 n : D.secs.length = n
 lies : Lies wr 2 kcs la l
 apart : ∀ b, blk la b -> ¬ TS B b
 lt : ∀ b, blk la b -> b < wr.heap.size
 lo : ∀ b, TS B b -> w.heap.size <= b
 mod : Mod (fun b => w.heap.size <= b) w wr
 bud : k <= 1002 * i
theorem qJn.ext {w wr wv : World} {B : TB} {T : TM} {D : Dsk} {k : Nat} {l : List KV} {N i : Nat} {la : Option Addr} {d : Nat} {sa : Option Addr} {r n : Nat} (h : qJn w wr B T D k l N i la d sa r n) (hm : Mod (fun _ => False) wr wv) : qJn w wv B T D k l N i la d sa r n :=
 ⟨h.here.ext hm, h.d, h.sa, h.room, h.n, h.lies.ext hm, h.apart, (fun b hb => by have := h.lt b hb; have := hm.size; omega), h.lo, h.mod.trans (hm.mono (fun _ _ e => e.elim)), h.bud⟩
theorem qJn.next {w wr : World} {B : TB} {T : TM} {D : Dsk} {k : Nat} {l : List KV} {N i : Nat} {la : Option Addr} {d : Nat} {sa : Option Addr} {r n : Nat} (h : qJn w wr B T D k l N i la d sa r n) : qJn w wr B T D k l N (i + 1) la d sa r n :=
 ⟨h.here, h.d, h.sa, h.room, h.n, h.lies, h.apart, h.lt, h.lo, h.mod, by have := h.bud; omega⟩
theorem qJn.appl {w wr wv : World} {B : TB} {T T' : TM} {D D' : Dsk} {k : Nat} {l l' : List KV} {N N' i : Nat} {la la' : Option Addr} {d : Nat} {sa : Option Addr} {r n : Nat} (h : qJn w wr B T D k l N i la d sa r n) (h1 : Here wv B T' D' (k + 1002) l' N') (h2 : D'.secs.length = n) (h3 : Lies wv 2 kcs la' l') (h4 : ∀ b, blk la' b -> (blk la b \/ wr.heap.size <= b) /\ b < wv.heap.size) (h5 : Mod (TS B) wr wv) : qJn w wv B T' D' (k + 1002) l' N' (i + 1) la' d sa r n :=
 ⟨h1, h.d, h.sa, h.room, h2, h3, fun b hb e => (h4 b hb).1.elim (fun q => h.apart b q e) (fun q => by have := h.here.tree.lt' e; omega), fun b hb => (h4 b hb).2, h.lo, h.mod.trans (h5.mono (fun b _ e => h.lo b e)), by have := h.bud; omega⟩
theorem qJn.open' {w wr wv : World} {B B' : TB} {T : TM} {D : Dsk} {k : Nat} {l : List KV} {N i : Nat} {la : Option Addr} {d : Nat} {sa : Option Addr} {r n : Nat} (h : qJn w wr B T D k l N i la d sa r n) (h1 : Here wv B' T D k l N) (h2 : B'.d = d) (h3 : B'.sa = sa) (h4 : B'.room = r) (h5 : wr.heap.size <= B'.tb /\ wr.heap.size <= B'.nb /\ wr.heap.size <= B'.ab /\ wr.heap.size <= B'.j) (h6 : Mod (qAq d sa) wr wv) : qJn w wv B' T D k l N (i + 1) la d sa r n := by
 have hd : ∀ b, qAq d sa b -> TS B b := fun b e => .inr (.inr (.inr (.inr (by rw [h.d, h.sa]; exact e))))
 have hsz := h.mod.size; refine ⟨h1, h2, h3, h4, h.n, h.lies.mod h6 (fun _ b hb e => h.apart b hb (hd b e)), fun b hb e => ?_, (fun b hb => by have := h.lt b hb; have := h6.size; omega), fun b e => ?_, h.mod.trans (h6.mono (fun b _ e => h.lo b (hd b e))), by have := h.bud; omega⟩
 ·have := h.lt b hb; rcases e with e | e | e | e | e
  ·omega
  ·omega
  ·omega
  ·omega
  ·rw [h2, h3] at e; exact h.apart b hb (hd b e)
 ·rcases e with e | e | e | e | e
  ·omega
  ·omega
  ·omega
  ·omega
  ·rw [h2, h3] at e; exact h.lo b (hd b e)
theorem qZr (l : List KV) (k : ByteArray) : ∃ v b, qOt l k = .tuple #[.string v, .bool b] := by
 unfold qOt; split
 ·exact ⟨_, _, rfl⟩
 ·exact ⟨_, _, rfl⟩
set_option maxRecDepth 100000
set_option maxHeartbeats 4000000 in
theorem plays_walk (w : World) (n room : Int) (a : Option Addr) (cap : Nat) (os : List OpR) (hos : Lies w 4 OpR.vs a os) (hok : ∀ o ∈ os, OpOk w o) (hol : os.length * 56 <= 140737488351232) :
  Calls Tryz.prog 5 #[.int .i64 n, .int .i64 room, .slice a os.length cap] w fun e w' => e = .returned (.bool true) /\ Mod (fun _ => False) w w' := by
 have HNw := hid (jAh (w := w) n); have HO := hid hos; have HOk := hid hok; clear hos hok; by_cases hroom : room < 1 \/ 500 < room
 ·go_enter Tryz.func5, Tryz.ntmps5
  go_upto_region 4 with (first
   | (go_at_call 12; refine HNw.out.mono ?_; rintro e w1 ⟨d, sa, rfl, hd0, hs0, hD, hm1⟩; have HM1 := hid hm1; clear hd0 hs0 hD hm1)
   | (go_at_call 13; refine (qYx room hroom).mono ?_; rintro e w2 ⟨rfl, rfl⟩)
   | (go_at_call 22; refine (qVo room hroom).mono ?_; rintro e w3 ⟨rfl, rfl⟩))
  go_wp2_with (go_at_call 9; refine (qIh _).mono ?_; rintro e w4 ⟨rfl, hm4⟩; have HM4 := hid (HM1.out.trans hm4); clear hm4)
  go_ret; exact ⟨rfl, HM4.out⟩
 ·obtain ⟨r, rfl⟩ : ∃ r : Nat, room = (r : Int) := ⟨room.toNat, by omega⟩
  have hr1 : 1 <= r := by omega
  have hr2 : r <= 500 := by omega
  clear hroom; obtain ⟨n0, hn0⟩ : ∃ m, (newD n).secs.length = m := ⟨_, rfl⟩; have hn1 : n0 <= 16384 := by rw [<- hn0]; exact (qKh n).n
  have HN0 := hid hn0; by_cases hz : n0 = 0
  ·go_enter Tryz.func5, Tryz.ntmps5
   go_wp2_with (first
    | (go_at_call 12; refine HNw.out.mono ?_; rintro e w1 ⟨d, sa, rfl, hd0, hs0, hD, hm1⟩; have HM1 := hid hm1; have HD := hid hD; have HDk : Hid (∀ k, qAq d sa k -> w.heap.size <= k) := hid (fun k e => e.elim (fun e => by omega) (fun e => hs0 k e)); clear hd0 hs0 hD hm1)
    | (go_at_call 13; refine (qUq HD.out hr1 hr2 (qSt (HN0.out.trans hz))).mono ?_; rintro e w2 ⟨rfl, hd2, hm2⟩; have HD2 := hid hd2; have HM2 := hid hm2; clear hd2 hm2)
    | (go_at_call 22; refine (jFh HD2.out hr1 hr2 (qNq (HN0.out.trans hz))).mono ?_; rintro e w3 ⟨rfl, hd3, hm3⟩; have HM3 := hid (HM2.out.trans hm3); clear hd3 hm3)
    | (go_at_call 9; refine (qIh _).mono ?_; rintro e w4 ⟨rfl, hm4⟩; have HM4 := hid hm4; clear hm4))
   go_ret; exact ⟨rfl, qPf (((HM1.out.mono (fun _ _ e => e.elim)).trans (HM3.out.mono (fun k _ e => HDk.out k e))).trans (HM4.out.mono (fun _ _ e => e.elim)))⟩
  ·have hz1 : 0 < n0 := by omega
   have s1 : IntKind.i64.wrap ((n0 : Int) - (r : Int)) = (n0 : Int) - (r : Int) := by rw [IntKind.wrap_i64]; omega
   have s2 : IntKind.i64.wrap ((n0 : Int) - (r : Int) - 1) = (n0 : Int) - (r : Int) - 1 := by rw [IntKind.wrap_i64]; omega
   have HZ := hid (HN0.out.symm ▸ hz1 : 0 < (newD n).secs.length); have HDl := hid (fun (v : World) (d : Nat) (sa : Option Addr) (hv : qAl v d sa (newD n)) => HN0.out ▸ jAo hv)
   by_cases hf : n0 <= r + 1
   ·have d0 : decide ((n0 : Int) - (r : Int) - 1 < 1) = true := by simp; omega
    have HJ : Hid (jlen r (newD n) = 0) := hid (by unfold jlen; rw [HN0.out]; omega)
    clear hn0 hz hn1; go_enter Tryz.func5, Tryz.ntmps5
    go_wp2_with (first
     | (go_at_call 12; refine HNw.out.mono ?_; rintro e w1 ⟨d, sa, rfl, hd0, hs0, hD, hm1⟩; have HM1 := hid hm1; have HD := hid hD; have HDk : Hid (∀ k, qAq d sa k -> w.heap.size <= k) := hid (fun k e => e.elim (fun e => by omega) (fun e => hs0 k e)); clear hd0 hs0 hD hm1)
     | (go_at_call 13; refine (qUq HD.out hr1 hr2 (qQq HZ.out HJ.out)).mono ?_; rintro e w2 ⟨rfl, hd2, hm2⟩; have HD2 := hid hd2; have HM2 := hid hm2; clear hd2 hm2)
     | (go_at_call 22; refine (qVv HD2.out hr1 hr2 (qLy HZ.out)).mono ?_; rintro e w3 ⟨⟨j, rfl⟩, hd3, hm3⟩; have HD3 := hid hd3; have HM3 := hid (HM2.out.trans hm3); clear hd3 hm3)
     | (go_at_call 9; refine (qIh _).mono ?_; rintro e w4 ⟨rfl, hm4⟩; have HM4 := hid hm4; clear hm4)
     | (go_at_call 23; refine (HDl.out _ _ _ (HD3.out.mod HM4.out (fun _ _ e => e))).mono ?_; rintro e w5 ⟨rfl, rfl⟩))
    go_ret; exact ⟨rfl, qPf (((HM1.out.mono (fun _ _ e => e.elim)).trans (HM3.out.mono (fun k _ e => HDk.out k e))).trans (HM4.out.mono (fun _ _ e => e.elim)))⟩
   ·obtain ⟨jn, hjn⟩ : ∃ m, jlen r (newD n) = m := ⟨_, rfl⟩; have hje : jn = n0 - r - 1 := by rw [<- hjn, <- hn0]; rfl
    have s3 : (n0 : Int) - (r : Int) - 1 = (jn : Int) := by omega
    have d0 : decide ((jn : Int) < 1) = false := by simp; omega
    have HJn := hid hjn; have HStd := hid (qZb (n := n) hr1 hr2 (by omega))
    clear hz hf hje hjn; go_enter Tryz.func5, Tryz.ntmps5
    go_upto_region 16 with (first
     | (go_at_call 12; refine HNw.out.mono ?_; rintro e w1 ⟨d, sa, rfl, hd0, hs0, hD, hm1⟩; have HM1 := hid hm1; have HD := hid hD; have HDk : Hid (∀ k, qAq d sa k -> w.heap.size <= k) := hid (fun k e => e.elim (fun e => by omega) (fun e => hs0 k e)); have HDlt := hid hD.lt; clear hd0 hs0 hD hm1)
     | (go_at_call 13; refine (qJb HD.out (qPi n) (by omega) HStd.out).mono ?_; rintro e w2 ⟨B, rfl, hh, hBd, hBs, hBr, hlo, hm2⟩; have HH2 := hid hh; have HBd := hid hBd; have HBs := hid hBs; have HBr := hid hBr; have HLo := hid hlo; have HM2 := hid hm2; have HD2 : Hid (qAl w2 d sa (newD n)) := hid (by have h9 := hh.tree.disk; rw [hBd, hBs] at h9; exact h9); clear hh hBd hBs hBr hlo hm2)
     | (go_at_call 22; refine (qVv HD2.out hr1 hr2 (qLy HZ.out)).mono ?_; rintro e w3 ⟨⟨j, rfl⟩, hd3, hm3⟩; have HD3 := hid hd3; have HM3 := hid hm3; clear hd3 hm3)
     | (go_at_call 9; refine (qIh _).mono ?_; rintro e w4 ⟨rfl, hm4⟩; have HM4 := hid hm4; clear hm4)
     | (go_at_call 23; refine (HDl.out _ _ _ (HD3.out.mod HM4.out (fun _ _ e => e))).mono ?_; rintro e w5 ⟨rfl, rfl⟩))
    have HR0 : Hid (qJn w w4 B newT (newD n) 0 [] 0 0 none d sa r n0) := hid (by
     have e1 := HBd.out; have e2 := HBs.out; obtain ⟨l1, l2, l3, l4⟩ := HLo.out; have hlt : ∀ k, qAq d sa k -> k < w1.heap.size := HDlt.out; have hne : ∀ b, w1.heap.size <= b -> ¬ qAq B.d B.sa b := fun b hb e => by rw [e1, e2] at e; have := hlt b e; omega
     have hs1 : w.heap.size <= w1.heap.size := HM1.out.size; have ht3 : qAp (TS B) w3 B newT (newD n) false := HH2.out.tree.redisk (by rw [e1, e2]; exact HM3.out) (by rw [e1, e2]; exact HD3.out) HH2.out.tree.hn ⟨hne _ l1, hne _ l2, hne _ l3⟩
     have hh3 : Here w3 B newT (newD n) 0 [] 0 := ⟨ht3, HH2.out.lit, HH2.out.std, HH2.out.ne⟩; refine ⟨hh3.ext HM4.out, e1, e2, HBr.out, HN0.out, ⟨⟨by simp, fun _ => rfl, fun a ha => by cases ha⟩, fun h => by simp at h, fun _ h => by simp at h⟩, (fun b hb => (qAg b hb).elim), (fun b hb => (qAg b hb).elim), fun b hb => ?_, ?_, Nat.zero_le _⟩
     ·rcases hb with e | e | e | e | e
      ·omega
      ·omega
      ·omega
      ·omega
      ·rw [e1, e2] at e; exact HDk.out b e
     ·exact (((HM1.out.mono (fun _ _ e => e.elim)).trans (HM2.out.mono (fun k _ e => HDk.out k e))).trans (HM3.out.mono (fun k _ e => HDk.out k e))).trans (HM4.out.mono (fun _ _ e => e.elim)))
    clear HNw HM1 HM2 HM3 HM4 HD HD2 HD3 HH2 HLo HBd HBs HBr HDl HStd HDlt HZ; have ho56 : os.length <= 2513169434880 := by omega
    go_loopw [8, 13, 14, 67] (fun st sl so si wr => ∃ (i k N lc : Nat) (B : TB) (T : TM) (D : Dsk) (l : List KV) (la : Option Addr), st = .pointer (some ⟨B.tb, 0, none⟩) /\ sl = .slice la l.length lc /\ so = .bool true /\ si = .int .i64 (i : Int) /\ i <= os.length /\ qJn w wr B T D k l N i la d sa r n0) (fun _ _ _ si _ => os.length - (intOf si).toNat)
    case atStart => exact ⟨0, 0, 0, 0, B, newT, newD n, [], none, rfl, rfl, rfl, rfl, Nat.zero_le _, HR0.out⟩
    case round =>
     obtain ⟨i, k, N, lc, B, T, D, l, la, rfl, rfl, rfl, rfl, hil, hrel⟩ := hrel; have HRel := hid hrel; clear hrel; by_cases hlt : i < os.length
     ·have c0 : decide ((i : Int) < (os.length : Int)) = true := by simp; omega
      have c1 : decide (i < os.length) = true := by simpa using hlt
      have hdi : ¬ os.length <= i := by omega
      obtain ⟨o, hx⟩ : ∃ x, os[i]? = some x := ⟨_, List.getElem?_eq_getElem hlt⟩; have HOo := hid (HOk.out o (List.mem_of_getElem? hx)); obtain ⟨g, off, rfl⟩ := HO.out.some (by omega)
      have how := HO.out.old HRel.out.mod (fun _ e => e)
      have q0 := how.cell qLx hx (j := 0) rfl; have q1 := how.cell qLx hx (j := 1) rfl; have q2 := how.cell qLx hx (j := 2) rfl; have q3 := how.cell qLx hx (j := 3) rfl; simp only [Nat.add_zero] at q0; obtain ⟨kd, m, ca, cc, cs, key⟩ := o; simp only at q0 q1 q2 q3; have HMa := hid ((Mod.refl (fun _ => False) wr).alloc (.cells #[.int .i64 kd, .int .i64 m, .slice ca cs.length cc, .string key] 56))
      have HBx : Hid ((wr.alloc (.cells #[.int .i64 kd, .int .i64 m, .slice ca cs.length cc, .string key] 56)).heap[wr.heap.size]? = some (.cells #[.int .i64 kd, .int .i64 m, .slice ca cs.length cc, .string key] 56 (0, 0))) := hid (heap_alloc_new _ _); have hk0 : k <= 1152921504606846976 := by have := HRel.out.bud; omega
      have hll : l.length <= 8388608 := HRel.out.here.len.1; clear hx how; go_upto_region 18 with fail
      obtain ⟨wo, rfl⟩ : ∃ y, y = wr := ⟨wr, rfl⟩; generalize hV : wo.alloc (.cells #[.int .i64 kd, .int .i64 m, .slice ca cs.length cc, .string key] 56) = V at *; have b0 : V.cell? ⟨wo.heap.size, 0, none⟩ = some (.int .i64 kd) := by rw [cell_of_row _ _ _ _ _ _ HBx.out]; rfl
      have b1 : V.cell? ⟨wo.heap.size, 1, none⟩ = some (.int .i64 m) := by rw [cell_of_row _ _ _ _ _ _ HBx.out]; rfl
      have b2 : V.cell? ⟨wo.heap.size, 2, none⟩ = some (.slice ca cs.length cc) := by rw [cell_of_row _ _ _ _ _ _ HBx.out]; rfl
      have b3 : V.cell? ⟨wo.heap.size, 3, none⟩ = some (.string key) := by rw [cell_of_row _ _ _ _ _ _ HBx.out]; rfl
      have HRv := hid (HRel.out.ext HMa.out); have HHv := hid (HRel.out.here.ext HMa.out); have HLv := hid (HRel.out.lies.ext HMa.out); clear q0 q1 q2 q3 hV; by_cases k1 : kd = 1
      ·subst k1; have HCs := hid ((HOo.out.lies.old HRel.out.mod (fun _ e => e)).ext HMa.out)
       have hlv : ∀ b, blk la b -> b < V.heap.size := fun b hb => by have h1 := HRel.out.lt b hb; have h2 := HMa.out.size; omega
       have HAp := hid (qUd lc HHv.out hk0 HLv.out HRel.out.apart hlv cc HCs.out (fun h0 b hb e => by have h1 := HOo.out.lies.lt b h0 hb; have h2 := HRel.out.lo b e; omega) HOo.out.len HOo.out.sz)
       have hjl : jlen B.room D = jn := by have h1 := HJn.out; rw [HRel.out.room]; unfold jlen at h1 ⊢; rw [HRel.out.n, <- HN0.out]; exact h1
       rw [hjl, HRel.out.room, HRel.out.n] at HAp; clear hlv hjl; go_wp2_with (first
        | (go_at_call 24; refine HAp.out.mono ?_; rintro e w5 ⟨T', D', l', N', la', lc', rfl, hh, hn, hl, hb, hm⟩; have HR5 := hid (HRv.out.appl hh hn hl hb hm); clear hh hn hl hb hm)
        | (go_at_call 21; refine (qGw _ HR5.out.here HR5.out.lies).mono ?_; rintro e w6 ⟨rfl, hm6⟩; have HM6 := hid hm6; clear hm6))
       go_roundw
       case rel => exact ⟨i + 1, k + 1002, N', lc', B, T', D', l', la', rfl, rfl, rfl, by go_num, by omega, HR5.out.ext HM6.out⟩
       case measure => simp [intOf]; omega
      ·have e1 : (kd == 1) = false := beq_eq_false_iff_ne.2 k1; by_cases k2 : kd = 2
       ·subst k2; obtain ⟨gv, gb, hg⟩ := qZr l key; have HGt := hid (jFn HHv.out key); have HRg := hid (fun y : Ext V => jEc lc (HLv.out.ext y.mod) key (by omega))
        rw [hg] at HGt HRg; have dv := qNg (rfl : gv = gv); have dg : (gb == gb) = true := by simp
        clear hg; go_wp2_with (first
         | (go_at_call 25; refine HGt.out.mono ?_; rintro e w5 ⟨rfl, hm5⟩; have HM5 := hid hm5; have r3 : w5.cell? ⟨wo.heap.size, 3, none⟩ = some (.string key) := (⟨_, hm5⟩ : Ext V).cell b3; clear hm5)
         | (go_at_call 26; refine (HRg.out ⟨_, HM5.out⟩).mono ?_; rintro e w6 ⟨rfl, rfl⟩)
         | (go_at_call 21; refine (qGw _ (HRv.out.ext HM5.out).here (HRv.out.ext HM5.out).lies).mono ?_; rintro e w6 ⟨rfl, hm6⟩; have HM6 := hid (HM5.out.trans hm6); clear hm6))
        go_roundw
        case rel => exact ⟨i + 1, k, N, lc, B, T, D, l, la, rfl, rfl, rfl, by go_num, by omega, (HRv.out.ext HM6.out).next⟩
        case measure => simp [intOf]; omega
       ·have e2 : (kd == 2) = false := beq_eq_false_iff_ne.2 k2; by_cases k3 : kd = 3
        ·subst k3; have hrl : (qGh l key m).length <= 8388608 := by
          unfold qGh; rw [List.length_take]; have := List.length_filter_le (geK key) l; omega
         have HS1 := hid (fun y : Ext V => qMi (HHv.out.ext y.mod) key m)
         have HS2 := hid (fun y : Ext V => qZq lc (HLv.out.ext y.mod) key m (by omega))
         generalize qGh l key m = L at *; have HS3 := hid (fun (v : World) (xa ya : Option Addr) (xc yc : Nat) (hx : Own v 32 2 xa L.length xc (L.flatMap kcs)) (hy : Own v 71 2 ya L.length yc (L.flatMap kcs)) => qUx xc yc hx.lies hy.lies (by omega))
         clear hrl; go_upto_region 26 with fail
         go_region_held3 (fun w' => w'.cell? ⟨wo.heap.size, 3, none⟩ = some (.string key) /\ w'.cell? ⟨wo.heap.size, 1, none⟩ = some (.int .i64 m))
          (first | exact ⟨x3, x1⟩ | exact ⟨y3, y1⟩ | exact ⟨z3, z1⟩ | exact ⟨b3, b1⟩ | go_keep)
          (first
           | (go_at_call 10; (with_reducible refine (HS1.out ⟨_, (Mod.refl _ V).drew⟩).mono ?_); rintro e v1 ⟨xa, xc, rfl, ho1, hb1, hm1⟩; have HO1 := hid ho1; have HM1 : Hid (Mod (fun _ => False) V v1) := hid (((Mod.refl _ V).drew).trans hm1); have x3 : v1.cell? ⟨wo.heap.size, 3, none⟩ = some (.string key) := (⟨_, HM1.out⟩ : Ext V).cell b3; have x1 : v1.cell? ⟨wo.heap.size, 1, none⟩ = some (.int .i64 m) := (⟨_, HM1.out⟩ : Ext V).cell b1; clear ho1 hb1 hm1)
           | (go_at_call 28; (with_reducible refine (HS2.out ⟨_, HM1.out⟩).mono ?_); rintro e v2 ⟨ya, yc, rfl, ho2, hb2, hm2⟩; have HO2 := hid ho2; have HO1b := hid (HO1.out.mod hm2 (fun _ _ e => e)); have HM2 : Hid (Mod (fun _ => False) V v2) := hid (HM1.out.trans hm2); have y3 : v2.cell? ⟨wo.heap.size, 3, none⟩ = some (.string key) := (⟨_, HM2.out⟩ : Ext V).cell b3; have y1 : v2.cell? ⟨wo.heap.size, 1, none⟩ = some (.int .i64 m) := (⟨_, HM2.out⟩ : Ext V).cell b1; clear ho2 hb2 hm2)
           | (go_at_call 27; (with_reducible refine (HS3.out _ _ _ _ _ HO1b.out HO2.out).mono ?_); rintro e v3 ⟨rfl, hm3⟩; have HM3 : Hid (Mod (fun _ => False) V v3) := hid (HM2.out.trans hm3); have z3 : v3.cell? ⟨wo.heap.size, 3, none⟩ = some (.string key) := (⟨_, HM3.out⟩ : Ext V).cell b3; have z1 : v3.cell? ⟨wo.heap.size, 1, none⟩ = some (.int .i64 m) := (⟨_, HM3.out⟩ : Ext V).cell b1; clear hm3))
         all_goals
          go_wp2_with (go_at_call 21; refine (qGw _ (HRv.out.ext HM3.out).here (HRv.out.ext HM3.out).lies).mono ?_; rintro e w6 ⟨rfl, hm6⟩; have HM6 := hid (HM3.out.trans hm6); clear hm6)
          go_roundw
          case rel => exact ⟨i + 1, k, N, lc, B, T, D, l, la, rfl, rfl, rfl, by go_num, by omega, (HRv.out.ext HM6.out).next⟩
          case measure => simp [intOf]; omega
        ·have e3 : (kd == 3) = false := beq_eq_false_iff_ne.2 k3; by_cases k4 : kd = 4
         ·subst k4; have hdv : qAl V d sa D := by have h9 := HHv.out.tree.disk; rw [HRel.out.d, HRel.out.sa] at h9; exact h9
          have hsv : Std r D T l N := by have h9 := HHv.out.std; rw [HRel.out.room] at h9; exact h9
          have HOp := hid (qJb hdv HHv.out.lit hk0 hsv); clear hdv hsv; go_wp2_with (first
           | (go_at_call 13; refine HOp.out.mono ?_; rintro e w5 ⟨B', rfl, hh, f1, f2, f3, hlo, hm⟩; have HR5 := hid (HRv.out.open' hh f1 f2 f3 hlo hm); clear hh f1 f2 f3 hlo hm)
           | (go_at_call 21; refine (qGw _ HR5.out.here HR5.out.lies).mono ?_; rintro e w6 ⟨rfl, hm6⟩; have HM6 := hid hm6; clear hm6))
          go_roundw
          case rel => exact ⟨i + 1, k, N, lc, B', T, D, l, la, rfl, rfl, rfl, by go_num, by omega, HR5.out.ext HM6.out⟩
          case measure => simp [intOf]; omega
         ·have e4 : (kd == 4) = false := beq_eq_false_iff_ne.2 k4; go_wp2_with (go_at_call 21; refine (qGw _ HHv.out HLv.out).mono ?_; rintro e w6 ⟨rfl, hm6⟩; have HM6 := hid hm6; clear hm6)
          go_roundw
          case rel => exact ⟨i + 1, k, N, lc, B, T, D, l, la, rfl, rfl, rfl, by go_num, by omega, (HRv.out.ext HM6.out).next⟩
          case measure => simp [intOf]; omega
     ·have hie : i = os.length := by omega
      subst hie; have c0 : decide ((os.length : Int) < (os.length : Int)) = false := by simp
      have c1 : decide (os.length < os.length) = false := by simp
      go_wp2_with fail
      go_ret; exact ⟨rfl, qPf HRel.out.mod⟩
end
section
open Go Go.RowKit
theorem qWl : Tryz.prog.cellsOf 3 = 1 := by kernel_rfl
theorem qWk : Tryz.prog.cellsOf 9 = 1 := by kernel_rfl
theorem wf_i64 {n : Int} (h : (Lit.int .i64 n).wf = true) : -9223372036854775808 <= n /\ n <= 9223372036854775807 := by
 simp only [Lit.wf, Bool.and_eq_true, decide_eq_true_eq] at h; have a1 : IntKind.min .i64 = -9223372036854775808 := rfl; have a2 : IntKind.max .i64 = 9223372036854775807 := rfl; rw [a1, a2] at h; exact h
section
variable {H : Type} {enc : TypeId × Value -> H} {w : World} {base : Nat} {spare : Nat -> Bool} {held : Bool}
end
end
end Go.Proofs.YtgbcibdfeeiilaaGreatDoor
