/- merged: TeCutB TeAppl TePlN TeCuts Open1 TeCutsC -/
import Derived.Test.YtgbcibdfeeiilaaGreatDoorMd35
import Derived.Deep.DeepCutAuto
import Derived.Deep.CutBlock
import Derived.Test.YtgbcibdfeeiilaaGreatDoorProg
import Derived.Test.YtgbcibdfeeiilaaGreatDoorMd01
import Derived.Test.YtgbcibdfeeiilaaGreatDoorRows
import Derived.Test.YtgbcibdfeeiilaaGreatDoorCards
import Derived.Test.YtgbcibdfeeiilaaGreatDoorTie
import Derived.Test.YtgbcibdfeeiilaaGreatDoorMd02
import Derived.WalkKit
import Derived.ProofKit
import Derived.OpenShut
import Derived.Lay
import Derived.Deep.DeepHandedRow
namespace Go.Proofs.YtgbcibdfeeiilaaGreatDoor
section
open Go Go.RowKit
structure Bt where
 a : Option Addr
 cap : Nat
 cs : List Cg
abbrev Bt.vs (x : Bt) : List Value := [.slice x.a x.cs.length x.cap]
theorem bt_len (x : Bt) : x.vs.length = 1 := rfl
structure BtOk (w : World) (x : Bt) : Prop where
 lies : Lies w 3 ccs x.a x.cs
 sz : ∀ c ∈ x.cs, c.key.size <= maxLen /\ c.value.size <= maxLen
theorem BtOk.ext {w w' : World} {x : Bt} (h : BtOk w x) (hm : Mod (fun _ => False) w w') : BtOk w' x := ⟨h.lies.ext hm, h.sz⟩
theorem qVw {D : Dsk} (h : D.secs.length = 2000) : jlen 500 D = 1499 := by
 unfold jlen; rw [h]
theorem jGw {D : Dsk} {room : Nat} {T : TM} {l : List KV} {N : Nat} (hs : Std room D T l N) (hoff : D.off = false) (n : Int) : Std room (D.cut n) T l N := by
 have hc := qLp (room := room) hoff hs.clear; exact qLg hs hoff rfl hoff ⟨hc.1, fun q hq => hc.2 q hq⟩
structure qGm (v wr : World) (B : TB) (T : TM) (D : Dsk) (k : Nat) (l : List KV) (N i : Nat) (la : Option Addr) (d : Nat) (sa : Option Addr) : Prop where
 here : qLb wr B T D k l N
 d : B.d = d
 sa : B.sa = sa
 room : B.room = 500
 n : D.secs.length = 2000
 lies : Lies wr 2 kcs la l
 apart : ∀ b, blk la b -> ¬ TS B b
 lt : ∀ b, blk la b -> b < wr.heap.size
 lo : ∀ b, TS B b -> v.heap.size <= b
 mod : Mod (fun b => v.heap.size <= b) v wr
 bud : k <= 1002 * i
 len : l.length <= 320
theorem qGm.ext {v wr wv : World} {B : TB} {T : TM} {D : Dsk} {k : Nat} {l : List KV} {N i : Nat} {la : Option Addr} {d : Nat} {sa : Option Addr} (h : qGm v wr B T D k l N i la d sa) (hm : Mod (fun _ => False) wr wv) : qGm v wv B T D k l N i la d sa :=
 ⟨h.here.ext hm, h.d, h.sa, h.room, h.n, h.lies.ext hm, h.apart, (fun b hb => by have := h.lt b hb; have := hm.size; omega), h.lo, h.mod.trans (hm.mono (fun _ _ e => e.elim)), h.bud, h.len⟩
theorem qGm.next {v wr : World} {B : TB} {T : TM} {D : Dsk} {k : Nat} {l : List KV} {N i : Nat} {la : Option Addr} {d : Nat} {sa : Option Addr} (h : qGm v wr B T D k l N i la d sa) : qGm v wr B T D k l N (i + 1) la d sa :=
 ⟨h.here, h.d, h.sa, h.room, h.n, h.lies, h.apart, h.lt, h.lo, h.mod, by have := h.bud; omega, h.len⟩
theorem qGm.fits {v wr : World} {B : TB} {T : TM} {D : Dsk} {k : Nat} {l : List KV} {N i : Nat} {la : Option Addr} {d : Nat} {sa : Option Addr} (h : qGm v wr B T D k l N i la d sa) {n : Nat} (hl : l.length <= 300) (hn : n <= 20) : (N : Int) + 8 * n < (jlen B.room D : Int) /\ 21 * n + 1 <= B.room := by
 have h1 := h.here.std.ti.secs.1; have h2 := qIt l (fun p hp => ⟨(h.here.std.ti.1.ok p hp).1.2, (h.here.std.ti.1.ok p hp).2⟩)
 rw [h.room, qVw h.n]; omega
theorem qGm.made {v wr w3 w' : World} {B : TB} {T T' : TM} {D D' : Dsk} {k : Nat} {l l' : List KV} {N N' i : Nat} {la la' : Option Addr} {d : Nat} {sa : Option Addr} (h : qGm v wr B T D k l N i la d sa) (h3 : qLb w3 B T' D' (k + 1002) l' N') (hn : D'.secs.length = 2000) (hm : Mod (TS B) wr w3) (hm2 : Mod (fun _ => False) w3 w')
  (hl : Lies w' 2 kcs la' l') (hb : ∀ b, blk la' b -> blk la b \/ (w3.heap.size <= b /\ b < w'.heap.size)) (hlen : l'.length <= 320) : qGm v w' B T' D' (k + 1002) l' N' (i + 1) la' d sa :=
 ⟨h3.ext hm2, h.d, h.sa, h.room, hn, hl, fun b hb' e => (hb b hb').elim (fun q => h.apart b q e) (fun q => by have := h3.tree.lt' e; omega), fun b hb' => (hb b hb').elim (fun q => by have := h.lt b q; have := hm.size; have := hm2.size; omega) (fun q => q.2), h.lo, (h.mod.trans (hm.mono (fun b _ e => h.lo b e))).trans (hm2.mono (fun _ _ e => e.elim)), by have := h.bud; omega, hlen⟩
structure qNh (v wx : World) (d : Nat) (sa : Option Addr) (D : Dsk) (k : Nat) (l l' : List KV) (la lb : Option Addr) : Prop where
 disk : qAm wx d sa D
 b : Bud D k
 n : D.secs.length = 2000
 mid : qEe 500 2000 l l' D
 l1 : Lies wx 2 kcs la l
 l2 : Lies wx 2 kcs lb l'
 a1 : ∀ b, blk la b -> ¬ qAs d sa b
 a2 : ∀ b, blk lb b -> ¬ qAs d sa b
 n1 : l.length <= 320
 n2 : l'.length <= 340
 lo : ∀ b, qAs d sa b -> v.heap.size <= b
 mod : Mod (fun b => v.heap.size <= b) v wx
def jJs (v : World) (d : Nat) (sa : Option Addr) (sn sx : Value) (wx : World) : Prop :=
 ∃ (D : Dsk) (k : Nat) (l l' : List KV) (la lb : Option Addr) (lc lx : Nat), sn = .slice la l.length lc /\ sx = .slice lb l'.length lx /\ k <= 9007199254740992 /\ qNh v wx d sa D k l l' la lb
theorem qNh.step {v wx w' : World} {d : Nat} {sa : Option Addr} {D D' : Dsk} {k k' : Nat} {l l' : List KV} {la lb : Option Addr} (h : qNh v wx d sa D k l l' la lb) (hd : qAm w' d sa D') (hb : Bud D' k') (hn : D'.secs.length = 2000) (hi : qEe 500 2000 l l' D') (hm : Mod (qAs d sa) wx w') : qNh v w' d sa D' k' l l' la lb :=
 ⟨hd, hb, hn, hi, h.l1.mod hm (fun _ b hb => h.a1 b hb), h.l2.mod hm (fun _ b hb => h.a2 b hb), h.a1, h.a2, h.n1, h.n2, h.lo, h.mod.trans (hm.mono (fun b _ e => h.lo b e))⟩
theorem qOy {B : TB} {d : Nat} {sa : Option Addr} (h1 : B.d = d) (h2 : B.sa = sa) : ∀ b, qAs d sa b -> TS B b := fun b e => .inr (.inr (.inr (.inr (by rw [h1, h2]; exact e))))
theorem qGm.mid {v wr : World} {B : TB} {T : TM} {D : Dsk} {k : Nat} {l : List KV} {N i : Nat} {la : Option Addr} {d : Nat} {sa : Option Addr} (h : qGm v wr B T D k l N i la d sa) : qNh v wr d sa D k l l la la :=
 ⟨by have h9 := h.here.tree.disk; rw [h.d, h.sa] at h9; exact h9, h.here.b, h.n, by have h9 := h.here.between; rw [h.room, h.n] at h9; exact h9, h.lies, h.lies, (fun b hb e => h.apart b hb (qOy h.d h.sa b e)), (fun b hb e => h.apart b hb (qOy h.d h.sa b e)), h.len, by have := h.len; omega, (fun b e => h.lo b (qOy h.d h.sa b e)), h.mod⟩
theorem qGm.cut {v wr w3 w' : World} {B : TB} {T : TM} {D D' : Dsk} {k : Nat} {l l' : List KV} {N i : Nat} {la la' : Option Addr} {d : Nat} {sa : Option Addr} (h : qGm v wr B T D k l N i la d sa) (hD : qAm w3 B.d B.sa D') (hlt3 : ∀ b, TS B b -> b < w3.heap.size) (hb : Bud D' (k + 1002)) (hn : D'.secs.length = D.secs.length) (hbt : qEe B.room D.secs.length l l' D') (hm : Mod (TS B) wr w3) (hm2 : Mod (fun _ => False) w3 w')
  (hl : Lies w' 2 kcs la' l') (hbl : ∀ b, blk la' b -> blk la b \/ (w3.heap.size <= b /\ b < w'.heap.size)) (hlen : l'.length <= 340) : qNh v w' d sa D' (k + 1002) l l' la la' := by
 have hts := qOy h.d h.sa; rw [h.d, h.sa] at hD; rw [h.room, h.n] at hbt; exact ⟨hD.mod hm2 (fun _ _ e => e), hb, by rw [hn, h.n], hbt, (h.lies.mod hm (fun _ b hb => h.apart b hb)).ext hm2, hl, (fun b hb e => h.apart b hb (hts b e)), (fun b hb' e => (hbl b hb').elim (fun q => h.apart b q (hts b e)) (fun q => by have := hlt3 b (hts b e); omega)), h.len, hlen, (fun b e => h.lo b (hts b e)), (h.mod.trans (hm.mono (fun b _ e => h.lo b e))).trans (hm2.mono (fun _ _ e => e.elim))⟩
theorem CApp.cases {w w' : World} {B : TB} {T : TM} {D : Dsk} {k : Nat} {l : List KV} {N : Nat} {cs : List Cg} {e : Ending} {c : Int} (hc : chkF [] cs = c) (h : CApp w B T D k l N cs e w') :
  ∃ E : Int, e = .returned (.int .i64 E) /\ ((c ≠ 0 /\ E = c /\ qLb w' B T D k l N /\ Mod (fun _ => False) w w') ∨
   (c = 0 /\ E = 0 /\ ∃ (T' : TM) (D' : Dsk) (N' : Nat), qLb w' B T' D' (k + 1002) (chgs cs l) N' /\ D'.secs.length = D.secs.length /\ Mod (TS B) w w') ∨
   (c = 0 /\ E = 12 /\ ∃ D' : Dsk, qAo (TS B) w' B T D' true /\ D'.off = true /\ Bud D' (k + 1002) /\ D'.secs.length = D.secs.length /\ qEe B.room D.secs.length l (chgs cs l) D' /\ Mod (TS B) w w')) := by
 unfold CApp at h; rw [hc] at h; rcases h with ⟨h1, rfl, h2⟩ | ⟨h1, rfl, h2⟩ | ⟨h1, rfl, h2⟩
 ·exact ⟨_, rfl, .inl ⟨h1, rfl, h2⟩⟩
 ·exact ⟨_, rfl, .inr (.inl ⟨h1, rfl, h2⟩)⟩
 ·exact ⟨_, rfl, .inr (.inr ⟨h1, rfl, h2⟩)⟩
theorem jGb {l : List KV} (h : Asc l) (cs : List Cg) : (chgs cs l).length <= l.length + cs.length := by
 have h1 := qVi cs l; rw [(qMb cs l h).1] at h1; exact h1
theorem jJt {w w' : World} {d : Nat} {sa : Option Addr} {D : Dsk} {T : TM} {B : TB} {l : List KV} {k N : Nat} (h : qOt w w' d 500 sa D T B) (hL : Lit D k) (hs : Std 500 D T l N) : Here w' B T D k l N := ⟨h.tree, hL, by rw [h.room]; exact hs, h.ne⟩
end
section
open Go Go.RowKit
set_option maxRecDepth 100000
set_option maxHeartbeats 2000000 in
theorem qZt {w : World} {a ca : Option Addr} (cap0 cap1 : Nat) {l : List KV} {cs : List Cg} (hl : Lies w 2 kcs a l) (hc : Lies w 3 ccs ca cs) (hb : l.length + cs.length <= 1099511627776) :
  Calls Tryz.prog 18 #[.slice a l.length cap0, .slice ca cs.length cap1] w fun e w' => ∃ la cap, e = .returned (.slice la (rapp cs l).length cap) /\ Lies w' 2 kcs la (rapp cs l) /\ (∀ b, blk la b -> blk a b \/ (w.heap.size <= b /\ b < w'.heap.size)) /\ Mod (fun _ => False) w w' := by
 have HC := hid hc; have HL := hid hl; have HB := hid hb; clear hc hl hb; go_enter Tryz.func18, Tryz.ntmps18
 go_wp2_with fail
 go_loopw [0, 5] (fun sl si wr => ∃ (k : Nat) (L : List KV) (la : Option Addr) (cap : Nat), k <= cs.length /\ sl = .slice la L.length cap /\ si = .int .i64 (k : Int) /\ L = rapp (cs.take k) l /\ Lies wr 2 kcs la L /\ (∀ b, blk la b -> blk a b \/ (w.heap.size <= b /\ b < wr.heap.size)) /\ Mod (fun _ => False) w wr) (fun _ si _ => cs.length - (intOf si).toNat)
 case atStart => exact ⟨0, l, a, cap0, Nat.zero_le _, rfl, rfl, rfl, HL.out, fun b hb => .inl hb, Mod.refl _ _⟩
 case round =>
  obtain ⟨k, L, la, cap, hk, rfl, rfl, hL, r1, r2, r3⟩ := hrel; have HLe := hid hL; have HO := hid r1; have HBl := hid r2; have HM := hid r3; clear hL r1 r2 r3; by_cases hlt : k < cs.length
  ·obtain ⟨x, hx⟩ : ∃ x, cs[k]? = some x := ⟨_, List.getElem?_eq_getElem hlt⟩; have hcw := HC.out.ext HM.out; obtain ⟨g, off, rfl⟩ := HC.out.some (by omega)
   have hq0 := hcw.cell ccs_len hx (j := 0) rfl; have hq1 := hcw.cell ccs_len hx (j := 1) rfl; have hq2 := hcw.cell ccs_len hx (j := 2) rfl; simp only [Nat.add_zero] at hq0; have hkb : k + 1 <= 1099511627776 := by have := HB.out; omega
   have hll : L.length <= l.length + k := by
    rw [HLe.out]; have := qVi (cs.take k) l; rw [List.length_take] at this; omega
   have HOne := hid (jHh (w := wr) cap HO.out x (by have := HB.out; omega))
   have HNx : Hid (oneP x x.gone L = rapp (cs.take (k + 1)) l) := hid (by rw [qZu cs l hx, <- HLe.out])
   clear hx hcw hll; go_wp2_with (go_at_call 42; refine HOne.out.mono ?_; rintro e w5 ⟨la5, cap5, rfl, ho5, hb5, hm5⟩; have HO5 := hid ho5; have HB5 := hid hb5; have HM5 := hid hm5; clear ho5 hb5 hm5)
   go_roundw
   case rel => exact ⟨k + 1, oneP x x.gone L, la5, cap5, by omega, rfl, by go_num, HNx.out, HO5.out.lies, fun b hb => .inr (by have h1 := HB5.out b hb; have h2 := HM.out.size; have h3 := HO5.out.lt b hb; omega), HM.out.trans HM5.out⟩
   case measure => simp [intOf]; omega
  ·have HE : Hid (L = rapp cs l) := hid (by rw [HLe.out, List.take_of_length_le (by omega)])
   go_wp2_with fail
   go_ret; rw [<- HE.out]; exact ⟨la, cap, rfl, HO.out, HBl.out, HM.out⟩
theorem qTi {w : World} {a ca : Option Addr} (cap0 cap1 : Nat) {l : List KV} {cs : List Cg} (hA : Asc l) (hl : Lies w 2 kcs a l) (hc : Lies w 3 ccs ca cs) (hb : l.length + cs.length <= 1099511627776) :
  Calls Tryz.prog 18 #[.slice a l.length cap0, .slice ca cs.length cap1] w fun e w' => ∃ la cap, e = .returned (.slice la (chgs cs l).length cap) /\ Lies w' 2 kcs la (chgs cs l) /\ (∀ b, blk la b -> blk a b \/ (w.heap.size <= b /\ b < w'.heap.size)) /\ Mod (fun _ => False) w w' := by
 have h := qZt cap0 cap1 hl hc hb; rw [show rapp cs l = chgs cs l from (qMb cs l hA).1] at h
 exact h
end
section
open Go Go.RowKit
theorem qAo.redisk {w w' : World} {B : TB} {T : TM} {D D' : Dsk} {off : Bool} (h : qAo (TS B) w B T D off) (hm : Mod (qAs B.d B.sa) w w') (hd : qAm w' B.d B.sa D') (hn : D'.secs.length <= 16384) (hne : ¬ qAs B.d B.sa B.tb /\ ¬ qAs B.d B.sa B.nb /\ ¬ qAs B.d B.sa B.ab) : qAo (TS B) w' B T D' off :=
 ⟨(hm.block B.tb (lth h.box) hne.1).trans h.box, h.nodes.mod hm (fun _ e => .inr (.inr (.inr (.inr e)))) hne.2.1, h.after.mod hm hne.2.2, hd, h.jr.mod hm h.sep, h.sep, hn, h.hr⟩
end
section
open Go Go.RowKit
namespace TreeCuts
set_option maxRecDepth 100000
set_option maxHeartbeats 8000000 in
theorem walk (W : World) (a1 : Option Addr) (c1 : Nat) (ls : List Bt) (hls : Lies W 1 Bt.vs a1 ls) (hok : ∀ x ∈ ls, BtOk W x) (hl : ls.length * 24 <= 140737488351232) (cut : Int) (a2 : Option Addr) (c2 : Nat) (ag : List Int) (hag : Lies W 1 (fun x : Int => [.int .i64 x]) a2 ag) (hagl : ag.length * 8 <= 140737488351232) :
  Calls Tryz.prog 4 #[.agg #[.slice a1 ls.length c1, .int .i64 cut, .slice a2 ag.length c2]] W fun e w' => e = .returned (.bool true) /\ RowKit.Below W.heap.size W w' := by
 have hmV : Mod (fun _ => False) W (W.alloc (.cells #[.slice a1 ls.length c1, .int .i64 cut, .slice a2 ag.length c2] 37)) := (Mod.refl _ _).alloc _
 have hbV : (W.alloc (.cells #[.slice a1 ls.length c1, .int .i64 cut, .slice a2 ag.length c2] 37)).heap[W.heap.size]? = some (.cells #[.slice a1 ls.length c1, .int .i64 cut, .slice a2 ag.length c2] 37 (0, 0)) := heap_alloc_new _ _; have HLs := hid (hls.ext hmV); have HOk : Hid (∀ x ∈ ls, BtOk (W.alloc (.cells #[.slice a1 ls.length c1, .int .i64 cut, .slice a2 ag.length c2] 37)) x) := hid (fun x hx => (hok x hx).ext hmV)
 have HAg := hid (hag.ext hmV); have HFin : Hid (∀ w', Mod (fun k => W.heap.size + 1 <= k) (W.alloc (.cells #[.slice a1 ls.length c1, .int .i64 cut, .slice a2 ag.length c2] 37)) w' -> RowKit.Below W.heap.size W w') := hid (fun w' h => (hmV.then h (fun i hi hk => by omega)).below (Nat.le_refl _) (fun _ h => h.elim))
 have hszV : (W.alloc (.cells #[.slice a1 ls.length c1, .int .i64 cut, .slice a2 ag.length c2] 37)).heap.size = W.heap.size + 1 := by simp
 have HBv := hid hbV; clear hls hok hag hmV hbV; go_enter Tryz.func4, Tryz.ntmps4
 go_upto_region 1 with fail
 generalize W.alloc (.cells #[.slice a1 ls.length c1, .int .i64 cut, .slice a2 ag.length c2] 37) = V at *; have HNw := hid (jAh (w := V) 2000); have hl2 : (newD 2000).secs.length = 2000 := List.length_replicate ..; have HStd := hid (qYw (n := 2000) (room := 500) (by omega) (by omega) (by rw [qVw hl2]; omega))
 have HLen := hid hl2; clear hl2; go_upto_region 6 with (first
  | (go_at_call 12; refine HNw.out.mono ?_; rintro e w1 ⟨d, sa, rfl, hd0, hs0, hD, hm1⟩; have HM1 := hid hm1; have HD := hid hD; have HDk : Hid (∀ k, qAs d sa k -> V.heap.size <= k) := hid (fun k e => e.elim (fun e => by omega) (fun e => hs0 k e)); have HDlt := hid hD.lt; clear hd0 hs0 hD hm1)
  | (go_at_call 13; refine (qMq HD.out (qTr 2000) (by omega) HStd.out).mono ?_; rintro e w2 ⟨B, rfl, hh, hBd, hBs, hBr, hlo, hm2⟩; have HH2 := hid hh; have HBd := hid hBd; have HBs := hid hBs; have HBr := hid hBr; have HLo := hid hlo; have HM2 := hid hm2; clear hh hBd hBs hBr hlo hm2)
  | (go_at_call 9; refine (qYn _).mono ?_; rintro e w3 ⟨rfl, hm3⟩; have HM3 := hid hm3; clear hm3))
 have hmV3 : Mod (fun b => V.heap.size <= b) V w3 := ((HM1.out.mono (fun _ _ e => e.elim)).trans (HM2.out.mono (fun k _ e => HDk.out k e))).trans (HM3.out.mono (fun _ _ e => e.elim))
 have HUp : Hid (∀ v, Mod (fun k => V.heap.size <= k) V v -> v.cell? ⟨W.heap.size, 0, none⟩ = some (.slice a1 ls.length c1) /\ v.cell? ⟨W.heap.size, 1, none⟩ = some (.int .i64 cut) /\ v.cell? ⟨W.heap.size, 2, none⟩ = some (.slice a2 ag.length c2)) := hid (fun v hv => by
  have hb := ((hv.block _ (lth HBv.out) (by omega)).trans HBv.out)
  refine ⟨?_, ?_, ?_⟩ <;> (rw [cell_of_row _ _ _ _ _ _ hb]; rfl))
 obtain ⟨_, z1, _⟩ := HUp.out w3 hmV3; have HCt := hid (fun n : Int => jCc (w := w3) (b := d) (sa := sa) (D := newD 2000) (by have h9 := (HH2.out.ext HM3.out).tree.disk; rw [HBd.out, HBs.out] at h9; exact h9) n)
 have HM3v := hid hmV3; clear hmV3; go_upto_region 7 with (go_at_call 14; refine (HCt.out _).mono ?_; rintro e w4 ⟨rfl, hD4, hm4⟩; have HD4 := hid hD4; have HM4 := hid hm4; clear hD4 hm4)
 have HR0 : Hid (qGm V w4 B newT ((newD 2000).cut (max 0 cut)) 0 [] 0 0 none d sa) := hid (by
  have e1 := HBd.out; have e2 := HBs.out; obtain ⟨l1, l2, l3, l4⟩ := HLo.out; have hlt : ∀ k, qAs d sa k -> k < w1.heap.size := HDlt.out; have hne : ∀ b, w1.heap.size <= b -> ¬ qAs B.d B.sa b := fun b hb e => by rw [e1, e2] at e; have := hlt b e; omega
  have hs1 : V.heap.size <= w1.heap.size := HM1.out.size; have h3 := HH2.out.ext HM3.out; have ht4 : qAo (TS B) w4 B newT ((newD 2000).cut (max 0 cut)) false := h3.tree.redisk (by rw [e1, e2]; exact HM4.out) (by rw [e1, e2]; exact HD4.out) h3.tree.hn ⟨hne _ l1, hne _ l2, hne _ l3⟩
  refine ⟨⟨ht4, h3.lit.b.cut _, rfl, jGw h3.std h3.lit.off _, h3.ne⟩, e1, e2, HBr.out, HLen.out, jEz _ _ _ _, (fun b hb => (qAk b hb).elim), (fun b hb => (qAk b hb).elim), fun b hb => ?_, ?_, Nat.zero_le _, Nat.zero_le _⟩
  ·rcases hb with e | e | e | e | e
   ·omega
   ·omega
   ·omega
   ·omega
   ·rw [e1, e2] at e; exact HDk.out b e
  ·exact HM3v.out.trans (HM4.out.mono (fun k _ e => HDk.out k e)))
 obtain ⟨z0, _, _⟩ := HUp.out w4 HR0.out.mod; generalize (newD 2000).cut (max 0 cut) = D0 at *; clear HNw HStd HLen HCt HM1 HM2 HM3 HM4 HD HD4 HH2 HLo HBd HBs HBr HDlt HM3v z1; go_upto_block 0 with fail
 go_cut [6, 7] (fun sn sx wx => jJs V d sa sn sx wx)
 case first =>
  go_wp2_with fail
  go_loopw [6, 7, 39] (fun sn sx si wr => ∃ (i k N lc : Nat) (T : TM) (D : Dsk) (l : List KV) (la : Option Addr), sn = .slice la l.length lc /\ sx = .slice la l.length lc /\ si = .int .i64 (i : Int) /\ i <= ls.length /\ qGm V wr B T D k l N i la d sa) (fun _ _ si _ => ls.length - (intOf si).toNat)
  case atStart => exact ⟨0, 0, 0, 0, newT, D0, [], none, rfl, rfl, rfl, Nat.zero_le _, HR0.out⟩
  case round =>
   obtain ⟨i, k, N, lc, T, D, l, la, rfl, rfl, rfl, hil, hrel⟩ := hrel; have HRel := hid hrel; clear hrel; obtain ⟨wo, rfl⟩ : ∃ y, y = wr := ⟨wr, rfl⟩; by_cases hlt : i < ls.length
   ·have c0 : decide ((i : Int) < (ls.length : Int)) = true := by simp; omega
    have cn1 : decide (i < ls.length) = true := by simpa using hlt
    have hdi : ¬ ls.length <= i := by omega
    obtain ⟨x, hx⟩ : ∃ x, ls[i]? = some x := ⟨_, List.getElem?_eq_getElem hlt⟩; have HXo := hid (HOk.out x (List.mem_of_getElem? hx)); obtain ⟨g, off, rfl⟩ := HLs.out.some (by omega)
    have q0 := (HLs.out.old HRel.out.mod (fun _ e => e)).cell bt_len hx (j := 0) rfl
    simp only [Nat.add_zero, Nat.mul_one] at q0; obtain ⟨xa, xc, cs⟩ := x; simp only at q0; have HLb : Hid (∀ v, Mod (fun b => V.heap.size <= b) V v -> Lies v 3 ccs xa cs) := hid (fun v hv => HXo.out.lies.old hv (fun _ e => e))
    have HSz : Hid (∀ c ∈ cs, c.key.size <= maxLen /\ c.value.size <= maxLen) := hid HXo.out.sz; clear hx HXo; by_cases hb20 : 20 < cs.length
    ·have g0 : decide (20 < (cs.length : Int)) = true := by simp; omega
     go_wp2_with fail
     go_roundw
     case rel => exact ⟨i + 1, k, N, lc, T, D, l, la, rfl, rfl, by go_num, by omega, HRel.out.next⟩
     case measure => simp [intOf]; omega
    ·have g0 : decide (20 < (cs.length : Int)) = false := by simp; omega
     by_cases hn300 : 300 < l.length
     ·have g1 : decide (300 < (l.length : Int)) = true := by simp; omega
      go_wp2_with fail
      go_roundw
      case rel => exact ⟨i + 1, k, N, lc, T, D, l, la, rfl, rfl, by go_num, by omega, HRel.out.next⟩
      case measure => simp [intOf]; omega
     ·have g1 : decide (300 < (l.length : Int)) = false := by simp; omega
      have hk0 : k <= 1152921504606846976 := by have := HRel.out.bud; omega
      have hk2 : k <= 9007199254740992 - 1002 := by have := HRel.out.bud; omega
      obtain ⟨hf1, hf2⟩ := HRel.out.fits (n := cs.length) (by omega) (by omega)
      have HAp := hid (jCb HRel.out.here hk0 xc (HLb.out wo HRel.out.mod) (by omega) HSz.out hf1 hf2)
      have HRf := hid (fun (v : World) (hv : Mod (fun b => V.heap.size <= b) V v) => jHd xc (HLb.out v hv) (by omega))
      have HRc := hid (fun (v : World) (ra : Option Addr) (rc : Nat) (hr : Own v 73 3 ra cs.length rc (cs.flatMap ccs)) => jEf rc hr.lies (by omega) HSz.out)
      have HRa := hid (fun (v : World) (ra : Option Addr) (rc : Nat) (hlv : Lies v 2 kcs la l) (hr : Own v 73 3 ra cs.length rc (cs.flatMap ccs)) => qTi lc rc HRel.out.here.std.ti.1.asc hlv hr.lies (by omega))
      have HCl := hid (jGb HRel.out.here.std.ti.1.asc cs); obtain ⟨c, hcc⟩ : ∃ c, chkF [] cs = c := ⟨_, rfl⟩; have HCc := hid hcc; rw [hcc] at HRc; clear hf1 hf2 hcc; go_upto_region 12 with (go_at_call 15; refine HAp.out.mono ?_; intro e w5 ha; obtain ⟨E, rfl, hE⟩ := ha.cases HCc.out; have HA := hid hE; clear ha hE)
      rcases HA.out with ⟨h1, rfl, h3, h4⟩ | ⟨h1, rfl, T', D', N', h3, h4, h5⟩ | ⟨h1, rfl, D', h3, h4, h5, h6, h7, h8⟩
      ·have HR5 := hid (HRel.out.ext h4); have HOn := hid (fun y : Ext w5 => qRh (HR5.out.ext y.mod).mid.disk)
       rw [HR5.out.here.on] at HOn; have dc : (E == 0) = false := by rw [beq_eq_false_iff_ne]; exact h1
       have de : (E != E) = false := by simp
       clear HAp HRa HCl HA h1 h3 h4 hk0 hk2 HCc; go_wp2_with (first
        | (go_at_call 17; first
          | (refine (HRf.out _ (HR5.out.ext HM7.out).mod).mono ?_; rintro e w8 ⟨rb, rbc, rfl, ho8, hb8, hm8⟩; have HO8 := hid ho8; have HM8 := hid (HM7.out.trans hm8); clear ho8 hb8 hm8)
          | (refine (HRf.out _ HR5.out.mod).mono ?_; rintro e w6 ⟨ra, rc, rfl, ho6, hb6, hm6⟩; have HO6 := hid ho6; have HM6 := hid hm6; clear ho6 hb6 hm6))
        | (go_at_call 16; first
          | (refine (HRc.out _ _ _ HO8.out).mono ?_; rintro e w9 ⟨rfl, hm9⟩; have HM9 := hid (HM8.out.trans hm9); clear hm9)
          | (refine (HRc.out _ _ _ HO6.out).mono ?_; rintro e w7 ⟨rfl, hm7⟩; have HM7 := hid (HM6.out.trans hm7); clear hm7))
        | (go_at_call 19; refine (HOn.out ⟨_, HM7.out⟩).mono ?_; rintro e wn ⟨rfl, rfl⟩))
       go_roundw
       case rel => exact ⟨i + 1, k, N, lc, T, D, l, la, rfl, rfl, by go_num, by omega, (HR5.out.ext HM9.out).next⟩
       case measure => simp [intOf]; omega
      ·subst h1; have hV5 : Mod (fun b => V.heap.size <= b) V w5 := HRel.out.mod.trans (h5.mono (fun b _ e => HRel.out.lo b e))
       have HV5 : Hid (∀ v, Mod (fun _ => False) w5 v -> Mod (fun b => V.heap.size <= b) V v) := hid (fun v hv => hV5.trans (hv.mono (fun _ _ e => e.elim)))
       have HL5 : Hid (∀ v, Mod (fun _ => False) w5 v -> Lies v 2 kcs la l) := hid (fun v hv => (HRel.out.lies.mod h5 (fun _ b hb => HRel.out.apart b hb)).ext hv)
       have hn' : D'.secs.length = 2000 := by rw [h4]; exact HRel.out.n
       have hlen' : (chgs cs l).length <= 320 := by have := HCl.out; omega
       have HMk : Hid (∀ (v w' : World) (la' : Option Addr), Mod (fun _ => False) w5 v -> Mod (fun _ => False) v w' -> Lies w' 2 kcs la' (chgs cs l) -> (∀ b, blk la' b -> blk la b \/ (v.heap.size <= b /\ b < w'.heap.size)) -> qGm V w' B T' D' (k + 1002) (chgs cs l) N' (i + 1) la' d sa) := hid (fun v w' la' q1 q2 q3 q4 => HRel.out.made (h3.ext q1) hn' (h5.trans (q1.mono (fun _ _ e => e.elim))) q2 q3 q4 hlen')
       have HOn := hid (fun y : Ext w5 => qRh (h3.ext y.mod).tree.disk)
       rw [h3.on, HRel.out.d] at HOn; clear HAp HA h3 h4 h5 hk0 hk2 HCc hV5 hn' hlen' HCl; go_wp2_with (first
        | (go_at_call 17; first
          | (refine (HRf.out _ (HV5.out _ HM9.out)).mono ?_; rintro e wa ⟨rd, rdc, rfl, hoa, hba, hma⟩; have HOa := hid hoa; have HMa := hid hma; clear hoa hba hma)
          | (refine (HRf.out _ (HV5.out _ HM7.out)).mono ?_; rintro e w8 ⟨rb, rbc, rfl, ho8, hb8, hm8⟩; have HO8 := hid ho8; have HM8 := hid (HM7.out.trans hm8); clear ho8 hb8 hm8)
          | (refine (HRf.out _ (HV5.out _ (Mod.refl _ _))).mono ?_; rintro e w6 ⟨ra, rc, rfl, ho6, hb6, hm6⟩; have HO6 := hid ho6; have HM6 := hid hm6; clear ho6 hb6 hm6))
        | (go_at_call 16; first
          | (refine (HRc.out _ _ _ HOa.out).mono ?_; rintro e wb ⟨rfl, hmb⟩; have HMb := hid (HMa.out.trans hmb); clear hmb)
          | (refine (HRc.out _ _ _ HO6.out).mono ?_; rintro e w7 ⟨rfl, hm7⟩; have HM7 := hid (HM6.out.trans hm7); clear hm7))
        | (go_at_call 18; refine (HRa.out _ _ _ (HL5.out _ HM8.out) HO8.out).mono ?_; rintro e w9 ⟨la9, lc9, rfl, hl9, hb9, hm9⟩; have HR9 := hid (HMk.out _ _ _ HM8.out hm9 hl9 hb9); have HM9 := hid (HM8.out.trans hm9); clear hl9 hb9 hm9)
        | (go_at_call 19; refine (HOn.out ⟨_, HM9.out⟩).mono ?_; rintro e wn ⟨rfl, rfl⟩))
       go_roundw
       case rel => exact ⟨i + 1, k + 1002, N', lc9, T', D', _, la9, rfl, rfl, by go_num, by omega, HR9.out.ext HMb.out⟩
       case measure => simp [intOf]; omega
      ·subst h1; have hV5 : Mod (fun b => V.heap.size <= b) V w5 := HRel.out.mod.trans (h8.mono (fun b _ e => HRel.out.lo b e))
       have HV5 : Hid (∀ v, Mod (fun _ => False) w5 v -> Mod (fun b => V.heap.size <= b) V v) := hid (fun v hv => hV5.trans (hv.mono (fun _ _ e => e.elim)))
       have HL5 : Hid (∀ v, Mod (fun _ => False) w5 v -> Lies v 2 kcs la l) := hid (fun v hv => (HRel.out.lies.mod h8 (fun _ b hb => HRel.out.apart b hb)).ext hv)
       have hlen' : (chgs cs l).length <= 340 := by have := HCl.out; have := HRel.out.len; omega
       have HMk : Hid (∀ (v w' : World) (la' : Option Addr), Mod (fun _ => False) w5 v -> Mod (fun _ => False) v w' -> Lies w' 2 kcs la' (chgs cs l) -> (∀ b, blk la' b -> blk la b \/ (v.heap.size <= b /\ b < w'.heap.size)) -> qNh V w' d sa D' (k + 1002) l (chgs cs l) la la') := hid (fun v w' la' q1 q2 q3 q4 => HRel.out.cut ((h3.disk.mod q1 (fun _ _ e => e))) (fun b hb => by have := h3.lt' hb; have := q1.size; omega) h5 h6 h7 (h8.trans (q1.mono (fun _ _ e => e.elim))) q2 q3 q4 hlen')
       have HOn := hid (fun y : Ext w5 => qRh (h3.disk.mod y.mod (fun _ _ e => e)))
       rw [h4, HRel.out.d] at HOn; have HOf := hid (fun (y : Ext w5) (v : Value) => jCs (h3.mod y.mod (fun _ e => e.elim) (fun _ e => e.elim)) v)
       clear HAp HA h3 h4 h5 h6 h7 h8 hk0 HCc hV5 hlen' HCl; go_wp2_with (first
        | (go_at_call 17; first
          | (refine (HRf.out _ (HV5.out _ HM7.out)).mono ?_; rintro e w8 ⟨rb, rbc, rfl, ho8, hb8, hm8⟩; have HO8 := hid ho8; have HM8 := hid (HM7.out.trans hm8); clear ho8 hb8 hm8)
          | (refine (HRf.out _ (HV5.out _ (Mod.refl _ _))).mono ?_; rintro e w6 ⟨ra, rc, rfl, ho6, hb6, hm6⟩; have HO6 := hid ho6; have HM6 := hid hm6; clear ho6 hb6 hm6))
        | (go_at_call 16; refine (HRc.out _ _ _ HO6.out).mono ?_; rintro e w7 ⟨rfl, hm7⟩; have HM7 := hid (HM6.out.trans hm7); clear hm7)
        | (go_at_call 18; refine (HRa.out _ _ _ (HL5.out _ HM8.out) HO8.out).mono ?_; rintro e w9 ⟨la9, lc9, rfl, hl9, hb9, hm9⟩; have HR9 := hid (HMk.out _ _ _ HM8.out hm9 hl9 hb9); have HM9 := hid (HM8.out.trans hm9); clear hl9 hb9 hm9)
        | (go_at_call 19; refine (HOn.out ⟨_, HM9.out⟩).mono ?_; rintro e wn ⟨rfl, rfl⟩)
        | (go_at_call 15; refine (HOf.out ⟨_, HM9.out⟩ _).mono ?_; rintro e wn ⟨rfl, rfl⟩))
       go_meet
       case rel => exact ⟨D', k + 1002, l, chgs cs l, la, la9, lc, lc9, rfl, rfl, by omega, HR9.out⟩
   ·have hie : i = ls.length := by omega
    subst hie; have c0 : decide ((ls.length : Int) < (ls.length : Int)) = false := by simp
    have cn1 : decide (ls.length < ls.length) = false := by simp
    go_wp2_with fail
    go_meet
    case rel => exact ⟨D, k, l, l, la, la, lc, lc, rfl, rfl, by have := HRel.out.bud; omega, HRel.out.mid⟩
 case rest =>
  obtain ⟨D, k, l, l', la, lb, lc, lx, rfl, rfl, hk0, hmid⟩ := hcut; have HMd := hid hmid; clear hmid; go_wp2_with fail
  go_loopw [11] (fun si wr => ∃ (i : Nat) (D2 : Dsk), i <= ag.length /\ i <= 20 /\ si = .int .i64 (i : Int) /\ qNh V wr d sa D2 (k + 501 * i) l l' la lb) (fun si _ => 20 - (intOf si).toNat)
  case atStart => exact ⟨0, D, Nat.zero_le _, by decide, rfl, HMd.out⟩
  case round =>
   obtain ⟨i, D2, hi1, hi2, rfl, hrel⟩ := hrel; have HMr := hid hrel; obtain ⟨wo, rfl⟩ : ∃ y, y = wr := ⟨wr, rfl⟩; obtain ⟨_, _, z2⟩ := HUp.out wo hrel.mod; have HSt := hid (qYy hrel.disk); have HMs : Hid (∀ v, qAm v d sa { D2 with off := false, left := 0 } -> Mod (qAs d sa) wo v -> qNh V v d sa { D2 with off := false, left := 0 } (k + 501 * i) l l' la lb) := hid (fun v h1 h2 => HMr.out.step h1 (Bud.start HMr.out.b) HMr.out.n (HMr.out.mid.same rfl) h2)
   have hlit : Lit ({ D2 with off := false, left := 0 } : Dsk) (k + 501 * i) := ⟨Bud.start HMr.out.b, rfl, rfl⟩
   have hmid3 := HMr.out.mid.same (D' := ({ D2 with off := false, left := 0 } : Dsk)) rfl
   have hn3 : ({ D2 with off := false, left := 0 } : Dsk).secs.length = 2000 := HMr.out.n
   generalize ({ D2 with off := false, left := 0 } : Dsk) = D3 at *
   have HLit := hid hlit; have HMid3 := hid hmid3; have HN3 := hid hn3; clear hrel hlit hmid3 hn3; by_cases hlt : i < ag.length /\ i < 20
   ·obtain ⟨hlt, hlt2⟩ := hlt; have d20 : decide ((i : Int) < 20) = true := by rw [decide_eq_true_iff]; omega
    have dag : decide ((i : Int) < (ag.length : Int)) = true := by simp; omega
    have hdi : ¬ ag.length <= i := by omega
    obtain ⟨x, hx⟩ : ∃ x, ag[i]? = some x := ⟨_, List.getElem?_eq_getElem hlt⟩; obtain ⟨g, off, rfl⟩ := HAg.out.some (by omega)
    have HX := hid hx; clear hx; go_upto_region 26 with (go_at_call 20; refine HSt.out.mono ?_; rintro e w9 ⟨rfl, hd9, hm9⟩; have HM9 := hid (HMs.out _ hd9 hm9); clear hd9 hm9)
    obtain ⟨_, _, y2⟩ := HUp.out w9 HM9.out.mod; have hc := (HAg.out.old HM9.out.mod (fun _ h => h)).cell (size := 1) (fun _ => rfl) HX.out (j := 0) rfl
    simp only [Nat.add_zero, Nat.mul_one] at hc; have HCu := hid (fun n : Int => jCc HM9.out.disk n)
    go_upto_region 27 with (go_at_call 14; refine (HCu.out _).mono ?_; rintro e wa ⟨rfl, hda, hma⟩; have HMa := hid (HM9.out.step hda (Bud.cut HM9.out.b _) HM9.out.n (HM9.out.mid.same rfl) hma); clear hda hma)
    have hoffa : (D3.cut (max 0 x)).off = false := HLit.out.off; generalize D3.cut (max 0 x) = D4 at *; have HOp := hid (qLw (room := 500) HMa.out.disk HMa.out.b (by omega) (by decide) (by decide))
    rcases qKo HMa.out.b HMa.out.n (by decide) hoffa HMa.out.mid with ⟨D5, T5, L5, N5, o1, o2, o3, o4, _, _, o7⟩ | ⟨D5, o1, o2, o3, o4, o5⟩
    ·rw [o1] at HOp; have HO2 := hid o2; have HSp : Hid (∀ v, qAm v d sa D5 -> Mod (qAs d sa) wa v -> qNh V v d sa D5 (k + 501 * (i + 1)) l l' la lb) := hid (fun v h1 h2 => HMa.out.step h1 (o4.le (by omega)) o3 o7 h2)
     clear o1 o2 o3 o4 o7; go_wp2_with (first
      | (go_at_call 13; refine HOp.out.mono ?_; rintro e wb ⟨hdb, hmb, B5, rfl, _⟩; have HMb := hid (HSp.out _ hdb hmb); have HOn := hid (qRh hdb); rw [HO2.out] at HOn; clear hdb hmb)
      | (go_at_call 19; refine HOn.out.mono ?_; rintro e wn ⟨rfl, rfl⟩))
     go_roundw
     case rel => exact ⟨i + 1, D5, by omega, by omega, by go_num, HMb.out⟩
     case measure => simp [intOf]; omega
    ·rw [o1] at HOp; have HO2 := hid o2; have HSp : Hid (∀ v, qAm v d sa D5 -> Mod (qAs d sa) wa v -> qNh V v d sa D5 (k + 501 * (i + 1)) l l' la lb) := hid (fun v h1 h2 => HMa.out.step h1 (o4.le (by omega)) o3 o5 h2)
     clear o1 o2 o3 o4 o5; go_wp2_with (first
      | (go_at_call 13; refine HOp.out.mono ?_; rintro e wb ⟨hdb, hmb, rfl, _⟩; have HMb := hid (HSp.out _ hdb hmb); have HOn := hid (qRh hdb); rw [HO2.out] at HOn; clear hdb hmb)
      | (go_at_call 19; refine HOn.out.mono ?_; rintro e wn ⟨rfl, rfl⟩))
     go_roundw
     case rel => exact ⟨i + 1, D5, by omega, by omega, by go_num, HMb.out⟩
     case measure => simp [intOf]; omega
   ·obtain ⟨D5, T5, L5, N5, o1, o2, o3, o4⟩ := jAb HLit.out HN3.out (by decide) HMid3.out
    have HTo := hid o1; have HL5 := hid o2; have HS5 := hid o3; have HEq := hid o4; clear o1 o2 o3 o4; by_cases hl2 : i < ag.length
    case' pos =>
     have d20 : decide ((i : Int) < 20) = false := by rw [decide_eq_false_iff_not]; omega
     have dag : decide ((i : Int) < (ag.length : Int)) = true := by simp; omega
     clear hlt; go_upto_region 31 with (go_at_call 20; refine HSt.out.mono ?_; rintro e w9 ⟨rfl, hd9, hm9⟩; have HM9 := hid (HMs.out _ hd9 hm9); clear hd9 hm9)
    case' neg =>
     have dag : decide ((i : Int) < (ag.length : Int)) = false := by simp; omega
     clear hlt; go_upto_region 31 with (go_at_call 20; refine HSt.out.mono ?_; rintro e w9 ⟨rfl, hd9, hm9⟩; have HM9 := hid (HMs.out _ hd9 hm9); clear hd9 hm9)
    all_goals
     have HOp := hid (qLw (room := 500) HM9.out.disk HM9.out.b (by omega) (by decide) (by decide))
     rw [HTo.out] at HOp; go_upto_region 32 with (go_at_call 13; refine HOp.out.mono ?_; rintro e wb ⟨hdb, hmb, B5, rfl, hop⟩; have HH5 := hid (jJt hop HL5.out HS5.out); have HL1 := hid (HM9.out.l1.mod hmb (fun _ b hb => HM9.out.a1 b hb)); have HL2 := hid (HM9.out.l2.mod hmb (fun _ b hb => HM9.out.a2 b hb)); have HMo := hid (HM9.out.mod.trans (hmb.mono (fun b _ e => HM9.out.lo b e))); clear hdb hmb hop)
     have hn1 := HM9.out.n1; have hn2 := HM9.out.n2; by_cases hLl : L5 = l
     ·subst hLl; have HHo := hid (qRx lc HH5.out HL1.out); go_wp2_with (go_at_call 21; refine HHo.out.mono ?_; rintro e wc ⟨rfl, hmc⟩; have HMc := hid hmc; clear hmc)
      go_ret; exact ⟨rfl, HFin.out _ (by have := HMo.out.trans (HMc.out.mono (fun _ _ e => e.elim)); rwa [hszV] at this)⟩
     ·have HHo := hid (jFl lc HH5.out HL1.out (by omega) hLl)
      have hL2 : L5 = l' := HEq.out.resolve_left hLl; subst hL2; have HHp := hid (fun y : Ext wb => qRx lx (HH5.out.ext y.mod) (HL2.out.ext y.mod))
      clear hLl; go_wp2_with (go_at_call 21; first
       | (refine (HHp.out ⟨_, HMc.out⟩).mono ?_; rintro e we ⟨rfl, hme⟩; have HMe := hid (HMc.out.trans hme); clear hme)
       | (refine HHo.out.mono ?_; rintro e wc ⟨rfl, hmc⟩; have HMc := hid hmc; clear hmc))
      go_ret; exact ⟨rfl, HFin.out _ (by have := HMo.out.trans (HMe.out.mono (fun _ _ e => e.elim)); rwa [hszV] at this)⟩
end TreeCuts
end
section
open Go Go.RowKit
theorem cellsInt : Tryz.prog.cellsOf 3 = 1 := by kernel_rfl
theorem cellsStr : Tryz.prog.cellsOf 9 = 1 := by kernel_rfl
section
variable {H : Type} {enc : TypeId × Value -> H} {w : World} {base : Nat} {spare : Nat -> Bool} {held : Bool}
end
end
end Go.Proofs.YtgbcibdfeeiilaaGreatDoor
namespace Go.Proofs.YtgbcibdfeeiilaaGreatDoor
open Go Go.RowKit
namespace TreeCuts
section
variable {H : Type} {enc : TypeId × Value → H} {w : World} {base : Nat} {spare : Nat → Bool} {held : Bool}
theorem reach_le : 140737488351232 ≤ maxLen := by unfold maxLen; decide
theorem cellsCh : Tryz.prog.cellsOf 67 = 3 := by kernel_rfl
theorem cellsChs : Tryz.prog.cellsOf 43 = 1 := by kernel_rfl
theorem bytesChs : Tryz.prog.bytesOf 43 = 24 := by kernel_rfl
theorem cellsBool : Tryz.prog.cellsOf 4 = 1 := by kernel_rfl
theorem cellsChss : Tryz.prog.cellsOf 34 = 1 := by kernel_rfl
theorem cellsSint : Tryz.prog.cellsOf 35 = 1 := by kernel_rfl
theorem cellsCut : Tryz.prog.cellsOf 37 = 3 := by kernel_rfl
theorem bytesInt : Tryz.prog.bytesOf 3 = 8 := by kernel_rfl
theorem ch_fields : ∃ f0 f1 f2 : Field, Tryz.prog.underlying 67 = some (.struct #[f0, f1, f2]) ∧ f0.offset = 0 ∧ f0.type = 9 ∧ f1.offset = 1 ∧ f1.type = 9 ∧ f2.offset = 2 ∧ f2.type = 4 := ⟨_, _, _, Tryz.underlying67, rfl, rfl, rfl, rfl, rfl, rfl⟩
theorem cut_fields : ∃ f0 f1 f2 : Field, Tryz.prog.underlying 37 = some (.struct #[f0, f1, f2]) ∧ f0.offset = 0 ∧ f0.type = 34 ∧ f1.offset = 1 ∧ f1.type = 3 ∧ f2.offset = 2 ∧ f2.type = 35 := ⟨_, _, _, Tryz.underlying37, rfl, rfl, rfl, rfl, rfl, rfl⟩
theorem one_ch {n : Nat} {cs : List Value} {y : DataW H × List MemPlace} (h : DataW.trod enc Tryz.prog w base spare held n 67 cs = some y) (hfit : Fits Tryz.prog 67 y.1) : ∃ c : Cg, cs = ccs c ∧ (c.key.size ≤ maxLen ∧ c.value.size ≤ maxLen) := by
  obtain ⟨f0, f1, f2, hu, o0, t0, o1, t1, o2, t2⟩ := ch_fields
  have hl := len_of_struct hu h
  rw [cellsCh] at hl
  obtain ⟨s0, hc0, hs0⟩ := field_text hu h hfit 0 f0 rfl (by rw [t0]; exact Tryz.underlying9) (by rw [t0]; exact cellsStr)
  obtain ⟨s1, hc1, hs1⟩ := field_text hu h hfit 1 f1 rfl (by rw [t1]; exact Tryz.underlying9) (by rw [t1]; exact cellsStr)
  obtain ⟨b, hc2⟩ := field_bool hu h 2 f2 rfl (by rw [t2]; exact Tryz.underlying4) (by rw [t2]; exact cellsBool)
  rw [o0] at hc0
  rw [o1] at hc1
  rw [o2] at hc2
  refine ⟨⟨s0, s1, b⟩, ?_, Nat.le_trans hs0 reach_le, Nat.le_trans hs1 reach_le⟩
  apply List.ext_getElem?
  intro j
  match j with
  | 0 => exact hc0
  | 1 => exact hc1
  | 2 => exact hc2
  | j + 3 => rw [List.getElem?_eq_none (by omega), List.getElem?_eq_none (by simp)]
set_option maxRecDepth 100000 in
theorem deep_chs {fuel : Nat} {cs : List Value} {y : DataW H × List MemPlace} (h : DataW.trod enc Tryz.prog w base spare held fuel 43 cs = some y) (hfit : Fits Tryz.prog 43 y.1) : ∃ x : Bt, cs = x.vs ∧ BtOk w x := by
  obtain ⟨a, cap, ls, e, l, q, _, _, z⟩ := open_deep (f := ccs) (Q := fun c : Cg => c.key.size ≤ maxLen ∧ c.value.size ≤ maxLen) Tryz.underlying43 cellsCh (by decide) ccs_len (fun n cs y hy hf => one_ch hy hf) h hfit
  exact ⟨⟨a, cap, ls⟩, e, l, q⟩
set_option maxRecDepth 100000 in
theorem deep_chss {fuel : Nat} {cs : List Value} {y : DataW H × List MemPlace} (h : DataW.trod enc Tryz.prog w base spare held fuel 34 cs = some y) (hfit : Fits Tryz.prog 34 y.1) :
    ∃ (a : Option Addr) (cap : Nat) (ls : List Bt), cs = [.slice a ls.length cap] ∧ Lies w 1 Bt.vs a ls ∧ (∀ x ∈ ls, BtOk w x) ∧ ls.length * 24 ≤ 140737488351232 := by
  obtain ⟨a, cap, ls, e, l, q, _, _, z⟩ := open_deep (f := Bt.vs) (Q := fun x => BtOk w x) Tryz.underlying34 cellsChs (by decide) bt_len (fun n cs y hy hf => deep_chs hy hf) h hfit
  rw [bytesChs] at z
  exact ⟨a, cap, ls, e, l, q, z⟩
set_option maxRecDepth 100000 in
theorem deep_ints {fuel : Nat} {cs : List Value} {y : DataW H × List MemPlace} (h : DataW.trod enc Tryz.prog w base spare held fuel 35 cs = some y) (hfit : Fits Tryz.prog 35 y.1) :
    ∃ (a : Option Addr) (cap : Nat) (ls : List Int), cs = [.slice a ls.length cap] ∧ Lies w 1 (fun x : Int => [.int .i64 x]) a ls ∧ ls.length * 8 ≤ 140737488351232 := by
  obtain ⟨a, cap, ls, e, l, _, _, _, z⟩ := open_deep (f := fun x : Int => [.int .i64 x]) (Q := fun _ => True) Tryz.underlying35 cellsInt (by decide) (fun _ => rfl) (fun n cs y hy _ => by
    obtain ⟨m, rfl, _, _⟩ := DataW.trod_int Tryz.underlying3 hy
    exact ⟨m, rfl, trivial⟩) h hfit
  rw [bytesInt] at z
  exact ⟨a, cap, ls, e, l, z⟩
set_option maxRecDepth 100000 in
theorem open_cuts {r : Reach} {b0 : Nat} {v : Value} {d : DataW H} {ps : List MemPlace} (hval : Value.okWide Tryz.prog w r b0 37 v) (hd : DataW.Trod enc Tryz.prog w base spare held 37 v d ps) (hfit : Fits Tryz.prog 37 d) :
    ∃ (a1 : Option Addr) (c1 : Nat) (ls : List Bt) (cut : Int) (a2 : Option Addr) (c2 : Nat) (ag : List Int), v = .agg #[.slice a1 ls.length c1, .int .i64 cut, .slice a2 ag.length c2] ∧
      Lies w 1 Bt.vs a1 ls ∧ (∀ x ∈ ls, BtOk w x) ∧ ls.length * 24 ≤ 140737488351232 ∧ Lies w 1 (fun x : Int => [.int .i64 x]) a2 ag ∧ ag.length * 8 ≤ 140737488351232 := by
  obtain ⟨f0, f1, f2, hu, o0, t0, o1, t1, o2, t2⟩ := cut_fields
  obtain ⟨cs, n, rfl, h⟩ := open_agg hu hval hd
  have hl := len_of_struct hu h
  rw [cellsCut] at hl
  obtain ⟨n0, y0, h0, s0⟩ := field_fit hu h hfit 0 f0 rfl
  obtain ⟨m, hc1, _⟩ := field_int (k := .i64) hu h 1 f1 rfl (by rw [t1]; exact Tryz.underlying3) (by rw [t1]; exact cellsInt)
  obtain ⟨n2, y2, h2, s2⟩ := field_fit hu h hfit 2 f2 rfl
  rw [t0] at h0 s0
  rw [t2] at h2 s2
  obtain ⟨a1, c1, ls, e1, l1, k1, z1⟩ := deep_chss h0 s0
  obtain ⟨a2, c2, ag, e2, l2, z2⟩ := deep_ints h2 s2
  rw [cellsChss] at e1
  rw [cellsSint] at e2
  have g0 := get_of_take1 e1
  have g2 := get_of_take1 e2
  rw [o0] at g0
  rw [o1] at hc1
  rw [o2] at g2
  refine ⟨a1, c1, ls, m, a2, c2, ag, ?_, l1, k1, z1, l2, z2⟩
  have : cs = [.slice a1 ls.length c1, .int .i64 m, .slice a2 ag.length c2] := by
    apply List.ext_getElem?
    intro j
    match j with
    | 0 => exact g0
    | 1 => exact hc1
    | 2 => exact g2
    | j + 3 => rw [List.getElem?_eq_none (by omega), List.getElem?_eq_none (by simp)]
  rw [this]
end
open Go.ChangeShapes Go.WideShapes Go.ChangeAt
theorem walk' (W : World) (a1 : Option Addr) (c1 : Nat) (ls : List Bt) (cut : Int) (a2 : Option Addr) (c2 : Nat) (ag : List Int) (hls : Lies W 1 Bt.vs a1 ls) (hok : ∀ x ∈ ls, BtOk W x) (hl : ls.length * 24 ≤ 140737488351232) (hag : Lies W 1 (fun x : Int => [.int .i64 x]) a2 ag) (hagl : ag.length * 8 ≤ 140737488351232) :
    Calls Tryz.prog 4 #[.agg #[.slice a1 ls.length c1, .int .i64 cut, .slice a2 ag.length c2]] W fun e w' => e = .returned (.bool true) ∧ RowKit.Below W.heap.size W w' := walk W a1 c1 ls hls hok hl cut a2 c2 ag hag hagl
theorem own : ownKnob Tryz.prog.godebug = none := by kernel_rfl
theorem laidOut : laidOutB Tryz.prog = true := by kernel_rfl
noncomputable def laidWorld (os : Os) : World := World.laidAll Tryz.prog os Rows.treeCutsRow.laid
theorem laid_met (os : Os) : laidMetH Tryz.prog Rows.treeCutsRow.laid ((laidWorld os).forCall (fun _ _ => 0) ⟨#[], #[.agg #[.slice none 0 0, .int .i64 0, .slice none 0 0]], []⟩).memory := by
  rw [MakeChecks.laidMetH_plain _ _ _ (by kernel_rfl)]
  exact laidMet_laidAll _ (by kernel_rfl) (by kernel_rfl)
set_option maxRecDepth 100000 in
theorem lifted (os : Os) (started : os.Started) (H : Type) (enc : TypeId × Value → H) (F : Stop.Interp) :
    ReturnsInHanded {} Tryz.checked os 4 .any ((OpenSpec.ofChange Rows.treeCutsSpec).preRow enc Tryz.prog Tryz.f4 Rows.treeCutsRow.domain false Rows.treeCutsRow.laid) (((OpenSpec.ofChange Rows.treeCutsSpec).at F).post enc Tryz.prog Tryz.f4 false true false false) := by
  refine returnsInHanded_of_row (C := Tryz.checked) (s := OpenSpec.ofChange Rows.treeCutsSpec) own started (by kernel_rfl) Tryz.func4
    (witness_row_at (enc := enc) (C := Tryz.checked) false (laidWorld os) #[.agg #[.slice none 0 0, .int .i64 0, .slice none 0 0]] (World.laidAll_os _ _ _) (by kernel_rfl) (by kernel_rfl) (by kernel_rfl)
      (OpenSpec.preRow_of_B rfl 8 (by kernel_rfl) (by kernel_rfl) (laid_met os))) ?_
  intro W base args ds gs before hval0 hW _ _ hsz0 _ _ _
  have hsz : (DataW.weightsEach Tryz.prog (Tryz.f4.params.toList ++ Rows.treeCutsSpec.plain.varTypes Tryz.prog) (ds ++ gs)).all (· ≤ reachBytes) = true := hsz0
  clear hsz0
  have hval : ∀ (j : Nat) t v, Tryz.f4.params[j]? = some t → args[j]? = some v → Value.okWide Tryz.prog W .any base t v := hval0
  have hW' := hW
  obtain ⟨p, q, hA0, hV, rfl, hfz, hnd⟩ := hW
  have hA : DataW.TrodAll enc Tryz.prog W 0 (fun _ => true) true Tryz.f4.params.toList args.toList ds p := hA0
  rw [Tryz.params4] at hA hval hsz
  obtain ⟨v0, vs0, d0, ds0, p0, q0, hargs, rfl, rfl, h0, r0⟩ := trodAll_cons hA
  obtain ⟨rfl, rfl, rfl⟩ := trodAll_nil r0
  obtain rfl : args = #[v0] := by cases args; simp_all
  obtain ⟨rfl, rfl⟩ := trodVars_none hV
  have lt0 : ∀ x ∈ p0, x.block < W.heap.size := by obtain ⟨m, hm⟩ := h0; exact DataW.trod_lt m _ _ _ hm
  have hsz' : (DataW.weightsEach Tryz.prog [37] [d0]).all (· ≤ reachBytes) = true := hsz
  obtain ⟨x0a, x0b, x0c, x0d, x0e, x0f, x0g, rfl, f0a, f0b, f0c, f0d, f0e⟩ := open_cuts (hval 0 37 v0 rfl rfl) h0 (fits_of_each hsz' (j := 0) rfl rfl)
  clear hA0 hval0
  refine (walk' W x0a x0b x0c x0d x0e x0f x0g f0a f0b f0c f0d f0e).mono fun e W' ⟨he, bel⟩ => ?_
  subst he
  exact ⟨_, rfl, _, _, _, [], _, [], hW', trodAll_mk1 (shut_bool Tryz.underlying4 _), (trodAll_cons_mk (RowKit.Below.trod laidOut (by kernel_rfl) (of_decide_eq_true (by kernel_rfl)) h0 bel lt0) trodAll_mk0), rfl, bel.frame _, fun h => by cases h⟩
theorem said : Rows.TreeCutsSaid :=
  OpenClaim.holds_of_cond 4 Tryz.f4 rfl rfl rfl rfl rfl rfl rfl ⟨rfl, rfl, rfl, rfl, rfl⟩ rfl rfl rfl rfl rfl (by kernel_rfl) Tryz.func4 (by kernel_rfl)
    (of_decide_eq_true (by kernel_rfl)) (by unfold Func.isWrapper; first | (rw [if_pos (by decide +kernel)]; kernel_rfl) | (rw [if_neg (by decide +kernel)]; exact ⟨rfl, rfl⟩))
    (fun os started H enc _ F => by rw [OpenClaim.pre_eq_preRow]; exact lifted os started H enc F)
theorem plain (f : FuncId) (fn : Func) (hf : Tryz.pinned.checked.prog.funcNamed "chandler/chandlerlaw05.TreeCuts" = some f) (hfn : Tryz.pinned.checked.prog.funcs[f]? = some fn) :
    false = Tryz.pinned.checked.prog.looks [] ∧ ∀ (j : Nat) t, fn.params[j]? = some t → Tryz.pinned.checked.prog.wantsStandIn t = false := by
  obtain rfl : f = 4 := Option.some.inj ((show Tryz.prog.funcNamed "chandler/chandlerlaw05.TreeCuts" = some 4 by kernel_rfl).symm.trans hf) |>.symm
  obtain rfl : fn = Tryz.f4 := (Option.some.inj (Tryz.func4.symm.trans hfn)).symm
  refine ⟨by kernel_rfl, fun j t ht => ?_⟩
  rw [Tryz.params4] at ht
  obtain rfl : t = 37 := by simpa using Array.mem_of_getElem? ht
  exact (show Tryz.prog.wantsStandIn 37 = false by kernel_rfl)
theorem card : Rows.TreeCutsCardSaid :=
  Claim7.holds_tied_plain_at .later [] _ _ _ _ said (fun _ h => by cases h) (by kernel_rfl) (fun _ h => by cases h) treeCuts_row_tie rfl ⟨rfl, rfl⟩ (by kernel_rfl) rfl plain (by kernel_rfl)
end TreeCuts
theorem treeCuts_holds : Rows.TreeCutsCardSaid := TreeCuts.card
end Go.Proofs.YtgbcibdfeeiilaaGreatDoor
