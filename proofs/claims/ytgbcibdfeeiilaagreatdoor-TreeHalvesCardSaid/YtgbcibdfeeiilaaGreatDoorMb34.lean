/- merged: TwY TrZ TwZ TwBu TeHal TeHalves Open1 TeOpen -/
import Derived.Test.YtgbcibdfeeiilaaGreatDoorMb32
import Derived.Test.YtgbcibdfeeiilaaGreatDoorMb33
import Derived.Test.YtgbcibdfeeiilaaGreatDoorMb12
import Derived.Test.YtgbcibdfeeiilaaGreatDoorMb24
import Derived.Laws.Concat
import Derived.Test.YtgbcibdfeeiilaaGreatDoorProg
import Derived.Test.YtgbcibdfeeiilaaGreatDoorMb01
import Derived.Test.YtgbcibdfeeiilaaGreatDoorRows
import Derived.Test.YtgbcibdfeeiilaaGreatDoorMb02
import Derived.Test.YtgbcibdfeeiilaaGreatDoorMb26
import Derived.WalkKit
import Derived.ProofKit
import Derived.OpenShut
import Derived.Lay
import Derived.Deep.DeepHandedRow
namespace Go.Proofs.YtgbcibdfeeiilaaGreatDoor
section
open Go Go.RowKit
structure Here (w : World) (B : TB) (T : TM) (D : Dsk) (k : Nat) (l : List KV) (N : Nat) : Prop where
 tree : TreeAt (TS B) w B T D false
 lit : Lit D k
 std : Std B.room D T l N
 ne : B.nb ≠ B.ab
theorem Here.ext {w w' : World} {B : TB} {T : TM} {D : Dsk} {k : Nat} {l : List KV} {N : Nat} (h : Here w B T D k l N) (hm : Mod (fun _ => False) w w') : Here w' B T D k l N := ⟨h.tree.mod hm (fun _ e => e.elim) (fun _ e => e.elim), h.lit, h.std, h.ne⟩
def HApp (w : World) (B : TB) (T : TM) (D : Dsk) (k : Nat) (l : List KV) (N : Nat) (cs : List Cg) (e : Ending) (w' : World) : Prop :=
 (chkF [] cs ≠ 0 /\ e = .returned (.int .i64 (chkF [] cs)) /\ Here w' B T D k l N /\ Mod (fun _ => False) w w') ∨
 (chkF [] cs = 0 /\ ((e = .returned (.int .i64 52) /\ (jlen B.room D : Int) <= (N : Int) + 8 * cs.length /\ Here w' B T D k l N /\ Mod (fun _ => False) w w') ∨
  (e = .returned (.int .i64 31) /\ (B.room < 21 * cs.length + 1 /\ ∃ (W' : WM) (ls : List Chg) (ln : List (Int × NP)) (la : List (Int × Int)), allM T (jlen B.room D : Int) 70 cs T.begin = some W' /\ Laid W' ls ln la /\ B.room < ls.length) /\ Here w' B T D k l N /\ Mod (fun _ => False) w w') ∨
  (e = .returned (.int .i64 0) /\ ∃ (T' : TM) (D' : Dsk) (N' : Nat), Here w' B T' D' (k + 1002) (chgs cs l) N' /\ D'.secs.length = D.secs.length /\ Mod (TS B) w w')))
theorem here_apply {w : World} {B : TB} {T : TM} {D : Dsk} {k : Nat} {l : List KV} {N : Nat} (h : Here w B T D k l N) (hk0 : k <= 1152921504606846976) {a : Option Addr} (cap : Nat) {cs : List Cg} (hc : Lies w 3 ccs a cs) (hcl : cs.length <= 1048576) (hs : ∀ c ∈ cs, c.key.size <= maxLen /\ c.value.size <= maxLen) :
  Calls Tryz.prog 15 #[.pointer (some ⟨B.tb, 0, none⟩), .slice a cs.length cap] w (HApp w B T D k l N cs) := by
 by_cases hchk : chkF [] cs = 0
 ·obtain ⟨W', N', h1, h2, h3, h4, h5, h6⟩ := std_apply h.lit h.std cs (fun c hc => chkF_good hchk c hc) hcl
  obtain ⟨r1, r2, r3, r4, r5, r6, r7⟩ := h2.rng; have ht := h.std.ti.rng; have hj : jlen B.room D <= 16384 := by have := h.lit.b.n; unfold jlen; omega
  have hnx := h.std.next; obtain ⟨t1, t2, t3, t4, _⟩ := ht; have e1 : T.begin.count = T.count := rfl; have e2 : T.begin.next = T.next := rfl; rw [e1, e2] at t4; rw [e2] at t2; refine (apply_go h.tree cap hc (by omega) hs hchk h1 (by omega) (by omega) (by omega) (fun x hx => by have := r5 x hx; omega) (fun x y hy => by have := r6 x y hy; omega) (fun ls hnd hls => ?_) h.lit.b hk0 h.ne).mono (fun e w' ha => ?_)
  ·have q1 := nodup_len (m := (List.range W'.next.toNat).map (fun i : Nat => (i : Int))) hnd (fun x hx => by
    have := r5 x (hls x hx); exact List.mem_map.2 ⟨x.toNat, List.mem_range.2 (by omega), by omega⟩)
   rw [List.length_map, List.length_range] at q1; omega
  ·obtain ⟨ls, ln, la, hlaid, hh⟩ := ha; refine .inr ⟨hchk, ?_⟩; rcases hh with ⟨a1, rfl, a3, a4⟩ | ⟨a1, a2, rfl, a3, a4⟩ | ⟨a1, a2, a3, rfl, a4, a5⟩ | ⟨a1, a2, a3, a4, _⟩ | ⟨a1, a2, a3, a4, rfl, a6, a7⟩
   ·exact .inl ⟨rfl, h3 a1, ⟨a3, h.lit, h.std, h.ne⟩, a4⟩
   ·refine .inr (.inl ⟨rfl, ⟨?_, W', ls, ln, la, h1, hlaid, a2⟩, ⟨a3, h.lit, h.std, h.ne⟩, a4⟩); have := h6 ls ln la hlaid a1; omega
   ·refine .inr (.inr ⟨rfl, T, D, N, ?_, rfl, a5.mono (fun _ _ e => e.elim)⟩)
    rw [a3]; exact ⟨a4, h.lit.le (by omega), h.std, h.ne⟩
   ·exact absurd (std_commit h.lit h.std h2 (h4 a1) hlaid a2).1 a4
   ·obtain ⟨c1, c2, c3⟩ := std_commit h.lit h.std h2 (h4 a1) hlaid a2; have hr := h.std.r2; exact .inr (.inr ⟨rfl, _, _, N', ⟨a6, c2.le (by omega), c3, h.ne⟩, commitF_len _ _ _, a7⟩)
 ·exact (apply_bad h.tree cap hc (by omega) hs hchk).mono (fun e w' ⟨he, hm⟩ => .inl ⟨hchk, he, h.ext hm, hm⟩)
theorem here_open {w : World} {d k room : Nat} {sa : Option Addr} {D : Dsk} {T : TM} {l : List KV} {N : Nat} (hD : DiskAt w d sa D) (hL : Lit D k) (hk : k <= 1152921504606846976) (hs : Std room D T l N) :
  Calls Tryz.prog 13 #[.pointer (some ⟨d, 0, none⟩), .int .i64 (room : Int)] w fun e w' => ∃ B : TB, e = .returned (.tuple #[.pointer (some ⟨B.tb, 0, none⟩), .int .i64 0]) /\ Here w' B T D k l N /\ B.d = d /\ B.sa = sa /\ B.room = room /\ (w.heap.size <= B.tb /\ w.heap.size <= B.nb /\ w.heap.size <= B.ab /\ w.heap.size <= B.j) /\ Mod (diskF d sa) w w' :=
 (topen_any hD hL.b (by omega) hs.r1 hs.r2).mono (fun e w' ha => by
  rw [std_open hL hs] at ha; obtain ⟨_, h2, B, rfl, h4⟩ := ha; exact ⟨B, rfl, ⟨h4.tree, hL, by rw [h4.room]; exact hs, h4.ne⟩, h4.d, h4.sa, h4.room, h4.lo, h2⟩)
theorem Here.empty {w : World} {B : TB} {T : TM} {D : Dsk} {k : Nat} {l : List KV} {N : Nat} (h : Here w B T D k l N) : (T.root = 0 /\ l = []) \/ (T.root ≠ 0 /\ l ≠ [] /\ ∃ (g : Nat) (t : Tr g), g <= 26 /\ Sd T.nodes 250 g T.root t /\ flat g t = l) := by
 obtain ⟨_, _, h3⟩ := h.std.ti; rcases h3 with ⟨h4, h5, _⟩ | ⟨ht, t, F, hR, _⟩
 ·exact .inl ⟨h4, h5⟩
 ·refine .inr ⟨hR.nz, ?_, ht, t, hR.le, hR.sd, hR.fl⟩; rw [← hR.fl]; obtain ⟨q, v, r, _, h6⟩ := flat_first ht t (wf_sd hR.sd); rw [h6]; simp
theorem Here.len {w : World} {B : TB} {T : TM} {D : Dsk} {k : Nat} {l : List KV} {N : Nat} (h : Here w B T D k l N) : l.length <= 8388608 /\ T.count = l.length := by
 have h1 := h.std.ti.rng; have h2 : T.begin.count = l.length := h.std.ti.2.1; have e1 : T.begin.count = T.count := rfl; have e2 : T.begin.next = T.next := rfl; have hj : jlen B.room D <= 16384 := by have := h.lit.b.n; unfold jlen; omega
 have hnx := h.std.next; rw [e1] at h1 h2; rw [e2] at h1; omega
theorem here_len {w : World} {B : TB} {T : TM} {D : Dsk} {k : Nat} {l : List KV} {N : Nat} (h : Here w B T D k l N) : Calls Tryz.prog 11 #[.pointer (some ⟨B.tb, 0, none⟩)] w fun e w' => e = .returned (.int .i64 (l.length : Int)) /\ w = w' :=
 (tlen_any h.tree).mono (fun e w' ⟨he, hw⟩ => ⟨by rw [he, h.len.2], hw⟩)
theorem here_sects {w : World} {B : TB} {T : TM} {D : Dsk} {k : Nat} {l : List KV} {N : Nat} (h : Here w B T D k l N) : Calls Tryz.prog 29 #[.pointer (some ⟨B.tb, 0, none⟩)] w fun e w' => e = .returned (.int .i64 ((N : Int) + 1)) /\ w = w' :=
 (sects_any h.tree).mono (fun e w' ⟨⟨dom, h1, h2, he⟩, hw⟩ => ⟨by
  obtain ⟨_, _, U, u1, u2, u3⟩ := h.std.ti.secs; have hp : dom.Perm U := (List.perm_ext_iff_of_nodup h1 u1).2 (fun x => (h2 x).trans (u3 x).symm)
  have hl := hp.length_eq; have h4 := h.std.ti.spots; have h5 : (N : Int) <= T.next - 1 := h4.1; have hj : jlen B.room D <= 16384 := by have := h.lit.b.n; unfold jlen; omega
  have hnx := h.std.next; rw [he, hl, u2, IntWalk.wrap64_in _ (by omega)], hw⟩)
theorem here_scan {w : World} {B : TB} {T : TM} {D : Dsk} {k : Nat} {l : List KV} {N : Nat} (h : Here w B T D k l N) (key : ByteArray) (most : Int) : Calls Tryz.prog 10 #[.pointer (some ⟨B.tb, 0, none⟩), .string key, .int .i64 most] w (ScanAns w (rscan l key most)) := by
 have hnil : ∀ e w', (e = .returned (.slice none 0 0) /\ Mod (fun _ => False) w w') -> ScanAns w [] e w' := fun e w' ⟨he, hm⟩ => ⟨none, 0, he, Own.nil _ _ _, (fun b hb => (blk_none b hb).elim), hm⟩
 by_cases hm : most < 1
 ·have e : rscan l key most = [] := by unfold rscan; rw [show most.toNat = 0 by omega]; rfl
  rw [e]; exact (scan_few h.tree (.inr hm) _).mono hnil
 ·rcases h.empty with ⟨h0, rfl⟩ | ⟨h0, _, g, t, hg, hS, hfl⟩
  ·have e : rscan [] key most = [] := by unfold rscan; simp
   rw [e]; exact (scan_few h.tree (.inl h0) _).mono hnil
  ·have hasc : Asc (flat g t) := by rw [hfl]; exact h.std.ti.1.asc
   have hw := walk_law key g T.root t hS hasc; rw [hfl] at hw; have hl := List.length_filter_le (geK key) l; exact scan_any h.tree h0 (by omega) hw (by have := h.len.1; omega)
end
section
open Go Go.RowKit
theorem WI.bytes {T : TM} {W : WM} {l : List KV} {H N : Nat} (h : WI T 250 W l H N) : 190 * N <= rbytes l + 190 := by
 obtain ⟨hf, _, h3⟩ := h; rcases h3 with ⟨_, rfl, rfl, _⟩ | ⟨ht, t, F, hR, rfl⟩
 ·omega
 ·have h1 := secs_root hR.sd (by rw [hR.fl]; exact fun p hp => ⟨(hf.ok p hp).1.2, (hf.ok p hp).2⟩)
  rw [hR.fl] at h1; exact h1
theorem rbytes_two {p q : KV -> Bool} (h : ∀ x, ¬ (p x = true /\ q x = true)) : ∀ l : List KV, rbytes (l.filter p) + rbytes (l.filter q) <= rbytes l
 | [] => by simp [rbytes]
 | x :: l => by
  have h1 := rbytes_two h l; have h2 := h x; have e : ∀ r : List KV, rbytes (x :: r) = x.1.size + x.2.size + 4 + rbytes r := fun r => by unfold rbytes; rw [List.map_cons, List.sum_cons]
  rw [List.filter_cons, List.filter_cons]; cases hp : p x with
  | true =>
   cases hq : q x with
   | true => exact absurd ⟨hp, hq⟩ h2
   | false =>
    simp only [if_true, Bool.false_eq_true, if_false]; rw [e, e]; omega
  | false =>
   cases hq : q x with
   | true =>
    simp only [if_true, Bool.false_eq_true, if_false]; rw [e, e]; omega
   | false =>
    simp only [Bool.false_eq_true, if_false]; rw [e]; omega
theorem rbytes_chg (c : Cg) (l : List KV) : rbytes (chg c l) <= rbytes l + (c.key.size + c.value.size + 4) := by
 have h1 := rbytes_two (p := fun p => kl p.1 c.key) (q := fun p => kl c.key p.1) (fun x ⟨a, b⟩ => by
  have a : kl x.1 c.key = true := a; have b : kl c.key x.1 = true := b; rw [kl_asymm a] at b; cases b) l
 have h2 : rbytes c.put <= c.key.size + c.value.size + 4 := by
  unfold Cg.put; split
  ·exact Nat.zero_le _
  ·unfold rbytes; simp
 unfold chg; rw [rbytes_append, rbytes_append]; omega
theorem all_small {T : TM} {L : Int} (hL : 4 <= L) : ∀ (cs : List Cg) (W : WM) (l : List KV) (N : Nat), (∀ c ∈ cs, CgOk c) -> WI T 250 W l 26 N -> rbytes l + (cs.map (fun c => c.key.size + c.value.size + 4)).sum < 190 -> W.next <= 4 -> W.full = false →
  ∃ (W' : WM) (N' : Nat), allM T L 70 cs W = some W' /\ WI T 250 W' (chgs cs l) 26 N' /\ W'.next <= 4 /\ W'.full = false
 | [], W, l, N, _, hW, _, hn, hf => ⟨W, N, rfl, hW, hn, hf⟩
 | c :: cs, W, l, N, hc, hW, hb, hn, hf => by
  rw [List.map_cons, List.sum_cons] at hb; have hN := hW.bytes; have hW0 := hW.high 0 (by omega)
  obtain ⟨W1, N1, k1, k2, k3, k4⟩ := one_law (T := T) (L := L) (f := 70) (.inr rfl) (hc c List.mem_cons_self) hW0 (by omega) (by omega)
  have hN1 := k2.bytes; have hch := rbytes_chg c l; have hf1 : W1.full = false := by
   cases hq : W1.full with
   | false => rfl
   | true =>
    rcases k4.full hq with h | h
    ·rw [hf] at h; cases h
    ·omega
  obtain ⟨W', N', r1, r2, r3, r4⟩ := all_small hL cs W1 (chg c l) N1 (fun x hx => hc x (List.mem_cons_of_mem _ hx)) (k2.high 26 (by omega)) (by omega) (by have := k4.top; omega) hf1
  refine ⟨W', N', ?_, r2, r3, r4⟩; show (oneM T L 70 W c).bind _ = _; rw [k1]; exact r1
theorem laid_few {T : TM} {W : WM} {l : List KV} {H N : Nat} {ls : List Chg} {ln : List (Int × NP)} {la : List (Int × Int)} (hW : WI T 250 W l H N) (hlaid : Laid W ls ln la) : (ls.length : Int) <= W.next := by
 obtain ⟨_, r2, _, _, r5, _⟩ := hW.rng; have hlo : ListOf W ls := by
  obtain ⟨_, _, h3⟩ := hW; rcases h3 with ⟨_, _, _, F, hA⟩ | ⟨ht, t, F, hR, _⟩
  ·exact laid_list hA hlaid
  ·exact laid_list hR.acc hlaid
 have h1 := list_touch hlo (X := (List.range (W.next - 1).toNat).map (fun i : Nat => (i : Int) + 1)) (fun y hy => by
  have := r5 y hy; exact List.mem_map.2 ⟨(y - 1).toNat, List.mem_range.2 (by omega), by omega⟩)
 rw [List.length_map, List.length_range] at h1; omega
end
section
open Go Go.RowKit
def wcs : List Cg := [⟨⟨#[98]⟩, ⟨#[50]⟩, false⟩, ⟨⟨#[97]⟩, ⟨#[49]⟩, false⟩]
def wl : List KV := [(⟨#[97]⟩, ⟨#[49]⟩), (⟨#[98]⟩, ⟨#[50]⟩)]
theorem one_list (b : UInt8) : (⟨#[b]⟩ : ByteArray).toList = [b] := ByteArray.toList_eq _
theorem wcs_chk : chkF [] wcs = 0 := by
 unfold wcs; rw [chkF_cons, if_neg (by rw [one_list]; decide), if_neg (by decide), if_neg (by simp), chkF_cons, if_neg (by rw [one_list]; decide), if_neg (by decide), if_neg (by simp)]
 rfl
theorem wcs_all : chgs wcs [] = wl := by kernel_rfl
theorem wl_scan : rscan wl ⟨#[]⟩ 9 = wl := by kernel_rfl
theorem jlen100 : jlen 40 (newD 100) = 59 := by
 have h : (newD 100).secs.length = 100 := List.length_replicate ..; unfold jlen; rw [h]
theorem wakes_ok {w w' : World} {B : TB} {e : Ending} (h : Here w B newT (newD 100) 0 [] 0) (hr : B.room = 40) (ha : HApp w B newT (newD 100) 0 [] 0 wcs e w') :
  e = .returned (.int .i64 0) /\ ∃ (T' : TM) (D' : Dsk), Here w' B T' D' 1002 wl 1 /\ Mod (TS B) w w' := by
 have hw : ∀ {N : Nat} {T' : TM} {D' : Dsk}, Here w' B T' D' 1002 wl N -> N = 1 := fun h1 => by
  obtain ⟨a1, a2, _⟩ := h1.std.ti.secs; have a3 : rbytes wl = 12 := by kernel_rfl
  have a4 := a2 (by unfold wl; simp)
  omega
 rcases ha with ⟨h1, _⟩ | ⟨_, ⟨_, h2, _⟩ | ⟨_, ⟨_, W', ls, ln, la, h3, h4, h5⟩, _⟩ | ⟨rfl, T', D', N', h6, _, h7⟩⟩
 ·exact absurd wcs_chk h1
 ·rw [hr, jlen100] at h2; have : wcs.length = 2 := rfl; omega
 ·exfalso
  rw [hr, jlen100] at h3; obtain ⟨W2, N2, k1, k2, k3, _⟩ := all_small (T := newT) (L := ((59 : Nat) : Int)) (by omega) wcs newT.begin [] 0 (fun c hc => chkF_good wcs_chk c hc) h.std.ti (by decide) (by decide) rfl
  rw [k1] at h3; cases h3
  have h8 := laid_few k2 h4; omega
 ·rw [wcs_all] at h6; have hN := hw h6; subst hN; exact ⟨rfl, T', D', h6, h7⟩
theorem new_blocks {w w1 : World} {d : Nat} {sa : Option Addr} {B : TB} (h1 : B.d = d) (h2 : B.sa = sa) (hd : w.heap.size <= d) (hs : ∀ k, blk sa k -> w.heap.size <= k) (hw : w.heap.size <= w1.heap.size) (h3 : w1.heap.size <= B.tb /\ w1.heap.size <= B.nb /\ w1.heap.size <= B.ab /\ w1.heap.size <= B.j) : ∀ i, TS B i -> w.heap.size <= i := fun i e => by
 rcases e with e | e | e | e | e
 ·omega
 ·omega
 ·omega
 ·omega
 ·rw [h1, h2] at e; rcases e with e | e
  ·omega
  ·exact hs i e
theorem wl_len : ((wl.length : Nat) : Int) = 2 := rfl
theorem wl_told {w : World} {B : TB} {T : TM} {D : Dsk} {k N : Nat} (h : Here w B T D k wl N) : Calls Tryz.prog 10 #[.pointer (some ⟨B.tb, 0, none⟩), .string ⟨#[]⟩, .int .i64 9] w fun e w' => ∃ g off cap, e = .returned (.slice (some ⟨g, off, none⟩) 2 cap) /\ w'.cell? ⟨g, off, none⟩ = some (.string ⟨#[97]⟩) /\ w'.cell? ⟨g, off + 1, none⟩ = some (.string ⟨#[49]⟩) /\ Mod (fun _ => False) w w' :=
 (here_scan h ⟨#[]⟩ 9).mono fun e w' ha => by
  rw [wl_scan] at ha; obtain ⟨la, cap, rfl, ho, _, hm⟩ := ha; rcases ho.2.2.2 with ⟨rfl, h2⟩ | ⟨g, off, cur, rfl, _, _, _⟩
  ·have h3 := ho.2.1; have h4 : wl.length = 2 := rfl; omega
  ·have h5 := fun (j : Nat) (u : Value) (hj : (wl.flatMap kcs)[j]? = some u) => ho.src.2.2 _ rfl j u hj
   refine ⟨g, off, cap, rfl, ?_, ?_, hm⟩
   ·simpa [Addr.add] using h5 0 _ rfl
   ·simpa [Addr.add] using h5 1 _ rfl
set_option maxRecDepth 100000
set_option maxHeartbeats 4000000 in
theorem wakes_any (w : World) : Calls Tryz.prog 9 #[] w fun e w' => e = .returned (.bool true) /\ Mod (fun _ => False) w w' := by
 have HNw := hid (new_any (w := w) 100); go_enter Tryz.func9, Tryz.ntmps9
 go_upto_region 2 with (go_at_call 12; refine HNw.out.mono ?_; rintro e w1 ⟨d, sa, rfl, hd0, hs0, hD, hm1⟩; have HD0 := hid hd0; have HS0 := hid hs0; have HD := hid hD; have HM1 := hid hm1; clear hd0 hs0 hD hm1)
 have HO := hid (here_open HD.out (lit_new 100) (by omega) (std_new (n := 100) (room := 40) (by omega) (by omega) (by rw [jlen100]; omega)))
 go_upto_region 3 with (go_at_call 13; refine HO.out.mono ?_; rintro e w2 ⟨B, rfl, hh, hb1, hb2, hb3, hlo, hm2⟩; have HH := hid hh; have HB := hid (And.intro hb1 (And.intro hb2 hb3)); have HNb := hid (new_blocks hb1 hb2 HD0.out HS0.out HM1.out.size hlo); have HM2 : Hid (Mod (fun k => w.heap.size <= k) w w2) := hid (((HM1.out.mono (fun _ _ e => e.elim)) : Mod (fun k => w.heap.size <= k) w _).trans (hm2.mono (fun k _ e => by rcases e with e | e; (have := HD0.out; omega); (exact HS0.out k e)))); clear hh hb1 hb2 hb3 hlo hm2)
 have HA := hid (here_apply (HH.out.ext ((Mod.refl (fun _ => False) w2).alloc (.cells #[.string ⟨#[98]⟩, .string ⟨#[50]⟩, .bool false, .string ⟨#[97]⟩, .string ⟨#[49]⟩, .bool false] 67))) (by omega) 2 (cs := wcs) (lies_new ccs_len (heap_alloc_new w2 _)) (by show (2 : Nat) <= _; omega) (fun c hc => by have := chkF_good wcs_chk c hc; have h1 := this.key; have h2 := this.value; unfold maxLen; omega))
 go_wp2_with (first
  | (go_at_call 15; refine HA.out.mono ?_; intro e w3 ha; have ha2 := wakes_ok (HH.out.ext ((Mod.refl (fun _ => False) w2).alloc (.cells #[.string ⟨#[98]⟩, .string ⟨#[50]⟩, .bool false, .string ⟨#[97]⟩, .string ⟨#[49]⟩, .bool false] 67))) HB.out.2.2 ha; obtain ⟨rfl, T1, D1, hh1, hm3⟩ := ha2; have HH1 := hid hh1; have HS1 : Hid (Std 40 D1 T1 wl 1) := hid (by have h9 := hh1.std; rw [HB.out.2.2] at h9; exact h9); have HDk : Hid (DiskAt w3 d sa D1) := hid (by have h9 := hh1.tree.disk; rw [HB.out.1, HB.out.2.1] at h9; exact h9); have HM3 : Hid (Mod (fun k => w.heap.size <= k) w w3) := hid ((HM2.out.alloc _).trans (hm3.mono (fun k _ e => HNb.out k e))); clear ha hh1 hm3)
  | (go_at_call 11; refine (here_len HH1.out).mono ?_; rintro e w4 ⟨he, hw4⟩; rw [wl_len] at he; subst he; subst w4)
  | (go_at_call 13; refine (here_open HDk.out HH1.out.lit (by omega) HS1.out).mono ?_; rintro e w5 ⟨B2, rfl, hh2, hb1, hb2, hb3, hlo, hm5⟩; have HH2 := hid hh2; clear hh2)
  | (go_at_call 10; refine (wl_told HH2.out).mono ?_; rintro e w6 ⟨g, off, cap, rfl, hc0, hc1, hm6⟩; have HM6 := hid ((HM3.out.then hm5 (fun k hk e => by (rcases e with e | e); (have := HD0.out; omega); (exact HS0.out k e))).trans (hm6.mono (fun _ _ e => e.elim))))
  | (go_at_call 29; refine (here_sects (HH2.out.ext hm6)).mono ?_; rintro e w7 ⟨rfl, hw7⟩; subst w7))
 go_ret; exact ⟨rfl, HM6.out.mono (fun k hk e => by omega)⟩
end
section
open Go Go.RowKit
theorem jlen3000 : jlen 500 (newD 3000) = 2499 := by
 have h : (newD 3000).secs.length = 3000 := List.length_replicate ..; unfold jlen; rw [h]
theorem HApp.norm {w w' : World} {B : TB} {T : TM} {D : Dsk} {k : Nat} {l : List KV} {N : Nat} {cs : List Cg} {e : Ending} (h : HApp w B T D k l N cs e w') :
  ∃ E : Int, e = .returned (.int .i64 E) /\ ((E = 0 /\ ∃ (T' : TM) (D' : Dsk) (N' : Nat), Here w' B T' D' (k + 1002) (chgs cs l) N' /\ Mod (TS B) w w') \/ (E ≠ 0 /\ Here w' B T D k l N /\ Mod (fun _ => False) w w')) := by
 rcases h with ⟨h1, rfl, h2, h3⟩ | ⟨_, ⟨rfl, _, h2, h3⟩ | ⟨rfl, _, h2, h3⟩ | ⟨rfl, T', D', N', h2, _, h3⟩⟩
 ·exact ⟨_, rfl, .inr ⟨h1, h2, h3⟩⟩
 ·exact ⟨52, rfl, .inr ⟨by decide, h2, h3⟩⟩
 ·exact ⟨31, rfl, .inr ⟨by decide, h2, h3⟩⟩
 ·exact ⟨0, rfl, .inl ⟨rfl, T', D', N', h2, h3⟩⟩
def pcg (p : KV) : Cg := ⟨p.1, p.2, false⟩
structure BRel (w wr : World) (B : TB) (T : TM) (D : Dsk) (k : Nat) (l : List KV) (N i : Nat) (la : Option Addr) (ps : List KV) : Prop where
 here : Here wr B T D k l N
 lies : Lies wr 2 kcs la l
 apart : ∀ b, blk la b -> ¬ TS B b
 lo : ∀ b, blk la b -> w.heap.size <= b
 mod : Mod (fun b => w.heap.size <= b) w wr
 bud : k <= 1002 * i
 len : l.length <= i
 from' : ∀ p ∈ l, p ∈ ps
set_option maxRecDepth 100000
set_option maxHeartbeats 4000000 in
theorem built_any {w : World} {a : Option Addr} (cap : Nat) {ps : List KV} (hp : Lies w 2 kcs a ps) (hcap : ps.length <= cap /\ cap <= maxLen) (hs : ∀ p ∈ ps, p.1.size <= maxLen /\ p.2.size <= maxLen) :
  Calls Tryz.prog 8 #[.slice a ps.length cap] w fun e w' => ∃ (d : Nat) (B : TB) (T : TM) (D : Dsk) (k : Nat) (l : List KV) (N : Nat) (la : Option Addr) (lc : Nat), e = .returned (.tuple #[.pointer (some ⟨d, 0, none⟩), .pointer (some ⟨B.tb, 0, none⟩), .slice la l.length lc]) /\ BRel w w' B T D k l N 300 la ps /\ (∀ i, TS B i -> w.heap.size <= i) := by
 have HNw := hid (new_any (w := w) 3000); have HP := hid hp; have HC := hid hcap; have HS := hid hs; clear hp hs; go_enter Tryz.func8, Tryz.ntmps8
 go_upto_region 2 with (go_at_call 12; refine HNw.out.mono ?_; rintro e w1 ⟨d, sa, rfl, hd0, hs0, hD, hm1⟩; have HD0 := hid hd0; have HS0 := hid hs0; have HD := hid hD; have HM1 := hid hm1; clear hd0 hs0 hD hm1)
 have HO := hid (here_open HD.out (lit_new 3000) (by omega) (std_new (n := 3000) (room := 500) (by omega) (by omega) (by rw [jlen3000]; omega)))
 go_upto_region 6 with (go_at_call 13; refine HO.out.mono ?_; rintro e w2 ⟨B, rfl, hh, hb1, hb2, hb3, hlo, hm2⟩; have HH := hid hh; have HNb := hid (new_blocks hb1 hb2 HD0.out HS0.out HM1.out.size hlo); have HM2 : Hid (Mod (fun k => w.heap.size <= k) w w2) := hid (((HM1.out.mono (fun _ _ e => e.elim)) : Mod (fun k => w.heap.size <= k) w _).trans (hm2.mono (fun k _ e => by rcases e with e | e; (have := HD0.out; omega); (exact HS0.out k e)))); clear hh hb1 hb2 hb3 hlo hm2)
 go_upto_region 7 with fail
 obtain ⟨n, hn⟩ : ∃ n, min ps.length 300 = n := ⟨_, rfl⟩; have e1 : (min (ps.length : Int) 300).toNat = n := by omega
 have e2 : max (min (ps.length : Int) 300) 0 = (n : Int) := by omega
 rw [e1, e2]; have hn3 : n <= 300 := by omega
 have HNl : Hid (n <= ps.length) := hid (by omega)
 have HR0 : Hid (BRel w w2 B newT (newD 3000) 0 [] 0 0 none ps) := hid ⟨HH.out, ⟨⟨by simp, fun _ => rfl, fun a ha => by cases ha⟩, fun h => by simp at h, fun _ h => by simp at h⟩, (fun b hb => (blk_none b hb).elim), (fun b hb => (blk_none b hb).elim), HM2.out, Nat.zero_le _, Nat.zero_le _, (fun p hp => by cases hp)⟩
 clear e1 e2 hn HM1 HM2 HH HO HNw HD HD0 HS0; go_loopw [8, 26] (fun sl si wr => ∃ (i k N lc : Nat) (T : TM) (D : Dsk) (l : List KV) (la : Option Addr), sl = .slice la l.length lc /\ si = .int .i64 (i : Int) /\ i <= n /\ BRel w wr B T D k l N i la ps) (fun _ si _ => n - (intOf si).toNat)
 case atStart => exact ⟨0, 0, 0, 0, _, _, [], none, rfl, rfl, Nat.zero_le _, HR0.out⟩
 case round =>
  obtain ⟨i, k, N, lc, T, D, l, la, rfl, rfl, hin, hrel⟩ := hrel; have HRel := hid hrel; clear hrel; by_cases hlt : i < n
  ·have d0 : decide ((i : Int) < (n : Int)) = true := by simp; omega
   have d1 : decide (i < n) = true := by simpa using hlt
   have hdi : ¬ n <= i := by omega
   obtain ⟨p, hx⟩ : ∃ p, ps[i]? = some p := ⟨_, List.getElem?_eq_getElem (by have := HNl.out; omega)⟩
   have HX := hid hx; obtain ⟨g, off, rfl⟩ := HP.out.some (by have := HNl.out; omega)
   have hpw := HP.out.old HRel.out.mod (fun _ e => e)
   have q0 := hpw.cell kcs_len hx (j := 0) rfl; have q1 := hpw.cell kcs_len hx (j := 1) rfl; simp only [Nat.add_zero] at q0; obtain ⟨p1, p2⟩ := p; have hmz : Mod (fun _ => False) wr ((wr.alloc (.cells #[.string p1, .string p2] 32)).alloc (.cells #[.string p1, .string p2, .bool false] 67)) := ((Mod.refl _ _).alloc _).alloc _
   have hz1 : ((wr.alloc (.cells #[.string p1, .string p2] 32)).alloc (.cells #[.string p1, .string p2, .bool false] 67)).heap[wr.heap.size]? = some (.cells #[.string p1, .string p2] 32 (0, 0)) := kept_old ((Mod.refl (fun _ => False) (wr.alloc (.cells #[.string p1, .string p2] 32))).alloc _) (heap_alloc_new _ _)
   have hz2 : ((wr.alloc (.cells #[.string p1, .string p2] 32)).alloc (.cells #[.string p1, .string p2, .bool false] 67)).heap[wr.heap.size + 1]? = some (.cells #[.string p1, .string p2, .bool false] 67 (0, 0)) := by
    have := heap_alloc_new (wr.alloc (.cells #[.string p1, .string p2] 32)) (.cells #[.string p1, .string p2, .bool false] 67); rw [World.size_alloc] at this; exact this
   have HSp := hid (HS.out _ (List.mem_of_getElem? hx)); have hk0 : k <= 1152921504606846976 := by have := HRel.out.bud; omega
   have HA := hid (here_apply (HRel.out.here.ext hmz) hk0 1 (cs := [pcg (p1, p2)]) (lies_new ccs_len hz2) (by show (1 : Nat) <= _; omega) (fun c hc => by rw [List.mem_singleton] at hc; rw [hc]; exact HSp.out))
   have HMz := hid hmz; have HZ1 := hid hz1; clear hpw hx hmz hz1 hz2 hk0; have HStay : Hid (∀ w3 : World, Here w3 B T D k l N -> Mod (fun _ => False) ((wr.alloc (.cells #[.string p1, .string p2] 32)).alloc (.cells #[.string p1, .string p2, .bool false] 67)) w3 -> BRel w w3 B T D k l N (i + 1) la ps) := hid (fun w3 h3 hm3 => ⟨h3, HRel.out.lies.ext (HMz.out.trans hm3), HRel.out.apart, HRel.out.lo, HRel.out.mod.trans ((HMz.out.trans hm3).mono (fun _ _ e => e.elim)), by have := HRel.out.bud; omega, by have := HRel.out.len; omega, HRel.out.from'⟩)
   go_upto_if 38 with (go_at_call 15; refine HA.out.mono ?_; intro e w3 ha; obtain ⟨E, rfl, hE⟩ := ha.norm; have HE := hid hE; clear ha hE)
   rcases HE.out with ⟨hE, T', D', N', h3, hm3⟩ | ⟨hE, h3, hm3⟩
   ·subst hE; have HH3 := hid h3; have hM3 : Mod (fun b => w.heap.size <= b) w w3 := (HRel.out.mod.trans (HMz.out.mono (fun _ _ e => e.elim))).trans (hm3.mono (fun b _ e => HNb.out b e))
    have HM3 := hid hM3; have hlt3 : ∀ b, TS B b -> b < wr.heap.size := fun b hb => HRel.out.here.tree.lt' hb
    have hb3 : w3.heap[wr.heap.size]? = some (.cells #[.string p1, .string p2] 32 (0, 0)) := (hm3.block _ (lth HZ1.out) (fun e => by have := hlt3 _ e; omega)).trans HZ1.out
    have y0 : w3.cell? ⟨wr.heap.size, 0, none⟩ = some (.string p1) := by rw [cell_of_row _ _ _ _ _ _ hb3]; rfl
    have y1 : w3.cell? ⟨wr.heap.size, 1, none⟩ = some (.string p2) := by rw [cell_of_row _ _ _ _ _ _ hb3]; rfl
    have hl3 : Lies w3 2 kcs la l := (HRel.out.lies.ext HMz.out).mod hm3 (fun _ b hb => HRel.out.apart b hb)
    have hasc := HRel.out.here.std.ti.1.asc; have hrc := (rapp_chgs [pcg (p1, p2)] l hasc).1; have HRp := hid (rapply_any (w := (w3.alloc (.cells #[.string p1, .string p2, .bool false] 73))) lc 1 (cs := [pcg (p1, p2)]) (hl3.ext ((Mod.refl _ _).alloc _)) (lies_new ccs_len (heap_alloc_new w3 _)) (by have := HRel.out.len; simp; omega))
    rw [hrc] at HRp; have HN : Hid (∀ (w4 : World) (la4 : Option Addr), Lies w4 2 kcs la4 (chgs [pcg (p1, p2)] l) -> (∀ b, blk la4 b -> blk la b \/ (w3.alloc (.cells #[.string p1, .string p2, .bool false] 73)).heap.size <= b) -> Mod (fun _ => False) (w3.alloc (.cells #[.string p1, .string p2, .bool false] 73)) w4 -> BRel w w4 B T' D' (k + 1002) (chgs [pcg (p1, p2)] l) N' (i + 1) la4 ps) := hid (fun w4 la4 q1 q2 q3 => by
     have hm4 : Mod (fun _ => False) w3 w4 := ((Mod.refl (fun _ => False) w3).alloc _).trans q3
     have hsz : wr.heap.size <= w3.heap.size := by have := hm3.size; have := HMz.out.size; omega
     refine ⟨HH3.out.ext hm4, q1, fun b hb e => ?_, fun b hb => ?_, HM3.out.trans (hm4.mono (fun _ _ e => e.elim)), by have := HRel.out.bud; omega, ?_, fun q hq => ?_⟩
     ·rcases q2 b hb with h | h
      ·exact HRel.out.apart b h e
      ·have := hlt3 b e; simp at h; omega
     ·rcases q2 b hb with h | h
      ·exact HRel.out.lo b h
      ·have := HM3.out.size; simp at h; omega
     ·have h5 := rapp_len [pcg (p1, p2)] l; rw [hrc] at h5; have := HRel.out.len; have e9 : (chgs [pcg (p1, p2)] l).length <= l.length + 1 := h5; omega
     ·rcases chg_sub (show q ∈ chg (pcg (p1, p2)) l from hq) with h | h
      ·exact HRel.out.from' q h
      ·unfold Cg.put pcg at h; simp at h
       rw [h]; exact List.mem_of_getElem? HX.out)
    clear h3 hm3 hM3 hlt3 hb3 hl3 hasc hrc; go_wp2_with (go_at_call 18; refine HRp.out.mono ?_; rintro e w4 ⟨la4, lc4, rfl, hl4, hb4, hm4⟩; have HL4 := hid hl4; have HB4 := hid hb4; have HM4 := hid hm4; clear hl4 hb4 hm4)
    have HN4 := hid (HN.out w4 la4 HL4.out HB4.out HM4.out); go_roundw
    case rel => exact ⟨i + 1, k + 1002, N', lc4, T', D', _, la4, rfl, by go_num, by omega, HN4.out⟩
    case measure => simp [intOf]; omega
   ·have dE : (E == 0) = false := by rw [beq_eq_false_iff_ne]; exact hE
    have HN4 := hid (HStay.out w3 h3 hm3); clear h3 hm3 hE; go_wp2_with fail
    go_roundw
    case rel => exact ⟨i + 1, k, N, lc, T, D, l, la, rfl, by go_num, by omega, HN4.out⟩
    case measure => simp [intOf]; omega
  ·have hie : i = n := by omega
   have d0 : decide ((i : Int) < (n : Int)) = false := by simp; omega
   have d1 : decide (i < n) = false := by simpa using hlt
   have HFn : Hid (BRel w wr B T D k l N 300 la ps) := hid ⟨HRel.out.here, HRel.out.lies, HRel.out.apart, HRel.out.lo, HRel.out.mod, by have := HRel.out.bud; omega, by have := HRel.out.len; omega, HRel.out.from'⟩
   clear hlt hie; go_wp2_with fail
   go_ret3
   exact ⟨d, B, T, D, k, l, N, la, lc, rfl, HFn.out, HNb.out⟩
end
section
open Go Go.RowKit
theorem less_snoc : ∀ a b : List UInt8, Op.bytesLess b (a ++ [0]) = !Op.bytesLess a b
 | [], [] => rfl
 | [], y :: b => by
  have h0 : ¬ y < 0 := by simp
  simp only [List.nil_append, Op.bytesLess, decide_eq_false h0, Bool.false_or, Bool.and_false, Bool.not_true]
 | x :: a, [] => rfl
 | x :: a, y :: b => by
  simp only [List.cons_append, Op.bytesLess, less_snoc a b]; by_cases h1 : x < y
  ·have h2 : ¬ y < x := by rw [UInt8.lt_iff_toNat_lt] at h1 ⊢; omega
   have h3 : (y == x) = false := by simp only [beq_eq_false_iff_ne]; rintro rfl; rw [UInt8.lt_iff_toNat_lt] at h1; omega
   simp [h1, h2, h3]
  ·by_cases h2 : y < x
   ·have h3 : (x == y) = false := by simp only [beq_eq_false_iff_ne]; rintro rfl; rw [UInt8.lt_iff_toNat_lt] at h2; omega
    simp [h1, h2, h3]
   ·have e : x = y := by apply UInt8.toNat_inj.1; rw [UInt8.lt_iff_toNat_lt] at h1 h2; omega
    subst e; simp
theorem toList_snoc (a z : ByteArray) : (a ++ z).toList = a.toList ++ z.toList := by
 rw [ByteArray.toList_eq, ByteArray.toList_eq, ByteArray.toList_eq, ByteArray.data_append, Array.toList_append]
theorem kl_snoc (a b : ByteArray) (z : ByteArray) (hz : z.toList = [0]) : kl b (a ++ z) = !kl a b := by
 unfold kl; rw [toList_snoc, hz, less_snoc]
theorem scan_rest {l L : List KV} {key k z : ByteArray} (hl : Asc l) (hL : L = l.filter (geK key)) {m : Nat} {v : ByteArray} (hm : L[m]? = some (k, v)) (hz : z.toList = [0]) : l.filter (geK (k ++ z)) = L.drop (m + 1) := by
 have hk : geK key (k, v) = true := (List.mem_filter.1 (hL ▸ List.mem_of_getElem? hm)).2; have hg : ∀ p : KV, geK (k ++ z) p = kl k p.1 := fun p => by unfold geK; rw [kl_snoc k p.1 z hz, Bool.not_not]
 have h1 : l.filter (geK (k ++ z)) = L.filter (geK (k ++ z)) := by
  rw [hL, List.filter_filter]; refine List.filter_congr fun p _ => ?_
  rw [hg]; cases e : kl k p.1 with
  | false => rfl
  | true =>
   have : geK key p = true := by
    unfold geK at hk ⊢; cases e2 : kl p.1 key with
    | false => rfl
    | true => rw [kl_trans e e2] at hk; cases hk
   rw [this]; rfl
 have hA : Asc L := hL ▸ asc_filter _ hl; obtain ⟨hlt, he⟩ := List.getElem?_eq_some_iff.1 hm; have hsp : L = L.take m ++ (k, v) :: L.drop (m + 1) := by rw [← he, List.getElem_cons_drop, List.take_append_drop]
 have hA' := hA; rw [hsp] at hA'; obtain ⟨_, a2, a3⟩ := asc_append.1 hA'; rw [h1]
 conv => lhs; rw [hsp]
 rw [List.filter_append, List.filter_cons, hg, kl_irrefl, List.filter_eq_nil_iff.2, List.filter_eq_self.2]
 ·simp
 ·intro p hp; rw [hg]; exact (List.pairwise_cons.1 a2).1 p hp
 ·intro p hp; rw [hg, kl_asymm (a3 p hp (k, v) List.mem_cons_self)]; simp
end
section
open Go Go.RowKit
theorem rscan_all (l : List KV) (key : ByteArray) {most : Int} (h : (l.length : Int) <= most) : rscan l key most = l.filter (geK key) := by
 unfold rscan; have := List.length_filter_le (geK key) l; exact List.take_of_length_le (by omega)
theorem rscan_part (l : List KV) (key : ByteArray) (m : Nat) : rscan l key (1 + (m : Int)) = (l.filter (geK key)).take (m + 1) := by
 unfold rscan; rw [show (1 + (m : Int)).toNat = m + 1 by omega]
theorem flat_cell1 (L : List KV) : ∀ u ∈ L.flatMap kcs, u.oneCell' = true := by
 intro u hu; obtain ⟨p, _, hp⟩ := List.mem_flatMap.1 hu; exact (show ∀ u ∈ kcs p, u.oneCell' = true by simp [kcs, Value.oneCell']) u hp
theorem own_some {w : World} {e : TypeId} {size : Nat} {a : Option Addr} {n c : Nat} {xs : List Value} (h : Own w e size a n c xs) (hn : 0 < n) : ∃ g off, a = some ⟨g, off, none⟩ := by
 rcases h.2.2.2 with ⟨_, h0⟩ | ⟨g, off, _, h0, _⟩
 ·have := h.2.1; omega
 ·exact ⟨g, off, h0⟩
set_option maxRecDepth 100000
set_option maxHeartbeats 4000000 in
theorem halves_walk (w : World) (a : Option Addr) (cap : Nat) (ps : List KV) (hp : Lies w 2 kcs a ps) (hcap : ps.length <= cap /\ cap <= maxLen) (hs : ∀ p ∈ ps, p.1.size <= maxLen /\ p.2.size <= maxLen) (key : ByteArray) (n : Int) :
  Calls Tryz.prog 3 #[.slice a ps.length cap, .string key, .int .i64 n] w fun e w' => e = .returned (.bool true) /\ Mod (fun _ => False) w w' := by
 have HB := hid (built_any cap hp hcap hs); clear hp hcap hs; go_enter Tryz.func3, Tryz.ntmps3
 go_upto_region 4 with (first
  | (go_at_call 8; refine HB.out.mono ?_; rintro e w1 ⟨d, B, T, D, k, l, N, la, lc, rfl, hbr, hnb⟩; have HBr := hid hbr; have HNb := hid hnb; clear hbr hnb)
  | (go_at_call 9; refine (wakes_any _).mono ?_; rintro e w2 ⟨rfl, hm2⟩; have HM2 := hid hm2; clear hm2))
 have HAsc := hid HBr.out.here.std.ti.1.asc; have HH2 := hid (HBr.out.here.ext HM2.out); have HMw := hid (HBr.out.mod.trans (HM2.out.mono (fun _ _ e => e.elim)))
 have hl3 : l.length <= 300 := HBr.out.len; obtain ⟨L, hL⟩ : ∃ L, L = l.filter (geK key) := ⟨_, rfl⟩; have hLl : L.length <= l.length := by rw [hL]; exact List.length_filter_le _ _
 have HL := hid hL; have s1 : IntKind.i64.wrap ((l.length : Int) + 1) = (l.length : Int) + 1 := by rw [IntKind.wrap_i64]; omega
 have HLn := hid (here_len HH2.out); have HS1 := hid (here_scan HH2.out key ((l.length : Int) + 1)); rw [rscan_all l key (by omega), ← hL] at HS1
 clear HB hL; go_upto_region 5 with (first
  | (go_at_call 11; refine HLn.out.mono ?_; rintro e w3 ⟨rfl, rfl⟩)
  | (go_at_call 10; refine HS1.out.mono ?_; rintro e w4 ⟨xa, xc, rfl, ho4, hb4, hm4⟩; have HO4 := hid ho4; have HM4 := hid hm4; clear ho4 hb4 hm4))
 by_cases h0 : L.length = 0
 ·have d0 : ((L.length : Int) == 0) = true := by rw [h0]; rfl
  have HFin := hid (HMw.out.trans (HM4.out.mono (fun _ _ e => e.elim)))
  go_wp2_with fail
  go_ret; exact ⟨by simp, HFin.out.mono (fun k hk e => by omega)⟩
 ·have d0 : ((L.length : Int) == 0) = false := beq_eq_false_iff_ne.2 (by omega)
  have d1 : ¬ (L.length : Int) = 0 := by omega
  obtain ⟨m, hm, hmL⟩ : ∃ m : Nat, (max 0 n).tmod (L.length : Int) = (m : Int) /\ m < L.length := by
   have h1 : 0 <= max 0 n := by omega
   rw [Int.tmod_eq_emod_of_nonneg h1]; have h2 := Int.emod_nonneg (max 0 n) (b := (L.length : Int)) (by omega)
   have h3 := Int.emod_lt_of_pos (max 0 n) (b := (L.length : Int)) (by omega)
   exact ⟨((max 0 n) % (L.length : Int)).toNat, by omega, by omega⟩
  have s2 : IntKind.i64.wrap (m : Int) = (m : Int) := by rw [IntKind.wrap_i64]; omega
  have s3 : IntKind.i64.wrap (1 + (m : Int)) = 1 + (m : Int) := by rw [IntKind.wrap_i64]; omega
  have hml : min (m + 1) L.length = m + 1 := by omega
  have HH4 := hid (HH2.out.ext HM4.out); have HS2 := hid (here_scan HH4.out key (1 + (m : Int))); rw [rscan_part l key m, ← HL.out] at HS2; obtain ⟨A, hA⟩ : ∃ A, A = L.take (m + 1) := ⟨_, rfl⟩; rw [← hA] at HS2; have hAl : A.length = m + 1 := by rw [hA, List.length_take]; omega
  have HA := hid hA; clear hA; go_upto_region 9 with (go_at_call 10; refine HS2.out.mono ?_; rintro e w5 ⟨ya, yc, rfl, ho5, hb5, hm5⟩; have HO5 := hid ho5; have HM5 := hid hm5; have HB5 := hid hb5; clear ho5 hb5 hm5)
  have d2 : ((m : Int) + 1 != 1 + (m : Int)) = false := by rw [bne_eq_false_iff_eq]; omega
  obtain ⟨⟨k, v⟩, hx⟩ : ∃ x, L[m]? = some x := ⟨_, List.getElem?_eq_getElem hmL⟩; have HX := hid hx; have hk0 : k.size <= 48 := (HBr.out.here.std.ti.1.ok _ (List.mem_filter.1 (HL.out ▸ List.mem_of_getElem? HX.out)).1).1.2; have hk1 : ¬ (9223372036854775807 < k.size + 1) := by omega
  have hk2 : ¬ (9223372036854775807 < k.size + (⟨#[0]⟩ : ByteArray).size) := hk1; clear hk0; have hAx : A[m]? = some (k, v) := by rw [HA.out, List.getElem?_take, if_pos (by omega)]; exact hx
  obtain ⟨g, off, rfl⟩ := own_some HO5.out (by omega)
  have q0 : w5.cell? ⟨g, off + m * 2, none⟩ = some (.string k) := by have := HO5.out.elem kcs_len hAx (j := 0) rfl; rw [Nat.add_zero] at this; exact this
  have g0 := fun y : Ext w5 => y.cell q0
  have HH5 := hid (HH4.out.ext HM5.out); have HLn5 := hid (fun y : Ext w5 => here_len (HH5.out.ext y.mod))
  have hz : (⟨#[0]⟩ : ByteArray).toList = [0] := by rw [ByteArray.toList_eq]
  obtain ⟨R, hR⟩ : ∃ R, R = L.drop (m + 1) := ⟨_, rfl⟩; have hr : rscan l (k ++ (⟨#[0]⟩ : ByteArray)) ((l.length : Int) + 1) = R := by rw [rscan_all l _ (by omega), scan_rest HAsc.out HL.out hx hz, hR]
  have HS3 := hid (fun y : Ext w5 => hr ▸ here_scan (HH5.out.ext y.mod) (k ++ (⟨#[0]⟩ : ByteArray)) ((l.length : Int) + 1))
  have hRl : R.length = L.length - (m + 1) := by rw [hR, List.length_drop]
  have HR := hid hR; have s4 : IntKind.i64.wrap (1 + (m : Int) - 1) = (m : Int) := by rw [IntKind.wrap_i64]; omega
  have hmA : m < A.length := by omega
  clear hR hr hz hx hAx q0 HS1 HS2 HLn; go_upto_region 11 with fail
  refine wp_region_ext_tail 11 (by kernel_rfl) (by kernel_rfl) ?_
  simp only [List.take_succ_cons, List.take_zero, List.drop_succ_cons, List.drop_zero]; repeat (go_big_quiet_step ((go_at_call 11; exact ext_same (HLn5.out _))))
  refine wpQuiet_nil ?_; rintro _ ⟨z, rfl⟩; have HZ := hid z.mod; have hlen : m + 1 + R.length = L.length := by omega
  have HLe := hid hlen; have d3 : ((m : Int) + 1 + (R.length : Int) != (L.length : Int)) = false := by rw [bne_eq_false_iff_eq]; omega
  have s5 : IntKind.i64.wrap ((m : Int) + 1 + (R.length : Int)) = (m : Int) + 1 + (R.length : Int) := by rw [IntKind.wrap_i64]; omega
  have HCat : Hid (A.flatMap kcs ++ R.flatMap kcs = L.flatMap kcs) := hid (by rw [← List.flatMap_append, HA.out, HR.out, List.take_append_drop])
  have HO5m : Hid (Own w5 32 2 (some ⟨g, off, none⟩) (m + 1) yc (A.flatMap kcs)) := hid (hAl ▸ HO5.out); obtain ⟨i0, hi, hz0, hz1, hz2⟩ := info_parts infoAP; have HI := hid hi; have HI0 := hid hz0; have HI1 := hid hz1; have HI2 := hid hz2; have hL3 : L.length <= 300 := by omega
  have HS3z := hid (HS3.out z); clear g0 HS3 HLn5 hRl hlen hi hz0 hz1 hz2 hl3 hLl; go_upto_region 15 with (first
   | (go_at_call 10; refine HS3z.out.mono ?_; rintro e w6 ⟨za, zc, rfl, ho6, hb6, hm6⟩; have HO6 := hid ho6; have HM6 := hid (HZ.out.trans hm6); clear ho6 hb6 hm6)
   | (at_builtin; refine wpList_append_Own rfl (.tmp 70) (.tmp 71) 22 rfl 32 i0 _ 2 32 Tryz.underlying22 HI.out HI0.out HI1.out HI2.out rfl (some ⟨g, off, none⟩) (m + 1) yc _ rfl (HO5m.out.mod HM6.out (fun _ _ e => e)) za R.length zc _ rfl HO6.out.src (flat_cell1 _) (by have := HLe.out; unfold maxLen; omega) (by have := HLe.out; omega) ?_; intro sa cs w7 hown7 hm7 hb7 hn7 hr7; rw [HCat.out, HLe.out] at hown7; rw [HLe.out]; have HO7 := hid hown7; have HM7 := hid hm7; clear hown7 hm7 hb7 hn7 hr7))
  have hne : ∀ b, blk xa b -> b ≠ g := fun b hb e => by
   have h1 := HO4.out.lt b hb; have h2 := HB5.out g (blk_some.2 rfl); omega
  have HO4w := hid (((HO4.out.mod HM5.out (fun _ _ e => e)).mod HM6.out (fun _ _ e => e)).mod HM7.out (fun b hb e => hne b hb (blk_some.1 e).symm))
  have HFin := hid ((((HMw.out.trans (HM4.out.mono (fun _ _ e => e.elim))).trans (HM5.out.mono (fun _ _ e => e.elim))).trans (HM6.out.mono (fun _ _ e => e.elim))).trans (HM7.out.mono (T := fun b => w.heap.size <= b) (fun b _ e => by have h2 := HB5.out b e; have h3 := HMw.out.size; have h4 := HM4.out.size; omega)))
  clear hne HO6 HO5 HO5m HLe HS3z HI HI0 HI1 HI2 HCat; go_loopw [74] (fun si wr => ∃ i : Nat, i <= L.length /\ si = .int .i64 (i : Int) /\ Mod (fun _ => False) w7 wr) (fun si _ => L.length - (intOf si).toNat)
  case atStart => exact ⟨0, Nat.zero_le _, rfl, Mod.refl _ _⟩
  case round =>
   obtain ⟨i, hil, rfl, hmr⟩ := hrel; have HMr := hid hmr; by_cases hlt : i < L.length
   ·have e0 : decide ((i : Int) < (L.length : Int)) = true := by simp; omega
    have e1 : decide (i < L.length) = true := by simpa using hlt
    have hdi : ¬ L.length <= i := by omega
    obtain ⟨⟨xk, xv⟩, hx⟩ : ∃ x, L[i]? = some x := ⟨_, List.getElem?_eq_getElem hlt⟩; obtain ⟨g1, o1, rfl⟩ := own_some HO7.out (by omega)
    obtain ⟨g2, o2, rfl⟩ := own_some HO4w.out (by omega)
    have q0 : wr.cell? ⟨g1, o1 + i * 2, none⟩ = some (.string xk) := by have := (HO7.out.mod hmr (fun _ _ e => e)).elem kcs_len hx (j := 0) rfl; rw [Nat.add_zero] at this; exact this
    have q1 := (HO7.out.mod hmr (fun _ _ e => e)).elem kcs_len hx (j := 1) rfl
    have r0 : wr.cell? ⟨g2, o2 + i * 2, none⟩ = some (.string xk) := by have := (HO4w.out.mod hmr (fun _ _ e => e)).elem kcs_len hx (j := 0) rfl; rw [Nat.add_zero] at this; exact this
    have r1 := (HO4w.out.mod hmr (fun _ _ e => e)).elem kcs_len hx (j := 1) rfl
    have dk : Op.bytesLess xk.toList key.toList = false := by
     have h := (List.mem_filter.1 (HL.out ▸ List.mem_of_getElem? hx)).2; unfold geK kl at h
     simpa using h
    have dv := beq_t (rfl : xv = xv); have du := beq_t (rfl : xk = xk); have HMa := hid ((Mod.refl (fun _ => False) wr).alloc (.cells #[.string xk, .string xv] 32))
    have hbx : (wr.alloc (.cells #[.string xk, .string xv] 32)).heap[wr.heap.size]? = some (.cells #[.string xk, .string xv] 32 (0, 0)) := heap_alloc_new _ _; have HBx := hid hbx; have HR0 := hid ((⟨_, HMa.out⟩ : Ext wr).cell r0); have HR1 := hid ((⟨_, HMa.out⟩ : Ext wr).cell r1); clear hmr hx hbx; go_upto_region 17 with fail
    generalize hV : wr.alloc (.cells #[.string xk, .string xv] 32) = V at *; have y0 : V.cell? ⟨wr.heap.size, 0, none⟩ = some (.string xk) := by rw [cell_of_row _ _ _ _ _ _ HBx.out]; rfl
    have y1 : V.cell? ⟨wr.heap.size, 1, none⟩ = some (.string xv) := by rw [cell_of_row _ _ _ _ _ _ HBx.out]; rfl
    have z0 := HR0.out; have z1 := HR1.out; go_quiet (fail)
    go_wp2_with fail
    go_roundw
    case rel => exact ⟨i + 1, by omega, by go_num, HMr.out.trans (HMa.out.trans ⟨rfl, rfl, rfl, Nat.le_refl _, fun _ _ _ => rfl⟩)⟩
    case measure => simp [intOf]; omega
   ·have hie : i = L.length := by omega
    subst hie; have e0 : decide ((L.length : Int) < (L.length : Int)) = false := by simp
    have e1 : decide (L.length < L.length) = false := by simp
    have HFn := hid (HFin.out.trans (HMr.out.mono (fun _ _ e => e.elim)))
    go_wp2_with fail
    go_ret; exact ⟨by simp, HFn.out.mono (fun k hk e => by omega)⟩
end
section
open Go Go.RowKit
theorem cellsStr : Tryz.prog.cellsOf 9 = 1 := by kernel_rfl
theorem wf_i64 {n : Int} (h : (Lit.int .i64 n).wf = true) : -9223372036854775808 <= n /\ n <= 9223372036854775807 := by
 simp only [Lit.wf, Bool.and_eq_true, decide_eq_true_eq] at h; have a1 : IntKind.min .i64 = -9223372036854775808 := rfl; have a2 : IntKind.max .i64 = 9223372036854775807 := rfl; rw [a1, a2] at h; exact h
section
variable {H : Type} {enc : TypeId × Value -> H} {w : World} {base : Nat} {spare : Nat -> Bool} {held : Bool}
end
end
section
open Go Go.RowKit
section
variable {H : Type} {enc : TypeId × Value -> H} {w : World} {base : Nat} {spare : Nat -> Bool} {held : Bool}
theorem reach_le : 140737488351232 <= maxLen := by unfold maxLen; decide
theorem cellsAp : Tryz.prog.cellsOf 32 = 2 := by kernel_rfl
theorem ap_fields : ∃ f0 f1 : Field, Tryz.prog.underlying 32 = some (.struct #[f0, f1]) /\ f0.offset = 0 /\ f0.type = 9 /\ f1.offset = 1 /\ f1.type = 9 := ⟨_, _, Tryz.underlying32, rfl, rfl, rfl, rfl⟩
theorem one_ap {n : Nat} {cs : List Value} {y : DataW H × List MemPlace} (h : DataW.trod enc Tryz.prog w base spare held n 32 cs = some y) (hfit : Fits Tryz.prog 32 y.1) : ∃ p : KV, cs = kcs p /\ (p.1.size <= maxLen /\ p.2.size <= maxLen) := by
 obtain ⟨f0, f1, hu, o0, t0, o1, t1⟩ := ap_fields; have hl := len_of_struct hu h; rw [cellsAp] at hl; obtain ⟨s0, hc0, hs0⟩ := field_text hu h hfit 0 f0 rfl (by rw [t0]; exact Tryz.underlying9) (by rw [t0]; exact cellsStr)
 obtain ⟨s1, hc1, hs1⟩ := field_text hu h hfit 1 f1 rfl (by rw [t1]; exact Tryz.underlying9) (by rw [t1]; exact cellsStr)
 rw [o0] at hc0; rw [o1] at hc1; refine ⟨(s0, s1), ?_, Nat.le_trans hs0 reach_le, Nat.le_trans hs1 reach_le⟩; apply List.ext_getElem?; intro j
 match j with
 | 0 => exact hc0
 | 1 => exact hc1
 | j + 2 => rw [List.getElem?_eq_none (by omega), List.getElem?_eq_none (by simp)]
set_option maxRecDepth 100000
theorem open_pairs {r : Reach} {b0 : Nat} {v : Value} {d : DataW H} {pl : List MemPlace} (hval : Value.okWide Tryz.prog w r b0 22 v) (hd : DataW.Trod enc Tryz.prog w base spare held 22 v d pl) (hfit : Fits Tryz.prog 22 d) :
  ∃ (a : Option Addr) (cap : Nat) (ps : List KV), v = .slice a ps.length cap /\ Lies w 2 kcs a ps /\ (ps.length <= cap /\ cap <= maxLen) /\ (∀ p ∈ ps, p.1.size <= maxLen /\ p.2.size <= maxLen) := by
 obtain ⟨a, len, cap, rfl⟩ := WideShapes.okWide_slice Tryz.underlying22 hval; obtain ⟨fuel, hf⟩ := hd; obtain ⟨a', cap', ls, e, l, q, c1, c2, _⟩ := open_deep (f := kcs) (Q := fun p => p.1.size <= maxLen /\ p.2.size <= maxLen) Tryz.underlying22 cellsAp (by decide) kcs_len (fun n cs y hy hfy => one_ap hy hfy) hf hfit
 simp only [Value.cells] at e; cases e
 exact ⟨a, cap, ls, rfl, l, ⟨c1, c2⟩, q⟩
end
end
end Go.Proofs.YtgbcibdfeeiilaaGreatDoor
