/- merged: TwK Drw -/
import Derived.Test.YtkinkgbmlhiakaaGreatDoorNd21
import Derived.Test.YtkinkgbmlhiakaaGreatDoorNd01
import Derived.Deep.RegionHeld3
namespace Go.Proofs.YtkinkgbmlhiakaaGreatDoor
section
open Go Go.RowKit
abbrev pcs (p : ByteArray × Int) : List Value := [.string p.1, .int .i64 p.2]
theorem qTg (p : ByteArray × Int) : (pcs p).length = 2 := rfl
theorem qRr {α : Type} {w : World} {f : α -> List Value} {g off : Nat} {ls : List α} (hf : ∀ x, (f x).length = 1) (h : Lies w 1 f (some ⟨g, off, none⟩) ls) (k : Nat) : Lies w 1 f (some ⟨g, off + k, none⟩) (ls.drop k) := by
 have e := jCt hf ls k; rw [Nat.mul_one] at e; refine ⟨⟨?_, fun h => (by cases h), fun a ha j u hu => ?_⟩, fun _ a ha => by cases ha; rfl, fun b hb hk => ?_⟩
 ·rw [qDo hf]
 ·cases ha
  rw [<- e, List.getElem?_drop] at hu; have := h.src.2.2 _ rfl (k + j) u hu; rw [Addr.add_lit] at this ⊢; rw [Nat.add_assoc]; exact this
 ·rw [List.length_drop] at hb; refine h.lt b (by omega) ?_
  rw [qAc] at hk ⊢; exact hk
theorem qRq {α : Type} {w : World} {f : α -> List Value} {a : Option Addr} {ls : List α} (hf : ∀ x, (f x).length = 1) (h : Lies w 1 f a ls) (k : Nat) : Lies w 1 f a (ls.take k) := by
 have e := qRy hf ls k; rw [Nat.mul_one] at e; refine ⟨⟨?_, fun ha => ?_, fun a' ha j u hu => ?_⟩, fun h0 => h.spot (by rw [List.length_take] at h0; omega), fun b hb hk => h.lt b (by rw [List.length_take] at hb; omega) hk⟩
 ·rw [qDo hf]
 ·have := h.src.2.1 ha; rw [List.length_take]; omega
 ·rw [<- e, List.getElem?_take] at hu; split at hu
  ·exact h.src.2.2 a' ha j u hu
  ·cases hu
theorem jBq {w : World} {g off cap : Nat} {s : Int} {rest : List Int} (h : Lies w 1 ics (some ⟨g, off, none⟩) (s :: rest)) (hc : rest.length + 1 <= cap) :
  Lies w 1 ics (if cap = 1 then some ⟨g, off, none⟩ else some ⟨g, off + 1, none⟩) rest /\ ∀ b, blk (if cap = 1 then some (⟨g, off, none⟩ : Addr) else some ⟨g, off + 1, none⟩) b -> b = g := by
 by_cases h1 : cap = 1
 ·rw [if_pos h1]; have : rest = [] := List.eq_nil_of_length_eq_zero (by omega)
  subst this; exact ⟨Lies.empty, fun b hb => by rw [qAc] at hb; exact hb.symm⟩
 ·rw [if_neg h1]; exact ⟨qRr (fun _ => rfl) h 1, fun b hb => by rw [qAc] at hb; exact hb.symm⟩
def qGi (S : Nat -> Prop) (w : World) (B : TB) (C : WB) (T : TM) (D : Dsk) (W' : WM) (ps : qBo) (e : Ending) (w' : World) : Prop :=
 ∃ pa pcap, e = .returned (.slice pa ps.length pcap) /\ Own w' 196 2 pa ps.length pcap (ps.flatMap pcs) /\ (∀ k, blk pa k -> w.heap.size <= k) /\ Ws S w' B C T D W' /\ Mod (WS C) w w'
theorem qOh {W : WM} {ss : List Int} {j : Nat} {x : Int} (h : ss[j]? = some x) : (ss.take (j + 1)).foldl WM.release W = ((ss.take j).foldl WM.release W).release x := by
 rw [List.take_add_one, h, List.foldl_append]; rfl
set_option maxRecDepth 100000
set_option maxHeartbeats 1000000 in
theorem jGo {S : Nat -> Prop} {w : World} {B : TB} {C : WB} {T : TM} {D : Dsk} {W : WM} (h : Ws S w B C T D W) {n : Nd} (hn : n.keys = []) {a : Option Addr} {ss : List Int} (cap : Nat) (hl : Lies w 1 ics a ss) (hb : ss.length <= 4194304) (hbs : ∀ k, blk a k -> ¬ WS C k) :
  Calls Tryz.prog 65 #[.pointer (some ⟨C.wb, 0, none⟩), .agg #[.bool n.leaf, .slice n.ka n.keys.length n.kc, .slice n.va n.values.length n.vc, .slice n.ia n.kids.length n.ic], .slice a ss.length cap] w fun e w' => qGi S w B C T D (ss.foldl WM.release W) [] e w' := by
 have hm : Mod (WS C) w (w.alloc (.cells #[.bool n.leaf, .slice n.ka n.keys.length n.kc, .slice n.va n.values.length n.vc, .slice n.ia n.kids.length n.ic] 123)) := (Mod.refl _ _).alloc _; rw [hn, List.length_nil] at hm ⊢; have H1 := hid (h.ext (w' := w.alloc (.cells #[.bool n.leaf, .slice n.ka 0 n.kc, .slice n.va n.values.length n.vc, .slice n.ia n.kids.length n.ic] 123)) ((Mod.refl _ _).alloc _)); have HL := hid hl; have HBs := hid hbs; have HM := hid hm; clear h hl hbs hm; go_enter Tryz.func65, Tryz.ntmps65
 go_wp2_with fail
 go_loopw [52] (fun sc wr => ∃ j : Nat, j <= ss.length /\ sc = .int .i64 (j : Int) /\ Ws S wr B C T D ((ss.take j).foldl WM.release W) /\ Mod (WS C) w wr) (fun sc _ => ss.length - (intOf sc).toNat)
 case atStart => exact ⟨0, Nat.zero_le _, rfl, H1.out, HM.out⟩
 case round =>
  obtain ⟨j, hj, rfl, hw, hmr⟩ := hrel; have HW := hid hw; have HMr := hid hmr; clear hw hmr; by_cases hlt : j < ss.length
  ·obtain ⟨x, hx⟩ : ∃ x, ss[j]? = some x := ⟨_, List.getElem?_eq_getElem hlt⟩; obtain ⟨g, off, rfl, hc⟩ := Lies.one (f := fun x => .int .i64 x) (HL.out.mod HMr.out (fun _ => HBs.out)) hx
   have HX := hid hx; clear hx; go_wp2_with (go_at_call 97; refine (qIc HW.out x).mono ?_; rintro e w2 ⟨rfl, hw2, hm2⟩; have HW2 := hid hw2; have HM2 := hid hm2; clear hw2 hm2)
   go_roundw
   case rel => exact ⟨j + 1, by omega, by go_num, by rw [qOh HX.out]; exact HW2.out, HMr.out.trans HM2.out⟩
   case measure => simp [intOf]; omega
  ·have hje : j = ss.length := by omega
   subst hje; go_wp2_with fail
   go_ret; rw [List.take_length] at HW; exact ⟨none, 0, rfl, Own.nil _ _ _, fun k hk => (qAj k hk).elim, HW.out, HMr.out⟩
theorem jGt : (Tryz.prog.info? 196).map (fun i => (i.zero, i.size, i.bytes)) = some (some (.agg #[.string ByteArray.empty, .int .i64 0]), 2, 24) := by kernel_rfl
theorem jMb (m : Nd) : m.cs.length = 4 := rfl
def jMf (w : World) (leaf : Bool) (xs : List (List Ent)) (e : Ending) (w' : World) : Prop :=
 Mod (fun _ => False) w w' /\ ∃ (g : Nat) (ms : List Nd), w.heap.size <= g /\ ms.length = xs.length /\ w'.heap[g]? = some (.cells (ms.flatMap Nd.cs).toArray 123 (0, 0)) /\ e = .returned (.slice (some ⟨g, 0, none⟩) xs.length xs.length) ∧
  ∀ (i : Nat) (m : Nd), ms[i]? = some m -> ∃ x, xs[i]? = some x /\ Has m leaf x /\ NdC w' m /\ ∀ b, m.bs b -> w.heap.size <= b /\ b < w'.heap.size
theorem qXq {w : World} {n : Nd} (h : NdAt w n) : Calls Tryz.prog 103 #[.agg #[.bool n.leaf, .slice n.ka n.keys.length n.kc, .slice n.va n.values.length n.vc, .slice n.ia n.kids.length n.ic]] w fun e w' => jMf w n.leaf (qEj n.leaf n.ents) e w' := by
 have hok := jCy h; have hlen : n.ents.length <= 4194304 := by rw [qDa]; exact h.bk
 refine (jAh h).mono ?_; rintro e w' ⟨hm, g, hg, ⟨m, h1, h2, h3, h4, h5, rfl⟩ | ⟨i, m, q, h1, h2, h3, h4, h5, h6, h7, h8, rfl⟩⟩
 ·have hs : qEj n.leaf n.ents = [n.ents] := by unfold qEj; rw [if_pos h1]
  rw [hs]; refine ⟨hm, g, [m], hg, rfl, by simpa using h5, rfl, fun i m' hi => ?_⟩
  cases i with
  | zero =>
   simp only [List.getElem?_cons_zero, Option.some.injEq] at hi; subst hi; exact ⟨n.ents, rfl, h2, h3.ndc (h2.ok h3 hlen hok), fun b hb => ⟨(h4 b hb).1, h3.lt hb⟩⟩
  | succ i => simp at hi
 ·have hs : qEj n.leaf n.ents = [n.ents.take i, n.ents.drop i] := by
   unfold qEj; rw [if_neg (by have := h1.big; have := h1.lo; have := h1.hi; omega), jDe ⟨h1.lo, h1.hi, h1.great, h1.small⟩]
  rw [hs]; refine ⟨hm, g, [m, q], hg, rfl, by simpa using h8, rfl, fun j m' hj => ?_⟩
  match j, hj with
  | 0, hj =>
   simp only [List.getElem?_cons_zero, Option.some.injEq] at hj; subst hj; exact ⟨_, rfl, h2, h4.ndc (h2.ok h4 (by rw [List.length_take]; omega) (fun x hx => hok x (List.mem_of_mem_take hx))), fun b hb => ⟨(h6 b hb).1, h4.lt hb⟩⟩
  | 1, hj =>
   simp only [List.getElem?_cons_succ, List.getElem?_cons_zero, Option.some.injEq] at hj; subst hj; exact ⟨_, rfl, h3, h5.ndc (h3.ok h5 (by rw [List.length_drop]; omega) (fun x hx => hok x (List.mem_of_mem_drop hx))), fun b hb => ⟨(h7 b hb).1, h5.lt hb⟩⟩
  | j + 2, hj => simp at hj
structure KR (S : Nat -> Prop) (V wr : World) (B : TB) (C : WB) (T : TM) (D : Dsk) (leaf : Bool) (xs : List (List Ent)) (W' : WM) (ps : qBo) (k : Nat) (sa : Option Addr) (rest : List Int) (cap : Nat) (pa : Option Addr) (pcap : Nat) (Wk : WM) (done more : qBo) : Prop where
 ws : Ws S wr B C T D Wk
 lies : Lies wr 1 ics sa rest
 lcap : rest.length <= cap /\ cap <= maxLen
 lb : 0 < rest.length -> ∀ b, blk sa b -> ¬ WS C b /\ b < V.heap.size
 out : Own wr 196 2 pa k pcap (done.flatMap pcs)
 dl : done.length = k
 ob : ∀ b, blk pa b -> V.heap.size <= b
 go : qBs T (jlen B.room D : Int) leaf (xs.drop k) rest Wk = some (W', more)
 eq : ps = done ++ more
 mod : Mod (fun b => WS C b \/ V.heap.size <= b) V wr
theorem qTo {T : TM} {L : Int} {leaf : Bool} {x : List Ent} {xs : List (List Ent)} {s : Int} {ss : List Int} {W W' : WM} {more : qBo} (h : qBs T L leaf (x :: xs) (s :: ss) W = some (W', more)) :
  qBg leaf x /\ ∃ more', qBs T L leaf xs ss (W.put s (leaf, x)) = some (W', more') /\ more = (fk x, s) :: more' := by
 unfold qBs at h; by_cases hg : qBg leaf x
 ·rw [qCr hg] at h; cases hk : qBs T L leaf xs ss (W.put s (leaf, x)) with
  | none => rw [hk] at h; cases h
  | some r =>
   rw [hk] at h; cases h
   exact ⟨hg, r.2, rfl, rfl⟩
 ·rw [qDx hg] at h; cases h
theorem qTn {T : TM} {L : Int} {leaf : Bool} {x : List Ent} {xs : List (List Ent)} {W W' : WM} {more : qBo} (h : qBs T L leaf (x :: xs) [] W = some (W', more)) :
  (qBg leaf x /\ W.next <= 1152921504606846975) /\ ∃ more', qBs T L leaf xs [] ((W.take T L).2.put (W.take T L).1 (leaf, x)) = some (W', more') /\ more = (fk x, (W.take T L).1) :: more' := by
 unfold qBs at h; by_cases hg : qBg leaf x /\ W.next <= 1152921504606846975
 ·rw [qCr hg] at h; cases hk : qBs T L leaf xs [] ((W.take T L).2.put (W.take T L).1 (leaf, x)) with
  | none => rw [hk] at h; cases h
  | some r =>
   rw [hk] at h; cases h
   exact ⟨hg, r.2, rfl, rfl⟩
 ·rw [qDx hg] at h; cases h
set_option maxHeartbeats 2000000 in
theorem jBy {S : Nat -> Prop} {w : World} {B : TB} {C : WB} {T : TM} {D : Dsk} {W : WM} (hS : ∀ k, S k -> k < w.heap.size) (h : Ws S w B C T D W) {n : Nd} {leaf : Bool} {es : List Ent} (hh : Has n leaf es) (hn : NdAt w n) (hcl : qFb leaf es) (hne : es ≠ []) {a : Option Addr} {ss : List Int} {cap : Nat} (hl : Lies w 1 ics a ss) (hcap : ss.length <= cap /\ cap <= maxLen) (hbs : ∀ k, blk a k -> ¬ WS C k)
  {W' : WM} {ps : qBo} (hk : qBs T (jlen B.room D : Int) leaf (qEj leaf es) ss W = some (W', ps)) :
  Calls Tryz.prog 65 #[.pointer (some ⟨C.wb, 0, none⟩), .agg #[.bool n.leaf, .slice n.ka n.keys.length n.kc, .slice n.va n.values.length n.vc, .slice n.ia n.kids.length n.ic], .slice a ss.length cap] w fun e w' => qGi S w B C T D W' ps e w' := by
 obtain rfl : n.leaf = leaf := hh.l; have hz : Mod (fun _ => False) w (w.alloc (.cells #[.bool n.leaf, .slice n.ka n.keys.length n.kc, .slice n.va n.values.length n.vc, .slice n.ia n.kids.length n.ic] 123)) := (Mod.refl _ _).alloc _
 have h1 := h.ext hz; have hpos : 0 < n.keys.length := by rw [hh.len_le.1]; exact List.length_pos_iff.2 hne
 have d0 : decide (0 < n.keys.length) = true := by simpa using hpos
 have HSp := hid (qXq (hn.ext hz)); rw [hh.ents hcl] at HSp; have HK := hid hk; have HL := hid (hl.ext hz); have HLw := hid hl; have HBs := hid hbs; have HCap := hid hcap; have H1 := hid h1; have HZ := hid hz; have hwsz : (w.alloc (.cells #[.bool n.leaf, .slice n.ka n.keys.length n.kc, .slice n.va n.values.length n.vc, .slice n.ia n.kids.length n.ic] 123)).heap.size = w.heap.size + 1 := by simp
 have HWsz := hid hwsz; have HWlt := hid (fun k (hk : MS B C k) => hS k (h.sub k hk))
 have HSub := hid h.sub; have HSl := hid hS; obtain ⟨i0, hi, hz0, hz1, hz2⟩ := info_parts jGt; have HMx : Hid ((qEj n.leaf es).length <= 2) := hid (by unfold qEj; split <;> simp)
 clear h hh hn hcl hne hl hcap hbs hk hz h1 hwsz hpos; go_enter Tryz.func65, Tryz.ntmps65
 go_wp2_with (go_at_call 103; refine HSp.out.mono ?_; rintro e V ⟨hmV, g, ms, hg, hml, hgc, rfl, hms⟩; have HMV := hid hmV; have HG := hid hg; have HMl := hid hml; have HGc := hid hgc; have HMs := hid hms; clear hmV hg hml hgc hms)
 generalize hN : V.heap.size = N at *; generalize hxs : qEj n.leaf es = xs at *; have hNw : w.heap.size + 1 <= N := by have := HMV.out.size; rw [HWsz.out, hN] at this; exact this
 have hV : Ws (fun k => S k \/ N <= k) V B C T D W := (H1.out.ext HMV.out).narrow (fun k hk e => e.resolve_right (by omega)) (fun k hk => .inl (H1.out.sub k hk))
 go_loopw [2, 7, 20] (fun sl out sc wr => ∃ (k : Nat) (sa : Option Addr) (rest : List Int) (cap' : Nat) (pa : Option Addr) (pcap : Nat) (Wk : WM) (done more : qBo), k <= xs.length /\ sl = .slice sa rest.length cap' /\ out = .slice pa k pcap /\ sc = .int .i64 (k : Int) /\ KR (fun k => S k \/ N <= k) V wr B C T D n.leaf xs W' ps k sa rest cap' pa pcap Wk done more) (fun _ _ sc _ => xs.length - (intOf sc).toNat)
 case atStart =>
  exact ⟨0, a, ss, cap, none, 0, W, [], ps, Nat.zero_le _, rfl, rfl, rfl, ⟨hV, HL.out.ext HMV.out, HCap.out, fun h0 b hb => ⟨HBs.out b hb, by have := HLw.out.lt b h0 hb; omega⟩, Own.nil _ _ _, rfl, fun b hb => (qAj b hb).elim, HK.out, rfl, Mod.refl _ _⟩⟩
 case round =>
  obtain ⟨k, sa, rest, cap', pa, pcap, Wk, done, more, hkx, rfl, rfl, rfl, hr⟩ := hrel; have HR := hid hr; clear hr; by_cases hlt : k < xs.length
  ·obtain ⟨m, hm⟩ : ∃ m, ms[k]? = some m := ⟨_, List.getElem?_eq_getElem (by rw [HMl.out]; exact hlt)⟩
   obtain ⟨x, hx, hmx, hmn, hmb⟩ := HMs.out k m hm; have hgN : g < N := by rw [<- hN]; exact lth HGc.out
   have hgW : ¬ (WS C g \/ N <= g) := fun e => by
    rcases e with e | e
    ·have := HWlt.out g (.inr e); have := HG.out; rw [HWsz.out] at this; omega
    ·omega
   have hgr : wr.heap[g]? = some (.cells (ms.flatMap Nd.cs).toArray 123 (0, 0)) := (HR.out.mod.block g (by rw [hN]; exact hgN) (by rw [hN]; exact hgW)).trans HGc.out
   have hcell : ∀ j u, j < 4 -> m.cs[j]? = some u -> wr.cell? ⟨g, k * 4 + j, none⟩ = some u := fun j u hj hu => by
    rw [cell_of_row _ _ _ _ _ _ hgr]; have := qJi (f := Nd.cs) (n := 4) jMb ms k j hj; rw [hm] at this
    simpa [hu] using this
   have c0 := hcell 0 _ (by omega) rfl
   have c1 := hcell 1 _ (by omega) rfl
   have c2 := hcell 2 _ (by omega) rfl
   have c3 := hcell 3 _ (by omega) rfl
   have HX := hid hx; have HMX := hid hmx; have HMN := hid hmn; have HMB := hid hmb; clear hm hx hmx hmn hmb hgr hcell; simp only [Nat.add_zero] at c0; have hmx2 := HMx.out; have hgo := HR.out.go; rw [List.drop_eq_getElem_cons hlt] at hgo; have hxk : xs[k] = x := by have := HX.out; rw [List.getElem?_eq_getElem hlt] at this; exact Option.some.inj this
   rw [hxk] at hgo; clear hxk; cases rest with
   | cons s rest =>
    obtain ⟨hgx, more', hgo', hmo⟩ := qTo hgo; obtain ⟨gs, os, rfl, hs0⟩ := Lies.one (f := fun x => .int .i64 x) HR.out.lies (i := 0) (x := s) rfl
    simp only [Nat.add_zero] at hs0; have d1 : decide (0 < (s :: rest).length) = true := by simp
    rw [List.length_cons] at d1; simp only [List.length_cons]; have HGx := hid hgx; have HGo := hid hgo'; have HMo := hid hmo; clear hgx hgo' hmo hgo; go_wp2_with fail
    have HZm : Hid (Mod (fun _ => False) wr (wr.alloc (.cells #[.bool m.leaf, .slice m.ka m.keys.length m.kc, .slice m.va m.values.length m.vc, .slice m.ia m.kids.length m.ic] 123))) := hid ((Mod.refl _ _).alloc _)
    have HBox : Hid ((wr.alloc (.cells #[.bool m.leaf, .slice m.ka m.keys.length m.kc, .slice m.va m.values.length m.vc, .slice m.ia m.kids.length m.ic] 123)).heap[wr.heap.size]? = some (.cells #[.bool m.leaf, .slice m.ka m.keys.length m.kc, .slice m.va m.values.length m.vc, .slice m.ia m.kids.length m.ic] 123 (0, 0))) := hid (heap_alloc_new _ _); generalize wr.alloc (.cells #[.bool m.leaf, .slice m.ka m.keys.length m.kc, .slice m.va m.values.length m.vc, .slice m.ia m.kids.length m.ic] 123) = Z at *; have hsz : Z.cell? ⟨gs, os, none⟩ = some (.int .i64 s) := (HZm.out.cell (p := ⟨gs, os, none⟩) (World.block_lt_of_cell? _ _ hs0) (fun e => e)).trans hs0
    have hsx : ∀ y : Ext Z, y.val.cell? ⟨gs, os, none⟩ = some (.int .i64 s) := fun y => y.cell hsz
    have hlc := HR.out.lcap; rw [List.length_cons] at hlc; obtain ⟨hlc1, hlc2⟩ := hlc; unfold maxLen at hlc2; refine qAm (by kernel_rfl) (by kernel_rfl) ?_
    repeat (go_big_quiet_step ((fail)))
    refine wpQuiet_nil ?_; rintro _ ⟨y, rfl⟩; have HMz : Hid (Mod (WS C) wr y.val) := hid ((HZm.out.trans y.mod).mono (fun _ _ e => e.elim))
    have HWz : Hid (Ws (fun k => S k \/ N <= k) y.val B C T D Wk) := hid (HR.out.ws.ext (HZm.out.trans y.mod))
    have HBy : Hid ((y.val).heap[wr.heap.size]? = some (.cells #[.bool m.leaf, .slice m.ka m.keys.length m.kc, .slice m.va m.values.length m.vc, .slice m.ia m.kids.length m.ic] 123 (0, 0))) := hid (y.heap HBox.out); have hlt2 := jBq HR.out.lies hlc1; generalize hsa : (if cap' = 1 then some (⟨gs, os, none⟩ : Addr) else some ⟨gs, os + 1, none⟩) = sa' at *
    have HLt := hid hlt2; clear hsz hsx c0 c1 c2 c3 hlt2 HZm HBox hs0; generalize y.val = Q at *; go_wp2_with fail
    obtain ⟨_, _, _, _, _, q5, _⟩ := HWz.out.cells; obtain ⟨r0, r1, r2, r3⟩ := cl4 HBy.out; have g5 := fun x : Ext Q => x.cell q5
    have t0 := fun x : Ext Q => x.cell r0
    have t1 := fun x : Ext Q => x.cell r1
    have t2 := fun x : Ext Q => x.cell r2
    have t3 := fun x : Ext Q => x.cell r3
    refine qAt 6 (by kernel_rfl) (by kernel_rfl) ?_
    simp only [List.take_succ_cons, List.take_zero, List.drop_succ_cons, List.drop_zero]; repeat (go_big_quiet_step ((fail)))
    refine wpQuiet_nil ?_; rintro _ ⟨z, rfl⟩; have hVQ : Mod (fun b => WS C b \/ N <= b) V z.val := (HR.out.mod.mono (fun k _ e => by rw [hN] at e; exact e)).trans (((HMz.out.mono (fun k _ e => .inl e)) : Mod (fun b => WS C b \/ N <= b) wr Q).trans (z.mod.mono (fun _ _ e => e.elim)))
    have hbm : ∀ b, m.bs b -> ¬ (WS C b \/ N <= b) := fun b hb e => by
     obtain ⟨e1, e2⟩ := HMB.out b hb; rw [HWsz.out] at e1; rcases e with e | e
     ·have := HWlt.out b (.inr e); omega
     ·omega
    have hnm : NdC z.val m := qBq (S := fun b => WS C b \/ N <= b) HMN.out hbm hVQ (fun _ e => e)
    have hsz2 := hVQ.size; rw [hN] at hsz2; have hws := HWz.out.ext z.mod; obtain ⟨ln, n1, n2, n3⟩ := id hws.work.nodes; obtain ⟨w2, hup, hat2, hm2⟩ := qBx (P := Tryz.prog) KI Tryz.underlying81 n1 s m.val; have hup' : (Instr.mapUpdate 81 (.map (some C.nb)) (.int .i64 s) (.agg #[.bool m.leaf, .slice m.ka m.keys.length m.kc, .slice m.va m.values.length m.vc, .slice m.ia m.kids.length m.ic])).run Tryz.prog z.val = .ok () w2 := hup; have hput := hws.setNodes hm2 (qBm.put n2 n3 (s := s) (n := (n.leaf, x)) (m := m) HGx.out HMX.out hnm (fun b hb => ⟨fun e => by
     obtain ⟨e1, e2⟩ := HMB.out b hb; rw [HWsz.out] at e1; rcases e with e | e
     ·have := HSl.out b e; omega
     ·omega, by have := (HMB.out b hb).2; omega⟩) (.inl (HSub.out _ (.inr (.inr (.inl rfl))))) hat2 hm2)
    have hm2' : Mod (fun b => WS C b \/ N <= b) V w2 := hVQ.trans (hm2.mono (fun k _ e => .inl (.inr (.inl e))))
    have hnm2 : NdC w2 m := qBq (S := fun b => WS C b \/ N <= b) HMN.out hbm hm2' (fun _ e => e)
    have hb2 : w2.heap[wr.heap.size]? = some (.cells #[.bool m.leaf, .slice m.ka m.keys.length m.kc, .slice m.va m.values.length m.vc, .slice m.ia m.kids.length m.ic] 123 (0, 0)) := (hm2.block _ (by have := lth HBy.out; have := z.mod.size; omega) (fun e => by have := HR.out.ws.nb_lt; omega)).trans (z.heap HBy.out)
    have hk0 : m.keys[0]? = some (fk x) := by
     rw [HMX.out.k]; cases x with
     | nil => exact absurd rfl HGx.out.ne
     | cons e r => rfl
    have hkl : m.keys.length ≠ 0 := by
     have := (List.getElem?_eq_some_iff.1 hk0).1; omega
    have dk : decide (0 < m.keys.length) = true := by simpa using Nat.pos_of_ne_zero hkl
    obtain ⟨gk, ok, hka, hkc⟩ := hnm2.nd.k.one hk0; obtain ⟨_, b1, _, _⟩ := cl4 hb2; rw [hka] at b1 hup'; simp only [Nat.add_zero] at hkc; have HPut := hid hput; have HM2 := hid hm2'; have HM2w : Hid (Mod (fun b => b = C.nb) z.val w2) := hid hm2
    have HOut : Hid (Own w2 196 2 pa k pcap (done.flatMap pcs)) := hid (HR.out.out.mod (S := fun b => WS C b) ((HMz.out.then (z.mod.mono (fun _ _ e => e.elim)) (fun _ _ e => e)).then (hm2.mono (fun k _ e => .inr (.inl e))) (fun _ _ e => e)) (fun b hb e => by have h1 := HR.out.ob b hb; have h2 := HWlt.out b (.inr e); have h3 : N = V.heap.size := hN.symm; omega))
    have HOA : Hid (∀ v, Own (w2.alloc (.cells #[.string (fk x), .int .i64 v] 196)) 196 2 pa k pcap (done.flatMap pcs)) := hid (fun v => HOut.out.mod (S := fun _ => False) ((Mod.refl _ _).alloc _) (fun _ _ e => e))
    have hsz3 : N <= w2.heap.size := by have := hm2'.size; omega
    clear hup hat2 hm2 hput hm2' hnm hnm2 hws n1 n2 n3 hb2 hk0 q5 r0 r1 r2 r3 g5 t0 t1 t2 t3 hbm hVQ; go_wp2_with (at_builtin; refine qAd rfl (.tmp 40) (.tmp 47) 162 rfl 196 i0 _ 2 24 Tryz.underlying162 hi hz0 hz1 hz2 rfl pa k pcap _ rfl (HOA.out _) (some ⟨w2.heap.size, 0, none⟩) 1 1 (pcs (fk x, s)) rfl (qAw (heap_alloc_new _ _) rfl) (by intro u hu; simp at hu; rcases hu with rfl | rfl <;> rfl) (by have := HMx.out; unfold maxLen; omega) (by have := HMx.out; omega) ?_; intro pa' pcap' w5 hown5 hm5 hb5 hn5 hr5; have HO5 := hid hown5; have HM5 := hid hm5; have HB5 := hid hb5; clear hown5 hm5 hb5 hn5 hr5)
    go_roundw
    case rel =>
     have hob : ∀ b, blk pa b -> N <= b := fun b hb => by have := HR.out.ob b hb; rw [hN] at this; exact this
     have hpriv : ∀ b, N <= b -> ¬ MS B C b := fun b hb e => by have := HWlt.out b e; omega
     have hal : Mod (fun b => N <= b) w2 (w2.alloc (.cells #[.string (fk x), .int .i64 s] 196)) := (Mod.refl _ _).alloc _
     have hm5 : Mod (fun b => N <= b) w2 w5 := hal.trans (HM5.out.mono (fun b _ hb => hob b hb))
     refine ⟨k + 1, sa', rest, cap' - 1, pa', pcap', Wk.put s (n.leaf, x), done ++ [(fk x, s)], more', by omega, rfl, rfl, by go_num, ⟨HPut.out.priv hm5 (fun b e => .inr e) hpriv, ?_, ?_, ?_, ?_, ?_, ?_, HGo.out, ?_, ?_⟩⟩
     ·refine HLt.out.1.mod (S := fun b => WS C b \/ N <= b) (((HMz.out.mono (fun _ _ e => .inl e)).trans ((z.mod.mono (fun _ _ e => e.elim)).trans (HM2w.out.mono (fun _ _ e => .inl (.inr (.inl e)))))).trans (hm5.mono (fun b _ e => .inr e))) (fun h0 b hb e => ?_)
      have h1 := HLt.out.2 b hb; have h2 := HR.out.lb (by simp) b (by rw [qAc]; exact h1.symm)
      rw [hN] at h2; rcases e with e | e
      ·exact h2.1 e
      ·omega
     ·exact ⟨by omega, by unfold maxLen; omega⟩
     ·intro h0 b hb; exact HR.out.lb (by simp) b (by rw [qAc]; exact (HLt.out.2 b hb).symm)
     ·rw [List.flatMap_append]; exact HO5.out
     ·rw [List.length_append, HR.out.dl]; rfl
     ·intro b hb; rw [hN]; rcases HB5.out b hb with h1 | h1
      ·exact hob b h1
      ·simp at h1; omega
     ·rw [HR.out.eq, HMo.out, List.append_assoc]; rfl
     ·rw [hN]; exact HM2.out.trans (hm5.mono (fun b _ e => .inr e))
    case measure => simp [intOf]; omega
   | nil =>
    obtain ⟨⟨hgx, hnx⟩, more', hgo', hmo⟩ := qTn hgo; have HGx := hid hgx; have HGo := hid hgo'; have HMo := hid hmo; have HNx := hid hnx; clear hgx hgo' hmo hgo hnx; have HZm : Hid (Mod (fun _ => False) wr (wr.alloc (.cells #[.bool m.leaf, .slice m.ka m.keys.length m.kc, .slice m.va m.values.length m.vc, .slice m.ia m.kids.length m.ic] 123))) := hid ((Mod.refl _ _).alloc _)
    have HBox : Hid ((wr.alloc (.cells #[.bool m.leaf, .slice m.ka m.keys.length m.kc, .slice m.va m.values.length m.vc, .slice m.ia m.kids.length m.ic] 123)).heap[wr.heap.size]? = some (.cells #[.bool m.leaf, .slice m.ka m.keys.length m.kc, .slice m.va m.values.length m.vc, .slice m.ia m.kids.length m.ic] 123 (0, 0))) := hid (heap_alloc_new _ _); have d1 : decide (0 < ([] : List Int).length) = false := by simp
    simp only [List.length_nil] at d1 ⊢; go_wp2_with (go_at_call 104; refine (jEw (HR.out.ws.ext HZm.out) HNx.out).mono ?_; rintro e Y ⟨rfl, hwy, hmy⟩; have HWY := hid hwy; have HMY := hid hmy; clear hwy hmy)
    have HMz : Hid (Mod (WS C) wr Y) := hid ((HZm.out.mono (fun _ _ e => e.elim)).trans HMY.out)
    have HWz : Hid (Ws (fun k => S k \/ N <= k) Y B C T D (Wk.take T (jlen B.room D : Int)).2) := HWY
    have HBy : Hid ((Y).heap[wr.heap.size]? = some (.cells #[.bool m.leaf, .slice m.ka m.keys.length m.kc, .slice m.va m.values.length m.vc, .slice m.ia m.kids.length m.ic] 123 (0, 0))) := hid ((HMY.out.block _ (lth HBox.out) (fun e => by have := HWlt.out _ (.inr e); have := HR.out.mod.size; rw [hN] at this; omega)).trans HBox.out)
    clear c0 c1 c2 c3 HWY; generalize Y = Q at *; obtain ⟨_, _, _, _, _, q5, _⟩ := HWz.out.cells; obtain ⟨r0, r1, r2, r3⟩ := cl4 HBy.out; have g5 := fun x : Ext Q => x.cell q5
    have t0 := fun x : Ext Q => x.cell r0
    have t1 := fun x : Ext Q => x.cell r1
    have t2 := fun x : Ext Q => x.cell r2
    have t3 := fun x : Ext Q => x.cell r3
    refine qAt 6 (by kernel_rfl) (by kernel_rfl) ?_
    simp only [List.take_succ_cons, List.take_zero, List.drop_succ_cons, List.drop_zero]; repeat (go_big_quiet_step ((fail)))
    refine wpQuiet_nil ?_; rintro _ ⟨z, rfl⟩; have hVQ : Mod (fun b => WS C b \/ N <= b) V z.val := (HR.out.mod.mono (fun k _ e => by rw [hN] at e; exact e)).trans (((HMz.out.mono (fun k _ e => .inl e)) : Mod (fun b => WS C b \/ N <= b) wr Q).trans (z.mod.mono (fun _ _ e => e.elim)))
    have hbm : ∀ b, m.bs b -> ¬ (WS C b \/ N <= b) := fun b hb e => by
     obtain ⟨e1, e2⟩ := HMB.out b hb; rw [HWsz.out] at e1; rcases e with e | e
     ·have := HWlt.out b (.inr e); omega
     ·omega
    have hnm : NdC z.val m := qBq (S := fun b => WS C b \/ N <= b) HMN.out hbm hVQ (fun _ e => e)
    have hsz2 := hVQ.size; rw [hN] at hsz2; have hws := HWz.out.ext z.mod; obtain ⟨ln, n1, n2, n3⟩ := id hws.work.nodes; obtain ⟨w2, hup, hat2, hm2⟩ := qBx (P := Tryz.prog) KI Tryz.underlying81 n1 (Wk.take T (jlen B.room D : Int)).1 m.val; have hup' : (Instr.mapUpdate 81 (.map (some C.nb)) (.int .i64 (Wk.take T (jlen B.room D : Int)).1) (.agg #[.bool m.leaf, .slice m.ka m.keys.length m.kc, .slice m.va m.values.length m.vc, .slice m.ia m.kids.length m.ic])).run Tryz.prog z.val = .ok () w2 := hup; have hput := hws.setNodes hm2 (qBm.put n2 n3 (s := (Wk.take T (jlen B.room D : Int)).1) (n := (n.leaf, x)) (m := m) HGx.out HMX.out hnm (fun b hb => ⟨fun e => by
     obtain ⟨e1, e2⟩ := HMB.out b hb; rw [HWsz.out] at e1; rcases e with e | e
     ·have := HSl.out b e; omega
     ·omega, by have := (HMB.out b hb).2; omega⟩) (.inl (HSub.out _ (.inr (.inr (.inl rfl))))) hat2 hm2)
    have hm2' : Mod (fun b => WS C b \/ N <= b) V w2 := hVQ.trans (hm2.mono (fun k _ e => .inl (.inr (.inl e))))
    have hnm2 : NdC w2 m := qBq (S := fun b => WS C b \/ N <= b) HMN.out hbm hm2' (fun _ e => e)
    have hb2 : w2.heap[wr.heap.size]? = some (.cells #[.bool m.leaf, .slice m.ka m.keys.length m.kc, .slice m.va m.values.length m.vc, .slice m.ia m.kids.length m.ic] 123 (0, 0)) := (hm2.block _ (by have := lth HBy.out; have := z.mod.size; omega) (fun e => by have := HR.out.ws.nb_lt; omega)).trans (z.heap HBy.out)
    have hk0 : m.keys[0]? = some (fk x) := by
     rw [HMX.out.k]; cases x with
     | nil => exact absurd rfl HGx.out.ne
     | cons e r => rfl
    have hkl : m.keys.length ≠ 0 := by
     have := (List.getElem?_eq_some_iff.1 hk0).1; omega
    have dk : decide (0 < m.keys.length) = true := by simpa using Nat.pos_of_ne_zero hkl
    obtain ⟨gk, ok, hka, hkc⟩ := hnm2.nd.k.one hk0; obtain ⟨_, b1, _, _⟩ := cl4 hb2; rw [hka] at b1 hup'; simp only [Nat.add_zero] at hkc; have HPut := hid hput; have HM2 := hid hm2'; have HM2w : Hid (Mod (fun b => b = C.nb) z.val w2) := hid hm2
    have HOut : Hid (Own w2 196 2 pa k pcap (done.flatMap pcs)) := hid (HR.out.out.mod (S := fun b => WS C b) ((HMz.out.then (z.mod.mono (fun _ _ e => e.elim)) (fun _ _ e => e)).then (hm2.mono (fun k _ e => .inr (.inl e))) (fun _ _ e => e)) (fun b hb e => by have h1 := HR.out.ob b hb; have h2 := HWlt.out b (.inr e); have h3 : N = V.heap.size := hN.symm; omega))
    have HOA : Hid (∀ v, Own (w2.alloc (.cells #[.string (fk x), .int .i64 v] 196)) 196 2 pa k pcap (done.flatMap pcs)) := hid (fun v => HOut.out.mod (S := fun _ => False) ((Mod.refl _ _).alloc _) (fun _ _ e => e))
    have hsz3 : N <= w2.heap.size := by have := hm2'.size; omega
    clear hup hat2 hm2 hput hm2' hnm hnm2 hws n1 n2 n3 hb2 hk0 q5 r0 r1 r2 r3 g5 t0 t1 t2 t3 hbm hVQ; go_wp2_with (at_builtin; refine qAd rfl (.tmp 40) (.tmp 47) 162 rfl 196 i0 _ 2 24 Tryz.underlying162 hi hz0 hz1 hz2 rfl pa k pcap _ rfl (HOA.out _) (some ⟨w2.heap.size, 0, none⟩) 1 1 (pcs (fk x, (Wk.take T (jlen B.room D : Int)).1)) rfl (qAw (heap_alloc_new _ _) rfl) (by intro u hu; simp at hu; rcases hu with rfl | rfl <;> rfl) (by have := HMx.out; unfold maxLen; omega) (by have := HMx.out; omega) ?_; intro pa' pcap' w5 hown5 hm5 hb5 hn5 hr5; have HO5 := hid hown5; have HM5 := hid hm5; have HB5 := hid hb5; clear hown5 hm5 hb5 hn5 hr5)
    go_roundw
    case rel =>
     have hob : ∀ b, blk pa b -> N <= b := fun b hb => by have := HR.out.ob b hb; rw [hN] at this; exact this
     have hpriv : ∀ b, N <= b -> ¬ MS B C b := fun b hb e => by have := HWlt.out b e; omega
     have hal : Mod (fun b => N <= b) w2 (w2.alloc (.cells #[.string (fk x), .int .i64 (Wk.take T (jlen B.room D : Int)).1] 196)) := (Mod.refl _ _).alloc _
     have hm5 : Mod (fun b => N <= b) w2 w5 := hal.trans (HM5.out.mono (fun b _ hb => hob b hb))
     refine ⟨k + 1, sa, [], cap', pa', pcap', (Wk.take T (jlen B.room D : Int)).2.put (Wk.take T (jlen B.room D : Int)).1 (n.leaf, x), done ++ [(fk x, (Wk.take T (jlen B.room D : Int)).1)], more', by omega, rfl, rfl, by go_num, ⟨HPut.out.priv hm5 (fun b e => .inr e) hpriv, ?_, ?_, ?_, ?_, ?_, ?_, HGo.out, ?_, ?_⟩⟩
     ·exact Lies.empty
     ·exact HR.out.lcap
     ·exact fun h0 => absurd h0 (by simp)
     ·rw [List.flatMap_append]; exact HO5.out
     ·rw [List.length_append, HR.out.dl]; rfl
     ·intro b hb; rw [hN]; rcases HB5.out b hb with h1 | h1
      ·exact hob b h1
      ·simp at h1; omega
     ·rw [HR.out.eq, HMo.out, List.append_assoc]; rfl
     ·rw [hN]; exact HM2.out.trans (hm5.mono (fun b _ e => .inr e))
    case measure => simp [intOf]; omega
  ·have hke : k = xs.length := by omega
   subst hke; have hgo := HR.out.go; rw [List.drop_length] at hgo; unfold qBs at hgo; simp only [Option.some.injEq, Prod.mk.injEq] at hgo; obtain ⟨hW', rfl⟩ := hgo; have HW' := hid hW'; have hrl := HR.out.lcap.1; have hrc := HR.out.lcap.2; unfold maxLen at hrc; clear hW'; go_wp2_with fail
   go_loopw [52] (fun sc w4 => ∃ j : Nat, j <= rest.length /\ sc = .int .i64 (j : Int) /\ Ws (fun k => S k \/ N <= k) w4 B C T D ((rest.take j).foldl WM.release Wk) /\ Mod (WS C) wr w4) (fun sc _ => rest.length - (intOf sc).toNat)
   case atStart => exact ⟨0, Nat.zero_le _, rfl, HR.out.ws, Mod.refl _ _⟩
   case round =>
    obtain ⟨j, hj, rfl, hw, hmr⟩ := hrel; have HW := hid hw; have HMr := hid hmr; clear hw hmr; by_cases hlt2 : j < rest.length
    ·obtain ⟨x, hx⟩ : ∃ x, rest[j]? = some x := ⟨_, List.getElem?_eq_getElem hlt2⟩; obtain ⟨gs, os, rfl, hc⟩ := Lies.one (f := fun x => .int .i64 x) (HR.out.lies.mod HMr.out (fun h0 b hb => (HR.out.lb h0 b hb).1)) hx
     have HX := hid hx; clear hx; go_wp2_with (go_at_call 97; refine (qIc HW.out x).mono ?_; rintro e w5 ⟨rfl, hw2, hm2⟩; have HW2 := hid hw2; have HM2 := hid hm2; clear hw2 hm2)
     go_roundw
     case rel => exact ⟨j + 1, by omega, by go_num, by rw [qOh HX.out]; exact HW2.out, HMr.out.trans HM2.out⟩
     case measure => simp [intOf]; omega
    ·have hje : j = rest.length := by omega
     subst hje; go_wp2_with fail
     go_ret; rw [List.take_length, HW'.out] at HW; have hps : ps = done := by rw [HR.out.eq, List.append_nil]
     have hdl : ps.length = xs.length := by rw [hps]; exact HR.out.dl
     have hmod : Mod (fun b => WS C b \/ N <= b) w _ := ((HZ.out.mono (fun _ _ e => e.elim)).trans (HMV.out.mono (fun _ _ e => e.elim))).then ((HR.out.mod.mono (fun b _ e => by rw [hN] at e; exact e)).trans (HMr.out.mono (fun _ _ e => .inl e))) (fun _ _ e => e)
     refine ⟨pa, pcap, by rw [hdl]; rfl, by rw [hdl, hps]; exact HR.out.out.mod HMr.out (fun b hb e => by have h1 := HR.out.ob b hb; have h2 := HWlt.out b (.inr e); rw [hN] at h1; omega), fun b hb => by have h1 := HR.out.ob b hb; rw [hN] at h1; omega, ?_, hmod.mono (fun b hb e => e.resolve_right (by omega))⟩
     exact HW.out.narrow (fun b _ e => .inl e) (fun b e => HSub.out b e)
theorem qFi {S : Nat -> Prop} {w : World} {B : TB} {C : WB} {T : TM} {D : Dsk} {W : WM} (hS : ∀ k, S k -> k < w.heap.size) (h : Ws S w B C T D W) {n : Nd} {leaf : Bool} {es : List Ent} (hh : Has n leaf es) (hn : NdAt w n) (hcl : qFb leaf es) {a : Option Addr} {ss : List Int} {cap : Nat} (hl : Lies w 1 ics a ss) (hcap : ss.length <= cap /\ cap <= maxLen) (hb : ss.length <= 4194304) (hbs : ∀ k, blk a k -> ¬ WS C k)
  {W' : WM} {ps : qBo} (hk : qCb T (jlen B.room D : Int) W leaf es ss = some (W', ps)) :
  Calls Tryz.prog 65 #[.pointer (some ⟨C.wb, 0, none⟩), .agg #[.bool n.leaf, .slice n.ka n.keys.length n.kc, .slice n.va n.values.length n.vc, .slice n.ia n.kids.length n.ic], .slice a ss.length cap] w fun e w' => qGi S w B C T D W' ps e w' := by
 unfold qCb at hk; by_cases hne : es = []
 ·rw [if_pos hne] at hk; unfold qBs at hk; simp only [Option.some.injEq, Prod.mk.injEq] at hk; obtain ⟨rfl, rfl⟩ := hk; exact jGo h (by rw [hh.k, hne]; rfl) cap hl hb hbs
 ·rw [if_neg hne] at hk; exact jBy hS h hh hn hcl hne hl hcap hbs hk
end
section
open Go Go.RowKit
section
variable {P : Program} {ops : Array Oper} {Q : Exit -> Act -> World -> Prop} {md : Region.Mode} {S : Array Bool -> World -> Prop}
def anyL (P : Program) (md : Region.Mode) (ops : Array Oper) (Q : Exit -> Act -> World -> Prop) (S : Array Bool -> World -> Prop) : Nat -> Array Bool -> Act -> World -> Prop
 | 0, l, a, w => Region.ready md ops l = [] /\ Q .normal a w
 | k + 1, l, a, w => (Region.ready md ops l = [] -> Q .normal a w) /\ ∀ i ∈ Region.ready md ops l, wpOp P ops Q i (fun a' w' => S (l.setIfInBounds i true) w' /\ anyL P md ops Q S k (l.setIfInBounds i true) a' w') a w
theorem qWw : ∀ (k : Nat) (l : Array Bool) (a : Act) (w : World), anyL P md ops Q S k l a w -> wpAny P md ops Q k l a w
 | 0, _, _, _, h => h
 | k + 1, _, _, _, h => ⟨h.1, fun i hi => wpOp_mono (fun a' w' h' => qWw k _ a' w' h'.2) (h.2 i hi)⟩
def qGa (md : Region.Mode) (ops : Array Oper) (l : Array Bool) : Prop := ∀ j o, ops[j]? = some o -> j < l.size -> l.getD j true = true -> ∀ e ∈ o.after, Region.binds md e = true -> l.getD e.on false = true
theorem qSd (n : Nat) : qGa md ops (Array.replicate n false) := fun j o _ hj hl => by
 rw [Array.size_replicate] at hj; simp [hj] at hl
theorem jCo {l : Array Bool} {j m : Nat} (h : l.getD m false = true) : (l.setIfInBounds j true).getD m false = true := by
 by_cases e : j = m
 ·subst e; by_cases hb : j < l.size
  ·simp [hb]
  ·simp [hb] at h
 ·rw [getD_set_ne false e]; exact h
theorem qGa.step {l : Array Bool} {j : Nat} (h : qGa md ops l) (hr : j ∈ Region.ready md ops l) : qGa md ops (l.setIfInBounds j true) := fun m o hm hml hl e he hb => by
 rw [Array.size_setIfInBounds] at hml; obtain ⟨_, oj, hoj, hall⟩ := mem_ready.1 hr; refine jCo ?_; by_cases hjm : j = m
 ·subst hjm; rw [hoj] at hm; cases hm
  exact hall e he hb
 ·rw [getD_set_ne true hjm] at hl; exact h m o hm hml hl e he hb
theorem qGa.later {l : Array Bool} {i j : Nat} {o : Oper} (h : qGa md ops l) (ho : ops[j]? = some o) (hj : j < l.size) (he : o.after.any (fun e => e.on == i && Region.binds md e) = true) (hi : l.getD i true = false) : l.getD j true = false := by
 cases hl : l.getD j true with
 | false => rfl
 | true =>
  obtain ⟨e, hem, hee⟩ := Array.any_eq_true'.1 he; rw [Bool.and_eq_true, beq_iff_eq] at hee; have h1 := h j o ho hj hl e hem hee.2; rw [hee.1] at h1; rcases Nat.lt_or_ge i l.size with hlt | hge
  ·simp [hlt] at hi h1
   rw [hi] at h1; cases h1
  ·simp [Array.getElem?_eq_none hge] at h1
def Till (md : Region.Mode) (ops : Array Oper) (S : Array Bool -> World -> Prop) (i : Nat) (w : World) : Prop := ∃ l : Array Bool, l.size = ops.size /\ l.getD i true = false /\ qGa md ops l /\ S l w
theorem qZb {i : Nat} {oi : Oper} {v : Value} (hi : ops[i]? = some oi) (hsel : ∀ (j : Nat) (o : Oper) cs b, ops[j]? = some o -> o.op ≠ .select cs b)
  (hQ : ∀ c a w, Q (.panic c) (a.put oi.dst v) w -> Q (.panic c) a w) (hsame : ∀ l w, S (l.setIfInBounds i true) w -> S l w) (hmono : ∀ l j w, S l w -> S (l.setIfInBounds j true) w) :
  ∀ (k : Nat) (l : Array Bool) (a : Act) (w : World),
   (∀ j oj, ops[j]? = some oj -> j ≠ i -> l.getD j true = false -> (∀ e ∈ oj.after, Region.binds md e = true -> e.on ≠ i) -> oi.apart ops oj = true) →
   i ∈ Region.ready md ops l -> YieldsIf P ops (Till md ops S i) oi v a -> l.size = ops.size -> qGa md ops l -> S l w -> anyL P md ops Q S k (l.setIfInBounds i true) (a.put oi.dst v) w -> anyL P md ops Q S (k + 1) l a w := by
 intro k; induction k with
 | zero =>
  intro l a w _ hr hy hz hC hS H; have hun := (mem_ready.1 hr).1; refine ⟨fun h => (by rw [h] at hr; cases hr), fun j hj => ?_⟩
  by_cases hji : j = i
  ·subst hji; exact hy.wpOp hi ⟨l, hz, hun, hC, hS⟩ ⟨hmono _ _ _ hS, H⟩
  ·have := ready_mono hj hji; rw [H.1] at this; cases this
 | succ k ih =>
  intro l a w hfree hr hy hz hC hS H; have hun := (mem_ready.1 hr).1; refine ⟨fun h => (by rw [h] at hr; cases hr), fun j hj => ?_⟩
  by_cases hji : j = i
  ·subst hji; exact hy.wpOp hi ⟨l, hz, hun, hC, hS⟩ ⟨hmono _ _ _ hS, H⟩
  ·have h1 := H.2 j (ready_mono hj hji); obtain ⟨hjun, oj, hoj, hall⟩ := mem_ready.1 hj; have hnot : ∀ e ∈ oj.after, Region.binds md e = true -> e.on ≠ i := fun e he hb heq => by
    have h2 := hall e he hb; rw [heq] at h2; rcases Nat.lt_or_ge i l.size with hlt | hge
    ·simp [hlt] at hun h2
     rw [hun] at h2; cases h2
    ·simp [Array.getElem?_eq_none hge] at h2
   have h2 := wpOp_putIf hoj (hfree j oj hoj hji hjun hnot) (fun cs b => hsel i oi cs b hi) (fun cs b => hsel j oj cs b hoj) hQ hy h1
   have hfree' : ∀ m om, ops[m]? = some om -> m ≠ i -> (l.setIfInBounds j true).getD m true = false -> (∀ e ∈ om.after, Region.binds md e = true -> e.on ≠ i) -> oi.apart ops om = true := fun m om hm hmi hum hno => by
    refine hfree m om hm hmi ?_ hno; by_cases hjm : j = m
    ·subst hjm; exact hjun
    ·rw [getD_set_ne true hjm] at hum; exact hum
   refine wpOp_mono (fun a' w' h3 => ?_) h2
   have hs3 : S (l.setIfInBounds j true) w' := hsame _ _ (by rw [Array.setIfInBounds_comm _ _ hji]; exact h3.2.1)
   refine ⟨hs3, ih (l.setIfInBounds j true) a' w' hfree' (ready_mono hr (Ne.symm hji)) h3.1 (by rw [Array.size_setIfInBounds]; exact hz) (hC.step hj) hs3 ?_⟩
   rw [Array.setIfInBounds_comm _ _ hji]; exact h3.2.2
theorem aTk {v : Value} {d : Nat} {k : Nat} {l : Array Bool} {a : Act} {w : World} (i : Nat) {oi : Oper} (hi : ops[i]? = some oi) (hd : oi.dst = some d) (hs : Region.noSelect ops = true) (hf : Region.free md ops l i = true) (hr : (Region.ready md ops l).contains i = true)
  (hQ : ∀ c a w, Q (.panic c) (a.put (some d) v) w -> Q (.panic c) a w) (hsame : ∀ l w, S (l.setIfInBounds i true) w -> S l w) (hmono : ∀ l j w, S l w -> S (l.setIfInBounds j true) w) (hy : YieldsIf P ops (Till md ops S i) oi v a) (hH : l.size = ops.size /\ qGa md ops l /\ S l w)
  (h : ((l.setIfInBounds i true).size = ops.size /\ qGa md ops (l.setIfInBounds i true) /\ S (l.setIfInBounds i true) w) -> anyL P md ops Q S k (l.setIfInBounds i true) (a.put (some d) v) w) : anyL P md ops Q S (k + 1) l a w := by
 have hr' : i ∈ Region.ready md ops l := by simpa using hr
 rw [<- hd] at h hQ; exact qZb hi (Region.noSelect_spec hs) hQ hsame hmono k l a w (Region.free_spec hi hf) hr' hy hH.1 hH.2.1 hH.2.2 (h ⟨by rw [Array.size_setIfInBounds]; exact hH.1, hH.2.1.step hr', hmono _ _ _ hH.2.2⟩)
def AllL (P : Program) (md : Region.Mode) (ops : Array Oper) (Q : Exit -> Act -> World -> Prop) (S : Array Bool -> World -> Prop) (k : Nat) (l : Array Bool) (a : Act) (w : World) (rs : List Nat) : Prop :=
 ∀ i ∈ rs, wpOp P ops Q i (fun a' w' => S (l.setIfInBounds i true) w' /\ anyL P md ops Q S k (l.setIfInBounds i true) a' w') a w
theorem AllL.nil {k : Nat} {l : Array Bool} {a : Act} {w : World} : AllL P md ops Q S k l a w [] := fun _ h => by cases h
theorem AllL.cons {k : Nat} {l : Array Bool} {a : Act} {w w0 : World} {i : Nat} {o : Oper} {rs : List Nat} (ho : ops[i]? = some o) (hr : (Region.ready md ops l).contains i = true) (hH : l.size = ops.size /\ qGa md ops l /\ S l w0)
  (h : ∀ K' : Act -> World -> Prop, Shut (∀ a w, S (l.setIfInBounds i true) w -> (((l.setIfInBounds i true).size = ops.size /\ qGa md ops (l.setIfInBounds i true) /\ S (l.setIfInBounds i true) w) -> anyL P md ops Q S k (l.setIfInBounds i true) a w) -> K' a w) -> if Region.wanted o (yielded ops a.tmps) = true then Oper.wp P o a w K' Q else K' (a.put o.dst undef) w)
  (hs : AllL P md ops Q S k l a w rs) : AllL P md ops Q S k l a w (i :: rs) := fun j hj => by
 rcases List.mem_cons.1 hj with rfl | hj
 ·exact wpOp_step ho (fun K' hK => h K' (fun a w hS hW => hK a w ⟨hS, hW ⟨by rw [Array.size_setIfInBounds]; exact hH.1, hH.2.1.step (by simpa using hr), hS⟩⟩))
 ·exact hs j hj
theorem aRd {rs : List Nat} {k : Nat} {l : Array Bool} {a : Act} {w : World} (hr : Region.ready md ops l = rs) (hne : rs ≠ []) (h : AllL P md ops Q S k l a w rs) : anyL P md ops Q S (k + 1) l a w :=
 ⟨fun h0 => absurd (hr ▸ h0) hne, hr ▸ h⟩
theorem qBc {l : Array Bool} {a : Act} {w : World} (hr : Region.ready md ops l = []) (h : Q .normal a w) : ∀ k, anyL P md ops Q S k l a w
 | 0 => ⟨hr, h⟩
 | _ + 1 => ⟨fun _ => h, by rw [hr]; simp⟩
theorem qBw {id : Nat} {a : Act} {w : World} (hm : P.follows .mixedOrders = true) (hS : S (Array.replicate ops.size false) w.drew)
  (h : ((Array.replicate ops.size false).size = ops.size /\ qGa .any ops (Array.replicate ops.size false) /\ S (Array.replicate ops.size false) w.drew) -> anyL P .any ops Q S ops.size (Array.replicate ops.size false) a w.drew) : (Code.region id ops true).wp P Q a w :=
 wp_region_any hm (qWw _ _ _ _ (h ⟨by simp, qSd _, hS⟩))
end
def qAa (i : Nat) (p : World -> Prop) (l : Array Bool) (w : World) : Prop := l.getD i true = false -> p w
theorem qAa.mono {i : Nat} {p : World -> Prop} {l : Array Bool} {w : World} (h : qAa i p l w) (j : Nat) : qAa i p (l.setIfInBounds j true) w := fun hu => by
 refine h ?_; by_cases e : j = i
 ·subst e; by_cases hb : j < l.size
  ·simp [hb] at hu
  ·exact absurd hu (by simp [hb])
 ·rw [getD_set_ne true e] at hu; exact hu
theorem qAa.same {i j : Nat} {p : World -> Prop} {l : Array Bool} {w : World} (hj : j ≠ i) (h : qAa i p (l.setIfInBounds j true) w) : qAa i p l w := fun hu => h (by rw [getD_set_ne true hj]; exact hu)
theorem qAa.set {i : Nat} {p : World -> Prop} {l : Array Bool} {w : World} (h : i < l.size) : qAa i p (l.setIfInBounds i true) w := fun hu => by
 simp [h] at hu
theorem qAa.all {i : Nat} {p : World -> Prop} {l : Array Bool} {w : World} (h : p w) : qAa i p l w := fun _ => h
end
end Go.Proofs.YtkinkgbmlhiakaaGreatDoor
