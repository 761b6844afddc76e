/- merged: TwD -/
import Derived.Test.YtkinkgbmlhiakaaGreatDoorNd25
import Derived.Test.YtkinkgbmlhiakaaGreatDoorNd09
namespace Go.Proofs.YtkinkgbmlhiakaaGreatDoor
section
open Go Go.RowKit
theorem qKk {T : TM} {L : Int} {leaf : Bool} : ∀ (xs : List (List Ent)) (ss : List Int) (W : WM) {W' : WM} {ps : qBo}, qBs T L leaf xs ss W = some (W', ps) -> ps.length = xs.length /\ ∀ p ∈ ps, p.1.size <= 48
 | [], ss, W, W', ps, h => by
  unfold qBs at h; cases h
  exact ⟨rfl, fun p hp => by cases hp⟩
 | x :: xs, [], W, W', ps, h => by
  unfold qBs at h; by_cases hg : qBg leaf x /\ W.next <= 1152921504606846975
  ·rw [qCr hg] at h; obtain ⟨r, hr, he⟩ := Option.map_eq_some_iff.1 h; cases he
   obtain ⟨h1, h2⟩ := qKk xs [] _ (W' := r.1) (ps := r.2) hr; refine ⟨by simp [h1], fun p hp => ?_⟩
   rcases List.mem_cons.1 hp with rfl | hp
   ·have hne := hg.1.ne; cases x with
    | nil => exact absurd rfl hne
    | cons e r => exact ((qCp.1 hg.1.keys).2 e.key List.mem_cons_self).2
   ·exact h2 p hp
  ·rw [qDx hg] at h; cases h
 | x :: xs, s :: ss, W, W', ps, h => by
  unfold qBs at h; by_cases hg : qBg leaf x
  ·rw [qCr hg] at h; obtain ⟨r, hr, he⟩ := Option.map_eq_some_iff.1 h; cases he
   obtain ⟨h1, h2⟩ := qKk xs ss _ (W' := r.1) (ps := r.2) hr; refine ⟨by simp [h1], fun p hp => ?_⟩
   rcases List.mem_cons.1 hp with rfl | hp
   ·have hne := hg.ne; cases x with
    | nil => exact absurd rfl hne
    | cons e r => exact ((qCp.1 hg.keys).2 e.key List.mem_cons_self).2
   ·exact h2 p hp
  ·rw [qDx hg] at h; cases h
theorem qBa {T : TM} {L : Int} {W : WM} {leaf : Bool} {es : List Ent} {ss : List Int} {W' : WM} {ps : qBo} (h : qCb T L W leaf es ss = some (W', ps)) : ps.length <= 2 /\ ∀ p ∈ ps, p.1.size <= 48 := by
 unfold qCb at h; obtain ⟨h1, h2⟩ := qKk _ _ _ h; refine ⟨?_, h2⟩; rw [h1]; by_cases he : es = []
 ·rw [if_pos he]; exact Nat.zero_le _
 ·rw [if_neg he]; unfold qEj; split <;> simp
theorem qTp {T : TM} {L : Int} {W : WM} {s : Int} {es : List Ent} {i : Nat} {W' : WM} {ps : qBo} (h : qMj T L W s es i = some (W', ps)) : ps.length <= 2 /\ ∀ p ∈ ps, p.1.size <= 48 := by
 unfold qMj at h; split at h
 ·split at h
  ·by_cases hx : ∃ x y : NP, x.1 = y.1
   ·rename_i l r _ _ _ _ x y _ _
    by_cases hg : x.1 = y.1
    ·rw [qCr hg] at h; obtain ⟨q, _, hq⟩ := Option.bind_eq_some_iff.1 h; exact qBa hq
    ·rw [qDx hg] at h; cases h
   ·exact absurd ⟨(true, []), (true, []), rfl⟩ hx
  ·cases h
 ·cases h
theorem qUg {T : TM} {L : Int} {W : WM} {s : Int} {es : List Ent} {i : Nat} {qs : qBo} {W' : WM} {ps : qBo} (h : qKw T L W s es i qs = some (W', ps)) : ps.length <= 2 /\ ∀ p ∈ ps, p.1.size <= 48 := by
 unfold qKw at h; split at h
 ·split at h
  ·split at h
   ·cases h
   ·split at h
    ·exact qTp h
    ·exact qBa h
  ·exact qBa h
 ·exact qBa h
theorem qGg {T : TM} {L : Int} {c : Cg} {f : Nat} {W : WM} {s : Int} {W' : WM} {ps : qBo} (hg : ∀ es, W.look T s = some (true, es) -> qBg true es) (h : qBr T L c f W s = some (W', ps)) : ps.length <= 2 /\ ∀ p ∈ ps, p.1.size <= 48 := by
 cases f with
 | zero => unfold qBr at h; cases h
 | succ f =>
  unfold qBr at h; split at h
  ·cases h
  ·rename_i es hl
   split at h
   ·cases h
    refine ⟨by simp, fun p hp => ?_⟩
    rw [List.mem_singleton] at hp; subst hp; have hge := hg es hl; cases es with
    | nil => exact absurd rfl hge.ne
    | cons e r => exact ((qCp.1 hge.keys).2 e.key List.mem_cons_self).2
   ·exact qBa h
  ·split at h
   ·cases h
   ·obtain ⟨r, _, hr⟩ := Option.bind_eq_some_iff.1 h; by_cases hgd : ∀ p ∈ r.2, 1 <= p.2 /\ p.2 <= 1152921504606846976
    ·rw [qCr hgd] at hr; exact qUg hr
    ·rw [qDx hgd] at hr; cases hr
theorem qPg {c : Cg} {es : List Ent} {i : Nat} {ok : Bool} (h : (∀ x ∈ es.take i, kl x.key c.key = true) /\ hasE c es = ok /\ (if ok then (∃ x, es[i]? = some x /\ x.key = c.key) /\ ∀ x ∈ es.drop (i + 1), kl c.key x.key = true else ∀ x ∈ es.drop i, kl c.key x.key = true)) (hi : i <= es.length) :
  qBv c.key es = if ok then i else i - 1 := by
 obtain ⟨h1, _, h3⟩ := h; have e1 : (es.take i).filter (fun x => !kl c.key x.key) = es.take i := qDq (fun x hx => by rw [qDw (h1 x hx)]; rfl)
 unfold qBv; cases ok with
 | true =>
  simp only [if_true] at h3 ⊢; obtain ⟨⟨x, hx, hk⟩, h4⟩ := h3; obtain ⟨hl, rfl⟩ := List.getElem?_eq_some_iff.1 hx; have e2 : es.filter (fun x => !kl c.key x.key) = es.take i ++ [es[i]] := by
   rw [show es.filter (fun x => !kl c.key x.key) = (es.take i ++ ([es[i]] ++ es.drop (i + 1))).filter (fun x => !kl c.key x.key) from by rw [show [es[i]] ++ es.drop (i + 1) = es.drop i from (List.drop_eq_getElem_cons hl).symm, List.take_append_drop]]
   rw [List.filter_append, List.filter_append, e1, qDq (l := [es[i]]) (fun y hy => by rw [List.mem_singleton] at hy; rw [hy, hk, qBz]; rfl), qBb (l := es.drop (i + 1)) (fun y hy => by rw [h4 y hy]; rfl), List.append_nil]
  rw [e2, List.length_append, List.length_take]; simp only [List.length_singleton]; omega
 | false =>
  simp only [Bool.false_eq_true, if_false] at h3 ⊢; have e2 : es.filter (fun x => !kl c.key x.key) = es.take i := by
   rw [show es.filter (fun x => !kl c.key x.key) = (es.take i ++ es.drop i).filter (fun x => !kl c.key x.key) from by rw [List.take_append_drop]]
   rw [List.filter_append, e1, qBb (l := es.drop i) (fun y hy => by rw [h3 y hy]; rfl), List.append_nil]
  rw [e2, List.length_take]; omega
theorem qIe {T : TM} {L : Int} {leaf : Bool} : ∀ (xs : List (List Ent)) (ss : List Int) (W : WM) {r : WM × qBo}, qBs T L leaf xs ss W = some r -> ∀ x ∈ xs, qBg leaf x
 | [], _, _, _, _ => fun x hx => by cases hx
 | x :: xs, [], W, r, h => by
  unfold qBs at h; by_cases hg : qBg leaf x /\ W.next <= 1152921504606846975
  ·rw [qCr hg] at h; obtain ⟨q, hq, _⟩ := Option.map_eq_some_iff.1 h; intro y hy; rcases List.mem_cons.1 hy with rfl | hy
   ·exact hg.1
   ·exact qIe xs [] _ hq y hy
  ·rw [qDx hg] at h; cases h
 | x :: xs, s :: ss, W, r, h => by
  unfold qBs at h; by_cases hg : qBg leaf x
  ·rw [qCr hg] at h; obtain ⟨q, hq, _⟩ := Option.map_eq_some_iff.1 h; intro y hy; rcases List.mem_cons.1 hy with rfl | hy
   ·exact hg
   ·exact qIe xs ss _ hq y hy
  ·rw [qDx hg] at h; cases h
theorem qOd {T : TM} {L : Int} {W : WM} {es : List Ent} {ss : List Int} {r : WM × qBo} (h : qCb T L W false es ss = some r) : ∀ x ∈ es, 1 <= x.kid /\ x.kid <= 1152921504606846976 := by
 unfold qCb at h; intro x hx; by_cases he : es = []
 ·subst he; cases hx
 ·rw [if_neg he] at h; have hg := qIe _ _ _ h; unfold qEj at hg; split at hg
  ·exact (hg es (List.mem_singleton.2 rfl)).kids rfl x hx
  ·rcases List.mem_append.1 (by rw [List.take_append_drop]; exact hx : x ∈ es.take (cutI false es) ++ es.drop (cutI false es)) with hx | hx
   ·exact (hg _ List.mem_cons_self).kids rfl x hx
   ·exact (hg _ (List.mem_cons_of_mem _ List.mem_cons_self)).kids rfl x hx
theorem qZa {T : TM} {L : Int} {W : WM} {s : Int} {es : List Ent} {i : Nat} {ps : qBo} (h : ¬ ps.length = 1) : qKw T L W s es i ps = qCb T L W false (qAy es i (i + 1) ps) [s] := by
 unfold qKw; split
 ·exact absurd rfl h
 ·rfl
theorem jHu {T : TM} {L : Int} {W : WM} {s : Int} {es : List Ent} {i : Nat} {p : ByteArray × Int} (h : ¬ 1 < (qAy es i (i + 1) [p]).length) : qKw T L W s es i [p] = qCb T L W false (qAy es i (i + 1) [p]) [s] := by
 unfold qKw; simp only; rw [if_neg h]
theorem jHt {T : TM} {L : Int} {W : WM} {s : Int} {es : List Ent} {i : Nat} {p : ByteArray × Int} {W' : WM} {ps : qBo} (h : 1 < (qAy es i (i + 1) [p]).length) (hk : qKw T L W s es i [p] = some (W', ps)) : ∃ n, W.look T p.2 = some n /\ ((¬ (qAo n.1 n.2).length < 300 /\ qCb T L W false (qAy es i (i + 1) [p]) [s] = some (W', ps)) \/ ((qAo n.1 n.2).length < 300 /\ qMj T L W s (qAy es i (i + 1) [p]) i = some (W', ps))) := by
 unfold qKw at hk; simp only at hk; rw [if_pos h] at hk; cases hn : W.look T p.2 with
 | none => rw [hn] at hk; cases hk
 | some n =>
  rw [hn] at hk; simp only at hk; by_cases hb : (qAo n.1 n.2).length < 300
  ·rw [if_pos hb] at hk; exact ⟨n, rfl, .inr ⟨hb, hk⟩⟩
  ·rw [if_neg hb] at hk; exact ⟨n, rfl, .inl ⟨hb, hk⟩⟩
theorem qYj {T : TM} {L : Int} {W : WM} {s : Int} {es : List Ent} {i : Nat} {W' : WM} {ps : qBo} (hk : qMj T L W s es i = some (W', ps)) : ∃ (l r : Ent) (x y : NP) (W2 : WM) (qs : qBo), es[i - 1]? = some l /\ es[i - 1 + 1]? = some r /\ W.look T l.kid = some x /\ W.look T r.kid = some y /\ x.1 = y.1 ∧
  qCb T L W x.1 (x.2 ++ y.2) [l.kid, r.kid] = some (W2, qs) /\ qCb T L W2 false (qAy es (i - 1) (i - 1 + 2) qs) [s] = some (W', ps) := by
 unfold qMj at hk; cases h1 : es[i - 1]? with
 | none => simp only [h1] at hk; cases hk
 | some l =>
  cases h2 : es[i - 1 + 1]? with
  | none => simp only [h1, h2] at hk; cases hk
  | some r =>
   simp only [h1, h2] at hk; cases h3 : W.look T l.kid with
   | none => simp only [h3] at hk; cases hk
   | some x =>
    cases h4 : W.look T r.kid with
    | none => simp only [h3, h4] at hk; cases hk
    | some y =>
     simp only [h3, h4] at hk; by_cases hg : x.1 = y.1
     ·rw [qCr hg] at hk; obtain ⟨⟨W2, qs⟩, q1, q2⟩ := Option.bind_eq_some_iff.1 hk; exact ⟨l, r, x, y, W2, qs, rfl, rfl, h3, h4, hg, q1, q2⟩
     ·rw [qDx hg] at hk; cases hk
theorem qFa {es : List Ent} (h : qFb false es) (a b : Nat) (ps : qBo) : qFb false (qAy es a b ps) := by
 unfold qAy; refine (h.take a).append (qFb.append (fun x hx => ?_) (h.drop b))
 obtain ⟨p, _, rfl⟩ := List.mem_map.1 hx; exact ⟨(fun h => by cases h), fun _ => rfl⟩
theorem qEx {S : Nat -> Prop} {w X : World} {B : TB} {C : WB} {T : TM} {D : Dsk} {W1 : WM} {m : Nd} {es : List Ent} {s : Int} {W' : WM} {ps : qBo} (hS : ∀ k, S k -> k < w.heap.size) (hX : Ws S X B C T D W1) (hm : Mod (WS C) w X) (hh : Has m false es) (hn : NdAt X m) (hcl : qFb false es) (hk : qCb T (jlen B.room D : Int) W1 false es [s] = some (W', ps)) :
  Calls Tryz.prog 65 #[.pointer (some ⟨C.wb, 0, none⟩), .agg #[.bool m.leaf, .slice m.ka m.keys.length m.kc, .slice m.va m.values.length m.vc, .slice m.ia m.kids.length m.ic], .slice (some ⟨X.heap.size, 0, none⟩) 1 1] (X.alloc (.cells #[.int .i64 s] 3)) fun e w' => qGi S w B C T D W' ps e w' := by
 have ha : Mod (fun _ => False) X (X.alloc (.cells #[.int .i64 s] 3)) := (Mod.refl _ _).alloc _
 have hl : Lies (X.alloc (.cells #[.int .i64 s] 3)) 1 ics (some ⟨X.heap.size, 0, none⟩) [s] := qEg (fun _ => rfl) (heap_alloc_new _ _)
 refine (qFi (n := m) (ss := [s]) (cap := 1) (fun k hk => by have h1 := hS k hk; have h2 := hm.size; have h3 := ha.size; omega) (hX.ext ha) hh (hn.ext ha) hcl hl ⟨Nat.le_refl _, by unfold maxLen; decide⟩ (by simp) (fun k hk hw => ?_) hk).mono ?_
 ·rw [qAc] at hk; have := hX.lt (.inr hw); omega
 ·rintro e w' ⟨pa, pcap, rfl, h1, h2, h3, h4⟩; have h5 := (hm.trans (ha.mono (fun _ _ e => e.elim)))
  refine ⟨pa, pcap, rfl, h1, fun k hk => ?_, h3, h5.trans h4⟩
  have := h2 k hk; have := h5.size; omega
set_option maxRecDepth 100000
set_option maxHeartbeats 4000000 in
theorem qUc {S : Nat -> Prop} {w : World} {B : TB} {C : WB} {T : TM} {D : Dsk} {W : WM} {c : Cg} (hc : CgOk c) (hS : ∀ k, S k -> k < w.heap.size) (h : Ws S w B C T D W) {s : Int} {es : List Ent} (hn : W.look T s = some (false, es)) {f : Nat} {W' : WM} {ps : qBo}
  (hk : qBr T (jlen B.room D : Int) c (f + 1) W s = some (W', ps))
  (ih : ∀ (S : Nat -> Prop) (v : World) (s' : Int) (W1 : WM) (ps1 : qBo), (∀ k, S k -> k < v.heap.size) -> Ws S v B C T D W -> qBr T (jlen B.room D : Int) c f W s' = some (W1, ps1) -> Calls Tryz.prog 64 #[.pointer (some ⟨C.wb, 0, none⟩), .int .i64 s', .agg #[.string c.key, .string c.value, .bool c.gone]] v fun e w' => qGi S v B C T D W1 ps1 e w') :
  Calls Tryz.prog 64 #[.pointer (some ⟨C.wb, 0, none⟩), .int .i64 s, .agg #[.string c.key, .string c.value, .bool c.gone]] w fun e w' => qGi S w B C T D W' ps e w' := by
 have HIh := hid ih; clear ih; have HGl := hid (fun (W : WM) (s : Int) (h : ∀ es, W.look T s = some (true, es) -> qBg true es) (W1 : WM) (ps1 : qBo) (hk : qBr T (jlen B.room D : Int) c f W s = some (W1, ps1)) => qGg h hk)
 obtain ⟨x, hx⟩ : ∃ x, es[qBv c.key es]? = some x := by
  cases hx : es[qBv c.key es]? with
  | some x => exact ⟨x, rfl⟩
  | none =>
   unfold qBr at hk; rw [hn] at hk; simp only [hx] at hk; cases hk
 rw [qLe hn hx] at hk; obtain ⟨⟨W1, ps1⟩, hk1, hk2⟩ := Option.bind_eq_some_iff.1 hk; have hgd : ∀ p ∈ ps1, 1 <= p.2 /\ p.2 <= 1152921504606846976 := by
  by_cases hgd : ∀ p ∈ ps1, 1 <= p.2 /\ p.2 <= 1152921504606846976
  ·exact hgd
  ·rw [qDx hgd] at hk2; cases hk2
 rw [qCr hgd] at hk2; have hg := qEz h hn; have hlen := hg.len; have hma : Mod (fun _ => False) w (w.alloc (.cells #[.string c.key, .string c.value, .bool c.gone] 113)) := (Mod.refl _ _).alloc _
 have HNd := hid (qEf (h.ext hma) hn); have HC0 : Hid ((w.alloc (.cells #[.string c.key, .string c.value, .bool c.gone] 113)).heap[w.heap.size]? = some (.cells #[.string c.key, .string c.value, .bool c.gone] 113 (0, 0))) := hid (heap_alloc_new _ _); have HMa := hid hma; have HW := hid h; have HSl := hid hS; have HG := hid hg; have HK1 := hid hk1; have HK2 := hid hk2; have HGd := hid hgd; have HX := hid hx; have HCk0 := hid hc; have HPl1 := hid (qGg (fun es h2 => qEz h h2) hk1)
 clear h hn hg hk hc hma hS hk1 hk2 hgd hx; go_enter Tryz.func64, Tryz.ntmps64
 go_upto_region 2 with (go_at_call 96; refine HNd.out.mono ?_; rintro e w1 ⟨m, rfl, hh1, hc1, hb1, hm1⟩; have HH := hid hh1; have HNC := hid hc1; have HBs := hid hb1; have HM1 := hid hm1; clear hh1 hc1 hb1 hm1; simp only [Nd.val])
 have HRi : Hid (qNc m.keys) := hid (by rw [HH.out.k]; exact qFv HG.out)
 have HBx : Hid ((w1.alloc (.cells #[.bool m.leaf, .slice m.ka m.keys.length m.kc, .slice m.va m.values.length m.vc, .slice m.ia m.kids.length m.ic] 123)).heap[w1.heap.size]? = some (.cells #[.bool m.leaf, .slice m.ka m.keys.length m.kc, .slice m.va m.values.length m.vc, .slice m.ia m.kids.length m.ic] 123 (0, 0))) := hid (heap_alloc_new _ _); have HM2 : Hid (Mod (fun _ => False) w1 (w1.alloc (.cells #[.bool m.leaf, .slice m.ka m.keys.length m.kc, .slice m.va m.values.length m.vc, .slice m.ia m.kids.length m.ic] 123))) := hid ((Mod.refl _ _).alloc _)
 have HPl := hid (qGq c.key (HNC.out.nd.ext HM2.out) HRi.out); generalize w1.alloc (.cells #[.bool m.leaf, .slice m.ka m.keys.length m.kc, .slice m.va m.values.length m.vc, .slice m.ia m.kids.length m.ic] 123) = Z at *; have hcz := (HM2.out.block _ (lth ((HM1.out.block _ (lth HC0.out) (fun e => e)).trans HC0.out)) (fun e => e)).trans ((HM1.out.block _ (lth HC0.out) (fun e => e)).trans HC0.out)
 have HCz := hid hcz; have k0 : Z.cell? ⟨w.heap.size, 0, none⟩ = some (.string c.key) := by rw [cell_of_row _ _ _ _ _ _ hcz]; rfl
 obtain ⟨x0, x1, x2, x3⟩ := cl4 HBx.out; clear hcz; go_upto_region 16 with (go_at_call 42; refine HPl.out.mono ?_; rintro e w3 ⟨⟨i, ok, hat, hok, rfl⟩, hm3⟩; have HAt := hid hat; have HOk := hid hok; have HM3 := hid hm3; have HMz := hid (HM2.out.trans hm3); have hb3 := (hm3.block _ (lth HBx.out) (fun e => e)).trans HBx.out; have HB3 := hid hb3; obtain ⟨y0, y1, y2, y3⟩ := cl4 hb3; rw [HH.out.l] at y0; obtain ⟨ii, hii⟩ : ∃ z : Int, (if ok = true then (i : Int) else ((i - 1 : Nat) : Int)) = z := ⟨_, rfl⟩; rw [hii]; have HIi := hid hii; clear hat hok hm3 hb3 x0 x1 x2 x3 hii)
 have HCw := hid ((HM3.out.block _ (lth HCz.out) (fun e => e)).trans HCz.out)
 have HCut := hid (qOr (c := c) (es := es) (i := i) (ok := ok) (by rw [<- HH.out.k]; exact HRi.out) (by rw [<- HH.out.k]; exact HAt.out) (by rw [<- HH.out.k]; exact HOk.out))
 have hil0 : i <= es.length := by have := HAt.out.le; rw [HH.out.k, List.length_map] at this; exact this
 have hpe := qPg HCut.out hil0; obtain ⟨j, hj⟩ : ∃ j, qBv c.key es = j := ⟨_, rfl⟩; rw [hj] at HX HK2 hpe; have hij : ii = (j : Int) := by rw [<- HIi.out, hpe]; cases ok <;> rfl
 subst hij; have hkl : m.kids.length = es.length := by rw [HH.out.i]; simp
 have hjl : j < es.length := (List.getElem?_eq_some_iff.1 HX.out).1; have hjm : j < m.kids.length := by omega
 have hdj : ¬ m.kids.length <= j := by omega
 have hgk : m.kids[j]? = some x.kid := by rw [HH.out.i]; simp only [Bool.false_eq_true, if_false]; rw [List.getElem?_map, HX.out]; rfl
 obtain ⟨gi, oi, hia, hkc⟩ := (HNC.out.nd.ext HMz.out).i.one hgk; have HKl := hid hkl; have HJl := hid hjl; have HLen := hid HG.out.len; rw [hia] at y3; obtain ⟨z0, z1, z2⟩ := qMs HCw.out; have HSub := hid (HW.out.sub); have HWb : Hid (Ws (fun k => S k \/ k = w1.heap.size) w B C T D W) := hid (HW.out.narrow (fun k hk e => e.resolve_right (by have := (HMa.out.trans HM1.out).size; omega)) (fun k hk => .inl (HSub.out k hk)))
 clear hil0 hpe hj hkl hgk
 have HS : Hid (∀ y, Mod (fun _ => False) w3 y -> y.cell? ⟨w1.heap.size, 3, none⟩ = some (.slice (some ⟨gi, oi, none⟩) m.kids.length m.ic) /\ y.cell? ⟨gi, oi + j, none⟩ = some (.int .i64 x.kid) /\ y.cell? ⟨w.heap.size, 0, none⟩ = some (.string c.key) /\ y.cell? ⟨w.heap.size, 1, none⟩ = some (.string c.value) /\ y.cell? ⟨w.heap.size, 2, none⟩ = some (.bool c.gone)) := hid (fun y hy => ⟨(hy.cell (World.block_lt_of_cell? _ _ y3) (fun h => h)).trans y3, (hy.cell (World.block_lt_of_cell? _ _ hkc) (fun h => h)).trans hkc, (hy.cell (World.block_lt_of_cell? _ _ z0) (fun h => h)).trans z0, (hy.cell (World.block_lt_of_cell? _ _ z1) (fun h => h)).trans z1, (hy.cell (World.block_lt_of_cell? _ _ z2) (fun h => h)).trans z2⟩)
 have HMyz : Hid (Mod (fun _ => False) w3 w3.drew) := hid (Mod.refl _ _).drew
 have HMy : Hid (Mod (fun _ => False) w w3.drew) := hid ((((HMa.out.trans HM1.out).trans HMz.out)).trans HMyz.out)
 have HB4 : Hid (w3.drew.heap[w1.heap.size]? = some (.cells #[.bool m.leaf, .slice m.ka m.keys.length m.kc, .slice m.va m.values.length m.vc, .slice m.ia m.kids.length m.ic] 123 (0, 0))) := hid (qAq HMyz.out HB3.out); clear y0 y1 y2 y3 hkc z0 z1 z2 k0; refine qBw (S := qAa 7 (fun y => y.cell? ⟨w1.heap.size, 3, none⟩ = some (.slice (some ⟨gi, oi, none⟩) m.kids.length m.ic) /\ y.cell? ⟨gi, oi + j, none⟩ = some (.int .i64 x.kid) /\ y.cell? ⟨w.heap.size, 0, none⟩ = some (.string c.key) /\ y.cell? ⟨w.heap.size, 1, none⟩ = some (.string c.value) /\ y.cell? ⟨w.heap.size, 2, none⟩ = some (.bool c.gone))) (by kernel_rfl) (qAa.all (HS.out _ HMyz.out)) (fun hHeld => ?_)
 generalize w3.drew = Y0 at *; refine aTk (v := .pointer (some ⟨C.wb, 0, none⟩)) (d := 120) 0 rfl rfl (by kernel_rfl) (by kernel_rfl) (by kernel_rfl) (fun _ _ _ h => h) (fun l w h => qAa.same (by decide) h) (fun l j w h => qAa.mono h j) (Or.inl ⟨by rfl, fun w' _ => by go_simp⟩) hHeld (fun hU => ?_)
 clear hHeld; have hHeld := hU; clear hU; simp only [Act.put, sTA, sC0, sC1]; refine aTk (v := .pointer (some ⟨w1.heap.size, 3, none⟩)) (d := 121) 1 rfl rfl (by kernel_rfl) (by kernel_rfl) (by kernel_rfl) (fun _ _ _ h => h) (fun l w h => qAa.same (by decide) h) (fun l j w h => qAa.mono h j) (Or.inl ⟨by rfl, fun w' _ => by go_simp⟩) hHeld (fun hU => ?_)
 clear hHeld; have hHeld := hU; clear hU; simp only [Act.put, sTA, sC0, sC1]
 refine aTk (v := .slice (some ⟨gi, oi, none⟩) m.kids.length m.ic) (d := 122) 2 rfl rfl (by kernel_rfl) (by kernel_rfl) (by kernel_rfl) (fun _ _ _ h => h) (fun l w h => qAa.same (by decide) h) (fun l j w h => qAa.mono h j) (Or.inl ⟨by rfl, fun w' hT => by (obtain ⟨l', hz', hu', hC', hS'⟩ := hT; obtain ⟨c1, c2, c3, c4, c5⟩ := hS' (hC'.later (i := 5) (j := 7) rfl (by rw [hz']; decide) (by kernel_rfl) (hC'.later (i := 4) (j := 5) rfl (by rw [hz']; decide) (by kernel_rfl) (hC'.later (i := 2) (j := 4) rfl (by rw [hz']; decide) (by kernel_rfl) hu'))); go_simp)⟩) hHeld (fun hU => ?_)
 clear hHeld; have hHeld := hU; clear hU; simp only [Act.put, sTA, sC0, sC1]; refine aTk (v := .int .i64 (j : Int)) (d := 123) 3 rfl rfl (by kernel_rfl) (by kernel_rfl) (by kernel_rfl) (fun _ _ _ h => h) (fun l w h => qAa.same (by decide) h) (fun l j w h => qAa.mono h j) (Or.inl ⟨by rfl, fun w' _ => by go_simp⟩) hHeld (fun hU => ?_)
 clear hHeld; have hHeld := hU; clear hU; simp only [Act.put, sTA, sC0, sC1]; refine aTk (v := .pointer (some ⟨gi, oi + j, none⟩)) (d := 124) 4 rfl rfl (by kernel_rfl) (by kernel_rfl) (by kernel_rfl) (fun _ _ _ h => h) (fun l w h => qAa.same (by decide) h) (fun l j w h => qAa.mono h j) (Or.inl ⟨by rfl, fun w' _ => by go_simp⟩) hHeld (fun hU => ?_)
 clear hHeld; have hHeld := hU; clear hU; simp only [Act.put, sTA, sC0, sC1]; refine aTk (v := .int .i64 x.kid) (d := 125) 5 rfl rfl (by kernel_rfl) (by kernel_rfl) (by kernel_rfl) (fun _ _ _ h => h) (fun l w h => qAa.same (by decide) h) (fun l j w h => qAa.mono h j) (Or.inl ⟨by rfl, fun w' hT => by (obtain ⟨l', hz', hu', hC', hS'⟩ := hT; obtain ⟨c1, c2, c3, c4, c5⟩ := hS' (hC'.later (i := 5) (j := 7) rfl (by rw [hz']; decide) (by kernel_rfl) hu'); go_simp)⟩) hHeld (fun hU => ?_)
 clear hHeld; have hHeld := hU; clear hU; simp only [Act.put, sTA, sC0, sC1]; refine aTk (v := .agg #[.string c.key, .string c.value, .bool c.gone]) (d := 126) 6 rfl rfl (by kernel_rfl) (by kernel_rfl) (by kernel_rfl) (fun _ _ _ h => h) (fun l w h => qAa.same (by decide) h) (fun l j w h => qAa.mono h j) (Or.inl ⟨by rfl, fun w' hT => by (obtain ⟨l', hz', hu', hC', hS'⟩ := hT; obtain ⟨c1, c2, c3, c4, c5⟩ := hS' (hC'.later (i := 6) (j := 7) rfl (by rw [hz']; decide) (by kernel_rfl) hu'); go_simp)⟩) hHeld (fun hU => ?_)
 clear hHeld; have hHeld := hU; clear hU; simp only [Act.put, sTA, sC0, sC1]; refine aRd (rs := [7]) (by kernel_rfl) (by simp) (AllL.cons rfl (by kernel_rfl) hHeld (fun K hK => ?_) AllL.nil)
 go_simp; refine (HIh.out (fun k => S k \/ k = w1.heap.size) Y0 x.kid W1 ps1 (fun k e => e.elim (fun e => by have h1 := HSl.out k e; have h2 := HMy.out.size; omega) (fun e => by rw [e]; exact lth HB4.out)) (HWb.out.ext HMy.out) HK1.out).mono ?_
 rintro e w5 ⟨pa, pcap, rfl, ho5, hb5, hw5, hm5⟩; have HO5 := hid ho5; have HP5 := hid hb5; have HW5 := hid hw5; have HM5 := hid hm5; clear ho5 hb5 hw5 hm5; refine hK.out _ _ (fun hu => absurd (show true = false from hu) (by decide)) (fun hU => ?_)
 clear hK K hHeld; have hHeld := hU; clear hU; try simp only [Act.put, sTA, sC0, sC1]
 refine aTk (v := .slice pa ps1.length pcap) (d := 11) 8 rfl rfl (by kernel_rfl) (by kernel_rfl) (by kernel_rfl) (fun _ _ _ h => h) (fun l w h => qAa.same (by decide) h) (fun l j w h => qAa.mono h j) (Or.inl ⟨by rfl, fun w' _ => by go_simp⟩) hHeld (fun hU => ?_)
 clear hHeld; have hHeld := hU; clear hU; simp only [Act.put, sTA, sC0, sC1]; refine qBc (by kernel_rfl) ?_ _
 clear hHeld; have hsz := HMy.out.size; have HB5 : Hid (w5.heap[w1.heap.size]? = some (.cells #[.bool m.leaf, .slice m.ka m.keys.length m.kc, .slice m.va m.values.length m.vc, .slice m.ia m.kids.length m.ic] 123 (0, 0))) := hid ((HM5.out.block _ (lth HB4.out) (fun e => by have h1 := HW.out.lt (.inr e); have h2 := (HMa.out.trans HM1.out).size; omega)).trans HB4.out)
 have HN5 : Hid (NdC w5 m) := hid (qBq (S := WS C) ((HNC.out.ext HMz.out).ext HMyz.out) (fun k hk e => (HBs.out k hk).1 (HSub.out k (.inr e))) HM5.out (fun _ e => e))
 clear hsz hia; obtain ⟨b0, b1, b2, b3⟩ := cl4 HB5.out; have s1 : IntKind.i64.wrap ((j : Int) + 1) = (j : Int) + 1 := by rw [IntKind.wrap_i64]; have := HJl.out; have := HLen.out; omega
 have HInn := hid (qFu (w := w5) (n := m) (es := es) HH.out HN5.out j (j + 1) (by have := HJl.out; omega) (by have := HJl.out; omega) (pcap := pcap) HO5.out.lies (by have := HPl1.out.1; omega) (by have := HLen.out; omega) (fun p hp => by have h1 := HPl1.out.2 p hp; have h2 := HGd.out p hp; omega) (fun y hy => by have := HG.out.values y hy; omega) (fun e => by have := HJl.out; rw [e] at this; exact absurd this (Nat.not_lt_zero _)))
 clear hjl hdj hjm; go_upto_region 18 with (go_at_call 95; refine HInn.out.mono ?_; rintro e w6 ⟨m6, rfl, hh6, hn6, hb6, hm6⟩; have HH6 := hid hh6; have HN6 := hid hn6; have HBs6 := hid hb6; have HM6 := hid hm6; have hb6' := (hm6.block _ (lth HB5.out) (fun e => e)).trans HB5.out; have HB6 := hid hb6'; clear b0 b1 b2 b3; obtain ⟨b0, b1, b2, b3⟩ := cl4 hb6'; have f0 := frozen_of_row _ _ 0 _ _ hb6'; have f1 := frozen_of_row _ _ 1 _ _ hb6'; have f2 := frozen_of_row _ _ 2 _ _ hb6'; have f3 := frozen_of_row _ _ 3 _ _ hb6'; clear hh6 hn6 hb6 hm6 hb6'; simp only [Nd.val])
 have hx7 := qDk HB6.out (.bool m6.leaf) (.slice m6.ka m6.keys.length m6.kc) (.slice m6.va m6.values.length m6.vc) (.slice m6.ia m6.kids.length m6.ic); have hm7 : Mod (fun k => k = w1.heap.size) w6 ((((w6.setCell ⟨w1.heap.size, 0, none⟩ (.bool m6.leaf)).setCell ⟨w1.heap.size, 1, none⟩ (.slice m6.ka m6.keys.length m6.kc)).setCell ⟨w1.heap.size, 2, none⟩ (.slice m6.va m6.values.length m6.vc)).setCell ⟨w1.heap.size, 3, none⟩ (.slice m6.ia m6.kids.length m6.ic)) := qBl (S := fun k => k = w1.heap.size) (Mod.refl _ _) (fun _ => rfl) _ _ _ _
 have HN7 := hid (qBq (S := fun k => k = w1.heap.size) HN6.out (fun k hk e => by have h1 := HBs6.out k hk; have h2 := lth HB5.out; omega) hm7 (fun _ e => e))
 clear b0 b1 b2 b3 f0 f1 f2 f3 s1; generalize (((w6.setCell ⟨w1.heap.size, 0, none⟩ (.bool m6.leaf)).setCell ⟨w1.heap.size, 1, none⟩ (.slice m6.ka m6.keys.length m6.kc)).setCell ⟨w1.heap.size, 2, none⟩ (.slice m6.va m6.values.length m6.vc)).setCell ⟨w1.heap.size, 3, none⟩ (.slice m6.ia m6.kids.length m6.ic) = w7 at *; have HX7 := hid hx7; have HM67 := hid hm7; have HBn : Hid (∀ k, MS B C k -> k ≠ w1.heap.size) := hid (fun k hk e => by have h1 := HW.out.lt hk; have h2 := (HMa.out.trans HM1.out).size; omega)
 have HW7 : Hid (Ws (fun k => S k \/ k = w1.heap.size) w7 B C T D W1) := hid ((HW5.out.ext HM6.out).priv hm7 (fun k e => .inr e) (fun k e hk => HBn.out k hk e))
 have HM7 : Hid (Mod (fun k => WS C k) w w7) := hid ((((HMy.out.mono (fun _ _ e => e.elim)).trans HM5.out).trans (HM6.out.mono (fun _ _ e => e.elim))).then hm7 (fun k hk e => by have := (HMa.out.trans HM1.out).size; omega))
 have HS7 : Hid (∀ k, S k \/ k = w1.heap.size -> k < w7.heap.size) := hid (fun k e => e.elim (fun e => by have h1 := HSl.out k e; have h2 := HM7.out.size; omega) (fun e => by rw [e]; exact lth HX7.out))
 have HWs7 : Hid (Ws S w7 B C T D W1) := hid (HW7.out.narrow (fun k _ e => .inl e) (fun k e => HSub.out k e))
 have HCl7 := hid (qFa HG.out.clean j (j + 1) ps1); have HAt7 := hid HN7.out.nd; have hkl7 : m6.kids.length = (qAy es j (j + 1) ps1).length := by rw [HH6.out.i]; simp
 have HKl7 := hid hkl7; clear hx7 hm7 hkl7; by_cases hl1 : ps1.length = 1
 ·obtain ⟨p, hp⟩ : ∃ p, ps1 = [p] := List.length_eq_one_iff.1 hl1; subst hp; clear hl1; by_cases hl2 : 1 < (qAy es j (j + 1) [p]).length
  ·obtain ⟨n, hln, hcase⟩ := jHt hl2 HK2.out; have hk7 : 1 < m6.kids.length := by rw [HKl7.out]; exact hl2
   have HL2 := hid hl2; have HLn := hid hln; have HCase := hid hcase; have hpo := HO5.out; obtain ⟨gp, op, rfl⟩ : ∃ gp op, pa = some ⟨gp, op, none⟩ := hpo.any.resolve_left (fun e => by have h2 : 1 <= pcap := hpo.2.1; have h3 : pcap = 0 := e.2; omega)
   have hp7 : w7.cell? ⟨gp, op + 1, none⟩ = some (.int .i64 p.2) := by
    have h1 := hpo.cell 1 (by simp)
    have h1 : w5.cell? ⟨gp, op + 1, none⟩ = some (.int .i64 p.2) := h1; rw [<- h1, <- HM6.out.cell (World.block_lt_of_cell? _ _ h1) (fun e => e)]
    exact HM67.out.cell (Nat.lt_of_lt_of_le (World.block_lt_of_cell? _ _ h1) HM6.out.size) (fun e => by have h2 := HP5.out gp (qAc.2 rfl); have h3 := lth HB4.out; have e : gp = w1.heap.size := e; omega)
   have HNo := hid (qEf HWs7.out hln); have HGn := hid (qEz HWs7.out hln); obtain ⟨N, hN⟩ : ∃ N, (qAo n.1 n.2).length = N := ⟨_, rfl⟩; have HNn := hid hN; obtain ⟨b0, b1, b2, b3⟩ := cl4 HX7.out; clear hl2 hln hcase hpo; by_cases hlow : N < 300
   ·have HJ := hid (qYj ((HCase.out.resolve_left (fun e => e.1 (by rw [HNn.out]; exact hlow))).2))
    clear hN; go_upto_region 19 with (first | (go_at_call 96; refine HNo.out.mono ?_; rintro e w8 ⟨m8, rfl, hh8, hn8, hb8, hm8⟩; have HM8 := hid hm8; have hwt := qHe hn8.nd; rw [hh8.ents HGn.out.clean, hh8.l, HNn.out] at hwt; have hll := hh8.l; have HWt := hid hwt; clear hh8 hn8 hb8 hm8 hwt; simp only [Nd.val]; rw [hll]; clear hll) | (go_at_call 101; refine HWt.out.mono ?_; rintro e w8' ⟨rfl, hm8'⟩; have HM8' := hid hm8'; clear hm8'))
    have HMw8 := hid (HM8.out.trans HM8'.out); obtain ⟨l, r, nx, ny, W2, qs, hl, hr, hlx, hry, hxy, hk1, hk2⟩ := HJ.out; obtain ⟨a, ha⟩ : ∃ a, j - 1 = a := ⟨_, rfl⟩; rw [ha] at hl hr hk2; have s2 : IntKind.i64.wrap ((j : Int) - 1) = (j : Int) - 1 := by rw [IntKind.wrap_i64]; have := HJl.out; have := HLen.out; omega
    have hmx : max (0 : Int) ((j : Int) - 1) = (a : Int) := by omega
    have hal : a + 1 < (qAy es j (j + 1) [p]).length := (List.getElem?_eq_some_iff.1 hr).1; have HAl := hid hal; have HLx := hid hlx; have HRy := hid hry; have HXy := hid hxy; have HK3 := hid hk1; have HK4 := hid hk2; have hgl : m6.kids[a]? = some l.kid := by rw [HH6.out.i]; simp only [Bool.false_eq_true, if_false]; rw [List.getElem?_map, hl]; rfl
    have hgr : m6.kids[a + 1]? = some r.kid := by rw [HH6.out.i]; simp only [Bool.false_eq_true, if_false]; rw [List.getElem?_map, hr]; rfl
    have hm6k := (HAt7.out.ext HMw8.out).i; obtain ⟨gk, ok6, hka, hkl⟩ := hm6k.one hgl; obtain ⟨gk', ok6', hka', hkr⟩ := hm6k.one hgr; rw [hka] at hka'; obtain ⟨rfl, rfl⟩ : gk' = gk /\ ok6' = ok6 := by cases hka'; exact ⟨rfl, rfl⟩
    clear b0 b1 b2 b3 hp7 hka' hm6k hgl hgr hk1 hk2 hlx hry hxy hl hr ha; go_upto_region 20 with fail
    obtain ⟨b0, b1, b2, b3⟩ := cl4 (qAq HMw8.out HX7.out); rw [hka] at b3; have g3 := fun x : Ext w8' => x.cell b3
    have gl := fun x : Ext w8' => x.cell hkl
    have gr := fun x : Ext w8' => x.cell hkr
    have hk8 : a + 1 < m6.kids.length := by rw [HKl7.out]; exact hal
    have hda : ¬ m6.kids.length <= a := by omega
    have hdb : ¬ m6.kids.length <= a + 1 := by omega
    have hia : (0 : Int) <= (a : Int) := by omega
    have hib : (a : Int) < (m6.kids.length : Int) := by omega
    have hic : (a : Int) + 1 < (m6.kids.length : Int) := by omega
    have hab : a <= 1048576 := by have := HJl.out; have := HLen.out; omega
    have s3 : IntKind.i64.wrap ((a : Int) + 1) = (a : Int) + 1 := by rw [IntKind.wrap_i64]; omega
    have s4 : IntKind.i64.wrap ((a : Int) + 2) = (a : Int) + 2 := by rw [IntKind.wrap_i64]; omega
    clear b0 b1 b2 b3 hkl hkr s2 hmx; refine qAm (by kernel_rfl) (by kernel_rfl) ?_
    repeat (go_big_quiet_step (fail))
    refine wpQuiet_nil ?_; rintro _ ⟨y8, rfl⟩; have HMy8 := hid (HMw8.out.trans y8.mod); clear g3 gl gr hka; generalize y8.val = Y8 at *; clear y8; go_upto_region 21 with fail
    have HGl := hid (qEz HWs7.out HLx.out); have HGr := hid (show qBg nx.1 ny.2 from by rw [HXy.out]; exact qEz HWs7.out HRy.out)
    have HXc : Hid (qFb nx.1 (nx.2 ++ ny.2)) := hid (HGl.out.clean.append HGr.out.clean); have HQs : Hid (∀ q ∈ qs, 1 <= q.2 /\ q.2 <= 1152921504606846976) := hid (fun q hq => by
     have h1 := qOd HK4.out (qNk q) (by unfold qAy; exact List.mem_append_right _ (List.mem_append_left _ (List.mem_map_of_mem hq)))
     exact h1)
    have HV7 : Hid (∀ y ∈ qAy es j (j + 1) [p], y.value.size = 0) := hid (fun y hy => by rw [(HCl7.out y hy).2 rfl]; rfl)
    have HIl : Hid ((qAy es j (j + 1) [p]).length <= 1000) := hid (by have h1 := HLen.out; unfold qAy; simp only [List.length_append, List.length_take, List.length_drop, List.length_map, List.length_singleton]; omega)
    have HM5s : Hid (w.heap.size <= w5.heap.size) := hid (by have h1 := HMy.out.size; have h2 := HM5.out.size; omega)
    have HMy9 : Hid (Mod (fun _ => False) w7 Y8.drew) := hid (HMy8.out.drew)
    have HM79 : Hid (Mod (fun k => WS C k) w Y8.drew) := hid (HM7.out.trans (HMy9.out.mono (fun _ _ e => e.elim)))
    have HBk0 : Hid (∀ y, Mod (WS C) Y8.drew y -> y.heap[w1.heap.size]? = some (.cells #[.bool m6.leaf, .slice m6.ka m6.keys.length m6.kc, .slice m6.va m6.values.length m6.vc, .slice m6.ia m6.kids.length m6.ic] 123 (0, 0))) := hid (fun y hy => by
     have h0 := qAq HMy9.out HX7.out; exact (hy.block _ (lth h0) (fun e => HBn.out _ (.inr e) rfl)).trans h0)
    refine qBw (S := qAa 17 (fun y => y.cell? ⟨w1.heap.size, 0, none⟩ = some (.bool m6.leaf) /\ y.cell? ⟨w1.heap.size, 1, none⟩ = some (.slice m6.ka m6.keys.length m6.kc) /\ y.cell? ⟨w1.heap.size, 2, none⟩ = some (.slice m6.va m6.values.length m6.vc) /\ y.cell? ⟨w1.heap.size, 3, none⟩ = some (.slice m6.ia m6.kids.length m6.ic))) (by kernel_rfl) (qAa.all (cl4 (HBk0.out _ (Mod.refl _ _)))) (fun hHeld => ?_)
    clear HBk0; generalize Y8.drew = Y9 at *; have HBk : Hid (∀ y, Mod (WS C) Y9 y -> y.heap[w1.heap.size]? = some (.cells #[.bool m6.leaf, .slice m6.ka m6.keys.length m6.kc, .slice m6.va m6.values.length m6.vc, .slice m6.ia m6.kids.length m6.ic] 123 (0, 0))) := hid (fun y hy => by
     have h0 := qAq HMy9.out HX7.out; exact (hy.block _ (lth h0) (fun e => HBn.out _ (.inr e) rfl)).trans h0)
    have HS : Hid (∀ y, Mod (WS C) Y9 y -> y.cell? ⟨w1.heap.size, 0, none⟩ = some (.bool m6.leaf) /\ y.cell? ⟨w1.heap.size, 1, none⟩ = some (.slice m6.ka m6.keys.length m6.kc) /\ y.cell? ⟨w1.heap.size, 2, none⟩ = some (.slice m6.va m6.values.length m6.vc) /\ y.cell? ⟨w1.heap.size, 3, none⟩ = some (.slice m6.ia m6.kids.length m6.ic)) := hid (fun y hy => cl4 (HBk.out y hy))
    have HP0 : Hid (Mod (WS C) Y9 Y9) := hid (Mod.refl _ _); have HW0 := hid (HW7.out.ext HMy9.out); have HN60 := hid (HN7.out.ext HMy9.out); clear hda hdb hia hib hic s3 hk8
    refine aTk (v := .agg #[.bool m6.leaf, .slice m6.ka m6.keys.length m6.kc, .slice m6.va m6.values.length m6.vc, .slice m6.ia m6.kids.length m6.ic]) (d := 167) 0 rfl rfl (by kernel_rfl) (by kernel_rfl) (by kernel_rfl) (fun _ _ _ h => h) (fun l w h => qAa.same (by decide) h) (fun l j w h => qAa.mono h j) (Or.inl ⟨by rfl, fun w' hT => by (obtain ⟨l', hz', hu', hC', hS'⟩ := hT; obtain ⟨c1, c2, c3, c4⟩ := hS' (hC'.later (i := 0) (j := 17) rfl (by rw [hz']; decide) (by kernel_rfl) hu'); go_simp)⟩) hHeld (fun hU => ?_)
    clear hHeld; have hHeld := hU; clear hU; simp only [Act.put, sTA, sC0, sC1]; refine aTk (v := .int .i64 (a : Int)) (d := 168) 1 rfl rfl (by kernel_rfl) (by kernel_rfl) (by kernel_rfl) (fun _ _ _ h => h) (fun l w h => qAa.same (by decide) h) (fun l j w h => qAa.mono h j) (Or.inl ⟨by rfl, fun w' _ => by go_simp⟩) hHeld (fun hU => ?_)
    clear hHeld; have hHeld := hU; clear hU; simp only [Act.put, sTA, sC0, sC1]; refine aTk (v := .int .i64 (a : Int)) (d := 169) 2 rfl rfl (by kernel_rfl) (by kernel_rfl) (by kernel_rfl) (fun _ _ _ h => h) (fun l w h => qAa.same (by decide) h) (fun l j w h => qAa.mono h j) (Or.inl ⟨by rfl, fun w' _ => by go_simp⟩) hHeld (fun hU => ?_)
    clear hHeld; have hHeld := hU; clear hU; simp only [Act.put, sTA, sC0, sC1]; refine aTk (v := .int .i64 ((a : Int) + 2)) (d := 170) 3 rfl rfl (by kernel_rfl) (by kernel_rfl) (by kernel_rfl) (fun _ _ _ h => h) (fun l w h => qAa.same (by decide) h) (fun l j w h => qAa.mono h j) (Or.inl ⟨by rfl, fun w' _ => by go_simp⟩) hHeld (fun hU => ?_)
    clear hHeld; have hHeld := hU; clear hU; simp only [Act.put, sTA, sC0, sC1]; refine aTk (v := .pointer (some ⟨C.wb, 0, none⟩)) (d := 171) 4 rfl rfl (by kernel_rfl) (by kernel_rfl) (by kernel_rfl) (fun _ _ _ h => h) (fun l w h => qAa.same (by decide) h) (fun l j w h => qAa.mono h j) (Or.inl ⟨by rfl, fun w' _ => by go_simp⟩) hHeld (fun hU => ?_)
    clear hHeld; have hHeld := hU; clear hU; simp only [Act.put, sTA, sC0, sC1]; refine aTk (v := .pointer (some ⟨C.wb, 0, none⟩)) (d := 172) 5 rfl rfl (by kernel_rfl) (by kernel_rfl) (by kernel_rfl) (fun _ _ _ h => h) (fun l w h => qAa.same (by decide) h) (fun l j w h => qAa.mono h j) (Or.inl ⟨by rfl, fun w' _ => by go_simp⟩) hHeld (fun hU => ?_)
    clear hHeld; have hHeld := hU; clear hU; simp only [Act.put, sTA, sC0, sC1]; refine aTk (v := .int .i64 l.kid) (d := 173) 6 rfl rfl (by kernel_rfl) (by kernel_rfl) (by kernel_rfl) (fun _ _ _ h => h) (fun l w h => qAa.same (by decide) h) (fun l j w h => qAa.mono h j) (Or.inl ⟨by rfl, fun w' _ => by go_simp⟩) hHeld (fun hU => ?_)
    clear hHeld; have hHeld := hU; clear hU; simp only [Act.put, sTA, sC0, sC1]; refine aTk (v := .pointer (some ⟨C.wb, 0, none⟩)) (d := 175) 8 rfl rfl (by kernel_rfl) (by kernel_rfl) (by kernel_rfl) (fun _ _ _ h => h) (fun l w h => qAa.same (by decide) h) (fun l j w h => qAa.mono h j) (Or.inl ⟨by rfl, fun w' _ => by go_simp⟩) hHeld (fun hU => ?_)
    clear hHeld; have hHeld := hU; clear hU; simp only [Act.put, sTA, sC0, sC1]; refine aTk (v := .int .i64 r.kid) (d := 176) 9 rfl rfl (by kernel_rfl) (by kernel_rfl) (by kernel_rfl) (fun _ _ _ h => h) (fun l w h => qAa.same (by decide) h) (fun l j w h => qAa.mono h j) (Or.inl ⟨by rfl, fun w' _ => by go_simp⟩) hHeld (fun hU => ?_)
    clear hHeld; have hHeld := hU; clear hU; simp only [Act.put, sTA, sC0, sC1]; refine aTk (v := .int .i64 l.kid) (d := 179) 12 rfl rfl (by kernel_rfl) (by kernel_rfl) (by kernel_rfl) (fun _ _ _ h => h) (fun l w h => qAa.same (by decide) h) (fun l j w h => qAa.mono h j) (Or.inl ⟨by rfl, fun w' _ => by go_simp⟩) hHeld (fun hU => ?_)
    clear hHeld; have hHeld := hU; clear hU; simp only [Act.put, sTA, sC0, sC1]; refine aTk (v := .int .i64 r.kid) (d := 180) 13 rfl rfl (by kernel_rfl) (by kernel_rfl) (by kernel_rfl) (fun _ _ _ h => h) (fun l w h => qAa.same (by decide) h) (fun l j w h => qAa.mono h j) (Or.inl ⟨by rfl, fun w' _ => by go_simp⟩) hHeld (fun hU => ?_)
    clear hHeld; have hHeld := hU; clear hU; simp only [Act.put, sTA, sC0, sC1]; refine aRd (rs := [7, 14]) (by kernel_rfl) (by simp) (AllL.cons rfl (by kernel_rfl) hHeld (fun K hK => ?_) (AllL.cons rfl (by kernel_rfl) hHeld (fun K hK => ?_) AllL.nil))
    ·go_simp; refine (qEf (HW0.out) HLx.out).mono ?_; rintro e wL ⟨mL, rfl, hhL, hnL, hbL, hmL⟩; have HHL := hid hhL; have HNL := hid hnL; have F1 := hid ((HP0.out).trans (hmL.mono (fun _ _ e => e.elim)))
     have F2 := hid ((HW0.out).ext hmL); have F3 := hid ((HN60.out).ext hmL); clear hhL hnL hbL hmL; simp only [Nd.val]; refine hK.out _ _ (qAa.all (HS.out wL (F1.out))) (fun hU => ?_)
     clear hK K hHeld; have hHeld := hU; clear hU; try simp only [Act.put, sTA, sC0, sC1]
     refine aRd (rs := [10, 14]) (by kernel_rfl) (by simp) (AllL.cons rfl (by kernel_rfl) hHeld (fun K hK => ?_) (AllL.cons rfl (by kernel_rfl) hHeld (fun K hK => ?_) AllL.nil))
     ·go_simp; refine (qEf (F2.out) HRy.out).mono ?_; rintro e wR ⟨mR, rfl, hhR, hnR, hbR, hmR⟩; have HHR := hid hhR; have HNR := hid hnR; have F4 := hid ((F1.out).trans (hmR.mono (fun _ _ e => e.elim)))
      have F5 := hid ((F2.out).ext hmR); have F6 := hid ((F3.out).ext hmR); have F7 := hid ((HNL.out).ext hmR); clear hhR hnR hbR hmR; simp only [Nd.val]; refine hK.out _ _ (qAa.all (HS.out wR (F4.out))) (fun hU => ?_)
      clear hK K hHeld; have hHeld := hU; clear hU; try simp only [Act.put, sTA, sC0, sC1]
      refine aRd (rs := [11, 14]) (by kernel_rfl) (by simp) (AllL.cons rfl (by kernel_rfl) hHeld (fun K hK => ?_) (AllL.cons rfl (by kernel_rfl) hHeld (fun K hK => ?_) AllL.nil))
      ·go_simp; have hel : mL.ents ++ (mR.as mL.leaf).ents = nx.2 ++ ny.2 := by rw [HHL.out.ents HGl.out.clean, qQl (by rw [HHR.out.l, HHL.out.l]; exact HXy.out.symm), HHR.out.ents (by rw [<- HXy.out]; exact HGr.out.clean)]
       refine (qLn (F7.out).nd (HNR.out).nd).mono ?_; rw [hel, HHL.out.l]; rintro e wj ⟨mj, hhj, rfl, hgj, hmj, hbj⟩; have HHj := hid hhj; have HNj := hid (hhj.ok hgj (by have h1 := HGl.out.len; have h2 := HGr.out.len; rw [List.length_append]; omega) (fun y hy => (List.mem_append.1 hy).elim (fun hy => qGf HGl.out hy) (fun hy => qGf HGr.out hy)))
       have F8 := hid ((F4.out).trans (hmj.mono (fun _ _ e => e.elim)))
       have F9 := hid ((F5.out).ext hmj); have F10 := hid ((F6.out).ext hmj); have F11 := hid ((F7.out).ext hmj); have F12 := hid ((HNR.out).ext hmj); clear hel hhj hgj hmj hbj; refine hK.out _ _ (qAa.all (HS.out wj (F8.out))) (fun hU => ?_)
       clear hK K hHeld; have hHeld := hU; clear hU; try simp only [Act.put, sTA, sC0, sC1]
       refine aRd (rs := [14]) (by kernel_rfl) (by simp) (AllL.cons rfl (by kernel_rfl) hHeld (fun K hK => ?_) AllL.nil)
       go_simp; have hms : Mod (fun _ => False) wj (wj.alloc (.cells #[.int .i64 l.kid, .int .i64 r.kid] 3)) := (Mod.refl _ _).alloc _
       have HSl0 : Hid ((wj.alloc (.cells #[.int .i64 l.kid, .int .i64 r.kid] 3)).heap[wj.heap.size]? = some (.cells #[.int .i64 l.kid, .int .i64 r.kid] 3 (0, 0))) := hid (heap_alloc_new _ _); have HSz : Hid (Y9.heap.size <= wj.heap.size) := hid (F8.out).size; have F13 := hid ((F8.out).trans (hms.mono (fun _ _ e => e.elim)))
       have F14 := hid ((F9.out).ext hms); have F15 := hid ((F10.out).ext hms); have F16 := hid ((F11.out).ext hms); have F17 := hid ((F12.out).ext hms); have F18 := hid ((HNj.out).ext hms); clear hms; generalize hYs : wj.alloc (.cells #[.int .i64 l.kid, .int .i64 r.kid] 3) = Ys at *; clear hYs; refine hK.out _ _ (qAa.all (HS.out Ys (F13.out))) (fun hU => ?_)
       clear hK K hHeld; have hHeld := hU; clear hU; try simp only [Act.put, sTA, sC0, sC1]
       refine aRd (rs := [15]) (by kernel_rfl) (by simp) (AllL.cons rfl (by kernel_rfl) hHeld (fun K hK => ?_) AllL.nil)
       go_simp; refine (qFi (n := mj) (ss := [l.kid, r.kid]) (cap := 2) (fun k e => by have h1 := HS7.out k e; have h2 := HMy9.out.size; have h3 := (F13.out).size; omega) (F14.out) HHj.out (F18.out) (HXc.out) (qEg (f := ics) (ls := [l.kid, r.kid]) (fun _ => rfl) (HSl0.out)) ⟨Nat.le_refl _, by unfold maxLen; decide⟩ (by simp) (fun k hk hw => by rw [qAc] at hk; have h1 := HW.out.lt (.inr hw); have h2 := HM79.out.size; have h3 := HSz.out; omega) HK3.out).mono ?_
       rintro e wk ⟨qa, qcap, rfl, hok, hbk, hwk, hmk⟩; have HOk := hid hok; have HWk := hid hwk; have HPk : Hid (Mod (WS C) Y9 wk) := hid ((F13.out).trans hmk); have HQk : Hid (∀ k, blk qa k -> Y9.heap.size <= k) := hid (fun k hk => Nat.le_trans (F13.out).size (hbk k hk))
       have HN6k : Hid (NdC wk m6) := hid (qBq (S := WS C) (F15.out) (fun k hk e => by have h1 := HW.out.lt (.inr e); have h2 := HBs6.out k hk; have h3 := HM5s.out; omega) hmk (fun _ e => e))
       clear hok hbk hwk hmk; refine hK.out _ _ (qAa.all (HS.out wk HPk.out)) (fun hU => ?_)
       clear hK K hHeld; have hHeld := hU; clear hU; try simp only [Act.put, sTA, sC0, sC1]
       refine aRd (rs := [16]) (by kernel_rfl) (by simp) (AllL.cons rfl (by kernel_rfl) hHeld (fun K hK => ?_) AllL.nil)
       go_simp; refine (qFu (w := wk) (n := m6) (es := qAy es j (j + 1) [p]) HH6.out HN6k.out a (a + 2) (by omega) (by omega) (pcap := qcap) HOk.out.lies (by have := (qBa HK3.out).1; omega) (by have := HIl.out; omega) (fun q hq => by have h1 := (qBa HK3.out).2 q hq; have h2 := HQs.out q hq; omega) (fun y hy => by rw [HV7.out y hy]; exact Nat.zero_le _) (fun e => by rw [e] at hal; exact absurd hal (by simp))).mono ?_
       rintro e wi ⟨m9, rfl, hh9, hn9, hb9, hm9⟩; have HH9 := hid hh9; have HN9 := hid hn9; have HB9 := hid hb9; have HMi := hid hm9; have HBi := hid ((hm9.block _ (lth (HBk.out wk HPk.out)) (fun e => e)).trans (HBk.out wk HPk.out))
       clear hh9 hn9 hb9 hm9; simp only [Nd.val]; refine hK.out _ _ (qAa.all (HS.out wi (HPk.out.trans (HMi.out.mono (fun _ _ e => e.elim))))) (fun hU => ?_)
       clear hK K hHeld; have hHeld := hU; clear hU; try simp only [Act.put, sTA, sC0, sC1]
       refine aRd (rs := [17]) (by kernel_rfl) (by simp) (AllL.cons rfl (by kernel_rfl) hHeld (fun K hK => ?_) AllL.nil)
       obtain ⟨x0, x1, x2, x3⟩ := cl4 HBi.out; have f0 := frozen_of_row _ _ 0 _ _ HBi.out; have f1 := frozen_of_row _ _ 1 _ _ HBi.out; have f2 := frozen_of_row _ _ 2 _ _ HBi.out; have f3 := frozen_of_row _ _ 3 _ _ HBi.out; go_simp; clear x0 x1 x2 x3 f0 f1 f2 f3; refine hK.out _ _ (qAa.set (by rw [hHeld.1]; decide)) (fun hU => ?_)
       clear hK K hHeld; have hHeld := hU; clear hU; try simp only [Act.put, sTA, sC0, sC1]
       refine qBc (by kernel_rfl) ?_ _
       clear hHeld; have hx9 := qDk HBi.out (.bool m9.leaf) (.slice m9.ka m9.keys.length m9.kc) (.slice m9.va m9.values.length m9.vc) (.slice m9.ia m9.kids.length m9.ic); have hmx : Mod (fun k => k = w1.heap.size) wi ((((wi.setCell ⟨w1.heap.size, 0, none⟩ (.bool m9.leaf)).setCell ⟨w1.heap.size, 1, none⟩ (.slice m9.ka m9.keys.length m9.kc)).setCell ⟨w1.heap.size, 2, none⟩ (.slice m9.va m9.values.length m9.vc)).setCell ⟨w1.heap.size, 3, none⟩ (.slice m9.ia m9.kids.length m9.ic)) := qBl (S := fun k => k = w1.heap.size) (Mod.refl _ _) (fun _ => rfl) _ _ _ _
       generalize ((((wi.setCell ⟨w1.heap.size, 0, none⟩ (.bool m9.leaf)).setCell ⟨w1.heap.size, 1, none⟩ (.slice m9.ka m9.keys.length m9.kc)).setCell ⟨w1.heap.size, 2, none⟩ (.slice m9.va m9.values.length m9.vc)).setCell ⟨w1.heap.size, 3, none⟩ (.slice m9.ia m9.kids.length m9.ic)) = X at *; have HXb := hid hx9; have HNX := hid (qBq (S := fun k => k = w1.heap.size) HN9.out (fun k hk e => by have h1 := HB9.out k hk; have h2 := lth (HBk.out wk HPk.out); omega) hmx (fun _ e => e))
       have HWX := hid (((HWk.out.ext HMi.out).priv hmx (fun k e => .inr e) (fun k e hk => HBn.out k hk e)).narrow (S' := S) (fun k _ e => .inl e) (fun k e => HSub.out k e))
       have HMX : Hid (Mod (WS C) w X) := hid ((((HM7.out.trans (HMy9.out.mono (fun _ _ e => e.elim))).trans HPk.out).trans (HMi.out.mono (fun _ _ e => e.elim))).then hmx (fun k hk e => by have := (HMa.out.trans HM1.out).size; omega))
       clear hx9 hmx; have HKp := hid (qEx (s := s) HSl.out HWX.out HMX.out HH9.out HNX.out.nd (qFa HCl7.out a (a + 2) qs) HK4.out); obtain ⟨b0, b1, b2, b3⟩ := cl4 HXb.out; go_wp2_with (go_at_call 65; refine HKp.out.mono ?_; rintro e w9 ⟨pa9, pcap9, rfl, ho9, hb9, hw9, hm9⟩; have HO9 := hid ho9; have HP9 := hid hb9; have HW9 := hid hw9; have HM9 := hid hm9; clear ho9 hb9 hw9 hm9)
       go_ret; exact ⟨pa9, pcap9, rfl, HO9.out, HP9.out, HW9.out, HM9.out⟩
      ·go_simp; have hms : Mod (fun _ => False) wR (wR.alloc (.cells #[.int .i64 l.kid, .int .i64 r.kid] 3)) := (Mod.refl _ _).alloc _
       have HSl0 : Hid ((wR.alloc (.cells #[.int .i64 l.kid, .int .i64 r.kid] 3)).heap[wR.heap.size]? = some (.cells #[.int .i64 l.kid, .int .i64 r.kid] 3 (0, 0))) := hid (heap_alloc_new _ _); have HSz : Hid (Y9.heap.size <= wR.heap.size) := hid (F4.out).size; have F19 := hid ((F4.out).trans (hms.mono (fun _ _ e => e.elim)))
       have F20 := hid ((F5.out).ext hms); have F21 := hid ((F6.out).ext hms); have F22 := hid ((F7.out).ext hms); have F23 := hid ((HNR.out).ext hms); clear hms; generalize hYs : wR.alloc (.cells #[.int .i64 l.kid, .int .i64 r.kid] 3) = Ys at *; clear hYs; refine hK.out _ _ (qAa.all (HS.out Ys (F19.out))) (fun hU => ?_)
       clear hK K hHeld; have hHeld := hU; clear hU; try simp only [Act.put, sTA, sC0, sC1]
       refine aRd (rs := [11]) (by kernel_rfl) (by simp) (AllL.cons rfl (by kernel_rfl) hHeld (fun K hK => ?_) AllL.nil)
       go_simp; have hel : mL.ents ++ (mR.as mL.leaf).ents = nx.2 ++ ny.2 := by rw [HHL.out.ents HGl.out.clean, qQl (by rw [HHR.out.l, HHL.out.l]; exact HXy.out.symm), HHR.out.ents (by rw [<- HXy.out]; exact HGr.out.clean)]
       refine (qLn (F22.out).nd (F23.out).nd).mono ?_; rw [hel, HHL.out.l]; rintro e wj ⟨mj, hhj, rfl, hgj, hmj, hbj⟩; have HHj := hid hhj; have HNj := hid (hhj.ok hgj (by have h1 := HGl.out.len; have h2 := HGr.out.len; rw [List.length_append]; omega) (fun y hy => (List.mem_append.1 hy).elim (fun hy => qGf HGl.out hy) (fun hy => qGf HGr.out hy)))
       have F24 := hid ((F19.out).trans (hmj.mono (fun _ _ e => e.elim)))
       have F25 := hid ((F20.out).ext hmj); have F26 := hid ((F21.out).ext hmj); have F27 := hid ((F22.out).ext hmj); have F28 := hid ((F23.out).ext hmj); have F29 := hid (qAq hmj (HSl0.out)); clear hel hhj hgj hmj hbj; refine hK.out _ _ (qAa.all (HS.out wj (F24.out))) (fun hU => ?_)
       clear hK K hHeld; have hHeld := hU; clear hU; try simp only [Act.put, sTA, sC0, sC1]
       refine aRd (rs := [15]) (by kernel_rfl) (by simp) (AllL.cons rfl (by kernel_rfl) hHeld (fun K hK => ?_) AllL.nil)
       go_simp; refine (qFi (n := mj) (ss := [l.kid, r.kid]) (cap := 2) (fun k e => by have h1 := HS7.out k e; have h2 := HMy9.out.size; have h3 := (F24.out).size; omega) (F25.out) HHj.out (HNj.out) (HXc.out) (qEg (f := ics) (ls := [l.kid, r.kid]) (fun _ => rfl) (F29.out)) ⟨Nat.le_refl _, by unfold maxLen; decide⟩ (by simp) (fun k hk hw => by rw [qAc] at hk; have h1 := HW.out.lt (.inr hw); have h2 := HM79.out.size; have h3 := HSz.out; omega) HK3.out).mono ?_
       rintro e wk ⟨qa, qcap, rfl, hok, hbk, hwk, hmk⟩; have HOk := hid hok; have HWk := hid hwk; have HPk : Hid (Mod (WS C) Y9 wk) := hid ((F24.out).trans hmk); have HQk : Hid (∀ k, blk qa k -> Y9.heap.size <= k) := hid (fun k hk => Nat.le_trans (F24.out).size (hbk k hk))
       have HN6k : Hid (NdC wk m6) := hid (qBq (S := WS C) (F26.out) (fun k hk e => by have h1 := HW.out.lt (.inr e); have h2 := HBs6.out k hk; have h3 := HM5s.out; omega) hmk (fun _ e => e))
       clear hok hbk hwk hmk; refine hK.out _ _ (qAa.all (HS.out wk HPk.out)) (fun hU => ?_)
       clear hK K hHeld; have hHeld := hU; clear hU; try simp only [Act.put, sTA, sC0, sC1]
       refine aRd (rs := [16]) (by kernel_rfl) (by simp) (AllL.cons rfl (by kernel_rfl) hHeld (fun K hK => ?_) AllL.nil)
       go_simp; refine (qFu (w := wk) (n := m6) (es := qAy es j (j + 1) [p]) HH6.out HN6k.out a (a + 2) (by omega) (by omega) (pcap := qcap) HOk.out.lies (by have := (qBa HK3.out).1; omega) (by have := HIl.out; omega) (fun q hq => by have h1 := (qBa HK3.out).2 q hq; have h2 := HQs.out q hq; omega) (fun y hy => by rw [HV7.out y hy]; exact Nat.zero_le _) (fun e => by rw [e] at hal; exact absurd hal (by simp))).mono ?_
       rintro e wi ⟨m9, rfl, hh9, hn9, hb9, hm9⟩; have HH9 := hid hh9; have HN9 := hid hn9; have HB9 := hid hb9; have HMi := hid hm9; have HBi := hid ((hm9.block _ (lth (HBk.out wk HPk.out)) (fun e => e)).trans (HBk.out wk HPk.out))
       clear hh9 hn9 hb9 hm9; simp only [Nd.val]; refine hK.out _ _ (qAa.all (HS.out wi (HPk.out.trans (HMi.out.mono (fun _ _ e => e.elim))))) (fun hU => ?_)
       clear hK K hHeld; have hHeld := hU; clear hU; try simp only [Act.put, sTA, sC0, sC1]
       refine aRd (rs := [17]) (by kernel_rfl) (by simp) (AllL.cons rfl (by kernel_rfl) hHeld (fun K hK => ?_) AllL.nil)
       obtain ⟨x0, x1, x2, x3⟩ := cl4 HBi.out; have f0 := frozen_of_row _ _ 0 _ _ HBi.out; have f1 := frozen_of_row _ _ 1 _ _ HBi.out; have f2 := frozen_of_row _ _ 2 _ _ HBi.out; have f3 := frozen_of_row _ _ 3 _ _ HBi.out; go_simp; clear x0 x1 x2 x3 f0 f1 f2 f3; refine hK.out _ _ (qAa.set (by rw [hHeld.1]; decide)) (fun hU => ?_)
       clear hK K hHeld; have hHeld := hU; clear hU; try simp only [Act.put, sTA, sC0, sC1]
       refine qBc (by kernel_rfl) ?_ _
       clear hHeld; have hx9 := qDk HBi.out (.bool m9.leaf) (.slice m9.ka m9.keys.length m9.kc) (.slice m9.va m9.values.length m9.vc) (.slice m9.ia m9.kids.length m9.ic); have hmx : Mod (fun k => k = w1.heap.size) wi ((((wi.setCell ⟨w1.heap.size, 0, none⟩ (.bool m9.leaf)).setCell ⟨w1.heap.size, 1, none⟩ (.slice m9.ka m9.keys.length m9.kc)).setCell ⟨w1.heap.size, 2, none⟩ (.slice m9.va m9.values.length m9.vc)).setCell ⟨w1.heap.size, 3, none⟩ (.slice m9.ia m9.kids.length m9.ic)) := qBl (S := fun k => k = w1.heap.size) (Mod.refl _ _) (fun _ => rfl) _ _ _ _
       generalize ((((wi.setCell ⟨w1.heap.size, 0, none⟩ (.bool m9.leaf)).setCell ⟨w1.heap.size, 1, none⟩ (.slice m9.ka m9.keys.length m9.kc)).setCell ⟨w1.heap.size, 2, none⟩ (.slice m9.va m9.values.length m9.vc)).setCell ⟨w1.heap.size, 3, none⟩ (.slice m9.ia m9.kids.length m9.ic)) = X at *; have HXb := hid hx9; have HNX := hid (qBq (S := fun k => k = w1.heap.size) HN9.out (fun k hk e => by have h1 := HB9.out k hk; have h2 := lth (HBk.out wk HPk.out); omega) hmx (fun _ e => e))
       have HWX := hid (((HWk.out.ext HMi.out).priv hmx (fun k e => .inr e) (fun k e hk => HBn.out k hk e)).narrow (S' := S) (fun k _ e => .inl e) (fun k e => HSub.out k e))
       have HMX : Hid (Mod (WS C) w X) := hid ((((HM7.out.trans (HMy9.out.mono (fun _ _ e => e.elim))).trans HPk.out).trans (HMi.out.mono (fun _ _ e => e.elim))).then hmx (fun k hk e => by have := (HMa.out.trans HM1.out).size; omega))
       clear hx9 hmx; have HKp := hid (qEx (s := s) HSl.out HWX.out HMX.out HH9.out HNX.out.nd (qFa HCl7.out a (a + 2) qs) HK4.out); obtain ⟨b0, b1, b2, b3⟩ := cl4 HXb.out; go_wp2_with (go_at_call 65; refine HKp.out.mono ?_; rintro e w9 ⟨pa9, pcap9, rfl, ho9, hb9, hw9, hm9⟩; have HO9 := hid ho9; have HP9 := hid hb9; have HW9 := hid hw9; have HM9 := hid hm9; clear ho9 hb9 hw9 hm9)
       go_ret; exact ⟨pa9, pcap9, rfl, HO9.out, HP9.out, HW9.out, HM9.out⟩
     ·go_simp; have hms : Mod (fun _ => False) wL (wL.alloc (.cells #[.int .i64 l.kid, .int .i64 r.kid] 3)) := (Mod.refl _ _).alloc _
      have HSl0 : Hid ((wL.alloc (.cells #[.int .i64 l.kid, .int .i64 r.kid] 3)).heap[wL.heap.size]? = some (.cells #[.int .i64 l.kid, .int .i64 r.kid] 3 (0, 0))) := hid (heap_alloc_new _ _); have HSz : Hid (Y9.heap.size <= wL.heap.size) := hid (F1.out).size; have F30 := hid ((F1.out).trans (hms.mono (fun _ _ e => e.elim)))
      have F31 := hid ((F2.out).ext hms); have F32 := hid ((F3.out).ext hms); have F33 := hid ((HNL.out).ext hms); clear hms; generalize hYs : wL.alloc (.cells #[.int .i64 l.kid, .int .i64 r.kid] 3) = Ys at *; clear hYs; refine hK.out _ _ (qAa.all (HS.out Ys (F30.out))) (fun hU => ?_)
      clear hK K hHeld; have hHeld := hU; clear hU; try simp only [Act.put, sTA, sC0, sC1]
      refine aRd (rs := [10]) (by kernel_rfl) (by simp) (AllL.cons rfl (by kernel_rfl) hHeld (fun K hK => ?_) AllL.nil)
      go_simp; refine (qEf (F31.out) HRy.out).mono ?_; rintro e wR ⟨mR, rfl, hhR, hnR, hbR, hmR⟩; have HHR := hid hhR; have HNR := hid hnR; have F34 := hid ((F30.out).trans (hmR.mono (fun _ _ e => e.elim)))
      have F35 := hid ((F31.out).ext hmR); have F36 := hid ((F32.out).ext hmR); have F37 := hid ((F33.out).ext hmR); have F38 := hid (qAq hmR (HSl0.out)); clear hhR hnR hbR hmR; simp only [Nd.val]; refine hK.out _ _ (qAa.all (HS.out wR (F34.out))) (fun hU => ?_)
      clear hK K hHeld; have hHeld := hU; clear hU; try simp only [Act.put, sTA, sC0, sC1]
      refine aRd (rs := [11]) (by kernel_rfl) (by simp) (AllL.cons rfl (by kernel_rfl) hHeld (fun K hK => ?_) AllL.nil)
      go_simp; have hel : mL.ents ++ (mR.as mL.leaf).ents = nx.2 ++ ny.2 := by rw [HHL.out.ents HGl.out.clean, qQl (by rw [HHR.out.l, HHL.out.l]; exact HXy.out.symm), HHR.out.ents (by rw [<- HXy.out]; exact HGr.out.clean)]
      refine (qLn (F37.out).nd (HNR.out).nd).mono ?_; rw [hel, HHL.out.l]; rintro e wj ⟨mj, hhj, rfl, hgj, hmj, hbj⟩; have HHj := hid hhj; have HNj := hid (hhj.ok hgj (by have h1 := HGl.out.len; have h2 := HGr.out.len; rw [List.length_append]; omega) (fun y hy => (List.mem_append.1 hy).elim (fun hy => qGf HGl.out hy) (fun hy => qGf HGr.out hy)))
      have F39 := hid ((F34.out).trans (hmj.mono (fun _ _ e => e.elim)))
      have F40 := hid ((F35.out).ext hmj); have F41 := hid ((F36.out).ext hmj); have F42 := hid ((F37.out).ext hmj); have F43 := hid (qAq hmj (F38.out)); have F44 := hid ((HNR.out).ext hmj); clear hel hhj hgj hmj hbj; refine hK.out _ _ (qAa.all (HS.out wj (F39.out))) (fun hU => ?_)
      clear hK K hHeld; have hHeld := hU; clear hU; try simp only [Act.put, sTA, sC0, sC1]
      refine aRd (rs := [15]) (by kernel_rfl) (by simp) (AllL.cons rfl (by kernel_rfl) hHeld (fun K hK => ?_) AllL.nil)
      go_simp; refine (qFi (n := mj) (ss := [l.kid, r.kid]) (cap := 2) (fun k e => by have h1 := HS7.out k e; have h2 := HMy9.out.size; have h3 := (F39.out).size; omega) (F40.out) HHj.out (HNj.out) (HXc.out) (qEg (f := ics) (ls := [l.kid, r.kid]) (fun _ => rfl) (F43.out)) ⟨Nat.le_refl _, by unfold maxLen; decide⟩ (by simp) (fun k hk hw => by rw [qAc] at hk; have h1 := HW.out.lt (.inr hw); have h2 := HM79.out.size; have h3 := HSz.out; omega) HK3.out).mono ?_
      rintro e wk ⟨qa, qcap, rfl, hok, hbk, hwk, hmk⟩; have HOk := hid hok; have HWk := hid hwk; have HPk : Hid (Mod (WS C) Y9 wk) := hid ((F39.out).trans hmk); have HQk : Hid (∀ k, blk qa k -> Y9.heap.size <= k) := hid (fun k hk => Nat.le_trans (F39.out).size (hbk k hk))
      have HN6k : Hid (NdC wk m6) := hid (qBq (S := WS C) (F41.out) (fun k hk e => by have h1 := HW.out.lt (.inr e); have h2 := HBs6.out k hk; have h3 := HM5s.out; omega) hmk (fun _ e => e))
      clear hok hbk hwk hmk; refine hK.out _ _ (qAa.all (HS.out wk HPk.out)) (fun hU => ?_)
      clear hK K hHeld; have hHeld := hU; clear hU; try simp only [Act.put, sTA, sC0, sC1]
      refine aRd (rs := [16]) (by kernel_rfl) (by simp) (AllL.cons rfl (by kernel_rfl) hHeld (fun K hK => ?_) AllL.nil)
      go_simp; refine (qFu (w := wk) (n := m6) (es := qAy es j (j + 1) [p]) HH6.out HN6k.out a (a + 2) (by omega) (by omega) (pcap := qcap) HOk.out.lies (by have := (qBa HK3.out).1; omega) (by have := HIl.out; omega) (fun q hq => by have h1 := (qBa HK3.out).2 q hq; have h2 := HQs.out q hq; omega) (fun y hy => by rw [HV7.out y hy]; exact Nat.zero_le _) (fun e => by rw [e] at hal; exact absurd hal (by simp))).mono ?_
      rintro e wi ⟨m9, rfl, hh9, hn9, hb9, hm9⟩; have HH9 := hid hh9; have HN9 := hid hn9; have HB9 := hid hb9; have HMi := hid hm9; have HBi := hid ((hm9.block _ (lth (HBk.out wk HPk.out)) (fun e => e)).trans (HBk.out wk HPk.out))
      clear hh9 hn9 hb9 hm9; simp only [Nd.val]; refine hK.out _ _ (qAa.all (HS.out wi (HPk.out.trans (HMi.out.mono (fun _ _ e => e.elim))))) (fun hU => ?_)
      clear hK K hHeld; have hHeld := hU; clear hU; try simp only [Act.put, sTA, sC0, sC1]
      refine aRd (rs := [17]) (by kernel_rfl) (by simp) (AllL.cons rfl (by kernel_rfl) hHeld (fun K hK => ?_) AllL.nil)
      obtain ⟨x0, x1, x2, x3⟩ := cl4 HBi.out; have f0 := frozen_of_row _ _ 0 _ _ HBi.out; have f1 := frozen_of_row _ _ 1 _ _ HBi.out; have f2 := frozen_of_row _ _ 2 _ _ HBi.out; have f3 := frozen_of_row _ _ 3 _ _ HBi.out; go_simp; clear x0 x1 x2 x3 f0 f1 f2 f3; refine hK.out _ _ (qAa.set (by rw [hHeld.1]; decide)) (fun hU => ?_)
      clear hK K hHeld; have hHeld := hU; clear hU; try simp only [Act.put, sTA, sC0, sC1]
      refine qBc (by kernel_rfl) ?_ _
      clear hHeld; have hx9 := qDk HBi.out (.bool m9.leaf) (.slice m9.ka m9.keys.length m9.kc) (.slice m9.va m9.values.length m9.vc) (.slice m9.ia m9.kids.length m9.ic); have hmx : Mod (fun k => k = w1.heap.size) wi ((((wi.setCell ⟨w1.heap.size, 0, none⟩ (.bool m9.leaf)).setCell ⟨w1.heap.size, 1, none⟩ (.slice m9.ka m9.keys.length m9.kc)).setCell ⟨w1.heap.size, 2, none⟩ (.slice m9.va m9.values.length m9.vc)).setCell ⟨w1.heap.size, 3, none⟩ (.slice m9.ia m9.kids.length m9.ic)) := qBl (S := fun k => k = w1.heap.size) (Mod.refl _ _) (fun _ => rfl) _ _ _ _
      generalize ((((wi.setCell ⟨w1.heap.size, 0, none⟩ (.bool m9.leaf)).setCell ⟨w1.heap.size, 1, none⟩ (.slice m9.ka m9.keys.length m9.kc)).setCell ⟨w1.heap.size, 2, none⟩ (.slice m9.va m9.values.length m9.vc)).setCell ⟨w1.heap.size, 3, none⟩ (.slice m9.ia m9.kids.length m9.ic)) = X at *; have HXb := hid hx9; have HNX := hid (qBq (S := fun k => k = w1.heap.size) HN9.out (fun k hk e => by have h1 := HB9.out k hk; have h2 := lth (HBk.out wk HPk.out); omega) hmx (fun _ e => e))
      have HWX := hid (((HWk.out.ext HMi.out).priv hmx (fun k e => .inr e) (fun k e hk => HBn.out k hk e)).narrow (S' := S) (fun k _ e => .inl e) (fun k e => HSub.out k e))
      have HMX : Hid (Mod (WS C) w X) := hid ((((HM7.out.trans (HMy9.out.mono (fun _ _ e => e.elim))).trans HPk.out).trans (HMi.out.mono (fun _ _ e => e.elim))).then hmx (fun k hk e => by have := (HMa.out.trans HM1.out).size; omega))
      clear hx9 hmx; have HKp := hid (qEx (s := s) HSl.out HWX.out HMX.out HH9.out HNX.out.nd (qFa HCl7.out a (a + 2) qs) HK4.out); obtain ⟨b0, b1, b2, b3⟩ := cl4 HXb.out; go_wp2_with (go_at_call 65; refine HKp.out.mono ?_; rintro e w9 ⟨pa9, pcap9, rfl, ho9, hb9, hw9, hm9⟩; have HO9 := hid ho9; have HP9 := hid hb9; have HW9 := hid hw9; have HM9 := hid hm9; clear ho9 hb9 hw9 hm9)
      go_ret; exact ⟨pa9, pcap9, rfl, HO9.out, HP9.out, HW9.out, HM9.out⟩
    ·go_simp; have hms : Mod (fun _ => False) Y9 (Y9.alloc (.cells #[.int .i64 l.kid, .int .i64 r.kid] 3)) := (Mod.refl _ _).alloc _
     have HSl0 : Hid ((Y9.alloc (.cells #[.int .i64 l.kid, .int .i64 r.kid] 3)).heap[Y9.heap.size]? = some (.cells #[.int .i64 l.kid, .int .i64 r.kid] 3 (0, 0))) := hid (heap_alloc_new _ _); have HSz : Hid (Y9.heap.size <= Y9.heap.size) := hid (HP0.out).size; have F45 := hid ((HP0.out).trans (hms.mono (fun _ _ e => e.elim)))
     have F46 := hid ((HW0.out).ext hms); have F47 := hid ((HN60.out).ext hms); clear hms; generalize hYs : Y9.alloc (.cells #[.int .i64 l.kid, .int .i64 r.kid] 3) = Ys at *; clear hYs; refine hK.out _ _ (qAa.all (HS.out Ys (F45.out))) (fun hU => ?_)
     clear hK K hHeld; have hHeld := hU; clear hU; try simp only [Act.put, sTA, sC0, sC1]
     refine aRd (rs := [7]) (by kernel_rfl) (by simp) (AllL.cons rfl (by kernel_rfl) hHeld (fun K hK => ?_) AllL.nil)
     go_simp; refine (qEf (F46.out) HLx.out).mono ?_; rintro e wL ⟨mL, rfl, hhL, hnL, hbL, hmL⟩; have HHL := hid hhL; have HNL := hid hnL; have F48 := hid ((F45.out).trans (hmL.mono (fun _ _ e => e.elim)))
     have F49 := hid ((F46.out).ext hmL); have F50 := hid ((F47.out).ext hmL); have F51 := hid (qAq hmL (HSl0.out)); clear hhL hnL hbL hmL; simp only [Nd.val]; refine hK.out _ _ (qAa.all (HS.out wL (F48.out))) (fun hU => ?_)
     clear hK K hHeld; have hHeld := hU; clear hU; try simp only [Act.put, sTA, sC0, sC1]
     refine aRd (rs := [10]) (by kernel_rfl) (by simp) (AllL.cons rfl (by kernel_rfl) hHeld (fun K hK => ?_) AllL.nil)
     go_simp; refine (qEf (F49.out) HRy.out).mono ?_; rintro e wR ⟨mR, rfl, hhR, hnR, hbR, hmR⟩; have HHR := hid hhR; have HNR := hid hnR; have F52 := hid ((F48.out).trans (hmR.mono (fun _ _ e => e.elim)))
     have F53 := hid ((F49.out).ext hmR); have F54 := hid ((F50.out).ext hmR); have F55 := hid (qAq hmR (F51.out)); have F56 := hid ((HNL.out).ext hmR); clear hhR hnR hbR hmR; simp only [Nd.val]; refine hK.out _ _ (qAa.all (HS.out wR (F52.out))) (fun hU => ?_)
     clear hK K hHeld; have hHeld := hU; clear hU; try simp only [Act.put, sTA, sC0, sC1]
     refine aRd (rs := [11]) (by kernel_rfl) (by simp) (AllL.cons rfl (by kernel_rfl) hHeld (fun K hK => ?_) AllL.nil)
     go_simp; have hel : mL.ents ++ (mR.as mL.leaf).ents = nx.2 ++ ny.2 := by rw [HHL.out.ents HGl.out.clean, qQl (by rw [HHR.out.l, HHL.out.l]; exact HXy.out.symm), HHR.out.ents (by rw [<- HXy.out]; exact HGr.out.clean)]
     refine (qLn (F56.out).nd (HNR.out).nd).mono ?_; rw [hel, HHL.out.l]; rintro e wj ⟨mj, hhj, rfl, hgj, hmj, hbj⟩; have HHj := hid hhj; have HNj := hid (hhj.ok hgj (by have h1 := HGl.out.len; have h2 := HGr.out.len; rw [List.length_append]; omega) (fun y hy => (List.mem_append.1 hy).elim (fun hy => qGf HGl.out hy) (fun hy => qGf HGr.out hy)))
     have F57 := hid ((F52.out).trans (hmj.mono (fun _ _ e => e.elim)))
     have F58 := hid ((F53.out).ext hmj); have F59 := hid ((F54.out).ext hmj); have F60 := hid (qAq hmj (F55.out)); have F61 := hid ((F56.out).ext hmj); have F62 := hid ((HNR.out).ext hmj); clear hel hhj hgj hmj hbj; refine hK.out _ _ (qAa.all (HS.out wj (F57.out))) (fun hU => ?_)
     clear hK K hHeld; have hHeld := hU; clear hU; try simp only [Act.put, sTA, sC0, sC1]
     refine aRd (rs := [15]) (by kernel_rfl) (by simp) (AllL.cons rfl (by kernel_rfl) hHeld (fun K hK => ?_) AllL.nil)
     go_simp; refine (qFi (n := mj) (ss := [l.kid, r.kid]) (cap := 2) (fun k e => by have h1 := HS7.out k e; have h2 := HMy9.out.size; have h3 := (F57.out).size; omega) (F58.out) HHj.out (HNj.out) (HXc.out) (qEg (f := ics) (ls := [l.kid, r.kid]) (fun _ => rfl) (F60.out)) ⟨Nat.le_refl _, by unfold maxLen; decide⟩ (by simp) (fun k hk hw => by rw [qAc] at hk; have h1 := HW.out.lt (.inr hw); have h2 := HM79.out.size; have h3 := HSz.out; omega) HK3.out).mono ?_
     rintro e wk ⟨qa, qcap, rfl, hok, hbk, hwk, hmk⟩; have HOk := hid hok; have HWk := hid hwk; have HPk : Hid (Mod (WS C) Y9 wk) := hid ((F57.out).trans hmk); have HQk : Hid (∀ k, blk qa k -> Y9.heap.size <= k) := hid (fun k hk => Nat.le_trans (F57.out).size (hbk k hk))
     have HN6k : Hid (NdC wk m6) := hid (qBq (S := WS C) (F59.out) (fun k hk e => by have h1 := HW.out.lt (.inr e); have h2 := HBs6.out k hk; have h3 := HM5s.out; omega) hmk (fun _ e => e))
     clear hok hbk hwk hmk; refine hK.out _ _ (qAa.all (HS.out wk HPk.out)) (fun hU => ?_)
     clear hK K hHeld; have hHeld := hU; clear hU; try simp only [Act.put, sTA, sC0, sC1]
     refine aRd (rs := [16]) (by kernel_rfl) (by simp) (AllL.cons rfl (by kernel_rfl) hHeld (fun K hK => ?_) AllL.nil)
     go_simp; refine (qFu (w := wk) (n := m6) (es := qAy es j (j + 1) [p]) HH6.out HN6k.out a (a + 2) (by omega) (by omega) (pcap := qcap) HOk.out.lies (by have := (qBa HK3.out).1; omega) (by have := HIl.out; omega) (fun q hq => by have h1 := (qBa HK3.out).2 q hq; have h2 := HQs.out q hq; omega) (fun y hy => by rw [HV7.out y hy]; exact Nat.zero_le _) (fun e => by rw [e] at hal; exact absurd hal (by simp))).mono ?_
     rintro e wi ⟨m9, rfl, hh9, hn9, hb9, hm9⟩; have HH9 := hid hh9; have HN9 := hid hn9; have HB9 := hid hb9; have HMi := hid hm9; have HBi := hid ((hm9.block _ (lth (HBk.out wk HPk.out)) (fun e => e)).trans (HBk.out wk HPk.out))
     clear hh9 hn9 hb9 hm9; simp only [Nd.val]; refine hK.out _ _ (qAa.all (HS.out wi (HPk.out.trans (HMi.out.mono (fun _ _ e => e.elim))))) (fun hU => ?_)
     clear hK K hHeld; have hHeld := hU; clear hU; try simp only [Act.put, sTA, sC0, sC1]
     refine aRd (rs := [17]) (by kernel_rfl) (by simp) (AllL.cons rfl (by kernel_rfl) hHeld (fun K hK => ?_) AllL.nil)
     obtain ⟨x0, x1, x2, x3⟩ := cl4 HBi.out; have f0 := frozen_of_row _ _ 0 _ _ HBi.out; have f1 := frozen_of_row _ _ 1 _ _ HBi.out; have f2 := frozen_of_row _ _ 2 _ _ HBi.out; have f3 := frozen_of_row _ _ 3 _ _ HBi.out; go_simp; clear x0 x1 x2 x3 f0 f1 f2 f3; refine hK.out _ _ (qAa.set (by rw [hHeld.1]; decide)) (fun hU => ?_)
     clear hK K hHeld; have hHeld := hU; clear hU; try simp only [Act.put, sTA, sC0, sC1]
     refine qBc (by kernel_rfl) ?_ _
     clear hHeld; have hx9 := qDk HBi.out (.bool m9.leaf) (.slice m9.ka m9.keys.length m9.kc) (.slice m9.va m9.values.length m9.vc) (.slice m9.ia m9.kids.length m9.ic); have hmx : Mod (fun k => k = w1.heap.size) wi ((((wi.setCell ⟨w1.heap.size, 0, none⟩ (.bool m9.leaf)).setCell ⟨w1.heap.size, 1, none⟩ (.slice m9.ka m9.keys.length m9.kc)).setCell ⟨w1.heap.size, 2, none⟩ (.slice m9.va m9.values.length m9.vc)).setCell ⟨w1.heap.size, 3, none⟩ (.slice m9.ia m9.kids.length m9.ic)) := qBl (S := fun k => k = w1.heap.size) (Mod.refl _ _) (fun _ => rfl) _ _ _ _
     generalize ((((wi.setCell ⟨w1.heap.size, 0, none⟩ (.bool m9.leaf)).setCell ⟨w1.heap.size, 1, none⟩ (.slice m9.ka m9.keys.length m9.kc)).setCell ⟨w1.heap.size, 2, none⟩ (.slice m9.va m9.values.length m9.vc)).setCell ⟨w1.heap.size, 3, none⟩ (.slice m9.ia m9.kids.length m9.ic)) = X at *; have HXb := hid hx9; have HNX := hid (qBq (S := fun k => k = w1.heap.size) HN9.out (fun k hk e => by have h1 := HB9.out k hk; have h2 := lth (HBk.out wk HPk.out); omega) hmx (fun _ e => e))
     have HWX := hid (((HWk.out.ext HMi.out).priv hmx (fun k e => .inr e) (fun k e hk => HBn.out k hk e)).narrow (S' := S) (fun k _ e => .inl e) (fun k e => HSub.out k e))
     have HMX : Hid (Mod (WS C) w X) := hid ((((HM7.out.trans (HMy9.out.mono (fun _ _ e => e.elim))).trans HPk.out).trans (HMi.out.mono (fun _ _ e => e.elim))).then hmx (fun k hk e => by have := (HMa.out.trans HM1.out).size; omega))
     clear hx9 hmx; have HKp := hid (qEx (s := s) HSl.out HWX.out HMX.out HH9.out HNX.out.nd (qFa HCl7.out a (a + 2) qs) HK4.out); obtain ⟨b0, b1, b2, b3⟩ := cl4 HXb.out; go_wp2_with (go_at_call 65; refine HKp.out.mono ?_; rintro e w9 ⟨pa9, pcap9, rfl, ho9, hb9, hw9, hm9⟩; have HO9 := hid ho9; have HP9 := hid hb9; have HW9 := hid hw9; have HM9 := hid hm9; clear ho9 hb9 hw9 hm9)
     go_ret; exact ⟨pa9, pcap9, rfl, HO9.out, HP9.out, HW9.out, HM9.out⟩
   ·have hkk := (HCase.out.resolve_right (fun e => hlow (by rw [<- HNn.out]; exact e.1))).2
    have HKk := hid hkk; clear hkk hN; go_upto_region 22 with (first | (go_at_call 96; refine HNo.out.mono ?_; rintro e w8 ⟨m8, rfl, hh8, hn8, hb8, hm8⟩; have HM8 := hid hm8; have hwt := qHe hn8.nd; rw [hh8.ents HGn.out.clean, hh8.l, HNn.out] at hwt; have hll := hh8.l; have HWt := hid hwt; clear hh8 hn8 hb8 hm8 hwt; simp only [Nd.val]; rw [hll]; clear hll) | (go_at_call 101; refine HWt.out.mono ?_; rintro e w8' ⟨rfl, hm8'⟩; have HM8' := hid hm8'; clear hm8'))
    have HMw8 := hid (HM8.out.trans HM8'.out); have HKp := hid (qEx (s := s) HSl.out (HWs7.out.ext HMw8.out) (HM7.out.trans (HMw8.out.mono (fun _ _ e => e.elim))) HH6.out (HAt7.out.ext HMw8.out) HCl7.out HKk.out)
    clear b0 b1 b2 b3; obtain ⟨b0, b1, b2, b3⟩ := cl4 (qAq HMw8.out HX7.out); go_wp2_with (go_at_call 65; refine HKp.out.mono ?_; rintro e w9 ⟨pa9, pcap9, rfl, ho9, hb9, hw9, hm9⟩; have HO9 := hid ho9; have HP9 := hid hb9; have HW9 := hid hw9; have HM9 := hid hm9; clear ho9 hb9 hw9 hm9)
    go_ret; exact ⟨pa9, pcap9, rfl, HO9.out, HP9.out, HW9.out, HM9.out⟩
  ·have HKp := hid (qEx (s := s) HSl.out HWs7.out HM7.out HH6.out HAt7.out HCl7.out ((jHu hl2).symm.trans HK2.out)); have hk7 : ¬ 1 < m6.kids.length := by rw [HKl7.out]; exact hl2
   obtain ⟨b0, b1, b2, b3⟩ := cl4 HX7.out; clear hl2; go_wp2_with (go_at_call 65; refine HKp.out.mono ?_; rintro e w9 ⟨pa9, pcap9, rfl, ho9, hb9, hw9, hm9⟩; have HO9 := hid ho9; have HP9 := hid hb9; have HW9 := hid hw9; have HM9 := hid hm9; clear ho9 hb9 hw9 hm9)
   go_ret; exact ⟨pa9, pcap9, rfl, HO9.out, HP9.out, HW9.out, HM9.out⟩
 ·have HKp := hid (qEx (s := s) HSl.out HWs7.out HM7.out HH6.out HAt7.out HCl7.out ((qZa hl1).symm.trans HK2.out)); obtain ⟨b0, b1, b2, b3⟩ := cl4 HX7.out; go_wp2_with (go_at_call 65; refine HKp.out.mono ?_; rintro e w9 ⟨pa9, pcap9, rfl, ho9, hb9, hw9, hm9⟩; have HO9 := hid ho9; have HP9 := hid hb9; have HW9 := hid hw9; have HM9 := hid hm9; clear ho9 hb9 hw9 hm9)
  go_ret; exact ⟨pa9, pcap9, rfl, HO9.out, HP9.out, HW9.out, HM9.out⟩
theorem qOn {B : TB} {C : WB} {T : TM} {D : Dsk} {W : WM} {c : Cg} (hc : CgOk c) (hcn : -2305843009213693952 <= W.count /\ W.count <= 2305843009213693952) : ∀ (f : Nat) (S : Nat -> Prop) (w : World) (s : Int) (W' : WM) (ps : qBo), (∀ k, S k -> k < w.heap.size) -> Ws S w B C T D W -> qBr T (jlen B.room D : Int) c f W s = some (W', ps) →
  Calls Tryz.prog 64 #[.pointer (some ⟨C.wb, 0, none⟩), .int .i64 s, .agg #[.string c.key, .string c.value, .bool c.gone]] w fun e w' => qGi S w B C T D W' ps e w'
 | 0, _, _, _, _, _, _, _, hk => by unfold qBr at hk; cases hk
 | f + 1, S, w, s, W', ps, hS, h, hk => by
  cases hl : W.look T s with
  | none =>
   unfold qBr at hk; simp only [hl] at hk; cases hk
  | some n =>
   obtain ⟨leaf, es⟩ := n; cases leaf with
   | true => exact qUd hc hS h hl hcn hk
   | false => exact qUc hc hS h hl hk (fun S v s' W1 ps1 h1 h2 h3 => qOn hc hcn f S v s' W1 ps1 h1 h2 h3)
end
end Go.Proofs.YtkinkgbmlhiakaaGreatDoor
