/- merged: TwC -/
import Derived.Test.YtkinkgbmlhiakaaGreatDoorNd23
import Derived.Test.YtkinkgbmlhiakaaGreatDoorNd24
namespace Go.Proofs.YtkinkgbmlhiakaaGreatDoor
section
open Go Go.RowKit
def jMj (V : World) (ks vs : List ByteArray) (v : Value) (X : World) : Prop :=
 ∃ (q : Nat) (ka va : Option Addr) (kc vc : Nat), v = .pointer (some ⟨q, 0, none⟩) /\ Hold X V.heap.size q ⟨true, ks, vs, [], ka, kc, va, vc, none, 0⟩ /\ Mod (fun _ => False) V X
theorem qPm {V w2 X : World} {ks vs : List ByteArray} {q a b : Nat} {ka va : Option Addr} {kc vc : Nat} (hka : ks.length = a) (hva : vs.length = b) (hm2 : Mod (fun _ => False) V w2) (hm : Mod (fun k => k = q) w2 X) (hk : Own w2 9 1 ka a kc (ks.flatMap scs)) (hi : Own w2 9 1 va b vc (vs.flatMap scs))
  (hkb : ∀ b, blk ka b -> V.heap.size <= b /\ b ≠ q) (hib : ∀ b, blk va b -> V.heap.size <= b /\ b ≠ q) (hki : ∀ b, blk ka b -> ¬ blk va b) (hbox : X.heap[q]? = some (.cells #[.bool true, .slice ka a kc, .slice va b vc, .slice none 0 0] 123 (0, 0))) (hq : V.heap.size <= q) :
  jMj V ks vs (.pointer (some ⟨q, 0, none⟩)) X := by
 have hk' := hk.mod hm (fun b hb e => (hkb b hb).2 e)
 have hi' := hi.mod hm (fun b hb e => (hib b hb).2 e)
 refine ⟨q, ka, va, kc, vc, rfl, ⟨?_, ⟨?_, ?_, Own.nil _ _ _, hki, fun b _ h => (qAj b h).elim, fun b _ h => (qAj b h).elim⟩, fun b hb => ?_, hq⟩, hm2.then hm (fun i hi e => by omega)⟩
 ·unfold Bx; rw [hka, hva]; exact hbox
 ·rw [hka]; exact hk'
 ·rw [hva]; exact hi'
 ·rcases hb with hb | hb | hb
  ·exact hkb b hb
  ·exact hib b hb
  ·exact (qAj b hb).elim
theorem jFo {w : World} (x : ByteArray) (s : Int) : Own (w.alloc (.cells #[.string x, .int .i64 s] 196)) 196 2 (some ⟨w.heap.size, 0, none⟩) 1 1 (pcs (x, s)) :=
 ⟨rfl, Nat.le_refl _, by unfold maxLen; omega, .inr ⟨w.heap.size, 0, _, rfl, heap_alloc_new _ _, by simp, rfl⟩⟩
theorem qMs {w : World} {b : Nat} {v0 v1 v2 : Value} {t : TypeId} (h : w.heap[b]? = some (.cells #[v0, v1, v2] t (0, 0))) : w.cell? ⟨b, 0, none⟩ = some v0 /\ w.cell? ⟨b, 1, none⟩ = some v1 /\ w.cell? ⟨b, 2, none⟩ = some v2 := by
 refine ⟨?_, ?_, ?_⟩ <;> (rw [cell_of_row _ _ _ _ _ _ h]; rfl)
theorem jDa {S : Nat -> Prop} {a b : World} (_h : Hid (Mod S a b)) : Hid (Mod (fun _ => False) b b.drew) := hid (Mod.refl _ _).drew
theorem qFv {leaf : Bool} {es : List Ent} (h : qBg leaf es) : qNc (es.map (·.key)) := fun i j x y hij hx hy => by
 obtain ⟨hi, rfl⟩ := List.getElem?_eq_some_iff.1 hx; obtain ⟨hj, rfl⟩ := List.getElem?_eq_some_iff.1 hy; exact List.pairwise_iff_getElem.1 (qCp.1 h.keys).1 i j hi hj hij
theorem qEz {S : Nat -> Prop} {w : World} {B : TB} {C : WB} {T : TM} {D : Dsk} {W : WM} (h : Ws S w B C T D W) {s : Int} {n : NP} (hn : W.look T s = some n) : qBg n.1 n.2 := by
 unfold WM.look at hn; cases hw : W.nodes s with
 | some n' =>
  rw [hw] at hn; cases hn
  obtain ⟨l, _, _, h3⟩ := h.work.nodes; exact (h3 s _ hw).1
 | none =>
  rw [hw] at hn; obtain ⟨l, _, _, h3⟩ := h.tree.nodes; exact (h3 s _ hn).1
theorem qTy {c : Cg} {es : List Ent} {i : Nat} {ok : Bool} (h : (∀ x ∈ es.take i, kl x.key c.key = true) /\ hasE c es = ok /\ (if ok then (∃ x, es[i]? = some x /\ x.key = c.key) /\ ∀ x ∈ es.drop (i + 1), kl c.key x.key = true else ∀ x ∈ es.drop i, kl c.key x.key = true)) :
  chgE c es = es.take i ++ (c.putE ++ es.drop (if ok then i + 1 else i)) := by
 obtain ⟨h1, _, h3⟩ := h; cases ok with
 | true =>
  simp only [if_true] at h3 ⊢; obtain ⟨⟨x, hx, hk⟩, h4⟩ := h3; obtain ⟨hi, rfl⟩ := List.getElem?_eq_some_iff.1 hx; have := qWr (c := c) (a := es.take i) (m := [es[i]]) (z := es.drop (i + 1)) h1 (fun y hy => by rw [List.mem_singleton] at hy; rw [hy]; exact hk) h4
  rw [show [es[i]] ++ es.drop (i + 1) = es.drop i from (List.drop_eq_getElem_cons hi).symm, List.take_append_drop] at this
  exact this
 | false =>
  simp only [Bool.false_eq_true, if_false] at h3 ⊢; have := qWr (c := c) (a := es.take i) (m := []) (z := es.drop i) h1 (fun y hy => by cases hy) h3
  rw [List.nil_append, List.take_append_drop] at this; exact this
theorem jKn {c : Cg} {es : List Ent} {x : Ent} (h : x ∈ chgE c es) : x ∈ es \/ x ∈ c.putE := by
 unfold chgE at h; rcases List.mem_append.1 h with h | h
 ·exact .inl (List.mem_filter.1 h).1
 ·rcases List.mem_append.1 h with h | h
  ·exact .inr h
  ·exact .inl (List.mem_filter.1 h).1
theorem jDk {c : Cg} {x : Ent} (h : x ∈ c.putE) : x = ⟨c.key, c.value, 0⟩ := by
 unfold Cg.putE at h; split at h
 ·cases h
 ·rwa [List.mem_singleton] at h
theorem qGf {leaf : Bool} {es : List Ent} (hg : qBg leaf es) {x : Ent} (hx : x ∈ es) : x.Ok := by
 have h1 := ((qCp.1 hg.keys).2 x.key (List.mem_map_of_mem hx)).2; have h2 := hg.values x hx; unfold Ent.Ok; cases leaf with
 | true =>
  have := (hg.clean x hx).1 rfl; omega
 | false =>
  have := hg.kids rfl x hx; omega
theorem qSe {c : Cg} {es : List Ent} (hc : CgOk c) (hg : qBg true es) : (∀ x ∈ chgE c es, x.Ok) /\ qFb true (chgE c es) := by
 refine ⟨fun x hx => ?_, fun x hx => ?_⟩ <;> rcases jKn hx with h | h
 ·exact qGf hg h
 ·rw [jDk h]; have := hc.key; have := hc.value; unfold Ent.Ok; show c.key.size <= _ /\ c.value.size <= _ /\ (-9223372036854775808 : Int) <= 0 /\ (0 : Int) <= 9223372036854775807; omega
 ·exact hg.clean x h
 ·rw [jDk h]; exact ⟨fun _ => rfl, fun h => by cases h⟩
theorem qJs {c : Cg} {es : List Ent} (hg : qBg true es) : (chgE c es).length <= 4194304 := by
 have h1 := hg.len; have h2 : c.putE.length <= 1 := by unfold Cg.putE; split <;> simp
 have h3 := List.length_filter_le (fun x : Ent => kl x.key c.key) es
 have h4 := List.length_filter_le (fun x : Ent => kl c.key x.key) es
 unfold chgE; rw [List.length_append, List.length_append]; omega
theorem qGu {S : Nat -> Prop} {w X : World} {B : TB} {C : WB} {T : TM} {D : Dsk} {W1 : WM} {ks vs : List ByteArray} {ka va : Option Addr} {kc vc nk nv : Nat} {es2 : List Ent} {s : Int} {W' : WM} {ps : qBo} (hnk : ks.length = nk) (hnv : vs.length = nv) (hS : ∀ k, S k -> k < w.heap.size) (hX : Ws S X B C T D W1) (hm : Mod (WS C) w X)
  (hok : Own X 9 1 ka nk kc (ks.flatMap scs)) (hov : Own X 9 1 va nv vc (vs.flatMap scs)) (hkv : ∀ b, blk ka b -> ¬ blk va b) (hks : ks = es2.map (·.key)) (hvs : vs = es2.map (·.value)) (he : (∀ x ∈ es2, x.Ok) /\ qFb true es2) (hb : es2.length <= 4194304) (hk : qCb T (jlen B.room D : Int) W1 true es2 [s] = some (W', ps)) :
  Calls Tryz.prog 65 #[.pointer (some ⟨C.wb, 0, none⟩), .agg #[.bool true, .slice ka nk kc, .slice va nv vc, .slice none 0 0], .slice (some ⟨X.heap.size, 0, none⟩) 1 1] (X.alloc (.cells #[.int .i64 s] 3)) fun e w' => qGi S w B C T D W' ps e w' := by
 subst hnk; subst hnv; have ha : Mod (fun _ => False) X (X.alloc (.cells #[.int .i64 s] 3)) := (Mod.refl _ _).alloc _
 have hg : Gd X ⟨true, ks, vs, [], ka, kc, va, vc, none, 0⟩ := ⟨hok, hov, Own.nil _ _ _, hkv, fun b _ h => (qAj b h).elim, fun b _ h => (qAj b h).elim⟩
 have hh : Has ⟨true, ks, vs, [], ka, kc, va, vc, none, 0⟩ true es2 := ⟨rfl, hks, hvs, rfl⟩; have hl : Lies (X.alloc (.cells #[.int .i64 s] 3)) 1 ics (some ⟨X.heap.size, 0, none⟩) [s] := qEg (fun _ => rfl) (heap_alloc_new _ _)
 refine (qFi (n := ⟨true, ks, vs, [], ka, kc, va, vc, none, 0⟩) (ss := [s]) (cap := 1) (fun k hk => by have h1 := hS k hk; have h2 := hm.size; have h3 := ha.size; omega) (hX.ext ha) hh ((hh.ok hg hb he.1).ext ha) he.2 hl ⟨Nat.le_refl _, by unfold maxLen; decide⟩ (by simp) (fun k hk hw => ?_) hk).mono ?_
 ·rw [qAc] at hk; have := hX.lt (.inr hw); omega
 ·rintro e w' ⟨pa, pcap, rfl, h1, h2, h3, h4⟩; have h5 := (hm.trans (ha.mono (fun _ _ e => e.elim)))
  refine ⟨pa, pcap, rfl, h1, fun k hk => ?_, h3, h5.trans h4⟩
  have := h2 k hk; have := h5.size; omega
theorem qCo {c : Cg} {es : List Ent} {i : Nat} {ok : Bool} (h : chgE c es = es.take i ++ (c.putE ++ es.drop (if ok then i + 1 else i))) (f : Ent -> ByteArray) {l : List ByteArray} (hl : l = es.map f) :
  (chgE c es).map f = l.take i ++ (c.putE.map f ++ l.drop (if ok then i + 1 else i)) := by
 rw [h, hl]; simp only [List.map_append, List.map_take, List.map_drop]
theorem jIu {l : List ByteArray} {i : Nat} (hi : i < l.length) (v : ByteArray) : l.set i v = l.take i ++ (v :: l.drop (i + 1)) := by
 rw [List.set_eq_take_append_cons_drop, if_pos hi]
theorem jFb {l : List ByteArray} {i : Nat} {v : ByteArray} (hi : l[i]? = some v) : l = l.take i ++ (v :: l.drop (i + 1)) := by
 obtain ⟨hl, rfl⟩ := List.getElem?_eq_some_iff.1 hi; rw [<- List.drop_eq_getElem_cons hl, List.take_append_drop]
set_option maxRecDepth 100000
set_option maxHeartbeats 4000000 in
theorem qUd {S : Nat -> Prop} {w : World} {B : TB} {C : WB} {T : TM} {D : Dsk} {W : WM} {c : Cg} (hc : CgOk c) (hS : ∀ k, S k -> k < w.heap.size) (h : Ws S w B C T D W) {s : Int} {es : List Ent} (hn : W.look T s = some (true, es)) (hcn : -2305843009213693952 <= W.count /\ W.count <= 2305843009213693952) {f : Nat} {W' : WM} {ps : qBo}
  (hk : qBr T (jlen B.room D : Int) c (f + 1) W s = some (W', ps)) :
  Calls Tryz.prog 64 #[.pointer (some ⟨C.wb, 0, none⟩), .int .i64 s, .agg #[.string c.key, .string c.value, .bool c.gone]] w fun e w' => qGi S w B C T D W' ps e w' := by
 rw [qLf hn] at hk; have hg := qEz h hn; have hlen := hg.len; have hma : Mod (fun _ => False) w (w.alloc (.cells #[.string c.key, .string c.value, .bool c.gone] 113)) := (Mod.refl _ _).alloc _
 have HNd := hid (qEf (h.ext hma) hn); have HC0 : Hid ((w.alloc (.cells #[.string c.key, .string c.value, .bool c.gone] 113)).heap[w.heap.size]? = some (.cells #[.string c.key, .string c.value, .bool c.gone] 113 (0, 0))) := hid (heap_alloc_new _ _); have HMa := hid hma; have HW := hid h; have HG := hid hg; have HK := hid hk; have HCn := hid hcn; have HCk0 := hid hc; have HSl := hid hS; clear h hn hg hk hcn hc hma hS; go_enter Tryz.func64, Tryz.ntmps64
 go_upto_region 2 with (go_at_call 96; refine HNd.out.mono ?_; rintro e w1 ⟨m, rfl, hh1, hc1, hb1, hm1⟩; have HH := hid hh1; have HNC := hid hc1; have HBs := hid hb1; have HM1 := hid hm1; clear hh1 hc1 hb1 hm1; simp only [Nd.val])
 have HRi : Hid (qNc m.keys) := hid (by rw [HH.out.k]; exact qFv HG.out)
 have HBx : Hid ((w1.alloc (.cells #[.bool m.leaf, .slice m.ka m.keys.length m.kc, .slice m.va m.values.length m.vc, .slice m.ia m.kids.length m.ic] 123)).heap[w1.heap.size]? = some (.cells #[.bool m.leaf, .slice m.ka m.keys.length m.kc, .slice m.va m.values.length m.vc, .slice m.ia m.kids.length m.ic] 123 (0, 0))) := hid (heap_alloc_new _ _); have HM2 : Hid (Mod (fun _ => False) w1 (w1.alloc (.cells #[.bool m.leaf, .slice m.ka m.keys.length m.kc, .slice m.va m.values.length m.vc, .slice m.ia m.kids.length m.ic] 123))) := hid ((Mod.refl _ _).alloc _)
 have HPl := hid (qGq c.key (HNC.out.nd.ext HM2.out) HRi.out); generalize w1.alloc (.cells #[.bool m.leaf, .slice m.ka m.keys.length m.kc, .slice m.va m.values.length m.vc, .slice m.ia m.kids.length m.ic] 123) = Z at *; have hcz := (HM2.out.block _ (lth ((HM1.out.block _ (lth HC0.out) (fun e => e)).trans HC0.out)) (fun e => e)).trans ((HM1.out.block _ (lth HC0.out) (fun e => e)).trans HC0.out)
 have HCz := hid hcz; have k0 : Z.cell? ⟨w.heap.size, 0, none⟩ = some (.string c.key) := by rw [cell_of_row _ _ _ _ _ _ hcz]; rfl
 obtain ⟨x0, x1, x2, x3⟩ := cl4 HBx.out; clear hcz; go_upto_region 4 with (go_at_call 42; refine HPl.out.mono ?_; rintro e w3 ⟨⟨i, ok, hat, hok, rfl⟩, hm3⟩; have HAt := hid hat; have HOk := hid hok; have HM3 := hid hm3; have HMz := hid (HM2.out.trans hm3); have hb3 := (hm3.block _ (lth HBx.out) (fun e => e)).trans HBx.out; have HB3 := hid hb3; obtain ⟨y0, y1, y2, y3⟩ := cl4 hb3; rw [HH.out.l] at y0; obtain ⟨ii, hii⟩ : ∃ z : Int, (if ok = true then (i : Int) else ((i - 1 : Nat) : Int)) = z := ⟨_, rfl⟩; rw [hii]; have HIi := hid hii; clear hat hok hm3 hb3 x0 x1 x2 x3 hii)
 have HCk := hid (fun (y : World) (hy : Mod (fun _ => False) w3 y) => qTz m.kc ((HNC.out.nd.ext (HMz.out.trans hy)).k) (by have := HNC.out.nd.bk; omega))
 have HCv := hid (fun (y : World) (hy : Mod (fun _ => False) w3 y) => qTz m.vc ((HNC.out.nd.ext (HMz.out.trans hy)).v) (by have := HNC.out.nd.bv; omega))
 go_cut [10] (fun v wx => jMj w3 m.keys m.values v wx)
 case first =>
  have HS : Hid (∀ y, Mod (fun _ => False) w3 y -> y.cell? ⟨w1.heap.size, 1, none⟩ = some (.slice m.ka m.keys.length m.kc) /\ y.cell? ⟨w1.heap.size, 2, none⟩ = some (.slice m.va m.values.length m.vc)) := hid (fun y hy => ⟨(hy.cell (World.block_lt_of_cell? _ _ y1) (fun h => h)).trans y1, (hy.cell (World.block_lt_of_cell? _ _ y2) (fun h => h)).trans y2⟩)
  have HMd : Hid (Mod (fun _ => False) w3 w3.drew) := hid (Mod.refl _ _).drew
  clear y0 y1 y2 y3; refine qBw (S := qAa 8 (fun w' => w'.cell? ⟨w1.heap.size, 1, none⟩ = some (.slice m.ka m.keys.length m.kc) /\ w'.cell? ⟨w1.heap.size, 2, none⟩ = some (.slice m.va m.values.length m.vc))) (by kernel_rfl) (qAa.all (HS.out _ HMd.out)) (fun hHeld => ?_)
  generalize w3.drew = Y0 at *; refine aTk (v := .pointer (some ⟨w1.heap.size, 1, none⟩)) (d := 27) 0 rfl rfl (by kernel_rfl) (by kernel_rfl) (by kernel_rfl) (fun _ _ _ h => h) (fun l w h => qAa.same (by decide) h) (fun l j w h => qAa.mono h j) (Or.inl ⟨by rfl, fun w' _ => by go_simp⟩) hHeld (fun hU => ?_)
  clear hHeld; have hHeld := hU; clear hU; simp only [Act.put, sTA, sC0, sC1]; refine aTk (v := .slice m.ka m.keys.length m.kc) (d := 28) 1 rfl rfl (by kernel_rfl) (by kernel_rfl) (by kernel_rfl) (fun _ _ _ h => h) (fun l w h => qAa.same (by decide) h) (fun l j w h => qAa.mono h j) (Or.inl ⟨by rfl, fun w' hT => by (obtain ⟨l', hz', hu', hC', hS'⟩ := hT; obtain ⟨c1, c2⟩ := hS' (hC'.later (i := 1) (j := 8) rfl (by rw [hz']; decide) (by kernel_rfl) hu'); go_simp)⟩) hHeld (fun hU => ?_)
  clear hHeld; have hHeld := hU; clear hU; simp only [Act.put, sTA, sC0, sC1]; refine aTk (v := .pointer (some ⟨w1.heap.size, 2, none⟩)) (d := 30) 3 rfl rfl (by kernel_rfl) (by kernel_rfl) (by kernel_rfl) (fun _ _ _ h => h) (fun l w h => qAa.same (by decide) h) (fun l j w h => qAa.mono h j) (Or.inl ⟨by rfl, fun w' _ => by go_simp⟩) hHeld (fun hU => ?_)
  clear hHeld; have hHeld := hU; clear hU; simp only [Act.put, sTA, sC0, sC1]; refine aTk (v := .slice m.va m.values.length m.vc) (d := 31) 4 rfl rfl (by kernel_rfl) (by kernel_rfl) (by kernel_rfl) (fun _ _ _ h => h) (fun l w h => qAa.same (by decide) h) (fun l j w h => qAa.mono h j) (Or.inl ⟨by rfl, fun w' hT => by (obtain ⟨l', hz', hu', hC', hS'⟩ := hT; obtain ⟨c1, c2⟩ := hS' (hC'.later (i := 4) (j := 8) rfl (by rw [hz']; decide) (by kernel_rfl) hu'); go_simp)⟩) hHeld (fun hU => ?_)
  clear hHeld; have hHeld := hU; clear hU; simp only [Act.put, sTA, sC0, sC1]; refine aRd (rs := [2, 7]) (by kernel_rfl) (by simp) (AllL.cons rfl (by kernel_rfl) hHeld (fun K hK => ?_) (AllL.cons rfl (by kernel_rfl) hHeld (fun K hK => ?_) AllL.nil))
  ·go_simp; refine (HCk.out Y0 HMd.out).mono ?_; rintro e wk ⟨ka, kc, rfl, ho1, hb1, hm1⟩; have HMk : Hid (Mod (fun _ => False) w3 wk) := hid (HMd.out.trans hm1)
   have HOk := hid ho1; have HBk : Hid (∀ b, blk ka b -> Y0.heap.size <= b) := hid hb1; have HXk : Hid (w3.heap.size <= Y0.heap.size) := hid HMd.out.size; have HYk : Hid (Y0.heap.size <= wk.heap.size) := hid hm1.size; clear ho1 hb1 hm1; refine hK.out _ _ (qAa.all (HS.out wk HMk.out)) (fun hU => ?_)
   clear hK K hHeld; have hHeld := hU; clear hU; try simp only [Act.put, sTA, sC0, sC1]
   refine aRd (rs := [5, 7]) (by kernel_rfl) (by simp) (AllL.cons rfl (by kernel_rfl) hHeld (fun K hK => ?_) (AllL.cons rfl (by kernel_rfl) hHeld (fun K hK => ?_) AllL.nil))
   ·go_simp; refine (HCv.out wk HMk.out).mono ?_; rintro e wv ⟨va, vc, rfl, ho2, hb2, hm2⟩; have HMv : Hid (Mod (fun _ => False) w3 wv) := hid (HMk.out.trans hm2)
    have HOv := hid ho2; have HBv : Hid (∀ b, blk va b -> wk.heap.size <= b) := hid hb2; have HMkv : Hid (Mod (fun _ => False) wk wv) := hid (Mod.trans (a := wk) (Mod.refl _ _) hm2)
    have HXv : Hid (wk.heap.size <= wk.heap.size) := hid (Mod.size (S := fun _ => False) (w := wk) (Mod.refl _ _))
    clear ho2 hb2 hm2; refine hK.out _ _ (qAa.all (HS.out wv HMv.out)) (fun hU => ?_)
    clear hK K hHeld; have hHeld := hU; clear hU; try simp only [Act.put, sTA, sC0, sC1]
    refine aTk (v := .agg #[.bool true, .slice ka m.keys.length kc, .slice va m.values.length vc, .slice none 0 0]) (d := 33) 6 rfl rfl (by kernel_rfl) (by kernel_rfl) (by kernel_rfl) (fun _ _ _ h => h) (fun l w h => qAa.same (by decide) h) (fun l j w h => qAa.mono h j) (Or.inl ⟨by rfl, fun w' _ => by go_simp⟩) hHeld (fun hU => ?_)
    clear hHeld; have hHeld := hU; clear hU; simp only [Act.put, sTA, sC0, sC1]; refine aRd (rs := [7]) (by kernel_rfl) (by simp) (AllL.cons rfl (by kernel_rfl) hHeld (fun K hK => ?_) AllL.nil)
    go_simp; have hmy : Mod (fun _ => False) wv (wv.alloc (.cells #[.bool false, .slice none 0 0, .slice none 0 0, .slice none 0 0] 123)) := (Mod.refl _ _).alloc _
    have HQ0 : Hid ((wv.alloc (.cells #[.bool false, .slice none 0 0, .slice none 0 0, .slice none 0 0] 123)).heap[wv.heap.size]? = some (.cells #[.bool false, .slice none 0 0, .slice none 0 0, .slice none 0 0] 123 (0, 0))) := hid (heap_alloc_new _ _); have HMy : Hid (Mod (fun _ => False) w3 (wv.alloc (.cells #[.bool false, .slice none 0 0, .slice none 0 0, .slice none 0 0] 123))) := hid (HMv.out.trans hmy)
    have HMXy := hid hmy; have HXq : Hid (w3.heap.size <= wv.heap.size) := hid HMv.out.size; have HYq : Hid ((wv.alloc (.cells #[.bool false, .slice none 0 0, .slice none 0 0, .slice none 0 0] 123)).heap.size = wv.heap.size + 1) := hid (by simp)
    clear hmy; generalize wv.alloc (.cells #[.bool false, .slice none 0 0, .slice none 0 0, .slice none 0 0] 123) = Y at *; refine hK.out _ _ (qAa.all (HS.out Y HMy.out)) (fun hU => ?_)
    clear hK K hHeld; have hHeld := hU; clear hU; try simp only [Act.put, sTA, sC0, sC1]
    refine aRd (rs := [8]) (by kernel_rfl) (by simp) (AllL.cons rfl (by kernel_rfl) hHeld (fun K hK => ?_) AllL.nil)
    obtain ⟨x0, x1, x2, x3⟩ := cl4 HQ0.out; have f0 := frozen_of_row _ _ 0 _ _ HQ0.out; have f1 := frozen_of_row _ _ 1 _ _ HQ0.out; have f2 := frozen_of_row _ _ 2 _ _ HQ0.out; have f3 := frozen_of_row _ _ 3 _ _ HQ0.out; go_simp; clear x0 x1 x2 x3 f0 f1 f2 f3; refine hK.out _ _ (qAa.set (by rw [hHeld.1]; decide)) (fun hU => ?_)
    clear hK K hHeld; have hHeld := hU; clear hU; try simp only [Act.put, sTA, sC0, sC1]
    refine qBc (by kernel_rfl) ?_ _
    clear hHeld; go_wp2_with fail
    go_meet
    case rel =>
     have e1 : ∀ b, blk ka b -> b < wk.heap.size := fun b hb => HOk.out.lt b hb
     have e2 : ∀ b, blk va b -> b < wv.heap.size := fun b hb => HOv.out.lt b hb
     have hq1 := HYq.out; have hx1 := HXk.out; have hx2 := HXv.out; have hx3 := HXq.out; have hx6 := HYk.out; have hx4 := HMk.out.size; have hx5 := HMkv.out.size; exact qPm (w2 := Y) (q := wv.heap.size) rfl rfl HMy.out (qBl (S := fun k => k = wv.heap.size) (Mod.refl _ _) (fun _ => rfl) _ _ _ _) ((HOk.out.mod HMkv.out (fun _ _ e => e)).mod HMXy.out (fun _ _ e => e)) (HOv.out.mod HMXy.out (fun _ _ e => e)) (fun b hb => by have h1 := HBk.out b hb; have h2 := e1 b hb; omega) (fun b hb => by have h1 := HBv.out b hb; have h2 := e2 b hb; omega) (fun b h1 h2 => by have h3 := e1 b h1; have h4 := HBv.out b h2; omega) (qDk HQ0.out _ _ _ _) (by omega)
   ·go_simp; have hmy : Mod (fun _ => False) wk (wk.alloc (.cells #[.bool false, .slice none 0 0, .slice none 0 0, .slice none 0 0] 123)) := (Mod.refl _ _).alloc _
    have HQ0 : Hid ((wk.alloc (.cells #[.bool false, .slice none 0 0, .slice none 0 0, .slice none 0 0] 123)).heap[wk.heap.size]? = some (.cells #[.bool false, .slice none 0 0, .slice none 0 0, .slice none 0 0] 123 (0, 0))) := hid (heap_alloc_new _ _); have HMy : Hid (Mod (fun _ => False) w3 (wk.alloc (.cells #[.bool false, .slice none 0 0, .slice none 0 0, .slice none 0 0] 123))) := hid (HMk.out.trans hmy)
    have HMXy := hid hmy; have HXq : Hid (w3.heap.size <= wk.heap.size) := hid HMk.out.size; have HYq : Hid ((wk.alloc (.cells #[.bool false, .slice none 0 0, .slice none 0 0, .slice none 0 0] 123)).heap.size = wk.heap.size + 1) := hid (by simp)
    clear hmy; generalize wk.alloc (.cells #[.bool false, .slice none 0 0, .slice none 0 0, .slice none 0 0] 123) = Y at *; refine hK.out _ _ (qAa.all (HS.out Y HMy.out)) (fun hU => ?_)
    clear hK K hHeld; have hHeld := hU; clear hU; try simp only [Act.put, sTA, sC0, sC1]
    refine aRd (rs := [5]) (by kernel_rfl) (by simp) (AllL.cons rfl (by kernel_rfl) hHeld (fun K hK => ?_) AllL.nil)
    go_simp; refine (HCv.out Y HMy.out).mono ?_; rintro e wv ⟨va, vc, rfl, ho2, hb2, hm2⟩; have HMv : Hid (Mod (fun _ => False) w3 wv) := hid (HMy.out.trans hm2)
    have HOv := hid ho2; have HBv : Hid (∀ b, blk va b -> Y.heap.size <= b) := hid hb2; have HMkv : Hid (Mod (fun _ => False) wk wv) := hid (Mod.trans (a := wk) HMXy.out hm2)
    have HXv : Hid (wk.heap.size <= Y.heap.size) := hid (Mod.size (S := fun _ => False) (w := wk) HMXy.out)
    have HQ1 := hid (qAq hm2 HQ0.out); clear ho2 hb2 hm2; refine hK.out _ _ (qAa.all (HS.out wv HMv.out)) (fun hU => ?_)
    clear hK K hHeld; have hHeld := hU; clear hU; try simp only [Act.put, sTA, sC0, sC1]
    refine aTk (v := .agg #[.bool true, .slice ka m.keys.length kc, .slice va m.values.length vc, .slice none 0 0]) (d := 33) 6 rfl rfl (by kernel_rfl) (by kernel_rfl) (by kernel_rfl) (fun _ _ _ h => h) (fun l w h => qAa.same (by decide) h) (fun l j w h => qAa.mono h j) (Or.inl ⟨by rfl, fun w' _ => by go_simp⟩) hHeld (fun hU => ?_)
    clear hHeld; have hHeld := hU; clear hU; simp only [Act.put, sTA, sC0, sC1]; refine aRd (rs := [8]) (by kernel_rfl) (by simp) (AllL.cons rfl (by kernel_rfl) hHeld (fun K hK => ?_) AllL.nil)
    obtain ⟨x0, x1, x2, x3⟩ := cl4 HQ1.out; have f0 := frozen_of_row _ _ 0 _ _ HQ1.out; have f1 := frozen_of_row _ _ 1 _ _ HQ1.out; have f2 := frozen_of_row _ _ 2 _ _ HQ1.out; have f3 := frozen_of_row _ _ 3 _ _ HQ1.out; go_simp; clear x0 x1 x2 x3 f0 f1 f2 f3; refine hK.out _ _ (qAa.set (by rw [hHeld.1]; decide)) (fun hU => ?_)
    clear hK K hHeld; have hHeld := hU; clear hU; try simp only [Act.put, sTA, sC0, sC1]
    refine qBc (by kernel_rfl) ?_ _
    clear hHeld; go_wp2_with fail
    go_meet
    case rel =>
     have e1 : ∀ b, blk ka b -> b < wk.heap.size := fun b hb => HOk.out.lt b hb
     have e2 : ∀ b, blk va b -> b < wv.heap.size := fun b hb => HOv.out.lt b hb
     have hq1 := HYq.out; have hx1 := HXk.out; have hx2 := HXv.out; have hx3 := HXq.out; have hx6 := HYk.out; have hx4 := HMk.out.size; have hx5 := HMkv.out.size; exact qPm (w2 := wv) (q := wk.heap.size) rfl rfl HMv.out (qBl (S := fun k => k = wk.heap.size) (Mod.refl _ _) (fun _ => rfl) _ _ _ _) (HOk.out.mod HMkv.out (fun _ _ e => e)) (HOv.out) (fun b hb => by have h1 := HBk.out b hb; have h2 := e1 b hb; omega) (fun b hb => by have h1 := HBv.out b hb; have h2 := e2 b hb; omega) (fun b h1 h2 => by have h3 := e1 b h1; have h4 := HBv.out b h2; omega) (qDk HQ1.out _ _ _ _) (by omega)
  ·go_simp; have hmy : Mod (fun _ => False) Y0 (Y0.alloc (.cells #[.bool false, .slice none 0 0, .slice none 0 0, .slice none 0 0] 123)) := (Mod.refl _ _).alloc _
   have HQ0 : Hid ((Y0.alloc (.cells #[.bool false, .slice none 0 0, .slice none 0 0, .slice none 0 0] 123)).heap[Y0.heap.size]? = some (.cells #[.bool false, .slice none 0 0, .slice none 0 0, .slice none 0 0] 123 (0, 0))) := hid (heap_alloc_new _ _); have HMy : Hid (Mod (fun _ => False) w3 (Y0.alloc (.cells #[.bool false, .slice none 0 0, .slice none 0 0, .slice none 0 0] 123))) := hid (HMd.out.trans hmy)
   have HMXy := hid hmy; have HXq : Hid (w3.heap.size <= Y0.heap.size) := hid HMd.out.size; have HYq : Hid ((Y0.alloc (.cells #[.bool false, .slice none 0 0, .slice none 0 0, .slice none 0 0] 123)).heap.size = Y0.heap.size + 1) := hid (by simp)
   clear hmy; generalize Y0.alloc (.cells #[.bool false, .slice none 0 0, .slice none 0 0, .slice none 0 0] 123) = Y at *; refine hK.out _ _ (qAa.all (HS.out Y HMy.out)) (fun hU => ?_)
   clear hK K hHeld; have hHeld := hU; clear hU; try simp only [Act.put, sTA, sC0, sC1]
   refine aRd (rs := [2]) (by kernel_rfl) (by simp) (AllL.cons rfl (by kernel_rfl) hHeld (fun K hK => ?_) AllL.nil)
   go_simp; refine (HCk.out Y HMy.out).mono ?_; rintro e wk ⟨ka, kc, rfl, ho1, hb1, hm1⟩; have HMk : Hid (Mod (fun _ => False) w3 wk) := hid (HMy.out.trans hm1)
   have HOk := hid ho1; have HBk : Hid (∀ b, blk ka b -> Y.heap.size <= b) := hid hb1; have HXk : Hid (w3.heap.size <= Y.heap.size) := hid HMy.out.size; have HYk : Hid (Y.heap.size <= wk.heap.size) := hid hm1.size; have HQ1 := hid (qAq hm1 HQ0.out); clear ho1 hb1 hm1; refine hK.out _ _ (qAa.all (HS.out wk HMk.out)) (fun hU => ?_)
   clear hK K hHeld; have hHeld := hU; clear hU; try simp only [Act.put, sTA, sC0, sC1]
   refine aRd (rs := [5]) (by kernel_rfl) (by simp) (AllL.cons rfl (by kernel_rfl) hHeld (fun K hK => ?_) AllL.nil)
   go_simp; refine (HCv.out wk HMk.out).mono ?_; rintro e wv ⟨va, vc, rfl, ho2, hb2, hm2⟩; have HMv : Hid (Mod (fun _ => False) w3 wv) := hid (HMk.out.trans hm2)
   have HOv := hid ho2; have HBv : Hid (∀ b, blk va b -> wk.heap.size <= b) := hid hb2; have HMkv : Hid (Mod (fun _ => False) wk wv) := hid (Mod.trans (a := wk) (Mod.refl _ _) hm2)
   have HXv : Hid (wk.heap.size <= wk.heap.size) := hid (Mod.size (S := fun _ => False) (w := wk) (Mod.refl _ _))
   have HQ2 := hid (qAq hm2 HQ1.out); clear ho2 hb2 hm2; refine hK.out _ _ (qAa.all (HS.out wv HMv.out)) (fun hU => ?_)
   clear hK K hHeld; have hHeld := hU; clear hU; try simp only [Act.put, sTA, sC0, sC1]
   refine aTk (v := .agg #[.bool true, .slice ka m.keys.length kc, .slice va m.values.length vc, .slice none 0 0]) (d := 33) 6 rfl rfl (by kernel_rfl) (by kernel_rfl) (by kernel_rfl) (fun _ _ _ h => h) (fun l w h => qAa.same (by decide) h) (fun l j w h => qAa.mono h j) (Or.inl ⟨by rfl, fun w' _ => by go_simp⟩) hHeld (fun hU => ?_)
   clear hHeld; have hHeld := hU; clear hU; simp only [Act.put, sTA, sC0, sC1]; refine aRd (rs := [8]) (by kernel_rfl) (by simp) (AllL.cons rfl (by kernel_rfl) hHeld (fun K hK => ?_) AllL.nil)
   obtain ⟨x0, x1, x2, x3⟩ := cl4 HQ2.out; have f0 := frozen_of_row _ _ 0 _ _ HQ2.out; have f1 := frozen_of_row _ _ 1 _ _ HQ2.out; have f2 := frozen_of_row _ _ 2 _ _ HQ2.out; have f3 := frozen_of_row _ _ 3 _ _ HQ2.out; go_simp; clear x0 x1 x2 x3 f0 f1 f2 f3; refine hK.out _ _ (qAa.set (by rw [hHeld.1]; decide)) (fun hU => ?_)
   clear hK K hHeld; have hHeld := hU; clear hU; try simp only [Act.put, sTA, sC0, sC1]
   refine qBc (by kernel_rfl) ?_ _
   clear hHeld; go_wp2_with fail
   go_meet
   case rel =>
    have e1 : ∀ b, blk ka b -> b < wk.heap.size := fun b hb => HOk.out.lt b hb
    have e2 : ∀ b, blk va b -> b < wv.heap.size := fun b hb => HOv.out.lt b hb
    have hq1 := HYq.out; have hx1 := HXk.out; have hx2 := HXv.out; have hx3 := HXq.out; have hx6 := HYk.out; have hx4 := HMk.out.size; have hx5 := HMkv.out.size; exact qPm (w2 := wv) (q := Y0.heap.size) rfl rfl HMv.out (qBl (S := fun k => k = Y0.heap.size) (Mod.refl _ _) (fun _ => rfl) _ _ _ _) (HOk.out.mod HMkv.out (fun _ _ e => e)) (HOv.out) (fun b hb => by have h1 := HBk.out b hb; have h2 := e1 b hb; omega) (fun b hb => by have h1 := HBv.out b hb; have h2 := e2 b hb; omega) (fun b h1 h2 => by have h3 := e1 b h1; have h4 := HBv.out b h2; omega) (qDk HQ2.out _ _ _ _) (by omega)
 case rest =>
  obtain ⟨q, ka, va, kc, vc, rfl, hho, hmx⟩ := hcut; have HHo := hid hho; have HMx := hid hmx; clear hho hmx y0 y1 y2 y3 k0; have HMw := hid (((HMa.out.trans HM1.out).trans HMz.out).trans HMx.out); have HCx := hid ((HMx.out.block _ (lth ((HM3.out.block _ (lth HCz.out) (fun e => e)).trans HCz.out)) (fun e => e)).trans ((HM3.out.block _ (lth HCz.out) (fun e => e)).trans HCz.out))
  have HB5 := hid ((HMx.out.block _ (lth HB3.out) (fun e => e)).trans HB3.out)
  have HCut := hid (qOr (c := c) (es := es) (i := i) (ok := ok) (by rw [<- HH.out.k]; exact HRi.out) (by rw [<- HH.out.k]; exact HAt.out) (by rw [<- HH.out.k]; exact HOk.out))
  obtain ⟨k0, k1, k2⟩ := qMs HCx.out; cases hgo : c.gone with
  | true =>
   rw [hgo] at k2; cases ok with
   | false =>
    have hk1 : es[0]? = some (es[0]'(List.length_pos_iff.2 HG.out.ne)) := List.getElem?_eq_getElem _; have hk0 : m.keys[0]? = some (fk es) := by
     rw [HH.out.k]; cases es with
     | nil => exact absurd rfl HG.out.ne
     | cons e r => rfl
    have hnx := HNC.out.nd.ext (HMz.out.trans HMx.out); obtain ⟨gk, okk, hka, hkc⟩ := hnx.k.one hk0; obtain ⟨y0, y1, y2, y3⟩ := cl4 HB5.out; rw [hka] at y1; simp only [Nat.add_zero] at hkc; have hkl : m.keys.length ≠ 0 := by have := (List.getElem?_eq_some_iff.1 hk0).1; omega
    have dk : decide (0 < m.keys.length) = true := by simpa using Nat.pos_of_ne_zero hkl
    have HEq : Hid (W = W' /\ ps = [(fk es, s)]) := hid (by
     have h1 := HK.out; rw [hgo, HCut.out.2.1] at h1; simp only [Bool.not_false, Bool.and_true, if_true, Option.some.injEq, Prod.mk.injEq] at h1; exact ⟨h1.1, h1.2.symm⟩)
    clear hnx hka hk1 hk0; go_wp2_with fail
    go_ret; obtain ⟨rfl, rfl⟩ := HEq.out; exact ⟨_, _, rfl, jFo _ _, fun k hk => by rw [qAc] at hk; have := HMw.out.size; omega, (HW.out.ext HMw.out).ext ((Mod.refl _ _).alloc _), (HMw.out.mono (fun _ _ e => e.elim)).alloc _⟩
   | true =>
    have hii : ii = (i : Int) := by rw [<- HIi.out]; rfl
    subst hii; have hki : m.keys[i]? = some c.key := HOk.out.1 rfl; have hil : i < m.keys.length := (List.getElem?_eq_some_iff.1 hki).1; have hvl : m.values.length = m.keys.length := by rw [HH.out.v, HH.out.k]; simp
    have hbk := HNC.out.nd.bk; have HVl := hid hvl; obtain ⟨gk, ok1, rfl⟩ : ∃ g off, ka = some ⟨g, off, none⟩ := (HHo.out.gd.k.any).resolve_left (fun e => by have h2 : m.keys.length <= kc := HHo.out.gd.k.2.1; have h3 : kc = 0 := e.2; omega)
    obtain ⟨gv, ov1, rfl⟩ : ∃ g off, va = some ⟨g, off, none⟩ := (HHo.out.gd.v.any).resolve_left (fun e => by have h2 : m.values.length <= vc := HHo.out.gd.v.2.1; have h3 : vc = 0 := e.2; omega)
    have hgne : gk ≠ gv := fun e => HHo.out.gd.kv gk (qAc.2 rfl) (qAc.2 e.symm)
    have hqk : q ≠ gk := fun e => (HHo.out.bs gk (.inl (qAc.2 rfl))).2 e.symm
    have hqv : q ≠ gv := fun e => (HHo.out.bs gv (.inr (.inl (qAc.2 rfl)))).2 e.symm
    have HNe := hid (And.intro hgne (And.intro hqk hqv)); have s1 : IntKind.i64.wrap ((i : Int) + 1) = (i : Int) + 1 := by rw [IntKind.wrap_i64]; omega
    clear hki hvl hgne hqk hqv; go_upto_region 11 with fail
    have HS := hid (fun (y : World) (hy : Mod (fun k => k = gk \/ k = gv) _ y) => (show y.cell? ⟨q, 1, none⟩ = some (.slice (some ⟨gk, ok1, none⟩) m.keys.length kc) /\ y.cell? ⟨q, 2, none⟩ = some (.slice (some ⟨gv, ov1, none⟩) m.values.length vc) from by
     have hb := HHo.out.box.mod hy (fun e => e.elim HNe.out.2.1 HNe.out.2.2)
     exact ⟨hb.cells.2.1, hb.cells.2.2.1⟩))
    have HMd := jDa HMx; refine qBw (S := qAa 13 (fun w' => w'.cell? ⟨q, 1, none⟩ = some (.slice (some ⟨gk, ok1, none⟩) m.keys.length kc) /\ w'.cell? ⟨q, 2, none⟩ = some (.slice (some ⟨gv, ov1, none⟩) m.values.length vc))) (by kernel_rfl) (qAa.all (HS.out _ (HMd.out.mono (fun _ _ e => e.elim)))) (fun hHeld => ?_)
    refine aTk (v := .pointer (some ⟨q, 1, none⟩)) (d := 84) 0 rfl rfl (by kernel_rfl) (by kernel_rfl) (by kernel_rfl) (fun _ _ _ h => h) (fun l w h => qAa.same (by decide) h) (fun l j w h => qAa.mono h j) (Or.inl ⟨by rfl, fun w' _ => by go_simp⟩) hHeld (fun hU => ?_)
    clear hHeld; have hHeld := hU; clear hU; simp only [Act.put, sTA, sC0, sC1]; refine aTk (v := .slice (some ⟨gk, ok1, none⟩) m.keys.length kc) (d := 85) 1 rfl rfl (by kernel_rfl) (by kernel_rfl) (by kernel_rfl) (fun _ _ _ h => h) (fun l w h => qAa.same (by decide) h) (fun l j w h => qAa.mono h j) (Or.inl ⟨by rfl, fun w' hT => by (obtain ⟨l', hz', hu', hC', hS'⟩ := hT; obtain ⟨c1, c2⟩ := hS' (hC'.later (i := 1) (j := 13) rfl (by rw [hz']; decide) (by kernel_rfl) hu'); go_simp)⟩) hHeld (fun hU => ?_)
    clear hHeld; have hHeld := hU; clear hU; simp only [Act.put, sTA, sC0, sC1]; refine aTk (v := .int .i64 (i : Int)) (d := 86) 2 rfl rfl (by kernel_rfl) (by kernel_rfl) (by kernel_rfl) (fun _ _ _ h => h) (fun l w h => qAa.same (by decide) h) (fun l j w h => qAa.mono h j) (Or.inl ⟨by rfl, fun w' _ => by go_simp⟩) hHeld (fun hU => ?_)
    clear hHeld; have hHeld := hU; clear hU; simp only [Act.put, sTA, sC0, sC1]; refine aTk (v := .int .i64 (i : Int)) (d := 87) 3 rfl rfl (by kernel_rfl) (by kernel_rfl) (by kernel_rfl) (fun _ _ _ h => h) (fun l w h => qAa.same (by decide) h) (fun l j w h => qAa.mono h j) (Or.inl ⟨by rfl, fun w' _ => by go_simp⟩) hHeld (fun hU => ?_)
    clear hHeld; have hHeld := hU; clear hU; simp only [Act.put, sTA, sC0, sC1]; refine aTk (v := .int .i64 ((i : Int) + 1)) (d := 88) 4 rfl rfl (by kernel_rfl) (by kernel_rfl) (by kernel_rfl) (fun _ _ _ h => h) (fun l w h => qAa.same (by decide) h) (fun l j w h => qAa.mono h j) (Or.inl ⟨by rfl, fun w' _ => by go_simp⟩) hHeld (fun hU => ?_)
    clear hHeld; have hHeld := hU; clear hU; simp only [Act.put, sTA, sC0, sC1]; refine aTk (v := .pointer (some ⟨q, 2, none⟩)) (d := 90) 6 rfl rfl (by kernel_rfl) (by kernel_rfl) (by kernel_rfl) (fun _ _ _ h => h) (fun l w h => qAa.same (by decide) h) (fun l j w h => qAa.mono h j) (Or.inl ⟨by rfl, fun w' _ => by go_simp⟩) hHeld (fun hU => ?_)
    clear hHeld; have hHeld := hU; clear hU; simp only [Act.put, sTA, sC0, sC1]; refine aTk (v := .slice (some ⟨gv, ov1, none⟩) m.values.length vc) (d := 91) 7 rfl rfl (by kernel_rfl) (by kernel_rfl) (by kernel_rfl) (fun _ _ _ h => h) (fun l w h => qAa.same (by decide) h) (fun l j w h => qAa.mono h j) (Or.inl ⟨by rfl, fun w' hT => by (obtain ⟨l', hz', hu', hC', hS'⟩ := hT; obtain ⟨c1, c2⟩ := hS' (hC'.later (i := 7) (j := 13) rfl (by rw [hz']; decide) (by kernel_rfl) hu'); go_simp)⟩) hHeld (fun hU => ?_)
    clear hHeld; have hHeld := hU; clear hU; simp only [Act.put, sTA, sC0, sC1]; refine aTk (v := .int .i64 (i : Int)) (d := 92) 8 rfl rfl (by kernel_rfl) (by kernel_rfl) (by kernel_rfl) (fun _ _ _ h => h) (fun l w h => qAa.same (by decide) h) (fun l j w h => qAa.mono h j) (Or.inl ⟨by rfl, fun w' _ => by go_simp⟩) hHeld (fun hU => ?_)
    clear hHeld; have hHeld := hU; clear hU; simp only [Act.put, sTA, sC0, sC1]; refine aTk (v := .int .i64 (i : Int)) (d := 93) 9 rfl rfl (by kernel_rfl) (by kernel_rfl) (by kernel_rfl) (fun _ _ _ h => h) (fun l w h => qAa.same (by decide) h) (fun l j w h => qAa.mono h j) (Or.inl ⟨by rfl, fun w' _ => by go_simp⟩) hHeld (fun hU => ?_)
    clear hHeld; have hHeld := hU; clear hU; simp only [Act.put, sTA, sC0, sC1]; refine aTk (v := .int .i64 ((i : Int) + 1)) (d := 94) 10 rfl rfl (by kernel_rfl) (by kernel_rfl) (by kernel_rfl) (fun _ _ _ h => h) (fun l w h => qAa.same (by decide) h) (fun l j w h => qAa.mono h j) (Or.inl ⟨by rfl, fun w' _ => by go_simp⟩) hHeld (fun hU => ?_)
    clear hHeld; have hHeld := hU; clear hU; simp only [Act.put, sTA, sC0, sC1]; refine aRd (rs := [5]) (by kernel_rfl) (by simp) (AllL.cons rfl (by kernel_rfl) hHeld (fun K hK => ?_) AllL.nil)
    go_simp; refine (qWl (HHo.out.gd.k.mod HMd.out (fun _ _ e => e)) i hil).mono ?_
    rintro e w5 ⟨rfl, ho5, hm5⟩; have HO5 := hid ho5; have HM5 : Hid (Mod (fun k => k = gk \/ k = gv) _ w5) := hid ((HMd.out.mono (fun _ _ e => e.elim)).trans (hm5.mono (fun _ _ e => .inl e)))
    have HM5k := hid (Mod.trans (HMd.out.mono (T := fun k => k = gk) (fun _ _ e => e.elim)) hm5)
    clear ho5 hm5; refine hK.out _ _ (qAa.all (HS.out w5 HM5.out)) (fun hU => ?_)
    clear hK K hHeld; have hHeld := hU; clear hU; refine aTk (v := .pointer (some ⟨q, 1, none⟩)) (d := 96) 12 rfl rfl (by kernel_rfl) (by kernel_rfl) (by kernel_rfl) (fun _ _ _ h => h) (fun l w h => qAa.same (by decide) h) (fun l j w h => qAa.mono h j) (Or.inl ⟨by rfl, fun w' _ => by go_simp⟩) hHeld (fun hU => ?_)
    clear hHeld; have hHeld := hU; clear hU; simp only [Act.put, sTA, sC0, sC1]; refine aRd (rs := [11]) (by kernel_rfl) (by simp) (AllL.cons rfl (by kernel_rfl) hHeld (fun K hK => ?_) AllL.nil)
    go_simp; refine (qWl (HHo.out.gd.v.mod HM5k.out (fun k hk e => HNe.out.1 (by rw [<- e]; exact (qAc.1 hk).symm))) i (by have := HVl.out; show i < m.values.length; omega)).mono ?_
    rintro e w7 ⟨rfl, ho7, hm7⟩; have HO7 := hid ho7; have HM57 := hid hm7; have HM7 := hid (HM5.out.trans (hm7.mono (fun _ _ e => .inr e)))
    clear ho7 hm7; refine hK.out _ _ (qAa.all (HS.out w7 HM7.out)) (fun hU => ?_)
    clear hK K hHeld; have hHeld := hU; clear hU; refine aRd (rs := [13]) (by kernel_rfl) (by simp) (AllL.cons rfl (by kernel_rfl) hHeld (fun K hK => ?_) AllL.nil)
    have HX7 := hid (HHo.out.box.mod HM7.out (fun e => e.elim HNe.out.2.1 HNe.out.2.2))
    obtain ⟨x0, x1, x2, x3⟩ := HX7.out.cells; have f1 := frozen_of_row _ _ 1 _ _ HX7.out; go_simp; clear x0 x1 x2 x3 f1; refine hK.out _ _ (qAa.set (by rw [hHeld.1]; decide)) (fun hU => ?_)
    clear hK K hHeld; have hHeld := hU; clear hU; try simp only [Act.put, sTA, sC0, sC1]
    refine aTk (v := .pointer (some ⟨q, 2, none⟩)) (d := 97) 14 rfl rfl (by kernel_rfl) (by kernel_rfl) (by kernel_rfl) (fun _ _ _ h => h) (fun l w h => qAa.same (by decide) h) (fun l j w h => qAa.mono h j) (Or.inl ⟨by rfl, fun w' _ => by go_simp⟩) hHeld (fun hU => ?_)
    clear hHeld; have hHeld := hU; clear hU; simp only [Act.put, sTA, sC0, sC1]; refine aRd (rs := [15]) (by kernel_rfl) (by simp) (AllL.cons rfl (by kernel_rfl) hHeld (fun K hK => ?_) AllL.nil)
    have HX8 := hid (set4 HX7.out (.slice (some ⟨gk, ok1, none⟩) (m.keys.length - 1 : Nat) kc)).2.1; obtain ⟨x0, x1, x2, x3⟩ := cl4 HX8.out; have f2 := frozen_of_row _ _ 2 _ _ HX8.out; go_simp; clear x0 x1 x2 x3 f2; refine hK.out _ _ (fun hu => absurd (show true = false from hu) (by decide)) (fun hU => ?_)
    clear hK K hHeld; have hHeld := hU; clear hU; try simp only [Act.put, sTA, sC0, sC1]
    refine qBc (by kernel_rfl) ?_ _
    clear hHeld; have hx9 : ((w7.setCell ⟨q, 1, none⟩ (.slice (some ⟨gk, ok1, none⟩) (m.keys.length - 1 : Nat) kc)).setCell ⟨q, 2, none⟩ (.slice (some ⟨gv, ov1, none⟩) (m.values.length - 1 : Nat) vc)).heap[q]? = some (.cells #[.bool true, .slice (some ⟨gk, ok1, none⟩) (m.keys.length - 1 : Nat) kc, .slice (some ⟨gv, ov1, none⟩) (m.values.length - 1 : Nat) vc, .slice none 0 0] 123 (0, 0)) := qAh (qAh HX7.out _) _
    have hm9 : Mod (fun k => k = q) w7 ((w7.setCell ⟨q, 1, none⟩ (.slice (some ⟨gk, ok1, none⟩) (m.keys.length - 1 : Nat) kc)).setCell ⟨q, 2, none⟩ (.slice (some ⟨gv, ov1, none⟩) (m.values.length - 1 : Nat) vc)) := Mod.setCell (S := fun k => k = q) (p := ⟨q, 2, none⟩) (Mod.setCell (S := fun k => k = q) (p := ⟨q, 1, none⟩) (Mod.refl _ _) (fun _ => rfl) _) (fun _ => rfl) _
    generalize ((w7.setCell ⟨q, 1, none⟩ (.slice (some ⟨gk, ok1, none⟩) (m.keys.length - 1 : Nat) kc)).setCell ⟨q, 2, none⟩ (.slice (some ⟨gv, ov1, none⟩) (m.values.length - 1 : Nat) vc)) = X at *; have HX9 := hid hx9; have HOk9 : Hid (Own X 9 1 (some ⟨gk, ok1, none⟩) (m.keys.length - 1) kc ((m.keys.take i ++ m.keys.drop (i + 1)).flatMap scs)) := hid ((HO5.out.mod HM57.out (fun k hk e => HNe.out.1 (by rw [<- e]; exact qAc.1 hk))).mod hm9 (fun k hk e => HNe.out.2.1 (by rw [<- e]; exact (qAc.1 hk).symm)))
    have HOv9 : Hid (Own X 9 1 (some ⟨gv, ov1, none⟩) (m.values.length - 1) vc ((m.values.take i ++ m.values.drop (i + 1)).flatMap scs)) := hid (HO7.out.mod hm9 (fun k hk e => HNe.out.2.2 (by rw [<- e]; exact (qAc.1 hk).symm)))
    have HmX : Hid (Mod (fun _ => False) w X) := hid (by
     have b1 := (HHo.out.bs gk (.inl (qAc.2 rfl))).1; have b2 := (HHo.out.bs gv (.inr (.inl (qAc.2 rfl)))).1; have b3 := HHo.out.lb; have b4 := ((HMa.out.trans HM1.out).trans HMz.out).size; exact (HMw.out.then HM7.out (fun k hk e => e.elim (fun e => by omega) (fun e => by omega))).then hm9 (fun k hk e => by omega))
    have HKv9 : Hid (∀ b, blk (some ⟨gk, ok1, none⟩) b -> ¬ blk (some ⟨gv, ov1, none⟩) b) := hid (fun b h1 h2 => HNe.out.1 ((qAc.1 h1).trans (qAc.1 h2).symm))
    have HEs := hid (qTy HCut.out); have HKk : Hid (m.keys.take i ++ m.keys.drop (i + 1) = (chgE c es).map (·.key)) := hid (by rw [qCo HEs.out (·.key) HH.out.k]; unfold Cg.putE; rw [hgo]; rfl)
    have HKw : Hid (m.values.take i ++ m.values.drop (i + 1) = (chgE c es).map (·.value)) := hid (by rw [qCo (l := m.values) HEs.out (·.value) (by rw [HH.out.v]; rfl)]; unfold Cg.putE; rw [hgo]; rfl)
    have HLk : Hid ((m.keys.take i ++ m.keys.drop (i + 1)).length = m.keys.length - 1) := hid (by rw [List.length_append, List.length_take, List.length_drop]; omega)
    have HLv : Hid ((m.values.take i ++ m.values.drop (i + 1)).length = m.values.length - 1) := hid (by have := HVl.out; rw [List.length_append, List.length_take, List.length_drop]; omega)
    have HN : Hid (chgN c es = -1) := hid (by unfold chgN; rw [HCut.out.2.1, hgo]; rfl)
    clear hx9 hm9; have HWX := hid (HW.out.ext HmX.out); have HKc := hid (show qCb T (jlen B.room D : Int) (W.add (chgN c es)) true (chgE c es) [s] = some (W', ps) from by
     have h1 := HK.out; rw [hgo, HCut.out.2.1] at h1
     simpa using h1)
    obtain ⟨_, _, _, c3, _⟩ := HWX.out.cells; have f3 := frozen_of_row X C.wb 3 _ _ HWX.out.work.box; have s2 : IntKind.i64.wrap (W.count - 1) = W.count - 1 := by have := HCn.out; rw [IntKind.wrap_i64]; omega
    go_upto_region 15 with fail
    have HWY := hid (HWX.out.cell1 (W' := W.add (chgN c es)) (o := 3) (v := .int .i64 (W.count - 1)) (by have e : (W.add (chgN c es)).count = W.count - 1 := (by show W.count + chgN c es = _; rw [HN.out] <;> rfl); unfold qIq; rw [e]; rfl) rfl rfl rfl HWX.out.work.nx)
    have hmy : Mod (fun k => k = C.wb) X (X.setCell ⟨C.wb, 3, none⟩ (.int .i64 (W.count - 1))) := Mod.setCell (S := fun k => k = C.wb) (p := ⟨C.wb, 3, none⟩) (Mod.refl _ _) (fun _ => rfl) _
    have hwb := HW.out.lt (.inr (.inl rfl)); have hsz := ((HMa.out.trans HM1.out).trans HMz.out).size; have hqlb := HHo.out.lb; have hyq := (hmy.block q (lth HX9.out) (fun e => by omega)).trans HX9.out
    have HBk : Hid (∀ b, blk (some ⟨gk, ok1, none⟩) b -> b ≠ C.wb) := hid (fun b hb e => by have h1 := (HHo.out.bs gk (.inl (qAc.2 rfl))).1; have h2 := qAc.1 hb; omega)
    have HBv : Hid (∀ b, blk (some ⟨gv, ov1, none⟩) b -> b ≠ C.wb) := hid (fun b hb e => by have h1 := (HHo.out.bs gv (.inr (.inl (qAc.2 rfl)))).1; have h2 := qAc.1 hb; omega)
    have HKp := hid (qGu (s := s) HLk.out HLv.out HSl.out HWY.out ((HmX.out.mono (fun _ _ e => e.elim)).trans (hmy.mono (fun _ _ e => .inl e))) (HOk9.out.mod hmy (fun b hb e => HBk.out b hb e)) (HOv9.out.mod hmy (fun b hb e => HBv.out b hb e)) HKv9.out HKk.out HKw.out (qSe HCk0.out HG.out) (qJs HG.out) HKc.out)
    generalize (X.setCell ⟨C.wb, 3, none⟩ (.int .i64 (W.count - 1))) = Y at *; obtain ⟨z0, z1, z2, z3⟩ := cl4 hyq; clear c3 f3 s2; clear hmy hyq hwb hsz hqlb; go_wp2_with (go_at_call 65; refine HKp.out.mono ?_; rintro e w9 ⟨pa, pcap, rfl, ho9, hb9, hw9, hm9⟩; have HO9 := hid ho9; have HB9 := hid hb9; have HW9 := hid hw9; have HM9 := hid hm9; clear ho9 hb9 hw9 hm9)
    go_ret; exact ⟨pa, pcap, rfl, HO9.out, HB9.out, HW9.out, HM9.out⟩
  | false =>
   rw [hgo] at k2; cases ok with
   | true =>
    have hii : ii = (i : Int) := by rw [<- HIi.out]; rfl
    subst hii; have hki : m.keys[i]? = some c.key := HOk.out.1 rfl; have hil : i < m.keys.length := (List.getElem?_eq_some_iff.1 hki).1; have hvl : m.values.length = m.keys.length := by rw [HH.out.v, HH.out.k]; simp
    have hbk := HNC.out.nd.bk; have HVl := hid hvl; have HKi := hid hki; obtain ⟨gk, ok1, rfl⟩ : ∃ g off, ka = some ⟨g, off, none⟩ := (HHo.out.gd.k.any).resolve_left (fun e => by have h2 : m.keys.length <= kc := HHo.out.gd.k.2.1; have h3 : kc = 0 := e.2; omega)
    obtain ⟨gv, ov1, rfl⟩ : ∃ g off, va = some ⟨g, off, none⟩ := (HHo.out.gd.v.any).resolve_left (fun e => by have h2 : m.values.length <= vc := HHo.out.gd.v.2.1; have h3 : vc = 0 := e.2; omega)
    have hgne : gk ≠ gv := fun e => HHo.out.gd.kv gk (qAc.2 rfl) (qAc.2 e.symm)
    have hqk : q ≠ gk := fun e => (HHo.out.bs gk (.inl (qAc.2 rfl))).2 e.symm
    have hqv : q ≠ gv := fun e => (HHo.out.bs gv (.inr (.inl (qAc.2 rfl)))).2 e.symm
    have HNe := hid (And.intro hgne (And.intro hqk hqv)); have hdv : decide (i < m.values.length) = true := by simpa using (by omega : i < m.values.length)
    obtain ⟨x0, x1, x2, x3⟩ := HHo.out.box.cells; have fv := HHo.out.gd.v.frozen (ov1 + i); obtain ⟨ov, hov⟩ : ∃ v : Value, wc.cell? ⟨gv, ov1 + i, none⟩ = some v := ⟨_, HHo.out.gd.v.cell i (by have := HVl.out; show i < m.values.length * 1; omega)⟩
    have hsv := HHo.out.gd.v.set i (by have := HVl.out; show i < m.values.length * 1; omega) (.string c.value)
    clear hki hgne hqk hqv; have hX9 : (wc.setCell ⟨gv, ov1 + i, none⟩ (.string c.value)).heap[q]? = some (.cells #[.bool true, .slice (some ⟨gk, ok1, none⟩) m.keys.length kc, .slice (some ⟨gv, ov1, none⟩) m.values.length vc, .slice none 0 0] 123 (0, 0)) := (Below.heap_setCell _ _ _ _ HNe.out.2.2).trans HHo.out.box; have hm9 : Mod (fun k => k = gv) wc (wc.setCell ⟨gv, ov1 + i, none⟩ (.string c.value)) := Mod.setCell (S := fun k => k = gv) (p := ⟨gv, ov1 + i, none⟩) (Mod.refl _ _) (fun _ => rfl) _
    have HX9 := hid hX9; have HEs := hid (qTy HCut.out); have HOk9 : Hid (Own (wc.setCell ⟨gv, ov1 + i, none⟩ (.string c.value)) 9 1 (some ⟨gk, ok1, none⟩) m.keys.length kc (m.keys.flatMap scs)) := hid (HHo.out.gd.k.mod hm9 (fun k hk e => HNe.out.1 (by rw [<- e]; exact qAc.1 hk)))
    have HOv9 : Hid (Own (wc.setCell ⟨gv, ov1 + i, none⟩ (.string c.value)) 9 1 (some ⟨gv, ov1, none⟩) m.values.length vc ((m.values.set i c.value).flatMap scs)) := hid (by
     rw [qFl, List.map_set]; rw [qFl] at hsv; exact hsv)
    have HmX : Hid (Mod (fun _ => False) w (wc.setCell ⟨gv, ov1 + i, none⟩ (.string c.value))) := hid (by
     have b2 := (HHo.out.bs gv (.inr (.inl (qAc.2 rfl)))).1; have b4 := ((HMa.out.trans HM1.out).trans HMz.out).size; exact HMw.out.then hm9 (fun k hk e => by omega))
    have HKv9 : Hid (∀ b, blk (some ⟨gk, ok1, none⟩) b -> ¬ blk (some ⟨gv, ov1, none⟩) b) := hid (fun b h1 h2 => HNe.out.1 ((qAc.1 h1).trans (qAc.1 h2).symm))
    have HKk : Hid (m.keys = (chgE c es).map (·.key)) := hid (by
     rw [qCo HEs.out (·.key) HH.out.k]; unfold Cg.putE; rw [hgo]; exact jFb HKi.out)
    have HKw : Hid (m.values.set i c.value = (chgE c es).map (·.value)) := hid (by
     rw [qCo (l := m.values) HEs.out (·.value) (by rw [HH.out.v]; rfl)]
     unfold Cg.putE; rw [hgo]; exact jIu (by have := HVl.out; omega) _)
    have HLk : Hid (m.keys.length = m.keys.length) := hid rfl; have HLv : Hid ((m.values.set i c.value).length = m.values.length) := hid (by rw [List.length_set])
    have HN : Hid (chgN c es = 0) := hid (by unfold chgN; rw [HCut.out.2.1, hgo]; rfl)
    clear hX9 hm9 hsv; have HWX := hid (HW.out.ext HmX.out); have HKc := hid (show qCb T (jlen B.room D : Int) (W.add (chgN c es)) true (chgE c es) [s] = some (W', ps) from by
     have h1 := HK.out; rw [hgo, HCut.out.2.1] at h1
     simpa using h1)
    go_upto_region 15 with fail
    clear x0 x1 x2 x3 fv hov k0 k1 k2 hvl hdv; generalize wc.setCell ⟨gv, ov1 + i, none⟩ (.string c.value) = X at *; have HWY : Hid (Ws S X B C T D (W.add (chgN c es))) := hid (by rw [HN.out]; have e : W.add 0 = W := (by unfold WM.add; simp); rw [e]; exact HWX.out)
    have hmy : Mod (fun k => k = C.wb) X X := Mod.refl _ _
    have hwb := HW.out.lt (.inr (.inl rfl)); have hsz := ((HMa.out.trans HM1.out).trans HMz.out).size; have hqlb := HHo.out.lb; have hyq := (hmy.block q (lth HX9.out) (fun e => by omega)).trans HX9.out
    have HBk : Hid (∀ b, blk (some ⟨gk, ok1, none⟩) b -> b ≠ C.wb) := hid (fun b hb e => by have h1 := (HHo.out.bs gk (.inl (qAc.2 rfl))).1; have h2 := qAc.1 hb; omega)
    have HBv : Hid (∀ b, blk (some ⟨gv, ov1, none⟩) b -> b ≠ C.wb) := hid (fun b hb e => by have h1 := (HHo.out.bs gv (.inr (.inl (qAc.2 rfl)))).1; have h2 := qAc.1 hb; omega)
    have HKp := hid (qGu (s := s) HLk.out HLv.out HSl.out HWY.out ((HmX.out.mono (fun _ _ e => e.elim)).trans (hmy.mono (fun _ _ e => .inl e))) (HOk9.out.mod hmy (fun b hb e => HBk.out b hb e)) (HOv9.out.mod hmy (fun b hb e => HBv.out b hb e)) HKv9.out HKk.out HKw.out (qSe HCk0.out HG.out) (qJs HG.out) HKc.out)
    obtain ⟨Y, rfl⟩ : ∃ Y, Y = X := ⟨X, rfl⟩; obtain ⟨z0, z1, z2, z3⟩ := cl4 hyq; clear hmy hyq hwb hsz hqlb; go_wp2_with (go_at_call 65; refine HKp.out.mono ?_; rintro e w9 ⟨pa, pcap, rfl, ho9, hb9, hw9, hm9⟩; have HO9 := hid ho9; have HB9 := hid hb9; have HW9 := hid hw9; have HM9 := hid hm9; clear ho9 hb9 hw9 hm9)
    go_ret; exact ⟨pa, pcap, rfl, HO9.out, HB9.out, HW9.out, HM9.out⟩
   | false =>
    have hbk := HNC.out.nd.bk; have hvl : m.values.length = m.keys.length := by rw [HH.out.v, HH.out.k]; simp
    have hkl0 : 0 < m.keys.length := by rw [HH.out.k, List.length_map]; exact List.length_pos_iff.2 HG.out.ne
    have HVl := hid hvl; obtain ⟨gk, ok1, rfl⟩ : ∃ g off, ka = some ⟨g, off, none⟩ := (HHo.out.gd.k.any).resolve_left (fun e => by have h2 : m.keys.length <= kc := HHo.out.gd.k.2.1; have h3 : kc = 0 := e.2; omega)
    obtain ⟨gv, ov1, rfl⟩ : ∃ g off, va = some ⟨g, off, none⟩ := (HHo.out.gd.v.any).resolve_left (fun e => by have h2 : m.values.length <= vc := HHo.out.gd.v.2.1; have h3 : vc = 0 := e.2; omega)
    have hgne : gk ≠ gv := fun e => HHo.out.gd.kv gk (qAc.2 rfl) (qAc.2 e.symm)
    have hqk : q ≠ gk := fun e => (HHo.out.bs gk (.inl (qAc.2 rfl))).2 e.symm
    have hqv : q ≠ gv := fun e => (HHo.out.bs gv (.inr (.inl (qAc.2 rfl)))).2 e.symm
    have HNe := hid (And.intro hgne (And.intro hqk hqv)); have HGl : Hid (gk < wc.heap.size /\ gv < wc.heap.size) := hid ⟨HHo.out.gd.k.lt _ (qAc.2 rfl), HHo.out.gd.v.lt _ (qAc.2 rfl)⟩; have HBm := hid hbk; clear hvl hgne hqk hqv hkl0 hbk; have HBs2 := hid (qMt m.kc c.key ((HNC.out.nd.ext (HMz.out.trans HMx.out)).k) HNC.out.nd.bk HRi.out); obtain ⟨y0, y1, y2, y3⟩ := cl4 HB5.out; go_upto_region 6 with (go_at_call 82; refine HBs2.out.mono ?_; rintro e w5 ⟨⟨i', ok', hat', hok', rfl⟩, rfl⟩; have HAt2 := hid hat'; have HOk2 := hid hok'; clear hat' hok')
    have HCut2 := hid (qOr (c := c) (es := es) (i := i') (ok := ok') (by rw [<- HH.out.k]; exact HRi.out) (by rw [<- HH.out.k]; exact HAt2.out) (by rw [<- HH.out.k]; exact HOk2.out))
    obtain rfl : ok' = false := HCut2.out.2.1.symm.trans HCut.out.2.1; have HIl : Hid (i' <= m.keys.length) := hid HAt2.out.le; have HEs := hid (qTy HCut2.out); clear y0 y1 y2 y3; have HS : Hid (∀ y, Mod (fun k => k = gk \/ k = gv) wc y -> y.cell? ⟨q, 1, none⟩ = some (.slice (some ⟨gk, ok1, none⟩) m.keys.length kc) /\ y.cell? ⟨q, 2, none⟩ = some (.slice (some ⟨gv, ov1, none⟩) m.values.length vc) /\ y.cell? ⟨w.heap.size, 0, none⟩ = some (.string c.key) /\ y.cell? ⟨w.heap.size, 1, none⟩ = some (.string c.value)) := hid (fun y hy => by
     have hb := HHo.out.box.mod hy (fun e => e.elim HNe.out.2.1 HNe.out.2.2)
     have b1 := (HHo.out.bs gk (.inl (qAc.2 rfl))).1; have b2 := (HHo.out.bs gv (.inr (.inl (qAc.2 rfl)))).1; have b4 := (HM1.out.trans HMz.out).size; have b5 : (w.alloc (.cells #[.string c.key, .string c.value, .bool c.gone] 113)).heap.size = w.heap.size + 1 := by simp
     exact ⟨hb.cells.2.1, hb.cells.2.2.1, (hy.cell (World.block_lt_of_cell? _ _ k0) (fun e => e.elim (fun e => by have e : w.heap.size = gk := e; omega) (fun e => by have e : w.heap.size = gv := e; omega))).trans k0, (hy.cell (World.block_lt_of_cell? _ _ k1) (fun e => e.elim (fun e => by have e : w.heap.size = gk := e; omega) (fun e => by have e : w.heap.size = gv := e; omega))).trans k1⟩)
    have HMd := jDa HMx; clear k0 k1 k2; refine qBw (S := qAa 15 (fun y => y.cell? ⟨q, 1, none⟩ = some (.slice (some ⟨gk, ok1, none⟩) m.keys.length kc) /\ y.cell? ⟨q, 2, none⟩ = some (.slice (some ⟨gv, ov1, none⟩) m.values.length vc) /\ y.cell? ⟨w.heap.size, 0, none⟩ = some (.string c.key) /\ y.cell? ⟨w.heap.size, 1, none⟩ = some (.string c.value))) (by kernel_rfl) (qAa.all (HS.out _ (HMd.out.mono (fun _ _ e => e.elim)))) (fun hHeld => ?_)
    generalize wc.drew = Y0 at *; refine aTk (v := .pointer (some ⟨q, 1, none⟩)) (d := 42) 0 rfl rfl (by kernel_rfl) (by kernel_rfl) (by kernel_rfl) (fun _ _ _ h => h) (fun l w h => qAa.same (by decide) h) (fun l j w h => qAa.mono h j) (Or.inl ⟨by rfl, fun w' _ => by go_simp⟩) hHeld (fun hU => ?_)
    clear hHeld; have hHeld := hU; clear hU; simp only [Act.put, sTA, sC0, sC1]; refine aTk (v := .slice (some ⟨gk, ok1, none⟩) m.keys.length kc) (d := 43) 1 rfl rfl (by kernel_rfl) (by kernel_rfl) (by kernel_rfl) (fun _ _ _ h => h) (fun l w h => qAa.same (by decide) h) (fun l j w h => qAa.mono h j) (Or.inl ⟨by rfl, fun w' hT => by (obtain ⟨l', hz', hu', hC', hS'⟩ := hT; obtain ⟨c1, c2, c3, c4⟩ := hS' (hC'.later (i := 1) (j := 15) rfl (by rw [hz']; decide) (by kernel_rfl) hu'); go_simp)⟩) hHeld (fun hU => ?_)
    clear hHeld; have hHeld := hU; clear hU; simp only [Act.put, sTA, sC0, sC1]; refine aTk (v := .int .i64 (i' : Int)) (d := 44) 2 rfl rfl (by kernel_rfl) (by kernel_rfl) (by kernel_rfl) (fun _ _ _ h => h) (fun l w h => qAa.same (by decide) h) (fun l j w h => qAa.mono h j) (Or.inl ⟨by rfl, fun w' _ => by go_simp⟩) hHeld (fun hU => ?_)
    clear hHeld; have hHeld := hU; clear hU; simp only [Act.put, sTA, sC0, sC1]; refine aTk (v := .pointer (some ⟨w.heap.size, 0, none⟩)) (d := 45) 3 rfl rfl (by kernel_rfl) (by kernel_rfl) (by kernel_rfl) (fun _ _ _ h => h) (fun l w h => qAa.same (by decide) h) (fun l j w h => qAa.mono h j) (Or.inl ⟨by rfl, fun w' _ => by go_simp⟩) hHeld (fun hU => ?_)
    clear hHeld; have hHeld := hU; clear hU; simp only [Act.put, sTA, sC0, sC1]; refine aTk (v := .string c.key) (d := 46) 4 rfl rfl (by kernel_rfl) (by kernel_rfl) (by kernel_rfl) (fun _ _ _ h => h) (fun l w h => qAa.same (by decide) h) (fun l j w h => qAa.mono h j) (Or.inl ⟨by rfl, fun w' hT => by (obtain ⟨l', hz', hu', hC', hS'⟩ := hT; obtain ⟨c1, c2, c3, c4⟩ := hS' (hC'.later (i := 4) (j := 15) rfl (by rw [hz']; decide) (by kernel_rfl) hu'); go_simp)⟩) hHeld (fun hU => ?_)
    clear hHeld; have hHeld := hU; clear hU; simp only [Act.put, sTA, sC0, sC1]; refine aTk (v := .pointer (some ⟨q, 2, none⟩)) (d := 49) 7 rfl rfl (by kernel_rfl) (by kernel_rfl) (by kernel_rfl) (fun _ _ _ h => h) (fun l w h => qAa.same (by decide) h) (fun l j w h => qAa.mono h j) (Or.inl ⟨by rfl, fun w' _ => by go_simp⟩) hHeld (fun hU => ?_)
    clear hHeld; have hHeld := hU; clear hU; simp only [Act.put, sTA, sC0, sC1]; refine aTk (v := .slice (some ⟨gv, ov1, none⟩) m.values.length vc) (d := 50) 8 rfl rfl (by kernel_rfl) (by kernel_rfl) (by kernel_rfl) (fun _ _ _ h => h) (fun l w h => qAa.same (by decide) h) (fun l j w h => qAa.mono h j) (Or.inl ⟨by rfl, fun w' hT => by (obtain ⟨l', hz', hu', hC', hS'⟩ := hT; obtain ⟨c1, c2, c3, c4⟩ := hS' (hC'.later (i := 8) (j := 15) rfl (by rw [hz']; decide) (by kernel_rfl) hu'); go_simp)⟩) hHeld (fun hU => ?_)
    clear hHeld; have hHeld := hU; clear hU; simp only [Act.put, sTA, sC0, sC1]; refine aTk (v := .int .i64 (i' : Int)) (d := 51) 9 rfl rfl (by kernel_rfl) (by kernel_rfl) (by kernel_rfl) (fun _ _ _ h => h) (fun l w h => qAa.same (by decide) h) (fun l j w h => qAa.mono h j) (Or.inl ⟨by rfl, fun w' _ => by go_simp⟩) hHeld (fun hU => ?_)
    clear hHeld; have hHeld := hU; clear hU; simp only [Act.put, sTA, sC0, sC1]; refine aTk (v := .pointer (some ⟨w.heap.size, 1, none⟩)) (d := 52) 10 rfl rfl (by kernel_rfl) (by kernel_rfl) (by kernel_rfl) (fun _ _ _ h => h) (fun l w h => qAa.same (by decide) h) (fun l j w h => qAa.mono h j) (Or.inl ⟨by rfl, fun w' _ => by go_simp⟩) hHeld (fun hU => ?_)
    clear hHeld; have hHeld := hU; clear hU; simp only [Act.put, sTA, sC0, sC1]
    refine aTk (v := .string c.value) (d := 53) 11 rfl rfl (by kernel_rfl) (by kernel_rfl) (by kernel_rfl) (fun _ _ _ h => h) (fun l w h => qAa.same (by decide) h) (fun l j w h => qAa.mono h j) (Or.inl ⟨by rfl, fun w' hT => by (obtain ⟨l', hz', hu', hC', hS'⟩ := hT; obtain ⟨c1, c2, c3, c4⟩ := hS' (hC'.later (i := 13) (j := 15) rfl (by rw [hz']; decide) (by kernel_rfl) (hC'.later (i := 12) (j := 13) rfl (by rw [hz']; decide) (by kernel_rfl) (hC'.later (i := 11) (j := 12) rfl (by rw [hz']; decide) (by kernel_rfl) hu'))); go_simp)⟩) hHeld (fun hU => ?_)
    clear hHeld; have hHeld := hU; clear hU; simp only [Act.put, sTA, sC0, sC1]; refine aRd (rs := [5, 12]) (by kernel_rfl) (by simp) (AllL.cons rfl (by kernel_rfl) hHeld (fun K hK => ?_) (AllL.cons rfl (by kernel_rfl) hHeld (fun K hK => ?_) AllL.nil))
    ·go_simp; have hmk : Mod (fun _ => False) Y0 (Y0.alloc (.cells #[.string c.key] 9)) := (Mod.refl _ _).alloc _
     have HKb : Hid ((Y0.alloc (.cells #[.string c.key] 9)).heap[Y0.heap.size]? = some (.cells #[.string c.key] 9 (0, 0))) := hid (heap_alloc_new _ _); have HPk : Hid (Mod (fun _ => False) wc (Y0.alloc (.cells #[.string c.key] 9))) := hid (HMd.out.trans hmk)
     have HKs : Hid (wc.heap.size <= Y0.heap.size) := hid HMd.out.size; clear hmk; generalize Y0.alloc (.cells #[.string c.key] 9) = Yk at *; refine hK.out _ _ (qAa.all (HS.out Yk (HPk.out.mono (fun _ _ e => e.elim)))) (fun hU => ?_)
     clear hK K hHeld; have hHeld := hU; clear hU; try simp only [Act.put, sTA, sC0, sC1]
     refine aRd (rs := [6, 12]) (by kernel_rfl) (by simp) (AllL.cons rfl (by kernel_rfl) hHeld (fun K hK => ?_) (AllL.cons rfl (by kernel_rfl) hHeld (fun K hK => ?_) AllL.nil))
     ·go_simp; refine (qHm (HHo.out.gd.k.mod HPk.out (fun _ _ e => e)) i' HIl.out (by have := HBm.out; show m.keys.length <= _; omega) HKb.out (fun e => by have h1 := HGl.out.1; have h2 := HKs.out; have h3 := qAc.1 e; omega)).mono ?_
      rintro e w5 ⟨a5, c5, rfl, ho5, hb5, hm5⟩; have HO5 := hid ho5; have HM5 : Hid (Mod (fun k => k = gk) wc w5) := hid ((HPk.out.mono (fun _ _ e => e.elim)).trans (hm5.mono (fun k _ e => (qAc.1 e).symm)))
      have HG5 : Hid (∀ b, blk a5 b -> (b = gk \/ wc.heap.size <= b)) := hid (fun b hb => (hb5 b hb).imp (fun e => (qAc.1 e).symm) (fun e => Nat.le_trans HPk.out.size e))
      clear ho5 hb5 hm5; refine hK.out _ _ (qAa.all (HS.out w5 (HM5.out.mono (fun _ _ e => .inl e)))) (fun hU => ?_)
      clear hK K hHeld; have hHeld := hU; clear hU; refine aTk (v := .pointer (some ⟨q, 1, none⟩)) (d := 56) 14 rfl rfl (by kernel_rfl) (by kernel_rfl) (by kernel_rfl) (fun _ _ _ h => h) (fun l w h => qAa.same (by decide) h) (fun l j w h => qAa.mono h j) (Or.inl ⟨by rfl, fun w' _ => by go_simp⟩) hHeld (fun hU => ?_)
      clear hHeld; have hHeld := hU; clear hU; simp only [Act.put, sTA, sC0, sC1]; refine aRd (rs := [12]) (by kernel_rfl) (by simp) (AllL.cons rfl (by kernel_rfl) hHeld (fun K hK => ?_) AllL.nil)
      go_simp; have hmv : Mod (fun _ => False) w5 (w5.alloc (.cells #[.string c.value] 9)) := (Mod.refl _ _).alloc _
      have HVb : Hid ((w5.alloc (.cells #[.string c.value] 9)).heap[w5.heap.size]? = some (.cells #[.string c.value] 9 (0, 0))) := hid (heap_alloc_new _ _); have HMv : Hid (Mod (fun k => k = gk) wc (w5.alloc (.cells #[.string c.value] 9))) := hid (HM5.out.trans (hmv.mono (fun _ _ e => e.elim)))
      have HVs : Hid (wc.heap.size <= w5.heap.size) := hid HM5.out.size; have HO5v := hid (HO5.out.mod hmv (fun _ _ e => e))
      have HXv : Hid (w5.heap.size <= (w5.alloc (.cells #[.string c.value] 9)).heap.size) := hid hmv.size; clear hmv; generalize w5.alloc (.cells #[.string c.value] 9) = Yv at *; refine hK.out _ _ (qAa.all (HS.out Yv (HMv.out.mono (fun _ _ e => .inl e)))) (fun hU => ?_)
      clear hK K hHeld; have hHeld := hU; clear hU; try simp only [Act.put, sTA, sC0, sC1]
      refine aRd (rs := [13]) (by kernel_rfl) (by simp) (AllL.cons rfl (by kernel_rfl) hHeld (fun K hK => ?_) AllL.nil)
      go_simp; refine (qHm (HHo.out.gd.v.mod HMv.out (fun k hk e => HNe.out.1 (by rw [<- e]; exact (qAc.1 hk).symm))) i' (by have := HIl.out; have := HVl.out; show i' <= m.values.length; omega) (by have := HBm.out; have := HVl.out; show m.values.length <= _; omega) HVb.out (fun e => by have h1 := HGl.out.2; have h2 := HVs.out; have h3 := qAc.1 e; omega)).mono ?_
      rintro e w7 ⟨a7, c7, rfl, ho7, hb7, hm7⟩; have HO7 := hid ho7; have HM7 : Hid (Mod (fun k => k = gk \/ k = gv) wc w7) := hid ((HMv.out.mono (fun _ _ e => .inl e)).trans (hm7.mono (fun k _ e => .inr (qAc.1 e).symm)))
      have HG7 : Hid (∀ b, blk a7 b -> (b = gv \/ wc.heap.size <= b)) := hid (fun b hb => (hb7 b hb).imp (fun e => (qAc.1 e).symm) (fun e => Nat.le_trans HMv.out.size e))
      have HK57 : Hid (∀ b, blk a5 b -> ¬ blk a7 b) := hid (fun b h1 h2 => by have h3 := HG5.out b h1; have h4 := hb7 b h2; have h5 := HO5.out.lt b h1; have h6 := HXv.out; have h7 := HGl.out; rcases h4 with h4 | h4; (· have h8 := qAc.1 h4; have h9 := HNe.out.1; omega); (· omega))
      have HO57 := hid (HO5v.out.mod hm7 (fun b hb e => by have h3 := HG5.out b hb; have h8 := qAc.1 e; have h9 := HNe.out.1; have h7 := HGl.out; omega))
      clear ho7 hb7 hm7; refine hK.out _ _ (qAa.all (HS.out w7 HM7.out)) (fun hU => ?_)
      clear hK K hHeld; have hHeld := hU; clear hU; refine aRd (rs := [15]) (by kernel_rfl) (by simp) (AllL.cons rfl (by kernel_rfl) hHeld (fun K hK => ?_) AllL.nil)
      have HX7 := hid (HHo.out.box.mod HM7.out (fun e => e.elim HNe.out.2.1 HNe.out.2.2))
      obtain ⟨x0, x1, x2, x3⟩ := HX7.out.cells; have f1 := frozen_of_row _ _ 1 _ _ HX7.out; go_simp; clear x0 x1 x2 x3 f1; refine hK.out _ _ (qAa.set (by rw [hHeld.1]; decide)) (fun hU => ?_)
      clear hK K hHeld; have hHeld := hU; clear hU; try simp only [Act.put, sTA, sC0, sC1]
      refine aTk (v := .pointer (some ⟨q, 2, none⟩)) (d := 57) 16 rfl rfl (by kernel_rfl) (by kernel_rfl) (by kernel_rfl) (fun _ _ _ h => h) (fun l w h => qAa.same (by decide) h) (fun l j w h => qAa.mono h j) (Or.inl ⟨by rfl, fun w' _ => by go_simp⟩) hHeld (fun hU => ?_)
      clear hHeld; have hHeld := hU; clear hU; simp only [Act.put, sTA, sC0, sC1]; refine aRd (rs := [17]) (by kernel_rfl) (by simp) (AllL.cons rfl (by kernel_rfl) hHeld (fun K hK => ?_) AllL.nil)
      have HX8 := hid (set4 HX7.out (.slice a5 (m.keys.length + 1) c5)).2.1; obtain ⟨x0, x1, x2, x3⟩ := cl4 HX8.out; have f2 := frozen_of_row _ _ 2 _ _ HX8.out; go_simp; clear x0 x1 x2 x3 f2; refine hK.out _ _ (fun hu => absurd (show true = false from hu) (by decide)) (fun hU => ?_)
      clear hK K hHeld; have hHeld := hU; clear hU; try simp only [Act.put, sTA, sC0, sC1]
      refine qBc (by kernel_rfl) ?_ _
      clear hHeld; have hx9 : ((w7.setCell ⟨q, 1, none⟩ (.slice a5 (m.keys.length + 1) c5)).setCell ⟨q, 2, none⟩ (.slice a7 (m.values.length + 1) c7)).heap[q]? = some (.cells #[.bool true, .slice a5 (m.keys.length + 1) c5, .slice a7 (m.values.length + 1) c7, .slice none 0 0] 123 (0, 0)) := qAh (qAh HX7.out _) _; have hm9 : Mod (fun k => k = q) w7 ((w7.setCell ⟨q, 1, none⟩ (.slice a5 (m.keys.length + 1) c5)).setCell ⟨q, 2, none⟩ (.slice a7 (m.values.length + 1) c7)) := Mod.setCell (S := fun k => k = q) (p := ⟨q, 2, none⟩) (Mod.setCell (S := fun k => k = q) (p := ⟨q, 1, none⟩) (Mod.refl _ _) (fun _ => rfl) _) (fun _ => rfl) _
      have hqw : q < wc.heap.size := lth HHo.out.box; have HOk9 := hid (HO57.out.mod hm9 (fun k hk e => by have h1 := HG5.out k hk; have h2 := HNe.out.2; omega))
      have HOv9 := hid (HO7.out.mod hm9 (fun k hk e => by have h1 := HG7.out k hk; have h2 := HNe.out.2; omega))
      generalize ((w7.setCell ⟨q, 1, none⟩ (.slice a5 (m.keys.length + 1) c5)).setCell ⟨q, 2, none⟩ (.slice a7 (m.values.length + 1) c7)) = X at *; have HX9 := hid hx9; have HmX : Hid (Mod (fun _ => False) w X) := hid (by
       have b1 := (HHo.out.bs gk (.inl (qAc.2 rfl))).1; have b2 := (HHo.out.bs gv (.inr (.inl (qAc.2 rfl)))).1; have b3 := HHo.out.lb; have b4 := ((HMa.out.trans HM1.out).trans HMz.out).size; exact (HMw.out.then HM7.out (fun k hk e => e.elim (fun e => by omega) (fun e => by omega))).then hm9 (fun k hk e => by omega))
      have HKk : Hid (m.keys.take i' ++ c.key :: m.keys.drop i' = (chgE c es).map (·.key)) := hid (by rw [qCo HEs.out (·.key) HH.out.k]; unfold Cg.putE; rw [hgo]; rfl)
      have HKw : Hid (m.values.take i' ++ c.value :: m.values.drop i' = (chgE c es).map (·.value)) := hid (by rw [qCo (l := m.values) HEs.out (·.value) (by rw [HH.out.v]; rfl)]; unfold Cg.putE; rw [hgo]; rfl)
      have HLk : Hid ((m.keys.take i' ++ c.key :: m.keys.drop i').length = m.keys.length + 1) := hid (qIh _ _ _ HIl.out); have HLv : Hid ((m.values.take i' ++ c.value :: m.values.drop i').length = m.values.length + 1) := hid (qIh _ _ _ (by have := HIl.out; have := HVl.out; omega))
      have HN : Hid (chgN c es = 1) := hid (by unfold chgN; rw [HCut.out.2.1]; rfl)
      clear hx9 hm9 hqw; have HWX := hid (HW.out.ext HmX.out); have HKc := hid (show qCb T (jlen B.room D : Int) (W.add (chgN c es)) true (chgE c es) [s] = some (W', ps) from by
       have h1 := HK.out; rw [hgo, HCut.out.2.1] at h1
       simpa using h1)
      obtain ⟨_, _, _, c3, _⟩ := HWX.out.cells; have f3 := frozen_of_row X C.wb 3 _ _ HWX.out.work.box; have s2 : IntKind.i64.wrap (W.count + 1) = W.count + 1 := by have := HCn.out; rw [IntKind.wrap_i64]; omega
      go_upto_region 15 with fail
      have HWY := hid (HWX.out.cell1 (W' := W.add (chgN c es)) (o := 3) (v := .int .i64 (W.count + 1)) (by have e : (W.add (chgN c es)).count = W.count + 1 := (by show W.count + chgN c es = _; rw [HN.out] <;> rfl); unfold qIq; rw [e]; rfl) rfl rfl rfl HWX.out.work.nx)
      have hmy : Mod (fun k => k = C.wb) X (X.setCell ⟨C.wb, 3, none⟩ (.int .i64 (W.count + 1))) := Mod.setCell (S := fun k => k = C.wb) (p := ⟨C.wb, 3, none⟩) (Mod.refl _ _) (fun _ => rfl) _
      have hwb := HW.out.lt (.inr (.inl rfl)); have hsz := ((HMa.out.trans HM1.out).trans HMz.out).size; have hqlb := HHo.out.lb; have hyq := (hmy.block q (lth HX9.out) (fun e => by omega)).trans HX9.out
      have HBk : Hid (∀ b, blk a5 b -> b ≠ C.wb) := hid (fun b hb e => by have h1 := HG5.out b hb; have h2 := (HHo.out.bs gk (.inl (qAc.2 rfl))).1; have h3 := HMw.out.size; omega)
      have HBv : Hid (∀ b, blk a7 b -> b ≠ C.wb) := hid (fun b hb e => by have h1 := HG7.out b hb; have h2 := (HHo.out.bs gv (.inr (.inl (qAc.2 rfl)))).1; have h3 := HMw.out.size; omega)
      have HKp := hid (qGu (s := s) HLk.out HLv.out HSl.out HWY.out ((HmX.out.mono (fun _ _ e => e.elim)).trans (hmy.mono (fun _ _ e => .inl e))) (HOk9.out.mod hmy (fun b hb e => HBk.out b hb e)) (HOv9.out.mod hmy (fun b hb e => HBv.out b hb e)) HK57.out HKk.out HKw.out (qSe HCk0.out HG.out) (qJs HG.out) HKc.out)
      generalize (X.setCell ⟨C.wb, 3, none⟩ (.int .i64 (W.count + 1))) = Y at *; obtain ⟨z0, z1, z2, z3⟩ := cl4 hyq; clear c3 f3 s2; clear hmy hyq hwb hsz hqlb; go_wp2_with (go_at_call 65; refine HKp.out.mono ?_; rintro e w9 ⟨pa, pcap, rfl, ho9, hb9, hw9, hm9⟩; have HO9 := hid ho9; have HB9 := hid hb9; have HW9 := hid hw9; have HM9 := hid hm9; clear ho9 hb9 hw9 hm9)
      go_ret; exact ⟨pa, pcap, rfl, HO9.out, HB9.out, HW9.out, HM9.out⟩
     ·go_simp; have hmv : Mod (fun _ => False) Yk (Yk.alloc (.cells #[.string c.value] 9)) := (Mod.refl _ _).alloc _
      have HVb : Hid ((Yk.alloc (.cells #[.string c.value] 9)).heap[Yk.heap.size]? = some (.cells #[.string c.value] 9 (0, 0))) := hid (heap_alloc_new _ _); have HPv : Hid (Mod (fun _ => False) wc (Yk.alloc (.cells #[.string c.value] 9))) := hid (HPk.out.trans hmv)
      have HVs : Hid (wc.heap.size <= Yk.heap.size) := hid HPk.out.size; have HKb2 := hid (qAq hmv HKb.out); clear hmv; generalize Yk.alloc (.cells #[.string c.value] 9) = Yv at *; refine hK.out _ _ (qAa.all (HS.out Yv (HPv.out.mono (fun _ _ e => e.elim)))) (fun hU => ?_)
      clear hK K hHeld; have hHeld := hU; clear hU; try simp only [Act.put, sTA, sC0, sC1]
      refine aRd (rs := [6]) (by kernel_rfl) (by simp) (AllL.cons rfl (by kernel_rfl) hHeld (fun K hK => ?_) AllL.nil)
      go_simp; refine (qHm (HHo.out.gd.k.mod HPv.out (fun _ _ e => e)) i' HIl.out (by have := HBm.out; show m.keys.length <= _; omega) HKb2.out (fun e => by have h1 := HGl.out.1; have h2 := HKs.out; have h3 := qAc.1 e; omega)).mono ?_
      rintro e w5 ⟨a5, c5, rfl, ho5, hb5, hm5⟩; have HO5 := hid ho5; have HM5 : Hid (Mod (fun k => k = gk) wc w5) := hid ((HPv.out.mono (fun _ _ e => e.elim)).trans (hm5.mono (fun k _ e => (qAc.1 e).symm)))
      have HG5 : Hid (∀ b, blk a5 b -> (b = gk \/ wc.heap.size <= b)) := hid (fun b hb => (hb5 b hb).imp (fun e => (qAc.1 e).symm) (fun e => Nat.le_trans HPv.out.size e))
      have HVb3 := hid ((hm5.block _ (lth HVb.out) (fun e => by have h1 := HGl.out.1; have h2 := HVs.out; have h3 := qAc.1 e; omega)).trans HVb.out)
      clear ho5 hb5 hm5; refine hK.out _ _ (qAa.all (HS.out w5 (HM5.out.mono (fun _ _ e => .inl e)))) (fun hU => ?_)
      clear hK K hHeld; have hHeld := hU; clear hU; refine aTk (v := .pointer (some ⟨q, 1, none⟩)) (d := 56) 14 rfl rfl (by kernel_rfl) (by kernel_rfl) (by kernel_rfl) (fun _ _ _ h => h) (fun l w h => qAa.same (by decide) h) (fun l j w h => qAa.mono h j) (Or.inl ⟨by rfl, fun w' _ => by go_simp⟩) hHeld (fun hU => ?_)
      clear hHeld; have hHeld := hU; clear hU; simp only [Act.put, sTA, sC0, sC1]; refine aRd (rs := [13]) (by kernel_rfl) (by simp) (AllL.cons rfl (by kernel_rfl) hHeld (fun K hK => ?_) AllL.nil)
      go_simp; refine (qHm (HHo.out.gd.v.mod HM5.out (fun k hk e => HNe.out.1 (by rw [<- e]; exact (qAc.1 hk).symm))) i' (by have := HIl.out; have := HVl.out; show i' <= m.values.length; omega) (by have := HBm.out; have := HVl.out; show m.values.length <= _; omega) HVb3.out (fun e => by have h1 := HGl.out.2; have h2 := HVs.out; have h3 := qAc.1 e; omega)).mono ?_
      rintro e w7 ⟨a7, c7, rfl, ho7, hb7, hm7⟩; have HO7 := hid ho7; have HM7 : Hid (Mod (fun k => k = gk \/ k = gv) wc w7) := hid ((HM5.out.mono (fun _ _ e => .inl e)).trans (hm7.mono (fun k _ e => .inr (qAc.1 e).symm)))
      have HG7 : Hid (∀ b, blk a7 b -> (b = gv \/ wc.heap.size <= b)) := hid (fun b hb => (hb7 b hb).imp (fun e => (qAc.1 e).symm) (fun e => Nat.le_trans HM5.out.size e))
      have HK57 : Hid (∀ b, blk a5 b -> ¬ blk a7 b) := hid (fun b h1 h2 => by have h3 := HG5.out b h1; have h4 := hb7 b h2; have h5 := HO5.out.lt b h1; have h6 := (Nat.le_refl w5.heap.size); have h7 := HGl.out; rcases h4 with h4 | h4; (· have h8 := qAc.1 h4; have h9 := HNe.out.1; omega); (· omega))
      have HO57 := hid (HO5.out.mod hm7 (fun b hb e => by have h3 := HG5.out b hb; have h8 := qAc.1 e; have h9 := HNe.out.1; have h7 := HGl.out; omega))
      clear ho7 hb7 hm7; refine hK.out _ _ (qAa.all (HS.out w7 HM7.out)) (fun hU => ?_)
      clear hK K hHeld; have hHeld := hU; clear hU; refine aRd (rs := [15]) (by kernel_rfl) (by simp) (AllL.cons rfl (by kernel_rfl) hHeld (fun K hK => ?_) AllL.nil)
      have HX7 := hid (HHo.out.box.mod HM7.out (fun e => e.elim HNe.out.2.1 HNe.out.2.2))
      obtain ⟨x0, x1, x2, x3⟩ := HX7.out.cells; have f1 := frozen_of_row _ _ 1 _ _ HX7.out; go_simp; clear x0 x1 x2 x3 f1; refine hK.out _ _ (qAa.set (by rw [hHeld.1]; decide)) (fun hU => ?_)
      clear hK K hHeld; have hHeld := hU; clear hU; try simp only [Act.put, sTA, sC0, sC1]
      refine aTk (v := .pointer (some ⟨q, 2, none⟩)) (d := 57) 16 rfl rfl (by kernel_rfl) (by kernel_rfl) (by kernel_rfl) (fun _ _ _ h => h) (fun l w h => qAa.same (by decide) h) (fun l j w h => qAa.mono h j) (Or.inl ⟨by rfl, fun w' _ => by go_simp⟩) hHeld (fun hU => ?_)
      clear hHeld; have hHeld := hU; clear hU; simp only [Act.put, sTA, sC0, sC1]; refine aRd (rs := [17]) (by kernel_rfl) (by simp) (AllL.cons rfl (by kernel_rfl) hHeld (fun K hK => ?_) AllL.nil)
      have HX8 := hid (set4 HX7.out (.slice a5 (m.keys.length + 1) c5)).2.1; obtain ⟨x0, x1, x2, x3⟩ := cl4 HX8.out; have f2 := frozen_of_row _ _ 2 _ _ HX8.out; go_simp; clear x0 x1 x2 x3 f2; refine hK.out _ _ (fun hu => absurd (show true = false from hu) (by decide)) (fun hU => ?_)
      clear hK K hHeld; have hHeld := hU; clear hU; try simp only [Act.put, sTA, sC0, sC1]
      refine qBc (by kernel_rfl) ?_ _
      clear hHeld; have hx9 : ((w7.setCell ⟨q, 1, none⟩ (.slice a5 (m.keys.length + 1) c5)).setCell ⟨q, 2, none⟩ (.slice a7 (m.values.length + 1) c7)).heap[q]? = some (.cells #[.bool true, .slice a5 (m.keys.length + 1) c5, .slice a7 (m.values.length + 1) c7, .slice none 0 0] 123 (0, 0)) := qAh (qAh HX7.out _) _; have hm9 : Mod (fun k => k = q) w7 ((w7.setCell ⟨q, 1, none⟩ (.slice a5 (m.keys.length + 1) c5)).setCell ⟨q, 2, none⟩ (.slice a7 (m.values.length + 1) c7)) := Mod.setCell (S := fun k => k = q) (p := ⟨q, 2, none⟩) (Mod.setCell (S := fun k => k = q) (p := ⟨q, 1, none⟩) (Mod.refl _ _) (fun _ => rfl) _) (fun _ => rfl) _
      have hqw : q < wc.heap.size := lth HHo.out.box; have HOk9 := hid (HO57.out.mod hm9 (fun k hk e => by have h1 := HG5.out k hk; have h2 := HNe.out.2; omega))
      have HOv9 := hid (HO7.out.mod hm9 (fun k hk e => by have h1 := HG7.out k hk; have h2 := HNe.out.2; omega))
      generalize ((w7.setCell ⟨q, 1, none⟩ (.slice a5 (m.keys.length + 1) c5)).setCell ⟨q, 2, none⟩ (.slice a7 (m.values.length + 1) c7)) = X at *; have HX9 := hid hx9; have HmX : Hid (Mod (fun _ => False) w X) := hid (by
       have b1 := (HHo.out.bs gk (.inl (qAc.2 rfl))).1; have b2 := (HHo.out.bs gv (.inr (.inl (qAc.2 rfl)))).1; have b3 := HHo.out.lb; have b4 := ((HMa.out.trans HM1.out).trans HMz.out).size; exact (HMw.out.then HM7.out (fun k hk e => e.elim (fun e => by omega) (fun e => by omega))).then hm9 (fun k hk e => by omega))
      have HKk : Hid (m.keys.take i' ++ c.key :: m.keys.drop i' = (chgE c es).map (·.key)) := hid (by rw [qCo HEs.out (·.key) HH.out.k]; unfold Cg.putE; rw [hgo]; rfl)
      have HKw : Hid (m.values.take i' ++ c.value :: m.values.drop i' = (chgE c es).map (·.value)) := hid (by rw [qCo (l := m.values) HEs.out (·.value) (by rw [HH.out.v]; rfl)]; unfold Cg.putE; rw [hgo]; rfl)
      have HLk : Hid ((m.keys.take i' ++ c.key :: m.keys.drop i').length = m.keys.length + 1) := hid (qIh _ _ _ HIl.out); have HLv : Hid ((m.values.take i' ++ c.value :: m.values.drop i').length = m.values.length + 1) := hid (qIh _ _ _ (by have := HIl.out; have := HVl.out; omega))
      have HN : Hid (chgN c es = 1) := hid (by unfold chgN; rw [HCut.out.2.1]; rfl)
      clear hx9 hm9 hqw; have HWX := hid (HW.out.ext HmX.out); have HKc := hid (show qCb T (jlen B.room D : Int) (W.add (chgN c es)) true (chgE c es) [s] = some (W', ps) from by
       have h1 := HK.out; rw [hgo, HCut.out.2.1] at h1
       simpa using h1)
      obtain ⟨_, _, _, c3, _⟩ := HWX.out.cells; have f3 := frozen_of_row X C.wb 3 _ _ HWX.out.work.box; have s2 : IntKind.i64.wrap (W.count + 1) = W.count + 1 := by have := HCn.out; rw [IntKind.wrap_i64]; omega
      go_upto_region 15 with fail
      have HWY := hid (HWX.out.cell1 (W' := W.add (chgN c es)) (o := 3) (v := .int .i64 (W.count + 1)) (by have e : (W.add (chgN c es)).count = W.count + 1 := (by show W.count + chgN c es = _; rw [HN.out] <;> rfl); unfold qIq; rw [e]; rfl) rfl rfl rfl HWX.out.work.nx)
      have hmy : Mod (fun k => k = C.wb) X (X.setCell ⟨C.wb, 3, none⟩ (.int .i64 (W.count + 1))) := Mod.setCell (S := fun k => k = C.wb) (p := ⟨C.wb, 3, none⟩) (Mod.refl _ _) (fun _ => rfl) _
      have hwb := HW.out.lt (.inr (.inl rfl)); have hsz := ((HMa.out.trans HM1.out).trans HMz.out).size; have hqlb := HHo.out.lb; have hyq := (hmy.block q (lth HX9.out) (fun e => by omega)).trans HX9.out
      have HBk : Hid (∀ b, blk a5 b -> b ≠ C.wb) := hid (fun b hb e => by have h1 := HG5.out b hb; have h2 := (HHo.out.bs gk (.inl (qAc.2 rfl))).1; have h3 := HMw.out.size; omega)
      have HBv : Hid (∀ b, blk a7 b -> b ≠ C.wb) := hid (fun b hb e => by have h1 := HG7.out b hb; have h2 := (HHo.out.bs gv (.inr (.inl (qAc.2 rfl)))).1; have h3 := HMw.out.size; omega)
      have HKp := hid (qGu (s := s) HLk.out HLv.out HSl.out HWY.out ((HmX.out.mono (fun _ _ e => e.elim)).trans (hmy.mono (fun _ _ e => .inl e))) (HOk9.out.mod hmy (fun b hb e => HBk.out b hb e)) (HOv9.out.mod hmy (fun b hb e => HBv.out b hb e)) HK57.out HKk.out HKw.out (qSe HCk0.out HG.out) (qJs HG.out) HKc.out)
      generalize (X.setCell ⟨C.wb, 3, none⟩ (.int .i64 (W.count + 1))) = Y at *; obtain ⟨z0, z1, z2, z3⟩ := cl4 hyq; clear c3 f3 s2; clear hmy hyq hwb hsz hqlb; go_wp2_with (go_at_call 65; refine HKp.out.mono ?_; rintro e w9 ⟨pa, pcap, rfl, ho9, hb9, hw9, hm9⟩; have HO9 := hid ho9; have HB9 := hid hb9; have HW9 := hid hw9; have HM9 := hid hm9; clear ho9 hb9 hw9 hm9)
      go_ret; exact ⟨pa, pcap, rfl, HO9.out, HB9.out, HW9.out, HM9.out⟩
    ·go_simp; have hmv : Mod (fun _ => False) Y0 (Y0.alloc (.cells #[.string c.value] 9)) := (Mod.refl _ _).alloc _
     have HVb : Hid ((Y0.alloc (.cells #[.string c.value] 9)).heap[Y0.heap.size]? = some (.cells #[.string c.value] 9 (0, 0))) := hid (heap_alloc_new _ _); have HPv : Hid (Mod (fun _ => False) wc (Y0.alloc (.cells #[.string c.value] 9))) := hid (HMd.out.trans hmv)
     have HVs : Hid (wc.heap.size <= Y0.heap.size) := hid HMd.out.size; clear hmv; generalize Y0.alloc (.cells #[.string c.value] 9) = Yv at *; refine hK.out _ _ (qAa.all (HS.out Yv (HPv.out.mono (fun _ _ e => e.elim)))) (fun hU => ?_)
     clear hK K hHeld; have hHeld := hU; clear hU; try simp only [Act.put, sTA, sC0, sC1]
     refine aRd (rs := [5]) (by kernel_rfl) (by simp) (AllL.cons rfl (by kernel_rfl) hHeld (fun K hK => ?_) AllL.nil)
     go_simp; have hmk : Mod (fun _ => False) Yv (Yv.alloc (.cells #[.string c.key] 9)) := (Mod.refl _ _).alloc _
     have HKb : Hid ((Yv.alloc (.cells #[.string c.key] 9)).heap[Yv.heap.size]? = some (.cells #[.string c.key] 9 (0, 0))) := hid (heap_alloc_new _ _); have HPk : Hid (Mod (fun _ => False) wc (Yv.alloc (.cells #[.string c.key] 9))) := hid (HPv.out.trans hmk)
     have HKs : Hid (wc.heap.size <= Yv.heap.size) := hid HPv.out.size; have HVb2 := hid (qAq hmk HVb.out); clear hmk; generalize Yv.alloc (.cells #[.string c.key] 9) = Yk at *; refine hK.out _ _ (qAa.all (HS.out Yk (HPk.out.mono (fun _ _ e => e.elim)))) (fun hU => ?_)
     clear hK K hHeld; have hHeld := hU; clear hU; try simp only [Act.put, sTA, sC0, sC1]
     refine aRd (rs := [6]) (by kernel_rfl) (by simp) (AllL.cons rfl (by kernel_rfl) hHeld (fun K hK => ?_) AllL.nil)
     go_simp; refine (qHm (HHo.out.gd.k.mod HPk.out (fun _ _ e => e)) i' HIl.out (by have := HBm.out; show m.keys.length <= _; omega) HKb.out (fun e => by have h1 := HGl.out.1; have h2 := HKs.out; have h3 := qAc.1 e; omega)).mono ?_
     rintro e w5 ⟨a5, c5, rfl, ho5, hb5, hm5⟩; have HO5 := hid ho5; have HM5 : Hid (Mod (fun k => k = gk) wc w5) := hid ((HPk.out.mono (fun _ _ e => e.elim)).trans (hm5.mono (fun k _ e => (qAc.1 e).symm)))
     have HG5 : Hid (∀ b, blk a5 b -> (b = gk \/ wc.heap.size <= b)) := hid (fun b hb => (hb5 b hb).imp (fun e => (qAc.1 e).symm) (fun e => Nat.le_trans HPk.out.size e))
     have HVb3 := hid ((hm5.block _ (lth HVb2.out) (fun e => by have h1 := HGl.out.1; have h2 := HVs.out; have h3 := qAc.1 e; omega)).trans HVb2.out)
     clear ho5 hb5 hm5; refine hK.out _ _ (qAa.all (HS.out w5 (HM5.out.mono (fun _ _ e => .inl e)))) (fun hU => ?_)
     clear hK K hHeld; have hHeld := hU; clear hU; refine aTk (v := .pointer (some ⟨q, 1, none⟩)) (d := 56) 14 rfl rfl (by kernel_rfl) (by kernel_rfl) (by kernel_rfl) (fun _ _ _ h => h) (fun l w h => qAa.same (by decide) h) (fun l j w h => qAa.mono h j) (Or.inl ⟨by rfl, fun w' _ => by go_simp⟩) hHeld (fun hU => ?_)
     clear hHeld; have hHeld := hU; clear hU; simp only [Act.put, sTA, sC0, sC1]; refine aRd (rs := [13]) (by kernel_rfl) (by simp) (AllL.cons rfl (by kernel_rfl) hHeld (fun K hK => ?_) AllL.nil)
     go_simp; refine (qHm (HHo.out.gd.v.mod HM5.out (fun k hk e => HNe.out.1 (by rw [<- e]; exact (qAc.1 hk).symm))) i' (by have := HIl.out; have := HVl.out; show i' <= m.values.length; omega) (by have := HBm.out; have := HVl.out; show m.values.length <= _; omega) HVb3.out (fun e => by have h1 := HGl.out.2; have h2 := HVs.out; have h3 := qAc.1 e; omega)).mono ?_
     rintro e w7 ⟨a7, c7, rfl, ho7, hb7, hm7⟩; have HO7 := hid ho7; have HM7 : Hid (Mod (fun k => k = gk \/ k = gv) wc w7) := hid ((HM5.out.mono (fun _ _ e => .inl e)).trans (hm7.mono (fun k _ e => .inr (qAc.1 e).symm)))
     have HG7 : Hid (∀ b, blk a7 b -> (b = gv \/ wc.heap.size <= b)) := hid (fun b hb => (hb7 b hb).imp (fun e => (qAc.1 e).symm) (fun e => Nat.le_trans HM5.out.size e))
     have HK57 : Hid (∀ b, blk a5 b -> ¬ blk a7 b) := hid (fun b h1 h2 => by have h3 := HG5.out b h1; have h4 := hb7 b h2; have h5 := HO5.out.lt b h1; have h6 := (Nat.le_refl w5.heap.size); have h7 := HGl.out; rcases h4 with h4 | h4; (· have h8 := qAc.1 h4; have h9 := HNe.out.1; omega); (· omega))
     have HO57 := hid (HO5.out.mod hm7 (fun b hb e => by have h3 := HG5.out b hb; have h8 := qAc.1 e; have h9 := HNe.out.1; have h7 := HGl.out; omega))
     clear ho7 hb7 hm7; refine hK.out _ _ (qAa.all (HS.out w7 HM7.out)) (fun hU => ?_)
     clear hK K hHeld; have hHeld := hU; clear hU; refine aRd (rs := [15]) (by kernel_rfl) (by simp) (AllL.cons rfl (by kernel_rfl) hHeld (fun K hK => ?_) AllL.nil)
     have HX7 := hid (HHo.out.box.mod HM7.out (fun e => e.elim HNe.out.2.1 HNe.out.2.2))
     obtain ⟨x0, x1, x2, x3⟩ := HX7.out.cells; have f1 := frozen_of_row _ _ 1 _ _ HX7.out; go_simp; clear x0 x1 x2 x3 f1; refine hK.out _ _ (qAa.set (by rw [hHeld.1]; decide)) (fun hU => ?_)
     clear hK K hHeld; have hHeld := hU; clear hU; try simp only [Act.put, sTA, sC0, sC1]
     refine aTk (v := .pointer (some ⟨q, 2, none⟩)) (d := 57) 16 rfl rfl (by kernel_rfl) (by kernel_rfl) (by kernel_rfl) (fun _ _ _ h => h) (fun l w h => qAa.same (by decide) h) (fun l j w h => qAa.mono h j) (Or.inl ⟨by rfl, fun w' _ => by go_simp⟩) hHeld (fun hU => ?_)
     clear hHeld; have hHeld := hU; clear hU; simp only [Act.put, sTA, sC0, sC1]; refine aRd (rs := [17]) (by kernel_rfl) (by simp) (AllL.cons rfl (by kernel_rfl) hHeld (fun K hK => ?_) AllL.nil)
     have HX8 := hid (set4 HX7.out (.slice a5 (m.keys.length + 1) c5)).2.1; obtain ⟨x0, x1, x2, x3⟩ := cl4 HX8.out; have f2 := frozen_of_row _ _ 2 _ _ HX8.out; go_simp; clear x0 x1 x2 x3 f2; refine hK.out _ _ (fun hu => absurd (show true = false from hu) (by decide)) (fun hU => ?_)
     clear hK K hHeld; have hHeld := hU; clear hU; try simp only [Act.put, sTA, sC0, sC1]
     refine qBc (by kernel_rfl) ?_ _
     clear hHeld; have hx9 : ((w7.setCell ⟨q, 1, none⟩ (.slice a5 (m.keys.length + 1) c5)).setCell ⟨q, 2, none⟩ (.slice a7 (m.values.length + 1) c7)).heap[q]? = some (.cells #[.bool true, .slice a5 (m.keys.length + 1) c5, .slice a7 (m.values.length + 1) c7, .slice none 0 0] 123 (0, 0)) := qAh (qAh HX7.out _) _; have hm9 : Mod (fun k => k = q) w7 ((w7.setCell ⟨q, 1, none⟩ (.slice a5 (m.keys.length + 1) c5)).setCell ⟨q, 2, none⟩ (.slice a7 (m.values.length + 1) c7)) := Mod.setCell (S := fun k => k = q) (p := ⟨q, 2, none⟩) (Mod.setCell (S := fun k => k = q) (p := ⟨q, 1, none⟩) (Mod.refl _ _) (fun _ => rfl) _) (fun _ => rfl) _
     have hqw : q < wc.heap.size := lth HHo.out.box; have HOk9 := hid (HO57.out.mod hm9 (fun k hk e => by have h1 := HG5.out k hk; have h2 := HNe.out.2; omega))
     have HOv9 := hid (HO7.out.mod hm9 (fun k hk e => by have h1 := HG7.out k hk; have h2 := HNe.out.2; omega))
     generalize ((w7.setCell ⟨q, 1, none⟩ (.slice a5 (m.keys.length + 1) c5)).setCell ⟨q, 2, none⟩ (.slice a7 (m.values.length + 1) c7)) = X at *; have HX9 := hid hx9; have HmX : Hid (Mod (fun _ => False) w X) := hid (by
      have b1 := (HHo.out.bs gk (.inl (qAc.2 rfl))).1; have b2 := (HHo.out.bs gv (.inr (.inl (qAc.2 rfl)))).1; have b3 := HHo.out.lb; have b4 := ((HMa.out.trans HM1.out).trans HMz.out).size; exact (HMw.out.then HM7.out (fun k hk e => e.elim (fun e => by omega) (fun e => by omega))).then hm9 (fun k hk e => by omega))
     have HKk : Hid (m.keys.take i' ++ c.key :: m.keys.drop i' = (chgE c es).map (·.key)) := hid (by rw [qCo HEs.out (·.key) HH.out.k]; unfold Cg.putE; rw [hgo]; rfl)
     have HKw : Hid (m.values.take i' ++ c.value :: m.values.drop i' = (chgE c es).map (·.value)) := hid (by rw [qCo (l := m.values) HEs.out (·.value) (by rw [HH.out.v]; rfl)]; unfold Cg.putE; rw [hgo]; rfl)
     have HLk : Hid ((m.keys.take i' ++ c.key :: m.keys.drop i').length = m.keys.length + 1) := hid (qIh _ _ _ HIl.out); have HLv : Hid ((m.values.take i' ++ c.value :: m.values.drop i').length = m.values.length + 1) := hid (qIh _ _ _ (by have := HIl.out; have := HVl.out; omega))
     have HN : Hid (chgN c es = 1) := hid (by unfold chgN; rw [HCut.out.2.1]; rfl)
     clear hx9 hm9 hqw; have HWX := hid (HW.out.ext HmX.out); have HKc := hid (show qCb T (jlen B.room D : Int) (W.add (chgN c es)) true (chgE c es) [s] = some (W', ps) from by
      have h1 := HK.out; rw [hgo, HCut.out.2.1] at h1
      simpa using h1)
     obtain ⟨_, _, _, c3, _⟩ := HWX.out.cells; have f3 := frozen_of_row X C.wb 3 _ _ HWX.out.work.box; have s2 : IntKind.i64.wrap (W.count + 1) = W.count + 1 := by have := HCn.out; rw [IntKind.wrap_i64]; omega
     go_upto_region 15 with fail
     have HWY := hid (HWX.out.cell1 (W' := W.add (chgN c es)) (o := 3) (v := .int .i64 (W.count + 1)) (by have e : (W.add (chgN c es)).count = W.count + 1 := (by show W.count + chgN c es = _; rw [HN.out] <;> rfl); unfold qIq; rw [e]; rfl) rfl rfl rfl HWX.out.work.nx)
     have hmy : Mod (fun k => k = C.wb) X (X.setCell ⟨C.wb, 3, none⟩ (.int .i64 (W.count + 1))) := Mod.setCell (S := fun k => k = C.wb) (p := ⟨C.wb, 3, none⟩) (Mod.refl _ _) (fun _ => rfl) _
     have hwb := HW.out.lt (.inr (.inl rfl)); have hsz := ((HMa.out.trans HM1.out).trans HMz.out).size; have hqlb := HHo.out.lb; have hyq := (hmy.block q (lth HX9.out) (fun e => by omega)).trans HX9.out
     have HBk : Hid (∀ b, blk a5 b -> b ≠ C.wb) := hid (fun b hb e => by have h1 := HG5.out b hb; have h2 := (HHo.out.bs gk (.inl (qAc.2 rfl))).1; have h3 := HMw.out.size; omega)
     have HBv : Hid (∀ b, blk a7 b -> b ≠ C.wb) := hid (fun b hb e => by have h1 := HG7.out b hb; have h2 := (HHo.out.bs gv (.inr (.inl (qAc.2 rfl)))).1; have h3 := HMw.out.size; omega)
     have HKp := hid (qGu (s := s) HLk.out HLv.out HSl.out HWY.out ((HmX.out.mono (fun _ _ e => e.elim)).trans (hmy.mono (fun _ _ e => .inl e))) (HOk9.out.mod hmy (fun b hb e => HBk.out b hb e)) (HOv9.out.mod hmy (fun b hb e => HBv.out b hb e)) HK57.out HKk.out HKw.out (qSe HCk0.out HG.out) (qJs HG.out) HKc.out)
     generalize (X.setCell ⟨C.wb, 3, none⟩ (.int .i64 (W.count + 1))) = Y at *; obtain ⟨z0, z1, z2, z3⟩ := cl4 hyq; clear c3 f3 s2; clear hmy hyq hwb hsz hqlb; go_wp2_with (go_at_call 65; refine HKp.out.mono ?_; rintro e w9 ⟨pa, pcap, rfl, ho9, hb9, hw9, hm9⟩; have HO9 := hid ho9; have HB9 := hid hb9; have HW9 := hid hw9; have HM9 := hid hm9; clear ho9 hb9 hw9 hm9)
     go_ret; exact ⟨pa, pcap, rfl, HO9.out, HB9.out, HW9.out, HM9.out⟩
end
end Go.Proofs.YtkinkgbmlhiakaaGreatDoor
