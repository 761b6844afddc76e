/- A node's twin, in memory of its own; nodes that read alike -/
import Derived.Test.YthdopgejikcfbaaGrown
import Derived.Deep.RegionHeld3
namespace Go.Proofs.Ythdopgejikcfbaa
open Go Go.RowKit

/-- append to nil, as one step of a region that draws. -/
theorem step_clone {P : Program} {ops : Array Oper} {o : Oper} {a : Act} {w : World} {K : Act → World → Prop} {Q : Exit → Act → World → Prop} {E : Prop}
    (hg : o.guard = none) (s x : Operand) (t : TypeId) (hop : o.op = Op.call { callee := Callee.builtin Builtin.append, args := #[s, x], argTypes := #[t, t] })
    (e : TypeId) (i : TypeInfo) (z : Value) (size bytes : Nat) (h1 : P.underlying t = some (.slice e)) (h2 : P.info? e = some i) (hz : i.zero = some z) (h4 : i.size = size) (hby : i.bytes = bytes) (hzs : z.cells.size = size)
    (hs : a.eval s = .slice none 0 0) (V : World) (hv : Mod (fun _ => False) V w)
    (xa : Option Addr) (m c : Nat) (news : List Value) (hx : a.eval x = .slice xa m c) (hsrc : ∀ w, Mod (fun _ => False) V w → Src w size xa m news) (h1c : ∀ u ∈ news, u.oneCell' = true)
    (h63 : m ≤ maxLen) (hbytes : m * bytes ≤ 140737488355328)
    (hK : ∀ sa' cap' w', Own w' e size sa' m cap' news → Mod (fun _ => False) w w' → Mod (fun _ => False) V w' → (∀ k, blk sa' k → w.heap.size ≤ k) → K (a.put o.dst (.slice sa' m cap')) w') :
    if Region.wanted o (yielded ops a.tmps) = true then Oper.wp P o a w K Q else E :=
  step_append_Own hg s x t hop e i z size bytes h1 h2 hz h4 hby hzs none 0 0 [] hs (Own.nil _ _ _) xa m c news hx (hsrc w hv) h1c (by omega) (by rw [Nat.zero_add]; exact hbytes)
    (fun sa' cap' w' ho hm hb _ _ => by
      have hm' : Mod (fun _ => False) w w' := hm.mono (fun k _ h => (blk_none k h).elim)
      have := hK sa' cap' w' (by simpa using ho) hm' (hv.trans hm') (fun k h => (hb k h).elim (fun h => (blk_none k h).elim) id)
      simpa using this)

/-- The twin that is made of n. -/
def TwinAns (w : World) (n : Nd) (e : Ending) (w' : World) : Prop :=
  ∃ m : Nd, m.leaf = n.leaf ∧ m.keys = n.keys ∧ m.values = n.values ∧ m.kids = n.kids ∧ e = .returned (.agg #[.bool m.leaf, .slice m.ka m.keys.length m.kc, .slice m.va m.values.length m.vc, .slice m.ia m.kids.length m.ic]) ∧ Gd w' m ∧ Mod (fun _ => False) w w' ∧ ∀ b, m.bs b → w.heap.size ≤ b

set_option maxRecDepth 100000 in
set_option maxHeartbeats 4000000 in
theorem twin_any {w : World} {n : Nd} (h : NdAt w n) : Calls Try.prog 20 #[.agg #[.bool n.leaf, .slice n.ka n.keys.length n.kc, .slice n.va n.values.length n.vc, .slice n.ia n.kids.length n.ic]] w fun e w' => TwinAns w n e w' := by
  obtain ⟨i0, hi, hz0, hz1, hz2⟩ := info_parts infoStr
  obtain ⟨j0, hj, hy0, hy1, hy2⟩ := info_parts infoInt
  have hbk := h.bk
  have hbv := h.bv
  have hbi := h.bi
  have hm : Mod (fun _ => False) w ((w.alloc (.cells #[.bool n.leaf, .slice n.ka n.keys.length n.kc, .slice n.va n.values.length n.vc, .slice n.ia n.kids.length n.ic] 26)).alloc (.cells #[.bool false, .slice none 0 0, .slice none 0 0, .slice none 0 0] 26)) := ((Mod.refl _ _).alloc _).alloc _
  have hbox : ((w.alloc (.cells #[.bool n.leaf, .slice n.ka n.keys.length n.kc, .slice n.va n.values.length n.vc, .slice n.ia n.kids.length n.ic] 26)).alloc (.cells #[.bool false, .slice none 0 0, .slice none 0 0, .slice none 0 0] 26)).heap[w.heap.size]? = some (.cells #[.bool n.leaf, .slice n.ka n.keys.length n.kc, .slice n.va n.values.length n.vc, .slice n.ia n.kids.length n.ic] 26 (0, 0)) := (Below.heap_alloc _ _ _ (by simp)).trans (heap_alloc_new _ _)
  have hout : ((w.alloc (.cells #[.bool n.leaf, .slice n.ka n.keys.length n.kc, .slice n.va n.values.length n.vc, .slice n.ia n.kids.length n.ic] 26)).alloc (.cells #[.bool false, .slice none 0 0, .slice none 0 0, .slice none 0 0] 26)).heap[w.heap.size + 1]? = some (.cells #[.bool false, .slice none 0 0, .slice none 0 0, .slice none 0 0] 26 (0, 0)) := by have := heap_alloc_new (w.alloc (.cells #[.bool n.leaf, .slice n.ka n.keys.length n.kc, .slice n.va n.values.length n.vc, .slice n.ia n.kids.length n.ic] 26)) (.cells #[.bool false, .slice none 0 0, .slice none 0 0, .slice none 0 0] 26); simpa using this
  have HK : Hid (∀ v, Mod (fun _ => False) ((w.alloc (.cells #[.bool n.leaf, .slice n.ka n.keys.length n.kc, .slice n.va n.values.length n.vc, .slice n.ia n.kids.length n.ic] 26)).alloc (.cells #[.bool false, .slice none 0 0, .slice none 0 0, .slice none 0 0] 26)) v → Src v 1 n.ka n.keys.length (n.keys.flatMap scs)) := hid (fun v hv => (h.ext (hm.trans hv)).k.src)
  have HV : Hid (∀ v, Mod (fun _ => False) ((w.alloc (.cells #[.bool n.leaf, .slice n.ka n.keys.length n.kc, .slice n.va n.values.length n.vc, .slice n.ia n.kids.length n.ic] 26)).alloc (.cells #[.bool false, .slice none 0 0, .slice none 0 0, .slice none 0 0] 26)) v → Src v 1 n.va n.values.length (n.values.flatMap scs)) := hid (fun v hv => (h.ext (hm.trans hv)).v.src)
  have HI : Hid (∀ v, Mod (fun _ => False) ((w.alloc (.cells #[.bool n.leaf, .slice n.ka n.keys.length n.kc, .slice n.va n.values.length n.vc, .slice n.ia n.kids.length n.ic] 26)).alloc (.cells #[.bool false, .slice none 0 0, .slice none 0 0, .slice none 0 0] 26)) v → Src v 1 n.ia n.kids.length (n.kids.flatMap ics)) := hid (fun v hv => (h.ext (hm.trans hv)).i.src)
  have HM := hid hm
  have HOut := hid hout
  have HBox := hid hbox
  clear h hm hbox hout
  go_enter Try.func20, Try.ntmps20
  go_upto_region 1 with fail
  generalize ((w.alloc (.cells #[.bool n.leaf, .slice n.ka n.keys.length n.kc, .slice n.va n.values.length n.vc, .slice n.ia n.kids.length n.ic] 26)).alloc (.cells #[.bool false, .slice none 0 0, .slice none 0 0, .slice none 0 0] 26)) = V at *
  have HUo : Hid (∀ v, Mod (fun _ => False) V v → v.heap[w.heap.size + 1]? = some (.cells #[.bool false, .slice none 0 0, .slice none 0 0, .slice none 0 0] 26 (0, 0))) := hid (fun v hv => (hv.block _ (lt_of_heap HOut.out) (fun h => h)).trans HOut.out)
  have HUp : Hid (∀ v, Mod (fun _ => False) V v → v.cell? ⟨w.heap.size, 0, none⟩ = some (.bool n.leaf) ∧ v.cell? ⟨w.heap.size, 1, none⟩ = some (.slice n.ka n.keys.length n.kc) ∧ v.cell? ⟨w.heap.size, 2, none⟩ = some (.slice n.va n.values.length n.vc) ∧ v.cell? ⟨w.heap.size, 3, none⟩ = some (.slice n.ia n.kids.length n.ic) ∧ v.cell? ⟨w.heap.size + 1, 0, none⟩ = some (.bool false) ∧ v.cell? ⟨w.heap.size + 1, 1, none⟩ = some (.slice none 0 0) ∧ v.cell? ⟨w.heap.size + 1, 2, none⟩ = some (.slice none 0 0) ∧ v.cell? ⟨w.heap.size + 1, 3, none⟩ = some (.slice none 0 0) ∧ v.frozen? ⟨w.heap.size + 1, 0, none⟩ = false ∧ v.frozen? ⟨w.heap.size + 1, 1, none⟩ = false ∧ v.frozen? ⟨w.heap.size + 1, 2, none⟩ = false ∧ v.frozen? ⟨w.heap.size + 1, 3, none⟩ = false) := hid (fun v hv => by
    obtain ⟨b0, b1, b2, b3⟩ := cells4 ((hv.block _ (lt_of_heap HBox.out) (fun h => h)).trans HBox.out)
    obtain ⟨o0, o1, o2, o3⟩ := cells4 (HUo.out v hv)
    exact ⟨b0, b1, b2, b3, o0, o1, o2, o3, frozen_of_row _ _ 0 _ _ (HUo.out v hv), frozen_of_row _ _ 1 _ _ (HUo.out v hv), frozen_of_row _ _ 2 _ _ (HUo.out v hv), frozen_of_row _ _ 3 _ _ (HUo.out v hv)⟩)
  have HU4 := hid (fun v hv => (fun h => And.intro h.1 (And.intro h.2.1 (And.intro h.2.2.1 h.2.2.2.1))) (HUp.out v hv))
  have hV0 : Mod (fun _ => False) V V.drew := (Mod.refl _ _).drew
  obtain ⟨b0, b1, b2, b3, o0, o1, o2, o3, q0, q1, q2, q3⟩ := HUp.out _ hV0
  go_region_held3 (fun w' => w'.cell? ⟨w.heap.size, 0, none⟩ = some (.bool n.leaf) ∧ w'.cell? ⟨w.heap.size, 1, none⟩ = some (.slice n.ka n.keys.length n.kc) ∧ w'.cell? ⟨w.heap.size, 2, none⟩ = some (.slice n.va n.values.length n.vc) ∧ w'.cell? ⟨w.heap.size, 3, none⟩ = some (.slice n.ia n.kids.length n.ic))
    (first | (exact HU4.out _ (by assumption)) | go_keep)
    (first
      | (refine step_clone (by rfl) _ (.tmp 6) 22 (by rfl) 9 i0 _ 1 16 Try.underlying22 hi hz0 hz1 hz2 (by rfl) (by rfl) V (by assumption) n.ka n.keys.length n.kc _ (by rfl) HK.out (flat_one (f := scs) (by intro x u hu; simp at hu; subst hu; rfl) _) (by unfold maxLen; omega) (by omega) ?_; intro ka kc wk hok hmk hVk hlk; obtain ⟨_, _, _, _, o0, o1, o2, o3, q0, q1, q2, q3⟩ := HUp.out wk hVk)
      | (refine step_clone (by rfl) _ (.tmp 9) 22 (by rfl) 9 i0 _ 1 16 Try.underlying22 hi hz0 hz1 hz2 (by rfl) (by rfl) V (by assumption) n.va n.values.length n.vc _ (by rfl) HV.out (flat_one (f := scs) (by intro x u hu; simp at hu; subst hu; rfl) _) (by unfold maxLen; omega) (by omega) ?_; intro va vc wv hov hmv hVv hlv; obtain ⟨_, _, _, _, o0, o1, o2, o3, q0, q1, q2, q3⟩ := HUp.out wv hVv)
      | (refine step_clone (by rfl) _ (.tmp 12) 24 (by rfl) 3 j0 _ 1 8 Try.underlying24 hj hy0 hy1 hy2 (by rfl) (by rfl) V (by assumption) n.ia n.kids.length n.ic _ (by rfl) HI.out (flat_one (f := ics) (by intro x u hu; simp at hu; subst hu; rfl) _) (by unfold maxLen; omega) (by omega) ?_; intro ia ic wi hoi hmi hVi hli; obtain ⟨_, _, _, _, o0, o1, o2, o3, q0, q1, q2, q3⟩ := HUp.out wi hVi))
  have hb10 := (set4 (set4 (set4 (set4 (HUo.out wi hVi) (.bool n.leaf)).1 (.slice ka n.keys.length kc)).2.1 (.slice va n.values.length vc)).2.2.1 (.slice ia n.kids.length ic)).2.2.2
  have M4 : Mod (fun k => k = w.heap.size + 1) wi ((((wi.setCell ⟨w.heap.size + 1, 0, none⟩ (.bool n.leaf)).setCell ⟨w.heap.size + 1, 1, none⟩ (.slice ka n.keys.length kc)).setCell ⟨w.heap.size + 1, 2, none⟩ (.slice va n.values.length vc)).setCell ⟨w.heap.size + 1, 3, none⟩ (.slice ia n.kids.length ic)) := Mod.setCell (S := fun k => k = w.heap.size + 1) (Mod.setCell (S := fun k => k = w.heap.size + 1) (Mod.setCell (S := fun k => k = w.heap.size + 1) (Mod.setCell (S := fun k => k = w.heap.size + 1) (Mod.refl _ _) (fun _ => rfl) _) (fun _ => rfl) _) (fun _ => rfl) _) (fun _ => rfl) _
  obtain ⟨g0, g1, g2, g3⟩ := cells4 hb10
  have hlV := lt_of_heap HOut.out
  have hsV : V.drew.heap.size = V.heap.size := rfl
  have s1 := hmk.size
  have s2 := hmv.size
  have s3 := hmi.size
  have k2 := hok.lt
  have v2 := hov.lt
  have i2 := hoi.lt
  have hfin : TwinAns w n (.returned (.agg #[.bool n.leaf, .slice ka n.keys.length kc, .slice va n.values.length vc, .slice ia n.kids.length ic])) ((((wi.setCell ⟨w.heap.size + 1, 0, none⟩ (.bool n.leaf)).setCell ⟨w.heap.size + 1, 1, none⟩ (.slice ka n.keys.length kc)).setCell ⟨w.heap.size + 1, 2, none⟩ (.slice va n.values.length vc)).setCell ⟨w.heap.size + 1, 3, none⟩ (.slice ia n.kids.length ic)) := by
    refine ⟨⟨n.leaf, n.keys, n.values, n.kids, ka, kc, va, vc, ia, ic⟩, rfl, rfl, rfl, rfl, rfl, ⟨?_, ?_, ?_, ?_, ?_, ?_⟩, ?_, ?_⟩
    · exact (hok.mod (hmv.trans hmi) (fun _ _ h => h)).mod M4 (fun k hk e => by have := hlk k hk; omega)
    · exact (hov.mod hmi (fun _ _ h => h)).mod M4 (fun k hk e => by have := hlv k hk; omega)
    · exact hoi.mod M4 (fun k hk e => by have := hli k hk; omega)
    · intro b h1 h2; have := hlv b h2; have := k2 b h1; omega
    · intro b h1 h2; have := hli b h2; have := k2 b h1; omega
    · intro b h1 h2; have := hli b h2; have := v2 b h1; omega
    · exact (HM.out.trans hVi).then M4 (fun i hi e => by omega)
    · rintro b (h | h | h)
      · have := hlk b h; omega
      · have := hlv b h; omega
      · have := hli b h; omega
  have HFin := hid hfin
  clear hfin hb10 M4 hok hov hoi hmk hmv hmi hVk hVv hVi hlk hlv hli k2 v2 i2
  go_wp2_with fail
  generalize ((((wi.setCell ⟨w.heap.size + 1, 0, none⟩ (.bool n.leaf)).setCell ⟨w.heap.size + 1, 1, none⟩ (.slice ka n.keys.length kc)).setCell ⟨w.heap.size + 1, 2, none⟩ (.slice va n.values.length vc)).setCell ⟨w.heap.size + 1, 3, none⟩ (.slice ia n.kids.length ic)) = Z at *
  refine bodyPost_ret (v := .agg #[.bool n.leaf, .slice ka n.keys.length kc, .slice va n.values.length vc, .slice ia n.kids.length ic]) (by simp [results, Try.results20, go_sem, g0, g1, g2, g3]) rfl HFin.out

end Go.Proofs.Ythdopgejikcfbaa
