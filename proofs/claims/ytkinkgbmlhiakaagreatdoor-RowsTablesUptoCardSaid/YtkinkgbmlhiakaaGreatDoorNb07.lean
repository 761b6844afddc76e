/- merged: With Tail Part -/
import Derived.Test.YtkinkgbmlhiakaaGreatDoorNb05
import Derived.Test.YtkinkgbmlhiakaaGreatDoorNb01
import Derived.StillTail
namespace Go.Proofs.YtkinkgbmlhiakaaGreatDoor
section
open Go Go.RowKit
theorem qNv : (Tryz.prog.info? 9).map (fun i => (i.zero, i.size, i.bytes)) = some (some (.string ByteArray.empty), 1, 16) := by kernel_rfl
abbrev scs (x : ByteArray) : List Value := [.string x]
abbrev ics (x : Int) : List Value := [.int .i64 x]
structure Gd (w : World) (n : Nd) : Prop where
 k : Own w 9 1 n.ka n.keys.length n.kc (n.keys.flatMap scs)
 v : Own w 9 1 n.va n.values.length n.vc (n.values.flatMap scs)
 i : Own w 3 1 n.ia n.kids.length n.ic (n.kids.flatMap ics)
 kv : ∀ b, blk n.ka b -> ¬ blk n.va b
 ki : ∀ b, blk n.ka b -> ¬ blk n.ia b
 vi : ∀ b, blk n.va b -> ¬ blk n.ia b
def Nd.val (n : Nd) : Value := .agg #[.bool n.leaf, .slice n.ka n.keys.length n.kc, .slice n.va n.values.length n.vc, .slice n.ia n.kids.length n.ic]
def qSa (w : World) (n : Nd) (key value : ByteArray) (kid : Int) (e : Ending) (w' : World) : Prop :=
 ∃ m : Nd, m.leaf = n.leaf /\ m.keys = n.keys ++ [key] /\ m.values = (if n.leaf then n.values ++ [value] else n.values) /\ m.kids = (if n.leaf then n.kids else n.kids ++ [kid]) /\ e = .returned m.val /\ Gd w' m /\ Mod n.bs w w' /\ ∀ b, m.bs b -> n.bs b \/ w.heap.size <= b
theorem set4 {w : World} {b : Nat} {v0 v1 v2 v3 : Value} {t : TypeId} (h : w.heap[b]? = some (.cells #[v0, v1, v2, v3] t (0, 0))) (u : Value) :
  (w.setCell ⟨b, 0, none⟩ u).heap[b]? = some (.cells #[u, v1, v2, v3] t (0, 0)) /\ (w.setCell ⟨b, 1, none⟩ u).heap[b]? = some (.cells #[v0, u, v2, v3] t (0, 0)) /\ (w.setCell ⟨b, 2, none⟩ u).heap[b]? = some (.cells #[v0, v1, u, v3] t (0, 0)) /\ (w.setCell ⟨b, 3, none⟩ u).heap[b]? = some (.cells #[v0, v1, v2, u] t (0, 0)) :=
 ⟨heap_setCell_same w b 0 _ t u h, heap_setCell_same w b 1 _ t u h, heap_setCell_same w b 2 _ t u h, heap_setCell_same w b 3 _ t u h⟩
set_option maxRecDepth 100000
set_option maxHeartbeats 1000000 in
theorem qWs {w : World} {ks vs : List ByteArray} {is : List Int} {ka va ia : Option Addr} {kc vc ic : Nat} (key value : ByteArray) (kid : Int) (g : Gd w ⟨true, ks, vs, is, ka, kc, va, vc, ia, ic⟩) (hk : ks.length <= 8388608) (hv : vs.length <= 8388608) :
  Calls Tryz.prog 132 #[.agg #[.bool true, .slice ka ks.length kc, .slice va vs.length vc, .slice ia is.length ic], .string key, .string value, .int .i64 kid] w fun e w' => qSa w ⟨true, ks, vs, is, ka, kc, va, vc, ia, ic⟩ key value kid e w' := by
 obtain ⟨i0, hi, hz0, hz1, hz2⟩ := info_parts qNv; obtain ⟨j0, hj, hy0, hy1, hy2⟩ := info_parts qIp; have hm : Mod (fun _ => False) w ((w.alloc (.cells #[.bool true, .slice ka ks.length kc, .slice va vs.length vc, .slice ia is.length ic] 123)).alloc (.cells #[.bool false, .slice none 0 0, .slice none 0 0, .slice none 0 0] 123)) := ((Mod.refl _ _).alloc _).alloc _
 have hbox : ((w.alloc (.cells #[.bool true, .slice ka ks.length kc, .slice va vs.length vc, .slice ia is.length ic] 123)).alloc (.cells #[.bool false, .slice none 0 0, .slice none 0 0, .slice none 0 0] 123)).heap[w.heap.size]? = some (.cells #[.bool true, .slice ka ks.length kc, .slice va vs.length vc, .slice ia is.length ic] 123 (0, 0)) := (Below.heap_alloc _ _ _ (by simp)).trans (heap_alloc_new _ _)
 have hout : ((w.alloc (.cells #[.bool true, .slice ka ks.length kc, .slice va vs.length vc, .slice ia is.length ic] 123)).alloc (.cells #[.bool false, .slice none 0 0, .slice none 0 0, .slice none 0 0] 123)).heap[w.heap.size + 1]? = some (.cells #[.bool false, .slice none 0 0, .slice none 0 0, .slice none 0 0] 123 (0, 0)) := by have := heap_alloc_new (w.alloc (.cells #[.bool true, .slice ka ks.length kc, .slice va vs.length vc, .slice ia is.length ic] 123)) (.cells #[.bool false, .slice none 0 0, .slice none 0 0, .slice none 0 0] 123); simpa using this
 have HG := hid g; have hkl : ∀ k, blk ka k -> k < w.heap.size := g.k.lt; have hvl : ∀ k, blk va k -> k < w.heap.size := g.v.lt; have HKl := hid hkl; have HVl := hid hvl; clear g hkl hvl; go_enter Tryz.func132, Tryz.ntmps132
 go_upto_region 1 with fail
 generalize ((w.alloc (.cells #[.bool true, .slice ka ks.length kc, .slice va vs.length vc, .slice ia is.length ic] 123)).alloc (.cells #[.bool false, .slice none 0 0, .slice none 0 0, .slice none 0 0] 123)) = V at *; have HM := hid hm; have HBox := hid hbox; have HOut := hid hout; obtain ⟨b0, b1, b2, b3⟩ := cl4 hbox; have HOk : Hid (Own (V.alloc (.cells #[.string key] 9)) 9 1 ka ks.length kc (ks.flatMap scs)) := HG.out.k.mod (hm.alloc _) (fun _ _ h => h)
 have HSk : Hid (Src (V.alloc (.cells #[.string key] 9)) 1 (some ⟨V.heap.size, 0, none⟩) 1 [.string key]) := qAu (heap_alloc_new _ _) rfl; have HX : Hid (∀ w5, Mod (blk ka) (V.alloc (.cells #[.string key] 9)) w5 -> w5.heap[w.heap.size]? = some (.cells #[.bool true, .slice ka ks.length kc, .slice va vs.length vc, .slice ia is.length ic] 123 (0, 0))) := fun w5 h5 => (h5.block _ (by have := lth HBox.out; simp; omega) (fun h => by have := HKl.out _ h; omega)).trans ((Below.heap_alloc _ _ _ (lth HBox.out)).trans HBox.out)
 clear hm hbox hout; go_upto_region 2 with (at_builtin; refine qAc rfl (.tmp 10) (.tmp 12) 68 rfl 9 i0 _ 1 16 Tryz.underlying68 hi hz0 hz1 hz2 rfl ka ks.length kc _ rfl HOk.out (some ⟨V.heap.size, 0, none⟩) 1 1 _ rfl HSk.out (by intro u hu; simp at hu; subst hu; rfl) (by unfold maxLen; omega) (by omega) ?_; intro ka' kc' w5 hown5 hm5 hb5 hn5 hr5; have hx5 := HX.out w5 hm5; obtain ⟨c0, c1, c2, c3⟩ := cl4 hx5; have f1 := frozen_of_row _ _ 1 _ _ hx5; have HX5 := hid hx5; have Hown5 := hid hown5; have Hm5 := hid hm5; have Hb5 := hid hb5; clear hown5 hm5 hb5 hn5 hr5 hx5)
 have M56 : Mod (fun k => blk ka k \/ k = w.heap.size) V (w5.setCell ⟨w.heap.size, 1, none⟩ (.slice ka' (ks.length + 1) kc')) := Mod.setCell (S := fun k => blk ka k \/ k = w.heap.size) (((Mod.refl _ V).alloc _).then Hm5.out (fun _ _ h => .inl h)) (fun _ => .inr rfl) _
 have hown6 : Own (w5.setCell ⟨w.heap.size, 1, none⟩ (.slice ka' (ks.length + 1) kc')) 9 1 ka' (ks.length + 1) kc' (ks.flatMap scs ++ [.string key]) := Hown5.out.mod (S := fun k => k = w.heap.size) (Mod.setCell (S := fun k => k = w.heap.size) (Mod.refl _ _) (fun _ => rfl) _) (fun k hk e => by
  rcases Hb5.out k hk with h | h
  ·have := HKl.out k h; omega
  ·have := lth HBox.out; simp at h; omega)
 have hbox6 : (w5.setCell ⟨w.heap.size, 1, none⟩ (.slice ka' (ks.length + 1) kc')).heap[w.heap.size]? = some (.cells #[.bool true, .slice ka' (ks.length + 1) kc', .slice va vs.length vc, .slice ia is.length ic] 123 (0, 0)) := (set4 HX5.out _).2.1; have hkb : ∀ k, blk ka' k -> blk ka k \/ V.heap.size <= k := fun k hk => (Hb5.out k hk).imp id (fun h => by simp at h; omega)
 generalize w5.setCell ⟨w.heap.size, 1, none⟩ (.slice ka' (ks.length + 1) kc') = w6 at *; have hout6 : w6.heap[w.heap.size + 1]? = some (.cells #[.bool false, .slice none 0 0, .slice none 0 0, .slice none 0 0] 123 (0, 0)) := (M56.block _ (lth HOut.out) (fun h => h.elim (fun h => by have := HKl.out _ h; omega) (fun h => by omega))).trans HOut.out
 have hm6 : Mod (blk ka) w w6 := (HM.out.mono (fun _ _ h => h.elim)).then M56 (fun i hi h => h.elim id (fun e => by omega))
 have HM6 := hid hm6; have HOwn6 := hid hown6; have HBox6 := hid hbox6; have HOut6 := hid hout6; have HKb := hid hkb; have hs6 := M56.size; obtain ⟨a0, a1, a2, a3⟩ := cl4 hbox6; have HOv : Hid (Own (w6.alloc (.cells #[.string value] 9)) 9 1 va vs.length vc (vs.flatMap scs)) := (HG.out.v.mod hm6 (fun k hk h => HG.out.kv k h hk)).mod (S := fun _ => False) ((Mod.refl _ _).alloc _) (fun _ _ h => h)
 have HSv : Hid (Src (w6.alloc (.cells #[.string value] 9)) 1 (some ⟨w6.heap.size, 0, none⟩) 1 [.string value]) := qAu (heap_alloc_new _ _) rfl; have HY : Hid (∀ w8, Mod (blk va) (w6.alloc (.cells #[.string value] 9)) w8 -> w8.heap[w.heap.size]? = some (.cells #[.bool true, .slice ka' (ks.length + 1) kc', .slice va vs.length vc, .slice ia is.length ic] 123 (0, 0))) := fun w8 h8 => (h8.block _ (by have := lth HBox6.out; simp; omega) (fun h => by have := HVl.out _ h; omega)).trans ((Below.heap_alloc _ _ _ (lth HBox6.out)).trans HBox6.out)
 clear hm6 hown6 hbox6 hout6 hkb M56 b0 b1 b2 b3 c0 c1 c2 c3 f1; go_upto_region 5 with (at_builtin; refine qAc rfl (.tmp 18) (.tmp 20) 68 rfl 9 i0 _ 1 16 Tryz.underlying68 hi hz0 hz1 hz2 rfl va vs.length vc _ rfl HOv.out (some ⟨w6.heap.size, 0, none⟩) 1 1 _ rfl HSv.out (by intro u hu; simp at hu; subst hu; rfl) (by unfold maxLen; omega) (by omega) ?_; intro sa' sc' w8 hown8 hm8 hb8 hn8 hr8; have hx8 := HY.out w8 hm8; obtain ⟨c0, c1, c2, c3⟩ := cl4 hx8; have f1 := frozen_of_row _ _ 2 _ _ hx8; have HX8 := hid hx8; have Hown8 := hid hown8; have Hm8 := hid hm8; have Hb8 := hid hb8; clear hown8 hm8 hb8 hn8 hr8 hx8)
 have M89 : Mod (fun k => blk va k \/ k = w.heap.size) w6 (w8.setCell ⟨w.heap.size, 2, none⟩ (.slice sa' (vs.length + 1) sc')) := Mod.setCell (S := fun k => blk va k \/ k = w.heap.size) (((Mod.refl _ w6).alloc _).then Hm8.out (fun _ _ h => .inl h)) (fun _ => .inr rfl) _
 have hown9 : Own (w8.setCell ⟨w.heap.size, 2, none⟩ (.slice sa' (vs.length + 1) sc')) 9 1 sa' (vs.length + 1) sc' (vs.flatMap scs ++ [.string value]) := Hown8.out.mod (S := fun k => k = w.heap.size) (Mod.setCell (S := fun k => k = w.heap.size) (Mod.refl _ _) (fun _ => rfl) _) (fun k hk e => by
  rcases Hb8.out k hk with h | h
  ·have := HVl.out k h; omega
  ·have := lth HBox6.out; simp at h; omega)
 have hbox9 : (w8.setCell ⟨w.heap.size, 2, none⟩ (.slice sa' (vs.length + 1) sc')).heap[w.heap.size]? = some (.cells #[.bool true, .slice ka' (ks.length + 1) kc', .slice sa' (vs.length + 1) sc', .slice ia is.length ic] 123 (0, 0)) := (set4 HX8.out _).2.2.1; have hvb : ∀ k, blk sa' k -> blk va k \/ w6.heap.size <= k := fun k hk => (Hb8.out k hk).imp id (fun h => by simp at h; omega)
 generalize w8.setCell ⟨w.heap.size, 2, none⟩ (.slice sa' (vs.length + 1) sc') = w9 at *; have hnk : ∀ k, blk ka' k -> ¬ (blk va k \/ k = w.heap.size) := fun k hk h => by
  have h1 := lth HBox.out; rcases HKb.out k hk with h2 | h2
  ·rcases h with h | h
   ·exact HG.out.kv k h2 h
   ·have := HKl.out k h2; omega
  ·rcases h with h | h
   ·have := HVl.out k h; omega
   ·omega
 have hout9 : w9.heap[w.heap.size + 1]? = some (.cells #[.bool false, .slice none 0 0, .slice none 0 0, .slice none 0 0] 123 (0, 0)) := (M89.block _ (lth HOut6.out) (fun h => h.elim (fun h => by have := HVl.out _ h; omega) (fun h => by omega))).trans HOut6.out
 have hk9 := HOwn6.out.mod M89 hnk; have hm9 : Mod (fun k => blk ka k \/ blk va k) w w9 := (HM6.out.mono (fun _ _ h => .inl h)).then M89 (fun i hi h => h.elim .inr (fun e => by omega))
 have hi9 := HG.out.i.mod hm9 (fun k hk h => h.elim (fun h => HG.out.ki k h hk) (fun h => HG.out.vi k h hk))
 have M910 : Mod (fun k => k = w.heap.size + 1) w9 ((((w9.setCell ⟨w.heap.size + 1, 0, none⟩ (.bool true)).setCell ⟨w.heap.size + 1, 1, none⟩ (.slice ka' (ks.length + 1) kc')).setCell ⟨w.heap.size + 1, 2, none⟩ (.slice sa' (vs.length + 1) sc')).setCell ⟨w.heap.size + 1, 3, none⟩ (.slice ia is.length ic)) := Mod.setCell (S := fun k => k = w.heap.size + 1) (Mod.setCell (S := fun k => k = w.heap.size + 1) (Mod.setCell (S := fun k => k = w.heap.size + 1) (Mod.setCell (S := fun k => k = w.heap.size + 1) (Mod.refl _ _) (fun _ => rfl) _) (fun _ => rfl) _) (fun _ => rfl) _) (fun _ => rfl) _
 have hb10 := (set4 (set4 (set4 (set4 hout9 (.bool true)).1 (.slice ka' (ks.length + 1) kc')).2.1 (.slice sa' (vs.length + 1) sc')).2.2.1 (.slice ia is.length ic)).2.2.2; obtain ⟨g0, g1, g2, g3⟩ := cl4 hb10; obtain ⟨e0, e1, e2, e3⟩ := cl4 hbox9; obtain ⟨o0, o1, o2, o3⟩ := cl4 hout9; have q0 := frozen_of_row _ _ 0 _ _ hout9; have q1 := frozen_of_row _ _ 1 _ _ hout9; have q2 := frozen_of_row _ _ 2 _ _ hout9; have q3 := frozen_of_row _ _ 3 _ _ hout9; clear a0 a1 a2 a3 c0 c1 c2 c3 f1; go_wp2_with fail
 have hlk : (ks ++ [key]).length = ks.length + 1 := by simp
 have hlv : (vs ++ [value]).length = vs.length + 1 := by simp
 have hs9 := M89.size; have hV := lth HOut.out; have hnb : ∀ k, (blk ka' k \/ blk sa' k \/ blk ia k) -> (blk ka k \/ blk va k \/ blk ia k) \/ w.heap.size + 2 <= k := fun k h => by
  rcases h with h | h | h
  ·rcases HKb.out k h with h | h
   ·exact .inl (.inl h)
   ·exact .inr (by omega)
  ·rcases hvb k h with h | h
   ·exact .inl (.inr (.inl h))
   ·exact .inr (by omega)
  ·exact .inl (.inr (.inr h))
 have hil := HG.out.i.lt; have hne : ∀ k, (blk ka' k \/ blk sa' k \/ blk ia k) -> ¬ k = w.heap.size + 1 := fun k h e => by
  rcases hnb k h with (h | h | h) | h
  ·have := HKl.out k h; omega
  ·have := HVl.out k h; omega
  ·have := hil k h; omega
  ·omega
 refine bodyPost_ret (v := .agg #[.bool true, .slice ka' (ks.length + 1) kc', .slice sa' (vs.length + 1) sc', .slice ia is.length ic]) (by simp [results, Tryz.results132, go_sem, g0, g1, g2, g3]) rfl ?_
 refine ⟨⟨true, ks ++ [key], vs ++ [value], is, ka', kc', sa', sc', ia, ic⟩, rfl, rfl, rfl, rfl, by unfold Nd.val; simp only [hlk, hlv], ⟨?_, ?_, ?_, ?_, ?_, ?_⟩, ?_, ?_⟩
 ·have := hk9.mod M910 (fun k hk => hne k (.inl hk))
  simp only [hlk, List.flatMap_append]; exact this
 ·have := hown9.mod M910 (fun k hk => hne k (.inr (.inl hk)))
  simp only [hlv, List.flatMap_append]; exact this
 ·exact hi9.mod M910 (fun k hk => hne k (.inr (.inr hk)))
 ·intro b h1 h2; rcases hvb b h2 with h | h
  ·exact hnk b h1 (.inl h)
  ·have := HOwn6.out.lt b h1; omega
 ·intro b h1 h2; rcases HKb.out b h1 with h | h
  ·exact HG.out.ki b h h2
  ·have := hil b h2; omega
 ·intro b h1 h2; rcases hvb b h1 with h | h
  ·exact HG.out.vi b h h2
  ·have := hil b h2; omega
 ·exact (hm9.mono (fun _ _ h => h.elim .inl (fun h => .inr (.inl h)))).then M910 (fun i hi e => by omega)
 ·intro b hb; rcases hnb b hb with h | h
  ·exact .inl h
  ·exact .inr (by omega)
set_option maxHeartbeats 1000000 in
theorem qUj {w : World} {ks vs : List ByteArray} {is : List Int} {ka va ia : Option Addr} {kc vc ic : Nat} (key value : ByteArray) (kid : Int) (g : Gd w ⟨false, ks, vs, is, ka, kc, va, vc, ia, ic⟩) (hk : ks.length <= 8388608) (hv : is.length <= 8388608) :
  Calls Tryz.prog 132 #[.agg #[.bool false, .slice ka ks.length kc, .slice va vs.length vc, .slice ia is.length ic], .string key, .string value, .int .i64 kid] w fun e w' => qSa w ⟨false, ks, vs, is, ka, kc, va, vc, ia, ic⟩ key value kid e w' := by
 obtain ⟨i0, hi, hz0, hz1, hz2⟩ := info_parts qNv; obtain ⟨j0, hj, hy0, hy1, hy2⟩ := info_parts qIp; have hm : Mod (fun _ => False) w ((w.alloc (.cells #[.bool false, .slice ka ks.length kc, .slice va vs.length vc, .slice ia is.length ic] 123)).alloc (.cells #[.bool false, .slice none 0 0, .slice none 0 0, .slice none 0 0] 123)) := ((Mod.refl _ _).alloc _).alloc _
 have hbox : ((w.alloc (.cells #[.bool false, .slice ka ks.length kc, .slice va vs.length vc, .slice ia is.length ic] 123)).alloc (.cells #[.bool false, .slice none 0 0, .slice none 0 0, .slice none 0 0] 123)).heap[w.heap.size]? = some (.cells #[.bool false, .slice ka ks.length kc, .slice va vs.length vc, .slice ia is.length ic] 123 (0, 0)) := (Below.heap_alloc _ _ _ (by simp)).trans (heap_alloc_new _ _)
 have hout : ((w.alloc (.cells #[.bool false, .slice ka ks.length kc, .slice va vs.length vc, .slice ia is.length ic] 123)).alloc (.cells #[.bool false, .slice none 0 0, .slice none 0 0, .slice none 0 0] 123)).heap[w.heap.size + 1]? = some (.cells #[.bool false, .slice none 0 0, .slice none 0 0, .slice none 0 0] 123 (0, 0)) := by have := heap_alloc_new (w.alloc (.cells #[.bool false, .slice ka ks.length kc, .slice va vs.length vc, .slice ia is.length ic] 123)) (.cells #[.bool false, .slice none 0 0, .slice none 0 0, .slice none 0 0] 123); simpa using this
 have HG := hid g; have hkl : ∀ k, blk ka k -> k < w.heap.size := g.k.lt; have hvl : ∀ k, blk ia k -> k < w.heap.size := g.i.lt; have HKl := hid hkl; have HVl := hid hvl; clear g hkl hvl; go_enter Tryz.func132, Tryz.ntmps132
 go_upto_region 1 with fail
 generalize ((w.alloc (.cells #[.bool false, .slice ka ks.length kc, .slice va vs.length vc, .slice ia is.length ic] 123)).alloc (.cells #[.bool false, .slice none 0 0, .slice none 0 0, .slice none 0 0] 123)) = V at *; have HM := hid hm; have HBox := hid hbox; have HOut := hid hout; obtain ⟨b0, b1, b2, b3⟩ := cl4 hbox; have HOk : Hid (Own (V.alloc (.cells #[.string key] 9)) 9 1 ka ks.length kc (ks.flatMap scs)) := HG.out.k.mod (hm.alloc _) (fun _ _ h => h)
 have HSk : Hid (Src (V.alloc (.cells #[.string key] 9)) 1 (some ⟨V.heap.size, 0, none⟩) 1 [.string key]) := qAu (heap_alloc_new _ _) rfl; have HX : Hid (∀ w5, Mod (blk ka) (V.alloc (.cells #[.string key] 9)) w5 -> w5.heap[w.heap.size]? = some (.cells #[.bool false, .slice ka ks.length kc, .slice va vs.length vc, .slice ia is.length ic] 123 (0, 0))) := fun w5 h5 => (h5.block _ (by have := lth HBox.out; simp; omega) (fun h => by have := HKl.out _ h; omega)).trans ((Below.heap_alloc _ _ _ (lth HBox.out)).trans HBox.out)
 clear hm hbox hout; go_upto_region 2 with (at_builtin; refine qAc rfl (.tmp 10) (.tmp 12) 68 rfl 9 i0 _ 1 16 Tryz.underlying68 hi hz0 hz1 hz2 rfl ka ks.length kc _ rfl HOk.out (some ⟨V.heap.size, 0, none⟩) 1 1 _ rfl HSk.out (by intro u hu; simp at hu; subst hu; rfl) (by unfold maxLen; omega) (by omega) ?_; intro ka' kc' w5 hown5 hm5 hb5 hn5 hr5; have hx5 := HX.out w5 hm5; obtain ⟨c0, c1, c2, c3⟩ := cl4 hx5; have f1 := frozen_of_row _ _ 1 _ _ hx5; have HX5 := hid hx5; have Hown5 := hid hown5; have Hm5 := hid hm5; have Hb5 := hid hb5; clear hown5 hm5 hb5 hn5 hr5 hx5)
 have M56 : Mod (fun k => blk ka k \/ k = w.heap.size) V (w5.setCell ⟨w.heap.size, 1, none⟩ (.slice ka' (ks.length + 1) kc')) := Mod.setCell (S := fun k => blk ka k \/ k = w.heap.size) (((Mod.refl _ V).alloc _).then Hm5.out (fun _ _ h => .inl h)) (fun _ => .inr rfl) _
 have hown6 : Own (w5.setCell ⟨w.heap.size, 1, none⟩ (.slice ka' (ks.length + 1) kc')) 9 1 ka' (ks.length + 1) kc' (ks.flatMap scs ++ [.string key]) := Hown5.out.mod (S := fun k => k = w.heap.size) (Mod.setCell (S := fun k => k = w.heap.size) (Mod.refl _ _) (fun _ => rfl) _) (fun k hk e => by
  rcases Hb5.out k hk with h | h
  ·have := HKl.out k h; omega
  ·have := lth HBox.out; simp at h; omega)
 have hbox6 : (w5.setCell ⟨w.heap.size, 1, none⟩ (.slice ka' (ks.length + 1) kc')).heap[w.heap.size]? = some (.cells #[.bool false, .slice ka' (ks.length + 1) kc', .slice va vs.length vc, .slice ia is.length ic] 123 (0, 0)) := (set4 HX5.out _).2.1; have hkb : ∀ k, blk ka' k -> blk ka k \/ V.heap.size <= k := fun k hk => (Hb5.out k hk).imp id (fun h => by simp at h; omega)
 generalize w5.setCell ⟨w.heap.size, 1, none⟩ (.slice ka' (ks.length + 1) kc') = w6 at *; have hout6 : w6.heap[w.heap.size + 1]? = some (.cells #[.bool false, .slice none 0 0, .slice none 0 0, .slice none 0 0] 123 (0, 0)) := (M56.block _ (lth HOut.out) (fun h => h.elim (fun h => by have := HKl.out _ h; omega) (fun h => by omega))).trans HOut.out
 have hm6 : Mod (blk ka) w w6 := (HM.out.mono (fun _ _ h => h.elim)).then M56 (fun i hi h => h.elim id (fun e => by omega))
 have HM6 := hid hm6; have HOwn6 := hid hown6; have HBox6 := hid hbox6; have HOut6 := hid hout6; have HKb := hid hkb; have hs6 := M56.size; obtain ⟨a0, a1, a2, a3⟩ := cl4 hbox6; have HOv : Hid (Own (w6.alloc (.cells #[.int .i64 kid] 3)) 3 1 ia is.length ic (is.flatMap ics)) := (HG.out.i.mod hm6 (fun k hk h => HG.out.ki k h hk)).mod (S := fun _ => False) ((Mod.refl _ _).alloc _) (fun _ _ h => h)
 have HSv : Hid (Src (w6.alloc (.cells #[.int .i64 kid] 3)) 1 (some ⟨w6.heap.size, 0, none⟩) 1 [.int .i64 kid]) := qAu (heap_alloc_new _ _) rfl; have HY : Hid (∀ w8, Mod (blk ia) (w6.alloc (.cells #[.int .i64 kid] 3)) w8 -> w8.heap[w.heap.size]? = some (.cells #[.bool false, .slice ka' (ks.length + 1) kc', .slice va vs.length vc, .slice ia is.length ic] 123 (0, 0))) := fun w8 h8 => (h8.block _ (by have := lth HBox6.out; simp; omega) (fun h => by have := HVl.out _ h; omega)).trans ((Below.heap_alloc _ _ _ (lth HBox6.out)).trans HBox6.out)
 clear hm6 hown6 hbox6 hout6 hkb M56 b0 b1 b2 b3 c0 c1 c2 c3 f1; go_upto_region 5 with (at_builtin; refine qAc rfl (.tmp 24) (.tmp 26) 56 rfl 3 j0 _ 1 8 Tryz.underlying56 hj hy0 hy1 hy2 rfl ia is.length ic _ rfl HOv.out (some ⟨w6.heap.size, 0, none⟩) 1 1 _ rfl HSv.out (by intro u hu; simp at hu; subst hu; rfl) (by unfold maxLen; omega) (by omega) ?_; intro sa' sc' w8 hown8 hm8 hb8 hn8 hr8; have hx8 := HY.out w8 hm8; obtain ⟨c0, c1, c2, c3⟩ := cl4 hx8; have f1 := frozen_of_row _ _ 3 _ _ hx8; have HX8 := hid hx8; have Hown8 := hid hown8; have Hm8 := hid hm8; have Hb8 := hid hb8; clear hown8 hm8 hb8 hn8 hr8 hx8)
 have M89 : Mod (fun k => blk ia k \/ k = w.heap.size) w6 (w8.setCell ⟨w.heap.size, 3, none⟩ (.slice sa' (is.length + 1) sc')) := Mod.setCell (S := fun k => blk ia k \/ k = w.heap.size) (((Mod.refl _ w6).alloc _).then Hm8.out (fun _ _ h => .inl h)) (fun _ => .inr rfl) _
 have hown9 : Own (w8.setCell ⟨w.heap.size, 3, none⟩ (.slice sa' (is.length + 1) sc')) 3 1 sa' (is.length + 1) sc' (is.flatMap ics ++ [.int .i64 kid]) := Hown8.out.mod (S := fun k => k = w.heap.size) (Mod.setCell (S := fun k => k = w.heap.size) (Mod.refl _ _) (fun _ => rfl) _) (fun k hk e => by
  rcases Hb8.out k hk with h | h
  ·have := HVl.out k h; omega
  ·have := lth HBox6.out; simp at h; omega)
 have hbox9 : (w8.setCell ⟨w.heap.size, 3, none⟩ (.slice sa' (is.length + 1) sc')).heap[w.heap.size]? = some (.cells #[.bool false, .slice ka' (ks.length + 1) kc', .slice va vs.length vc, .slice sa' (is.length + 1) sc'] 123 (0, 0)) := (set4 HX8.out _).2.2.2; have hvb : ∀ k, blk sa' k -> blk ia k \/ w6.heap.size <= k := fun k hk => (Hb8.out k hk).imp id (fun h => by simp at h; omega)
 generalize w8.setCell ⟨w.heap.size, 3, none⟩ (.slice sa' (is.length + 1) sc') = w9 at *; have hnk : ∀ k, blk ka' k -> ¬ (blk ia k \/ k = w.heap.size) := fun k hk h => by
  have h1 := lth HBox.out; rcases HKb.out k hk with h2 | h2
  ·rcases h with h | h
   ·exact HG.out.ki k h2 h
   ·have := HKl.out k h2; omega
  ·rcases h with h | h
   ·have := HVl.out k h; omega
   ·omega
 have hout9 : w9.heap[w.heap.size + 1]? = some (.cells #[.bool false, .slice none 0 0, .slice none 0 0, .slice none 0 0] 123 (0, 0)) := (M89.block _ (lth HOut6.out) (fun h => h.elim (fun h => by have := HVl.out _ h; omega) (fun h => by omega))).trans HOut6.out
 have hk9 := HOwn6.out.mod M89 hnk; have hm9 : Mod (fun k => blk ka k \/ blk ia k) w w9 := (HM6.out.mono (fun _ _ h => .inl h)).then M89 (fun i hi h => h.elim .inr (fun e => by omega))
 have hi9 := HG.out.v.mod hm9 (fun k hk h => h.elim (fun h => HG.out.kv k h hk) (fun h => HG.out.vi k hk h))
 have M910 : Mod (fun k => k = w.heap.size + 1) w9 ((((w9.setCell ⟨w.heap.size + 1, 0, none⟩ (.bool false)).setCell ⟨w.heap.size + 1, 1, none⟩ (.slice ka' (ks.length + 1) kc')).setCell ⟨w.heap.size + 1, 2, none⟩ (.slice va vs.length vc)).setCell ⟨w.heap.size + 1, 3, none⟩ (.slice sa' (is.length + 1) sc')) := Mod.setCell (S := fun k => k = w.heap.size + 1) (Mod.setCell (S := fun k => k = w.heap.size + 1) (Mod.setCell (S := fun k => k = w.heap.size + 1) (Mod.setCell (S := fun k => k = w.heap.size + 1) (Mod.refl _ _) (fun _ => rfl) _) (fun _ => rfl) _) (fun _ => rfl) _) (fun _ => rfl) _
 have hb10 := (set4 (set4 (set4 (set4 hout9 (.bool false)).1 (.slice ka' (ks.length + 1) kc')).2.1 (.slice va vs.length vc)).2.2.1 (.slice sa' (is.length + 1) sc')).2.2.2; obtain ⟨g0, g1, g2, g3⟩ := cl4 hb10; obtain ⟨e0, e1, e2, e3⟩ := cl4 hbox9; obtain ⟨o0, o1, o2, o3⟩ := cl4 hout9; have q0 := frozen_of_row _ _ 0 _ _ hout9; have q1 := frozen_of_row _ _ 1 _ _ hout9; have q2 := frozen_of_row _ _ 2 _ _ hout9; have q3 := frozen_of_row _ _ 3 _ _ hout9; clear a0 a1 a2 a3 c0 c1 c2 c3 f1; go_wp2_with fail
 have hlk : (ks ++ [key]).length = ks.length + 1 := by simp
 have hlv : (is ++ [kid]).length = is.length + 1 := by simp
 have hs9 := M89.size; have hV := lth HOut.out; have hnb : ∀ k, (blk ka' k \/ blk va k \/ blk sa' k) -> (blk ka k \/ blk va k \/ blk ia k) \/ w.heap.size + 2 <= k := fun k h => by
  rcases h with h | h | h
  ·rcases HKb.out k h with h | h
   ·exact .inl (.inl h)
   ·exact .inr (by omega)
  ·exact .inl (.inr (.inl h))
  ·rcases hvb k h with h | h
   ·exact .inl (.inr (.inr h))
   ·exact .inr (by omega)
 have hil := HG.out.v.lt; have hne : ∀ k, (blk ka' k \/ blk va k \/ blk sa' k) -> ¬ k = w.heap.size + 1 := fun k h e => by
  rcases hnb k h with (h | h | h) | h
  ·have := HKl.out k h; omega
  ·have := hil k h; omega
  ·have := HVl.out k h; omega
  ·omega
 refine bodyPost_ret (v := .agg #[.bool false, .slice ka' (ks.length + 1) kc', .slice va vs.length vc, .slice sa' (is.length + 1) sc']) (by simp [results, Tryz.results132, go_sem, g0, g1, g2, g3]) rfl ?_
 refine ⟨⟨false, ks ++ [key], vs, is ++ [kid], ka', kc', va, vc, sa', sc'⟩, rfl, rfl, rfl, rfl, by unfold Nd.val; simp only [hlk, hlv], ⟨?_, ?_, ?_, ?_, ?_, ?_⟩, ?_, ?_⟩
 ·have := hk9.mod M910 (fun k hk => hne k (.inl hk))
  simp only [hlk, List.flatMap_append]; exact this
 ·exact hi9.mod M910 (fun k hk => hne k (.inr (.inl hk)))
 ·have := hown9.mod M910 (fun k hk => hne k (.inr (.inr hk)))
  simp only [hlv, List.flatMap_append]; exact this
 ·intro b h1 h2; rcases HKb.out b h1 with h | h
  ·exact HG.out.kv b h h2
  ·have := hil b h2; omega
 ·intro b h1 h2; rcases hvb b h2 with h | h
  ·exact hnk b h1 (.inl h)
  ·have := HOwn6.out.lt b h1; omega
 ·intro b h1 h2; rcases hvb b h2 with h | h
  ·exact HG.out.vi b h1 h
  ·have := hil b h1; omega
 ·exact (hm9.mono (fun _ _ h => h.elim .inl (fun h => .inr (.inr h)))).then M910 (fun i hi e => by omega)
 ·intro b hb; rcases hnb b hb with h | h
  ·exact .inl h
  ·exact .inr (by omega)
theorem jAz {w : World} {n : Nd} (key value : ByteArray) (kid : Int) (g : Gd w n) (hk : n.keys.length <= 8388608) (hv : n.values.length <= 8388608) (hi : n.kids.length <= 8388608) :
  Calls Tryz.prog 132 #[n.val, .string key, .string value, .int .i64 kid] w fun e w' => qSa w n key value kid e w' := by
 obtain ⟨leaf, ks, vs, is, ka, kc, va, vc, ia, ic⟩ := n; cases leaf with
 | true => exact qWs key value kid g hk hv
 | false => exact qUj key value kid g hk hi
end
section
open Go Go.RowKit
section
variable {P : Program} {ops : Array Oper} {md : Region.Mode} {C : World -> Prop}
def qIy (P : Program) (md : Region.Mode) (ops : Array Oper) (C : World -> Prop) (n : Nat) (L : Array Bool -> Act -> Prop) : Nat -> Array Bool -> Act -> Prop
 | 0, listed, a => L listed a
 | f + 1, listed, a => Region.ready md ops listed ≠ [] /\ ∀ i ∈ Region.ready md ops listed, i < n /\ qOp P ops C i (qIy P md ops C n L f (listed.setIfInBounds i true)) a
theorem qLf {n g : Nat} {L : Array Bool -> Act -> Prop} {Q : Exit -> Act -> World -> Prop} (hL : ∀ listed a w, C w -> L listed a -> wpAny P md ops Q g listed a w) :
  ∀ (f : Nat) (listed : Array Bool) (a : Act) (w : World), C w -> qIy P md ops C n L f listed a -> wpAny P md ops Q (f + g) listed a w
 | 0, listed, a, w, hw, h => by rw [Nat.zero_add]; exact hL _ _ _ hw h
 | f + 1, listed, a, w, hw, h => by
  rw [show f + 1 + g = (f + g) + 1 by omega]
  exact ⟨fun h0 => absurd h0 h.1, fun i hi => wpOp_of_qOp hw (fun a' w' hw' h' => qLf hL f _ a' w' hw' h') (h.2 i hi).2⟩
theorem qVn {n i : Nat} {oi : Oper} {v : Value} {L : Array Bool -> Act -> Prop} (hi : ops[i]? = some oi) (hsel : ∀ (j : Nat) (o : Oper) cs b, ops[j]? = some o -> o.op ≠ .select cs b)
  (hs : Region.sinkB md ops n = true) (hc : Region.chainB md ops n = true) (hn : n < ops.size) (hin : i < n)
  (hdone : ∀ listed a, L listed a -> ∀ j ∈ Region.ready md ops listed, n <= j) (f : Nat) : ∀ (listed : Array Bool) (a : Act), HeadInv md ops n listed →
   (∀ j oj, ops[j]? = some oj -> j ≠ i -> listed.getD j true = false -> (∀ e ∈ oj.after, Region.binds md e = true -> e.on ≠ i) -> oi.apart ops oj = true) →
   i ∈ Region.ready md ops listed -> YieldsIn P ops C oi v a →
   qIy P md ops C n L f (listed.setIfInBounds i true) (a.put oi.dst v) -> qIy P md ops C n L (f + 1) listed a := by
 induction f with
 | zero =>
  intro listed a inv _ hr hy H; have hun := (mem_ready.1 hr).1; refine ⟨List.ne_nil_of_mem hr, fun j hj => ?_⟩
  have hjn : j < n := Nat.lt_of_not_le fun h => tail_waits hs hc hn inv _ i rfl hin hun j h hj
  refine ⟨hjn, ?_⟩; by_cases hji : j = i
  ·subst hji; exact hy.qOp hi H
  ·have := hdone _ _ H j (ready_mono hj hji); omega
 | succ f ih =>
  intro listed a inv hfree hr hy H; have hun := (mem_ready.1 hr).1; refine ⟨List.ne_nil_of_mem hr, fun j hj => ?_⟩
  have hjn : j < n := Nat.lt_of_not_le fun h => tail_waits hs hc hn inv _ i rfl hin hun j h hj
  refine ⟨hjn, ?_⟩; by_cases hji : j = i
  ·subst hji; exact hy.qOp hi H
  ·obtain ⟨hjun, oj, hoj, hall⟩ := mem_ready.1 hj; have hnot : ∀ e ∈ oj.after, Region.binds md e = true -> e.on ≠ i := fun e he hb heq => by
    have h1 := hall e he hb; rw [heq, getD_both hun] at h1; cases h1
   have h2 := qOp_put hoj (hfree j oj hoj hji hjun hnot) (fun cs b => hsel i oi cs b hi) (fun cs b => hsel j oj cs b hoj) hy (H.2 j (ready_mono hj hji)).2
   refine qOp_mono (fun a' h3 => ih (listed.setIfInBounds j true) a' (inv.set hj hjn) (fun k ok hk hki hunk hno => hfree k ok hk hki ?_ hno) (ready_mono hr (Ne.symm hji)) h3.1 ?_) h2
   ·by_cases hjk : j = k
    ·subst hjk; exact hjun
    ·rwa [getD_set_ne true hjk] at hunk
   ·rw [Array.setIfInBounds_comm _ _ hji]; exact h3.2
theorem qNx {n g : Nat} {Lq : Act -> Prop} (hsel : Region.noSelect ops = true) (hs : Region.sinkB md ops n = true) (hc : Region.chainB md ops n = true) (hn : n < ops.size) :
  ∀ (l : List Oper) (k : Nat) (listed : Array Bool) (a : Act), (∀ j, j < l.length -> l[j]? = ops[k + j]?) -> k + l.length = n -> HeadInv md ops n listed →
  Region.lexHead md ops g l.length k listed = true -> wpQuiet P ops C Lq l a →
  qIy P md ops C n (fun listed' a' => Region.seqB md ops g n listed' = true /\ Lq a') l.length listed a
 | [], k, listed, a, _, hk, _, hB, h => by
  have : k = n := by simpa using hk
  subst this; exact ⟨by simpa [Region.lexHead] using hB, h⟩
 | o :: l, k, listed, a, hl, hk, inv, hB, h => by
  have h0 : ops[k]? = some o := by simpa using (hl 0 (by simp)).symm
  simp only [List.length_cons] at hk hB hl; simp only [Region.lexHead, Bool.and_eq_true] at hB; obtain ⟨⟨hr, hf⟩, hB'⟩ := hB; have hr' : k ∈ Region.ready md ops listed := by simpa using hr
  have hst : qOp P ops C k (wpQuiet P ops C Lq l) a := by unfold qOp; simp only [h0]; exact h
  obtain ⟨v, hy, hK⟩ := yieldsIn_of_qOp h0 hst; exact qVn h0 (Region.noSelect_spec hsel) hs hc hn (by omega) (fun listed' a' hL => seqB_ready hL.1) l.length listed a inv (Region.free_spec h0 hf) hr' hy
   (qNx hsel hs hc hn l (k + 1) _ _ (fun j hj => by have := hl (j + 1) (by omega); simpa [Nat.add_assoc, Nat.add_comm 1 j] using this) (by omega) (inv.set hr' (by omega)) hB' hK)
end
theorem qAf {P : Program} {id : Nat} {Q : Exit -> Act -> World -> Prop} {a : Act} {w : World} {l : List Oper} (n : Nat) (hm : P.follows .mixedOrders = true) (hB : Region.lexTailB .any l.toArray n = true)
  (h : wpQuiet P l.toArray (fun w' => ∃ x : Ext w, w' = x.val) (fun a' => ∀ w', (∃ x : Ext w, w' = x.val) -> wpList P l.toArray Q (l.drop n) a' w') (l.take n) a) : (Code.region id l.toArray true).wp P Q a w := by
 simp only [Region.lexTailB, Bool.and_eq_true, decide_eq_true_eq] at hB; obtain ⟨⟨⟨⟨hsel, hn⟩, hs⟩, hc⟩, hlex⟩ := hB; have htl : (l.take n).length = n := by simp at hn ⊢; omega
 have hdl : (l.drop n).length = l.toArray.size - n := by simp
 have inv0 : HeadInv .any l.toArray n (Array.replicate l.toArray.size false) :=
  ⟨by simp, fun j oj _ hl => (by rw [getD_replicate_false] at hl; cases hl), fun t _ ht => getD_in (by simpa using ht) (getD_replicate_false _ _)⟩
 have H := qNx (md := .any) (g := l.toArray.size - n) hsel hs hc hn (l.take n) 0 _ a (fun j hj => by
  have hj' : j < n := by rw [htl] at hj; exact hj
  simp [hj']) (by simpa using htl) inv0 (by rw [htl]; exact hlex) h
 refine wp_region_any hm ?_; have := qLf (Q := Q) (g := l.toArray.size - n) (fun listed a' w' hC hL => by
  have := wpAny_of_seq (md := .any) (Q' := Q) (l.drop n) n listed a' w' (fun j => by simp [List.getElem?_drop]) (by rw [hdl]; exact hL.1) (hL.2 w' hC)
  rwa [hdl] at this) _ _ _ { w with drawn := w.drawn + 1 } ⟨⟨_, (Mod.refl _ w).drew⟩, rfl⟩ H
 rw [htl, show n + (l.toArray.size - n) = l.toArray.size by omega] at this
 exact this
end
section
open Go Go.RowKit
structure Has (m : Nd) (leaf : Bool) (es : List Ent) : Prop where
 l : m.leaf = leaf
 k : m.keys = es.map (·.key)
 v : m.values = if leaf then es.map (·.value) else []
 i : m.kids = if leaf then [] else es.map (·.kid)
def jEl (w : World) (leaf : Bool) (es : List Ent) (e : Ending) (w' : World) : Prop :=
 ∃ m : Nd, Has m leaf es /\ e = .returned (.agg #[.bool m.leaf, .slice m.ka m.keys.length m.kc, .slice m.va m.values.length m.vc, .slice m.ia m.kids.length m.ic]) /\ Gd w' m /\ Mod (fun _ => False) w w' /\ ∀ b, m.bs b -> w.heap.size <= b
structure Var (Wa wr : World) (L B : Nat) (leaf : Bool) (es : List Ent) (m : Nd) : Prop where
 has : Has m leaf es
 box : wr.heap[B]? = some (.cells #[.bool m.leaf, .slice m.ka m.keys.length m.kc, .slice m.va m.values.length m.vc, .slice m.ia m.kids.length m.ic] 123 (0, 0))
 gd : Gd wr m
 bs : ∀ b, m.bs b -> L <= b /\ b ≠ B
 lb : L <= B
 mod : Mod (fun j => L <= j) Wa wr
def qRz (w : World) (n : Nd) (leaf : Bool) (es : List Ent) (e : Ending) (w' : World) : Prop :=
 ∃ m : Nd, Has m leaf es /\ e = .returned (.agg #[.bool m.leaf, .slice m.ka m.keys.length m.kc, .slice m.va m.values.length m.vc, .slice m.ia m.kids.length m.ic]) /\ Gd w' m /\ Mod n.bs w w' /\ ∀ b, m.bs b -> n.bs b \/ w.heap.size <= b
theorem qSf {w : World} {n : Nd} {leaf : Bool} {es : List Ent} (x : Ent) (h : Has n leaf es) (g : Gd w n) (hb : es.length <= 8388608) :
  Calls Tryz.prog 132 #[.agg #[.bool n.leaf, .slice n.ka n.keys.length n.kc, .slice n.va n.values.length n.vc, .slice n.ia n.kids.length n.ic], .string x.key, .string x.value, .int .i64 x.kid] w fun e w' => qRz w n leaf (es ++ [x]) e w' := by
 obtain ⟨h1, h2, h3⟩ := h.len_le; refine (jAz x.key x.value x.kid g (by omega) (by omega) (by omega)).mono ?_
 rintro e w' ⟨m, hl, hk, hv, hi, rfl, hg, hm, hbs⟩; refine ⟨m, ⟨hl.trans h.l, by rw [hk, h.k]; simp, ?_, ?_⟩, rfl, hg, hm, hbs⟩
 ·rw [hv, h.v, h.l]; cases leaf <;> simp
 ·rw [hi, h.i, h.l]; cases leaf <;> simp
theorem qJz (n : Nd) (a k : Nat) (ha : a <= k) (hk : k < n.keys.length) : (n.ents.take (k + 1)).drop a = (n.ents.take k).drop a ++ [qCm n k] := by
 rw [List.take_add_one, List.drop_append_of_le_length (by rw [List.length_take, qCj]; omega)]
 congr 1
 unfold Nd.ents; rw [List.getElem?_map, List.getElem?_range hk]; rfl
theorem qTc (n : Nd) (a k : Nat) : ((n.ents.take k).drop a).length <= n.keys.length := by
 rw [List.length_drop, List.length_take, qCj]; omega
set_option maxRecDepth 100000
set_option maxHeartbeats 2000000 in
theorem qHn {w : World} {n : Nd} (h : NdAt w n) (a b : Nat) (hab : a <= b) (hbk : b <= n.keys.length) : Calls Tryz.prog 131 #[.agg #[.bool n.leaf, .slice n.ka n.keys.length n.kc, .slice n.va n.values.length n.vc, .slice n.ia n.kids.length n.ic], .int .i64 a, .int .i64 b] w fun e w' => jEl w n.leaf ((n.ents.take b).drop a) e w' := by
 have hkb := h.bk; have hm : Mod (fun _ => False) w ((w.alloc (.cells #[.bool n.leaf, .slice n.ka n.keys.length n.kc, .slice n.va n.values.length n.vc, .slice n.ia n.kids.length n.ic] 123)).alloc (.cells #[.bool false, .slice none 0 0, .slice none 0 0, .slice none 0 0] 123)) := ((Mod.refl _ _).alloc _).alloc _
 have hbox : ((w.alloc (.cells #[.bool n.leaf, .slice n.ka n.keys.length n.kc, .slice n.va n.values.length n.vc, .slice n.ia n.kids.length n.ic] 123)).alloc (.cells #[.bool false, .slice none 0 0, .slice none 0 0, .slice none 0 0] 123)).heap[w.heap.size]? = some (.cells #[.bool n.leaf, .slice n.ka n.keys.length n.kc, .slice n.va n.values.length n.vc, .slice n.ia n.kids.length n.ic] 123 (0, 0)) := (Below.heap_alloc _ _ _ (by simp)).trans (heap_alloc_new _ _)
 have hout : ((w.alloc (.cells #[.bool n.leaf, .slice n.ka n.keys.length n.kc, .slice n.va n.values.length n.vc, .slice n.ia n.kids.length n.ic] 123)).alloc (.cells #[.bool false, .slice none 0 0, .slice none 0 0, .slice none 0 0] 123)).heap[w.heap.size + 1]? = some (.cells #[.bool false, .slice none 0 0, .slice none 0 0, .slice none 0 0] 123 (0, 0)) := by have := heap_alloc_new (w.alloc (.cells #[.bool n.leaf, .slice n.ka n.keys.length n.kc, .slice n.va n.values.length n.vc, .slice n.ia n.kids.length n.ic] 123)) (.cells #[.bool false, .slice none 0 0, .slice none 0 0, .slice none 0 0] 123); simpa using this
 have hsz : ((w.alloc (.cells #[.bool n.leaf, .slice n.ka n.keys.length n.kc, .slice n.va n.values.length n.vc, .slice n.ia n.kids.length n.ic] 123)).alloc (.cells #[.bool false, .slice none 0 0, .slice none 0 0, .slice none 0 0] 123)).heap.size = w.heap.size + 2 := by simp
 have HN := hid (h.ext hm); have HM := hid hm; have HBox := hid hbox; have HOut := hid hout; have HSz := hid hsz; clear h hm hbox hout hsz; go_enter Tryz.func131, Tryz.ntmps131
 go_wp2_with fail
 have hv0 := heap_alloc_new ((w.alloc (.cells #[.bool n.leaf, .slice n.ka n.keys.length n.kc, .slice n.va n.values.length n.vc, .slice n.ia n.kids.length n.ic] 123)).alloc (.cells #[.bool false, .slice none 0 0, .slice none 0 0, .slice none 0 0] 123)) (.cells #[.bool n.leaf, .slice none 0 0, .slice none 0 0, .slice none 0 0] 123); rw [HSz.out] at hv0; generalize ((w.alloc (.cells #[.bool n.leaf, .slice n.ka n.keys.length n.kc, .slice n.va n.values.length n.vc, .slice n.ia n.kids.length n.ic] 123)).alloc (.cells #[.bool false, .slice none 0 0, .slice none 0 0, .slice none 0 0] 123)) = V at *
 have HV0 : Hid (Var V (V.alloc (.cells #[.bool n.leaf, .slice none 0 0, .slice none 0 0, .slice none 0 0] 123)) (w.heap.size + 1 + 1) (w.heap.size + 1 + 1) n.leaf ((n.ents.take a).drop a) ⟨n.leaf, [], [], [], none, 0, none, 0, none, 0⟩) := by
  refine ⟨⟨rfl, ?_, ?_, ?_⟩, hv0, ⟨Own.nil _ _ _, Own.nil _ _ _, Own.nil _ _ _, fun b h => (qAi b h).elim, fun b h => (qAi b h).elim, fun b h => (qAi b h).elim⟩, fun b h => by rcases h with h | h | h <;> exact (qAi b h).elim, Nat.le_refl _, (Mod.refl _ _).alloc _⟩
  all_goals (rw [List.drop_of_length_le (by rw [List.length_take]; omega)]; cases n.leaf <;> rfl)
 clear hv0; go_loopw [8] (fun c wr => ∃ (k : Nat) (m : Nd), a <= k /\ k <= b /\ c = .int .i64 k /\ Var V wr (w.heap.size + 1 + 1) (w.heap.size + 1 + 1) n.leaf ((n.ents.take k).drop a) m) (fun c _ => b - (intOf c).toNat)
 case atStart => exact ⟨a, _, Nat.le_refl _, hab, rfl, HV0.out⟩
 case round =>
  obtain ⟨k, m, hk1, hk2, rfl, hv⟩ := hrel; have HV := hid hv; have hup : ∀ j o, j < w.heap.size + 1 + 1 -> V.heap[j]? = some o -> wr.heap[j]? = some o := fun j o hj ho => (hv.mod.block j (by rw [HSz.out]; omega) (by omega)).trans ho
  have HBx := hid (hup _ _ (by omega) HBox.out)
  have HOt := hid (hup _ _ (by omega) HOut.out)
  have HNr := hid (HN.out.mod2 hv.mod (fun j hj h => by rw [HSz.out] at hj; omega))
  clear hv hup; by_cases hlt : k < b
  ·obtain ⟨x, hx⟩ : ∃ x, n.keys[k]? = some x := ⟨_, List.getElem?_eq_getElem (by omega)⟩
   have Hx := hid hx; have e1 : (qCm n k).key = x := by unfold qCm; rw [hx]; rfl
   have e2 : (qCm n k).value = qBp n k := rfl; have e3 : (qCm n k).kid = qEj n k := rfl; have HW : Hid (∀ y : Ext wr, Calls Tryz.prog 132 #[.agg #[.bool m.leaf, .slice m.ka m.keys.length m.kc, .slice m.va m.values.length m.vc, .slice m.ia m.kids.length m.ic], .string x, .string (qBp n k), .int .i64 (qEj n k)] y.val fun e w' => qRz y.val m n.leaf ((n.ents.take k).drop a ++ [qCm n k]) e w') := fun y => by
    have := qSf (qCm n k) HV.out.has (HV.out.gd.ext y.mod (fun _ _ h => h)) (by have := qTc n a k; omega)
    rw [e1, e2, e3] at this; exact this
   have HVc : Hid (∀ y : Ext wr, Calls Tryz.prog 133 #[.agg #[.bool n.leaf, .slice n.ka n.keys.length n.kc, .slice n.va n.values.length n.vc, .slice n.ia n.kids.length n.ic], .int .i64 k] y.val fun e w' => e = .returned (.string (qBp n k)) /\ Mod (fun _ => False) y.val w') := fun y => qJy (HNr.out.ext y.mod) k (by omega)
   have HKc : Hid (∀ y : Ext wr, Calls Tryz.prog 134 #[.agg #[.bool n.leaf, .slice n.ka n.keys.length n.kc, .slice n.va n.values.length n.vc, .slice n.ia n.kids.length n.ic], .int .i64 k] y.val fun e w' => e = .returned (.int .i64 (qEj n k)) /\ Mod (fun _ => False) y.val w') := fun y => qRf (HNr.out.ext y.mod) k (by omega)
   have HE : Hid ((n.ents.take (k + 1)).drop a = (n.ents.take k).drop a ++ [qCm n k]) := qJz n a k hk1 (by omega)
   clear hx e1 e2 e3; generalize qBp n k = vv at *; generalize qEj n k = kk at *; obtain ⟨g, off, ha, hc⟩ := HNr.out.k.one Hx.out; obtain ⟨b0, b1, b2, b3⟩ := cl4 HBx.out; obtain ⟨c0, c1, c2, c3⟩ := cl4 HV.out.box; rw [ha] at b1 HVc HKc; clear ha; have i1 : (k : Int) < (n.keys.length : Int) := by omega
   go_wp2_with fail
   have u0 : ∀ y : Ext wr, y.val.cell? ⟨w.heap.size, 0, none⟩ = some (.bool n.leaf) := fun y => y.cell b0
   have u1 : ∀ y : Ext wr, y.val.cell? ⟨w.heap.size, 1, none⟩ = some (.slice (some ⟨g, off, none⟩) n.keys.length n.kc) := fun y => y.cell b1
   have u2 : ∀ y : Ext wr, y.val.cell? ⟨w.heap.size, 2, none⟩ = some (.slice n.va n.values.length n.vc) := fun y => y.cell b2
   have u3 : ∀ y : Ext wr, y.val.cell? ⟨w.heap.size, 3, none⟩ = some (.slice n.ia n.kids.length n.ic) := fun y => y.cell b3
   have u4 : ∀ y : Ext wr, y.val.cell? ⟨g, off + k, none⟩ = some (.string x) := fun y => y.cell hc
   have t0 : ∀ y : Ext wr, y.val.cell? ⟨w.heap.size + 1 + 1, 0, none⟩ = some (.bool m.leaf) := fun y => y.cell c0
   have t1 : ∀ y : Ext wr, y.val.cell? ⟨w.heap.size + 1 + 1, 1, none⟩ = some (.slice m.ka m.keys.length m.kc) := fun y => y.cell c1
   have t2 : ∀ y : Ext wr, y.val.cell? ⟨w.heap.size + 1 + 1, 2, none⟩ = some (.slice m.va m.values.length m.vc) := fun y => y.cell c2
   have t3 : ∀ y : Ext wr, y.val.cell? ⟨w.heap.size + 1 + 1, 3, none⟩ = some (.slice m.ia m.kids.length m.ic) := fun y => y.cell c3
   clear b0 b1 b2 b3 c0 c1 c2 c3 hc; refine qAf 12 (by kernel_rfl) (by kernel_rfl) ?_
   simp only [List.take_succ_cons, List.take_zero, List.drop_succ_cons, List.drop_zero]; repeat (go_big_quiet_step ((first | (go_at_call 133; exact qBb (HVc.out _)) | (go_at_call 134; exact qBb (HKc.out _)))))
   refine wpQuiet_nil ?_; rintro _ ⟨y, rfl⟩; clear u0 u1 u2 u3 u4 t0 t1 t2 t3; go_wp2_with fail
   refine (HW.out y).mono ?_; rintro e w1 ⟨m', ha', rfl, hg', hm', hb'⟩; have HP := hid (HV.out.step y.mod ha' hg' hm' hb'); have hr1 : w1.heap[w.heap.size + 1 + 1]? = _ := (hm'.block _ (by have := y.mod.size; have := lth HV.out.box; omega) (fun h => (HV.out.bs _ h).2 rfl)).trans (y.heap HV.out.box)
   obtain ⟨c0, c1, c2, c3⟩ := cl4 hr1; have f0 := frozen_of_row _ _ 0 _ _ hr1; have f1 := frozen_of_row _ _ 1 _ _ hr1; have f2 := frozen_of_row _ _ 2 _ _ hr1; have f3 := frozen_of_row _ _ 3 _ _ hr1; clear ha' hg' hm' hb' hr1; go_wp2_with fail
   go_roundw
   case rel => exact ⟨k + 1, m', by omega, by omega, by go_num, by rw [HE.out]; exact HP.out⟩
   case measure => simp [intOf]; omega
  ·have hke : k = b := by omega
   subst hke; have hr1 := HOt.out; obtain ⟨c0, c1, c2, c3⟩ := cl4 HV.out.box; have f0 := frozen_of_row _ _ 0 _ _ hr1; have f1 := frozen_of_row _ _ 1 _ _ hr1; have f2 := frozen_of_row _ _ 2 _ _ hr1; have f3 := frozen_of_row _ _ 3 _ _ hr1; obtain ⟨o0, o1, o2, o3⟩ := cl4 hr1; have hb10 := (set4 (set4 (set4 (set4 hr1 (.bool m.leaf)).1 (.slice m.ka m.keys.length m.kc)).2.1 (.slice m.va m.values.length m.vc)).2.2.1 (.slice m.ia m.kids.length m.ic)).2.2.2; obtain ⟨g0, g1, g2, g3⟩ := cl4 hb10
   have M : Mod (fun k => k = w.heap.size + 1) wr ((((wr.setCell ⟨w.heap.size + 1, 0, none⟩ (.bool m.leaf)).setCell ⟨w.heap.size + 1, 1, none⟩ (.slice m.ka m.keys.length m.kc)).setCell ⟨w.heap.size + 1, 2, none⟩ (.slice m.va m.values.length m.vc)).setCell ⟨w.heap.size + 1, 3, none⟩ (.slice m.ia m.kids.length m.ic)) := Mod.setCell (S := fun k => k = w.heap.size + 1) (Mod.setCell (S := fun k => k = w.heap.size + 1) (Mod.setCell (S := fun k => k = w.heap.size + 1) (Mod.setCell (S := fun k => k = w.heap.size + 1) (Mod.refl _ _) (fun _ => rfl) _) (fun _ => rfl) _) (fun _ => rfl) _) (fun _ => rfl) _
   have HMm := hid M; clear hr1 hb10 M; go_wp2_with fail
   refine bodyPost_ret (v := .agg #[.bool m.leaf, .slice m.ka m.keys.length m.kc, .slice m.va m.values.length m.vc, .slice m.ia m.kids.length m.ic]) (by simp [results, Tryz.results131, go_sem, g0, g1, g2, g3]) rfl ?_
   refine ⟨m, HV.out.has, rfl, HV.out.gd.ext HMm.out (fun i h e => by have := (HV.out.bs i h).1; omega), ?_, fun i h => by have := (HV.out.bs i h).1; omega⟩
   exact (HM.out.then HV.out.mod (fun i hi h => by omega)).then HMm.out (fun i hi h => by omega)
end
end Go.Proofs.YtkinkgbmlhiakaaGreatDoor
