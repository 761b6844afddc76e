/- merged: With Tail -/
import Derived.Test.YtkinkgbmlhiakaaGreatDoorNd06
import Derived.Test.YtkinkgbmlhiakaaGreatDoorNd01
import Derived.StillTail
namespace Go.Proofs.YtkinkgbmlhiakaaGreatDoor
section
open Go Go.RowKit
theorem qPw : (Tryz.prog.info? 9).map (fun i => (i.zero, i.size, i.bytes)) = some (some (.string ByteArray.empty), 1, 16) := by kernel_rfl
abbrev scs (x : ByteArray) : List Value := [.string x]
abbrev ics (x : Int) : List Value := [.int .i64 x]
structure Gd (w : World) (n : Nd) : Prop where
 k : Own w 9 1 n.ka n.keys.length n.kc (n.keys.flatMap scs)
 v : Own w 9 1 n.va n.values.length n.vc (n.values.flatMap scs)
 i : Own w 3 1 n.ia n.kids.length n.ic (n.kids.flatMap ics)
 kv : ∀ b, blk n.ka b -> ¬ blk n.va b
 ki : ∀ b, blk n.ka b -> ¬ blk n.ia b
 vi : ∀ b, blk n.va b -> ¬ blk n.ia b
def Nd.bs (n : Nd) (b : Nat) : Prop := blk n.ka b \/ blk n.va b \/ blk n.ia b
def Nd.val (n : Nd) : Value := .agg #[.bool n.leaf, .slice n.ka n.keys.length n.kc, .slice n.va n.values.length n.vc, .slice n.ia n.kids.length n.ic]
theorem Gd.ext {w w' : World} {n : Nd} (h : Gd w n) {S : Nat -> Prop} (hm : Mod S w w') (hs : ∀ b, n.bs b -> ¬ S b) : Gd w' n :=
 ⟨h.k.mod hm (fun b hb => hs b (.inl hb)), h.v.mod hm (fun b hb => hs b (.inr (.inl hb))), h.i.mod hm (fun b hb => hs b (.inr (.inr hb))), h.kv, h.ki, h.vi⟩
theorem Gd.lt {w : World} {n : Nd} (h : Gd w n) {b : Nat} (hb : n.bs b) : b < w.heap.size := by
 rcases hb with hb | hb | hb
 ·exact h.k.lt b hb
 ·exact h.v.lt b hb
 ·exact h.i.lt b hb
def qUl (w : World) (n : Nd) (key value : ByteArray) (kid : Int) (e : Ending) (w' : World) : Prop :=
 ∃ m : Nd, m.leaf = n.leaf /\ m.keys = n.keys ++ [key] /\ m.values = (if n.leaf then n.values ++ [value] else n.values) /\ m.kids = (if n.leaf then n.kids else n.kids ++ [kid]) /\ e = .returned m.val /\ Gd w' m /\ Mod n.bs w w' /\ ∀ b, m.bs b -> n.bs b \/ w.heap.size <= b
theorem set4 {w : World} {b : Nat} {v0 v1 v2 v3 : Value} {t : TypeId} (h : w.heap[b]? = some (.cells #[v0, v1, v2, v3] t (0, 0))) (u : Value) :
  (w.setCell ⟨b, 0, none⟩ u).heap[b]? = some (.cells #[u, v1, v2, v3] t (0, 0)) /\ (w.setCell ⟨b, 1, none⟩ u).heap[b]? = some (.cells #[v0, u, v2, v3] t (0, 0)) /\ (w.setCell ⟨b, 2, none⟩ u).heap[b]? = some (.cells #[v0, v1, u, v3] t (0, 0)) /\ (w.setCell ⟨b, 3, none⟩ u).heap[b]? = some (.cells #[v0, v1, v2, u] t (0, 0)) :=
 ⟨heap_setCell_same w b 0 _ t u h, heap_setCell_same w b 1 _ t u h, heap_setCell_same w b 2 _ t u h, heap_setCell_same w b 3 _ t u h⟩
set_option maxRecDepth 100000
set_option maxHeartbeats 1000000 in
theorem qZm {w : World} {ks vs : List ByteArray} {is : List Int} {ka va ia : Option Addr} {kc vc ic : Nat} (key value : ByteArray) (kid : Int) (g : Gd w ⟨true, ks, vs, is, ka, kc, va, vc, ia, ic⟩) (hk : ks.length <= 8388608) (hv : vs.length <= 8388608) :
  Calls Tryz.prog 132 #[.agg #[.bool true, .slice ka ks.length kc, .slice va vs.length vc, .slice ia is.length ic], .string key, .string value, .int .i64 kid] w fun e w' => qUl w ⟨true, ks, vs, is, ka, kc, va, vc, ia, ic⟩ key value kid e w' := by
 obtain ⟨i0, hi, hz0, hz1, hz2⟩ := info_parts qPw; obtain ⟨j0, hj, hy0, hy1, hy2⟩ := info_parts qKm; have hm : Mod (fun _ => False) w ((w.alloc (.cells #[.bool true, .slice ka ks.length kc, .slice va vs.length vc, .slice ia is.length ic] 123)).alloc (.cells #[.bool false, .slice none 0 0, .slice none 0 0, .slice none 0 0] 123)) := ((Mod.refl _ _).alloc _).alloc _
 have hbox : ((w.alloc (.cells #[.bool true, .slice ka ks.length kc, .slice va vs.length vc, .slice ia is.length ic] 123)).alloc (.cells #[.bool false, .slice none 0 0, .slice none 0 0, .slice none 0 0] 123)).heap[w.heap.size]? = some (.cells #[.bool true, .slice ka ks.length kc, .slice va vs.length vc, .slice ia is.length ic] 123 (0, 0)) := (Below.heap_alloc _ _ _ (by simp)).trans (heap_alloc_new _ _)
 have hout : ((w.alloc (.cells #[.bool true, .slice ka ks.length kc, .slice va vs.length vc, .slice ia is.length ic] 123)).alloc (.cells #[.bool false, .slice none 0 0, .slice none 0 0, .slice none 0 0] 123)).heap[w.heap.size + 1]? = some (.cells #[.bool false, .slice none 0 0, .slice none 0 0, .slice none 0 0] 123 (0, 0)) := by have := heap_alloc_new (w.alloc (.cells #[.bool true, .slice ka ks.length kc, .slice va vs.length vc, .slice ia is.length ic] 123)) (.cells #[.bool false, .slice none 0 0, .slice none 0 0, .slice none 0 0] 123); simpa using this
 have HG := hid g; have hkl : ∀ k, blk ka k -> k < w.heap.size := g.k.lt; have hvl : ∀ k, blk va k -> k < w.heap.size := g.v.lt; have HKl := hid hkl; have HVl := hid hvl; clear g hkl hvl; go_enter Tryz.func132, Tryz.ntmps132
 go_upto_region 1 with fail
 generalize ((w.alloc (.cells #[.bool true, .slice ka ks.length kc, .slice va vs.length vc, .slice ia is.length ic] 123)).alloc (.cells #[.bool false, .slice none 0 0, .slice none 0 0, .slice none 0 0] 123)) = V at *; have HM := hid hm; have HBox := hid hbox; have HOut := hid hout; obtain ⟨b0, b1, b2, b3⟩ := cl4 hbox; have HOk : Hid (Own (V.alloc (.cells #[.string key] 9)) 9 1 ka ks.length kc (ks.flatMap scs)) := HG.out.k.mod (hm.alloc _) (fun _ _ h => h)
 have HSk : Hid (Src (V.alloc (.cells #[.string key] 9)) 1 (some ⟨V.heap.size, 0, none⟩) 1 [.string key]) := qAw (heap_alloc_new _ _) rfl; have HX : Hid (∀ w5, Mod (blk ka) (V.alloc (.cells #[.string key] 9)) w5 -> w5.heap[w.heap.size]? = some (.cells #[.bool true, .slice ka ks.length kc, .slice va vs.length vc, .slice ia is.length ic] 123 (0, 0))) := fun w5 h5 => (h5.block _ (by have := lth HBox.out; simp; omega) (fun h => by have := HKl.out _ h; omega)).trans ((Below.heap_alloc _ _ _ (lth HBox.out)).trans HBox.out)
 clear hm hbox hout; go_upto_region 2 with (at_builtin; refine qAd rfl (.tmp 10) (.tmp 12) 68 rfl 9 i0 _ 1 16 Tryz.underlying68 hi hz0 hz1 hz2 rfl ka ks.length kc _ rfl HOk.out (some ⟨V.heap.size, 0, none⟩) 1 1 _ rfl HSk.out (by intro u hu; simp at hu; subst hu; rfl) (by unfold maxLen; omega) (by omega) ?_; intro ka' kc' w5 hown5 hm5 hb5 hn5 hr5; have hx5 := HX.out w5 hm5; obtain ⟨c0, c1, c2, c3⟩ := cl4 hx5; have f1 := frozen_of_row _ _ 1 _ _ hx5; have HX5 := hid hx5; have Hown5 := hid hown5; have Hm5 := hid hm5; have Hb5 := hid hb5; clear hown5 hm5 hb5 hn5 hr5 hx5)
 have M56 : Mod (fun k => blk ka k \/ k = w.heap.size) V (w5.setCell ⟨w.heap.size, 1, none⟩ (.slice ka' (ks.length + 1) kc')) := Mod.setCell (S := fun k => blk ka k \/ k = w.heap.size) (((Mod.refl _ V).alloc _).then Hm5.out (fun _ _ h => .inl h)) (fun _ => .inr rfl) _
 have hown6 : Own (w5.setCell ⟨w.heap.size, 1, none⟩ (.slice ka' (ks.length + 1) kc')) 9 1 ka' (ks.length + 1) kc' (ks.flatMap scs ++ [.string key]) := Hown5.out.mod (S := fun k => k = w.heap.size) (Mod.setCell (S := fun k => k = w.heap.size) (Mod.refl _ _) (fun _ => rfl) _) (fun k hk e => by
  rcases Hb5.out k hk with h | h
  ·have := HKl.out k h; omega
  ·have := lth HBox.out; simp at h; omega)
 have hbox6 : (w5.setCell ⟨w.heap.size, 1, none⟩ (.slice ka' (ks.length + 1) kc')).heap[w.heap.size]? = some (.cells #[.bool true, .slice ka' (ks.length + 1) kc', .slice va vs.length vc, .slice ia is.length ic] 123 (0, 0)) := (set4 HX5.out _).2.1; have hkb : ∀ k, blk ka' k -> blk ka k \/ V.heap.size <= k := fun k hk => (Hb5.out k hk).imp id (fun h => by simp at h; omega)
 generalize w5.setCell ⟨w.heap.size, 1, none⟩ (.slice ka' (ks.length + 1) kc') = w6 at *; have hout6 : w6.heap[w.heap.size + 1]? = some (.cells #[.bool false, .slice none 0 0, .slice none 0 0, .slice none 0 0] 123 (0, 0)) := (M56.block _ (lth HOut.out) (fun h => h.elim (fun h => by have := HKl.out _ h; omega) (fun h => by omega))).trans HOut.out
 have hm6 : Mod (blk ka) w w6 := (HM.out.mono (fun _ _ h => h.elim)).then M56 (fun i hi h => h.elim id (fun e => by omega))
 have HM6 := hid hm6; have HOwn6 := hid hown6; have HBox6 := hid hbox6; have HOut6 := hid hout6; have HKb := hid hkb; have hs6 := M56.size; obtain ⟨a0, a1, a2, a3⟩ := cl4 hbox6; have HOv : Hid (Own (w6.alloc (.cells #[.string value] 9)) 9 1 va vs.length vc (vs.flatMap scs)) := (HG.out.v.mod hm6 (fun k hk h => HG.out.kv k h hk)).mod (S := fun _ => False) ((Mod.refl _ _).alloc _) (fun _ _ h => h)
 have HSv : Hid (Src (w6.alloc (.cells #[.string value] 9)) 1 (some ⟨w6.heap.size, 0, none⟩) 1 [.string value]) := qAw (heap_alloc_new _ _) rfl; have HY : Hid (∀ w8, Mod (blk va) (w6.alloc (.cells #[.string value] 9)) w8 -> w8.heap[w.heap.size]? = some (.cells #[.bool true, .slice ka' (ks.length + 1) kc', .slice va vs.length vc, .slice ia is.length ic] 123 (0, 0))) := fun w8 h8 => (h8.block _ (by have := lth HBox6.out; simp; omega) (fun h => by have := HVl.out _ h; omega)).trans ((Below.heap_alloc _ _ _ (lth HBox6.out)).trans HBox6.out)
 clear hm6 hown6 hbox6 hout6 hkb M56 b0 b1 b2 b3 c0 c1 c2 c3 f1; go_upto_region 5 with (at_builtin; refine qAd rfl (.tmp 18) (.tmp 20) 68 rfl 9 i0 _ 1 16 Tryz.underlying68 hi hz0 hz1 hz2 rfl va vs.length vc _ rfl HOv.out (some ⟨w6.heap.size, 0, none⟩) 1 1 _ rfl HSv.out (by intro u hu; simp at hu; subst hu; rfl) (by unfold maxLen; omega) (by omega) ?_; intro sa' sc' w8 hown8 hm8 hb8 hn8 hr8; have hx8 := HY.out w8 hm8; obtain ⟨c0, c1, c2, c3⟩ := cl4 hx8; have f1 := frozen_of_row _ _ 2 _ _ hx8; have HX8 := hid hx8; have Hown8 := hid hown8; have Hm8 := hid hm8; have Hb8 := hid hb8; clear hown8 hm8 hb8 hn8 hr8 hx8)
 have M89 : Mod (fun k => blk va k \/ k = w.heap.size) w6 (w8.setCell ⟨w.heap.size, 2, none⟩ (.slice sa' (vs.length + 1) sc')) := Mod.setCell (S := fun k => blk va k \/ k = w.heap.size) (((Mod.refl _ w6).alloc _).then Hm8.out (fun _ _ h => .inl h)) (fun _ => .inr rfl) _
 have hown9 : Own (w8.setCell ⟨w.heap.size, 2, none⟩ (.slice sa' (vs.length + 1) sc')) 9 1 sa' (vs.length + 1) sc' (vs.flatMap scs ++ [.string value]) := Hown8.out.mod (S := fun k => k = w.heap.size) (Mod.setCell (S := fun k => k = w.heap.size) (Mod.refl _ _) (fun _ => rfl) _) (fun k hk e => by
  rcases Hb8.out k hk with h | h
  ·have := HVl.out k h; omega
  ·have := lth HBox6.out; simp at h; omega)
 have hbox9 : (w8.setCell ⟨w.heap.size, 2, none⟩ (.slice sa' (vs.length + 1) sc')).heap[w.heap.size]? = some (.cells #[.bool true, .slice ka' (ks.length + 1) kc', .slice sa' (vs.length + 1) sc', .slice ia is.length ic] 123 (0, 0)) := (set4 HX8.out _).2.2.1; have hvb : ∀ k, blk sa' k -> blk va k \/ w6.heap.size <= k := fun k hk => (Hb8.out k hk).imp id (fun h => by simp at h; omega)
 generalize w8.setCell ⟨w.heap.size, 2, none⟩ (.slice sa' (vs.length + 1) sc') = w9 at *; have hnk : ∀ k, blk ka' k -> ¬ (blk va k \/ k = w.heap.size) := fun k hk h => by
  have h1 := lth HBox.out; rcases HKb.out k hk with h2 | h2
  ·rcases h with h | h
   ·exact HG.out.kv k h2 h
   ·have := HKl.out k h2; omega
  ·rcases h with h | h
   ·have := HVl.out k h; omega
   ·omega
 have hout9 : w9.heap[w.heap.size + 1]? = some (.cells #[.bool false, .slice none 0 0, .slice none 0 0, .slice none 0 0] 123 (0, 0)) := (M89.block _ (lth HOut6.out) (fun h => h.elim (fun h => by have := HVl.out _ h; omega) (fun h => by omega))).trans HOut6.out
 have hk9 := HOwn6.out.mod M89 hnk; have hm9 : Mod (fun k => blk ka k \/ blk va k) w w9 := (HM6.out.mono (fun _ _ h => .inl h)).then M89 (fun i hi h => h.elim .inr (fun e => by omega))
 have hi9 := HG.out.i.mod hm9 (fun k hk h => h.elim (fun h => HG.out.ki k h hk) (fun h => HG.out.vi k h hk))
 have M910 : Mod (fun k => k = w.heap.size + 1) w9 ((((w9.setCell ⟨w.heap.size + 1, 0, none⟩ (.bool true)).setCell ⟨w.heap.size + 1, 1, none⟩ (.slice ka' (ks.length + 1) kc')).setCell ⟨w.heap.size + 1, 2, none⟩ (.slice sa' (vs.length + 1) sc')).setCell ⟨w.heap.size + 1, 3, none⟩ (.slice ia is.length ic)) := Mod.setCell (S := fun k => k = w.heap.size + 1) (Mod.setCell (S := fun k => k = w.heap.size + 1) (Mod.setCell (S := fun k => k = w.heap.size + 1) (Mod.setCell (S := fun k => k = w.heap.size + 1) (Mod.refl _ _) (fun _ => rfl) _) (fun _ => rfl) _) (fun _ => rfl) _) (fun _ => rfl) _
 have hb10 := (set4 (set4 (set4 (set4 hout9 (.bool true)).1 (.slice ka' (ks.length + 1) kc')).2.1 (.slice sa' (vs.length + 1) sc')).2.2.1 (.slice ia is.length ic)).2.2.2; obtain ⟨g0, g1, g2, g3⟩ := cl4 hb10; obtain ⟨e0, e1, e2, e3⟩ := cl4 hbox9; obtain ⟨o0, o1, o2, o3⟩ := cl4 hout9; have q0 := frozen_of_row _ _ 0 _ _ hout9; have q1 := frozen_of_row _ _ 1 _ _ hout9; have q2 := frozen_of_row _ _ 2 _ _ hout9; have q3 := frozen_of_row _ _ 3 _ _ hout9; clear a0 a1 a2 a3 c0 c1 c2 c3 f1; go_wp2_with fail
 have hlk : (ks ++ [key]).length = ks.length + 1 := by simp
 have hlv : (vs ++ [value]).length = vs.length + 1 := by simp
 have hs9 := M89.size; have hV := lth HOut.out; have hnb : ∀ k, (blk ka' k \/ blk sa' k \/ blk ia k) -> (blk ka k \/ blk va k \/ blk ia k) \/ w.heap.size + 2 <= k := fun k h => by
  rcases h with h | h | h
  ·rcases HKb.out k h with h | h
   ·exact .inl (.inl h)
   ·exact .inr (by omega)
  ·rcases hvb k h with h | h
   ·exact .inl (.inr (.inl h))
   ·exact .inr (by omega)
  ·exact .inl (.inr (.inr h))
 have hil := HG.out.i.lt; have hne : ∀ k, (blk ka' k \/ blk sa' k \/ blk ia k) -> ¬ k = w.heap.size + 1 := fun k h e => by
  rcases hnb k h with (h | h | h) | h
  ·have := HKl.out k h; omega
  ·have := HVl.out k h; omega
  ·have := hil k h; omega
  ·omega
 refine bodyPost_ret (v := .agg #[.bool true, .slice ka' (ks.length + 1) kc', .slice sa' (vs.length + 1) sc', .slice ia is.length ic]) (by simp [results, Tryz.results132, go_sem, g0, g1, g2, g3]) rfl ?_
 refine ⟨⟨true, ks ++ [key], vs ++ [value], is, ka', kc', sa', sc', ia, ic⟩, rfl, rfl, rfl, rfl, by unfold Nd.val; simp only [hlk, hlv], ⟨?_, ?_, ?_, ?_, ?_, ?_⟩, ?_, ?_⟩
 ·have := hk9.mod M910 (fun k hk => hne k (.inl hk))
  simp only [hlk, List.flatMap_append]; exact this
 ·have := hown9.mod M910 (fun k hk => hne k (.inr (.inl hk)))
  simp only [hlv, List.flatMap_append]; exact this
 ·exact hi9.mod M910 (fun k hk => hne k (.inr (.inr hk)))
 ·intro b h1 h2; rcases hvb b h2 with h | h
  ·exact hnk b h1 (.inl h)
  ·have := HOwn6.out.lt b h1; omega
 ·intro b h1 h2; rcases HKb.out b h1 with h | h
  ·exact HG.out.ki b h h2
  ·have := hil b h2; omega
 ·intro b h1 h2; rcases hvb b h1 with h | h
  ·exact HG.out.vi b h h2
  ·have := hil b h2; omega
 ·exact (hm9.mono (fun _ _ h => h.elim .inl (fun h => .inr (.inl h)))).then M910 (fun i hi e => by omega)
 ·intro b hb; rcases hnb b hb with h | h
  ·exact .inl h
  ·exact .inr (by omega)
set_option maxHeartbeats 1000000 in
theorem qXe {w : World} {ks vs : List ByteArray} {is : List Int} {ka va ia : Option Addr} {kc vc ic : Nat} (key value : ByteArray) (kid : Int) (g : Gd w ⟨false, ks, vs, is, ka, kc, va, vc, ia, ic⟩) (hk : ks.length <= 8388608) (hv : is.length <= 8388608) :
  Calls Tryz.prog 132 #[.agg #[.bool false, .slice ka ks.length kc, .slice va vs.length vc, .slice ia is.length ic], .string key, .string value, .int .i64 kid] w fun e w' => qUl w ⟨false, ks, vs, is, ka, kc, va, vc, ia, ic⟩ key value kid e w' := by
 obtain ⟨i0, hi, hz0, hz1, hz2⟩ := info_parts qPw; obtain ⟨j0, hj, hy0, hy1, hy2⟩ := info_parts qKm; have hm : Mod (fun _ => False) w ((w.alloc (.cells #[.bool false, .slice ka ks.length kc, .slice va vs.length vc, .slice ia is.length ic] 123)).alloc (.cells #[.bool false, .slice none 0 0, .slice none 0 0, .slice none 0 0] 123)) := ((Mod.refl _ _).alloc _).alloc _
 have hbox : ((w.alloc (.cells #[.bool false, .slice ka ks.length kc, .slice va vs.length vc, .slice ia is.length ic] 123)).alloc (.cells #[.bool false, .slice none 0 0, .slice none 0 0, .slice none 0 0] 123)).heap[w.heap.size]? = some (.cells #[.bool false, .slice ka ks.length kc, .slice va vs.length vc, .slice ia is.length ic] 123 (0, 0)) := (Below.heap_alloc _ _ _ (by simp)).trans (heap_alloc_new _ _)
 have hout : ((w.alloc (.cells #[.bool false, .slice ka ks.length kc, .slice va vs.length vc, .slice ia is.length ic] 123)).alloc (.cells #[.bool false, .slice none 0 0, .slice none 0 0, .slice none 0 0] 123)).heap[w.heap.size + 1]? = some (.cells #[.bool false, .slice none 0 0, .slice none 0 0, .slice none 0 0] 123 (0, 0)) := by have := heap_alloc_new (w.alloc (.cells #[.bool false, .slice ka ks.length kc, .slice va vs.length vc, .slice ia is.length ic] 123)) (.cells #[.bool false, .slice none 0 0, .slice none 0 0, .slice none 0 0] 123); simpa using this
 have HG := hid g; have hkl : ∀ k, blk ka k -> k < w.heap.size := g.k.lt; have hvl : ∀ k, blk ia k -> k < w.heap.size := g.i.lt; have HKl := hid hkl; have HVl := hid hvl; clear g hkl hvl; go_enter Tryz.func132, Tryz.ntmps132
 go_upto_region 1 with fail
 generalize ((w.alloc (.cells #[.bool false, .slice ka ks.length kc, .slice va vs.length vc, .slice ia is.length ic] 123)).alloc (.cells #[.bool false, .slice none 0 0, .slice none 0 0, .slice none 0 0] 123)) = V at *; have HM := hid hm; have HBox := hid hbox; have HOut := hid hout; obtain ⟨b0, b1, b2, b3⟩ := cl4 hbox; have HOk : Hid (Own (V.alloc (.cells #[.string key] 9)) 9 1 ka ks.length kc (ks.flatMap scs)) := HG.out.k.mod (hm.alloc _) (fun _ _ h => h)
 have HSk : Hid (Src (V.alloc (.cells #[.string key] 9)) 1 (some ⟨V.heap.size, 0, none⟩) 1 [.string key]) := qAw (heap_alloc_new _ _) rfl; have HX : Hid (∀ w5, Mod (blk ka) (V.alloc (.cells #[.string key] 9)) w5 -> w5.heap[w.heap.size]? = some (.cells #[.bool false, .slice ka ks.length kc, .slice va vs.length vc, .slice ia is.length ic] 123 (0, 0))) := fun w5 h5 => (h5.block _ (by have := lth HBox.out; simp; omega) (fun h => by have := HKl.out _ h; omega)).trans ((Below.heap_alloc _ _ _ (lth HBox.out)).trans HBox.out)
 clear hm hbox hout; go_upto_region 2 with (at_builtin; refine qAd rfl (.tmp 10) (.tmp 12) 68 rfl 9 i0 _ 1 16 Tryz.underlying68 hi hz0 hz1 hz2 rfl ka ks.length kc _ rfl HOk.out (some ⟨V.heap.size, 0, none⟩) 1 1 _ rfl HSk.out (by intro u hu; simp at hu; subst hu; rfl) (by unfold maxLen; omega) (by omega) ?_; intro ka' kc' w5 hown5 hm5 hb5 hn5 hr5; have hx5 := HX.out w5 hm5; obtain ⟨c0, c1, c2, c3⟩ := cl4 hx5; have f1 := frozen_of_row _ _ 1 _ _ hx5; have HX5 := hid hx5; have Hown5 := hid hown5; have Hm5 := hid hm5; have Hb5 := hid hb5; clear hown5 hm5 hb5 hn5 hr5 hx5)
 have M56 : Mod (fun k => blk ka k \/ k = w.heap.size) V (w5.setCell ⟨w.heap.size, 1, none⟩ (.slice ka' (ks.length + 1) kc')) := Mod.setCell (S := fun k => blk ka k \/ k = w.heap.size) (((Mod.refl _ V).alloc _).then Hm5.out (fun _ _ h => .inl h)) (fun _ => .inr rfl) _
 have hown6 : Own (w5.setCell ⟨w.heap.size, 1, none⟩ (.slice ka' (ks.length + 1) kc')) 9 1 ka' (ks.length + 1) kc' (ks.flatMap scs ++ [.string key]) := Hown5.out.mod (S := fun k => k = w.heap.size) (Mod.setCell (S := fun k => k = w.heap.size) (Mod.refl _ _) (fun _ => rfl) _) (fun k hk e => by
  rcases Hb5.out k hk with h | h
  ·have := HKl.out k h; omega
  ·have := lth HBox.out; simp at h; omega)
 have hbox6 : (w5.setCell ⟨w.heap.size, 1, none⟩ (.slice ka' (ks.length + 1) kc')).heap[w.heap.size]? = some (.cells #[.bool false, .slice ka' (ks.length + 1) kc', .slice va vs.length vc, .slice ia is.length ic] 123 (0, 0)) := (set4 HX5.out _).2.1; have hkb : ∀ k, blk ka' k -> blk ka k \/ V.heap.size <= k := fun k hk => (Hb5.out k hk).imp id (fun h => by simp at h; omega)
 generalize w5.setCell ⟨w.heap.size, 1, none⟩ (.slice ka' (ks.length + 1) kc') = w6 at *; have hout6 : w6.heap[w.heap.size + 1]? = some (.cells #[.bool false, .slice none 0 0, .slice none 0 0, .slice none 0 0] 123 (0, 0)) := (M56.block _ (lth HOut.out) (fun h => h.elim (fun h => by have := HKl.out _ h; omega) (fun h => by omega))).trans HOut.out
 have hm6 : Mod (blk ka) w w6 := (HM.out.mono (fun _ _ h => h.elim)).then M56 (fun i hi h => h.elim id (fun e => by omega))
 have HM6 := hid hm6; have HOwn6 := hid hown6; have HBox6 := hid hbox6; have HOut6 := hid hout6; have HKb := hid hkb; have hs6 := M56.size; obtain ⟨a0, a1, a2, a3⟩ := cl4 hbox6; have HOv : Hid (Own (w6.alloc (.cells #[.int .i64 kid] 3)) 3 1 ia is.length ic (is.flatMap ics)) := (HG.out.i.mod hm6 (fun k hk h => HG.out.ki k h hk)).mod (S := fun _ => False) ((Mod.refl _ _).alloc _) (fun _ _ h => h)
 have HSv : Hid (Src (w6.alloc (.cells #[.int .i64 kid] 3)) 1 (some ⟨w6.heap.size, 0, none⟩) 1 [.int .i64 kid]) := qAw (heap_alloc_new _ _) rfl; have HY : Hid (∀ w8, Mod (blk ia) (w6.alloc (.cells #[.int .i64 kid] 3)) w8 -> w8.heap[w.heap.size]? = some (.cells #[.bool false, .slice ka' (ks.length + 1) kc', .slice va vs.length vc, .slice ia is.length ic] 123 (0, 0))) := fun w8 h8 => (h8.block _ (by have := lth HBox6.out; simp; omega) (fun h => by have := HVl.out _ h; omega)).trans ((Below.heap_alloc _ _ _ (lth HBox6.out)).trans HBox6.out)
 clear hm6 hown6 hbox6 hout6 hkb M56 b0 b1 b2 b3 c0 c1 c2 c3 f1; go_upto_region 5 with (at_builtin; refine qAd rfl (.tmp 24) (.tmp 26) 56 rfl 3 j0 _ 1 8 Tryz.underlying56 hj hy0 hy1 hy2 rfl ia is.length ic _ rfl HOv.out (some ⟨w6.heap.size, 0, none⟩) 1 1 _ rfl HSv.out (by intro u hu; simp at hu; subst hu; rfl) (by unfold maxLen; omega) (by omega) ?_; intro sa' sc' w8 hown8 hm8 hb8 hn8 hr8; have hx8 := HY.out w8 hm8; obtain ⟨c0, c1, c2, c3⟩ := cl4 hx8; have f1 := frozen_of_row _ _ 3 _ _ hx8; have HX8 := hid hx8; have Hown8 := hid hown8; have Hm8 := hid hm8; have Hb8 := hid hb8; clear hown8 hm8 hb8 hn8 hr8 hx8)
 have M89 : Mod (fun k => blk ia k \/ k = w.heap.size) w6 (w8.setCell ⟨w.heap.size, 3, none⟩ (.slice sa' (is.length + 1) sc')) := Mod.setCell (S := fun k => blk ia k \/ k = w.heap.size) (((Mod.refl _ w6).alloc _).then Hm8.out (fun _ _ h => .inl h)) (fun _ => .inr rfl) _
 have hown9 : Own (w8.setCell ⟨w.heap.size, 3, none⟩ (.slice sa' (is.length + 1) sc')) 3 1 sa' (is.length + 1) sc' (is.flatMap ics ++ [.int .i64 kid]) := Hown8.out.mod (S := fun k => k = w.heap.size) (Mod.setCell (S := fun k => k = w.heap.size) (Mod.refl _ _) (fun _ => rfl) _) (fun k hk e => by
  rcases Hb8.out k hk with h | h
  ·have := HVl.out k h; omega
  ·have := lth HBox6.out; simp at h; omega)
 have hbox9 : (w8.setCell ⟨w.heap.size, 3, none⟩ (.slice sa' (is.length + 1) sc')).heap[w.heap.size]? = some (.cells #[.bool false, .slice ka' (ks.length + 1) kc', .slice va vs.length vc, .slice sa' (is.length + 1) sc'] 123 (0, 0)) := (set4 HX8.out _).2.2.2; have hvb : ∀ k, blk sa' k -> blk ia k \/ w6.heap.size <= k := fun k hk => (Hb8.out k hk).imp id (fun h => by simp at h; omega)
 generalize w8.setCell ⟨w.heap.size, 3, none⟩ (.slice sa' (is.length + 1) sc') = w9 at *; have hnk : ∀ k, blk ka' k -> ¬ (blk ia k \/ k = w.heap.size) := fun k hk h => by
  have h1 := lth HBox.out; rcases HKb.out k hk with h2 | h2
  ·rcases h with h | h
   ·exact HG.out.ki k h2 h
   ·have := HKl.out k h2; omega
  ·rcases h with h | h
   ·have := HVl.out k h; omega
   ·omega
 have hout9 : w9.heap[w.heap.size + 1]? = some (.cells #[.bool false, .slice none 0 0, .slice none 0 0, .slice none 0 0] 123 (0, 0)) := (M89.block _ (lth HOut6.out) (fun h => h.elim (fun h => by have := HVl.out _ h; omega) (fun h => by omega))).trans HOut6.out
 have hk9 := HOwn6.out.mod M89 hnk; have hm9 : Mod (fun k => blk ka k \/ blk ia k) w w9 := (HM6.out.mono (fun _ _ h => .inl h)).then M89 (fun i hi h => h.elim .inr (fun e => by omega))
 have hi9 := HG.out.v.mod hm9 (fun k hk h => h.elim (fun h => HG.out.kv k h hk) (fun h => HG.out.vi k hk h))
 have M910 : Mod (fun k => k = w.heap.size + 1) w9 ((((w9.setCell ⟨w.heap.size + 1, 0, none⟩ (.bool false)).setCell ⟨w.heap.size + 1, 1, none⟩ (.slice ka' (ks.length + 1) kc')).setCell ⟨w.heap.size + 1, 2, none⟩ (.slice va vs.length vc)).setCell ⟨w.heap.size + 1, 3, none⟩ (.slice sa' (is.length + 1) sc')) := Mod.setCell (S := fun k => k = w.heap.size + 1) (Mod.setCell (S := fun k => k = w.heap.size + 1) (Mod.setCell (S := fun k => k = w.heap.size + 1) (Mod.setCell (S := fun k => k = w.heap.size + 1) (Mod.refl _ _) (fun _ => rfl) _) (fun _ => rfl) _) (fun _ => rfl) _) (fun _ => rfl) _
 have hb10 := (set4 (set4 (set4 (set4 hout9 (.bool false)).1 (.slice ka' (ks.length + 1) kc')).2.1 (.slice va vs.length vc)).2.2.1 (.slice sa' (is.length + 1) sc')).2.2.2; obtain ⟨g0, g1, g2, g3⟩ := cl4 hb10; obtain ⟨e0, e1, e2, e3⟩ := cl4 hbox9; obtain ⟨o0, o1, o2, o3⟩ := cl4 hout9; have q0 := frozen_of_row _ _ 0 _ _ hout9; have q1 := frozen_of_row _ _ 1 _ _ hout9; have q2 := frozen_of_row _ _ 2 _ _ hout9; have q3 := frozen_of_row _ _ 3 _ _ hout9; clear a0 a1 a2 a3 c0 c1 c2 c3 f1; go_wp2_with fail
 have hlk : (ks ++ [key]).length = ks.length + 1 := by simp
 have hlv : (is ++ [kid]).length = is.length + 1 := by simp
 have hs9 := M89.size; have hV := lth HOut.out; have hnb : ∀ k, (blk ka' k \/ blk va k \/ blk sa' k) -> (blk ka k \/ blk va k \/ blk ia k) \/ w.heap.size + 2 <= k := fun k h => by
  rcases h with h | h | h
  ·rcases HKb.out k h with h | h
   ·exact .inl (.inl h)
   ·exact .inr (by omega)
  ·exact .inl (.inr (.inl h))
  ·rcases hvb k h with h | h
   ·exact .inl (.inr (.inr h))
   ·exact .inr (by omega)
 have hil := HG.out.v.lt; have hne : ∀ k, (blk ka' k \/ blk va k \/ blk sa' k) -> ¬ k = w.heap.size + 1 := fun k h e => by
  rcases hnb k h with (h | h | h) | h
  ·have := HKl.out k h; omega
  ·have := hil k h; omega
  ·have := HVl.out k h; omega
  ·omega
 refine bodyPost_ret (v := .agg #[.bool false, .slice ka' (ks.length + 1) kc', .slice va vs.length vc, .slice sa' (is.length + 1) sc']) (by simp [results, Tryz.results132, go_sem, g0, g1, g2, g3]) rfl ?_
 refine ⟨⟨false, ks ++ [key], vs, is ++ [kid], ka', kc', va, vc, sa', sc'⟩, rfl, rfl, rfl, rfl, by unfold Nd.val; simp only [hlk, hlv], ⟨?_, ?_, ?_, ?_, ?_, ?_⟩, ?_, ?_⟩
 ·have := hk9.mod M910 (fun k hk => hne k (.inl hk))
  simp only [hlk, List.flatMap_append]; exact this
 ·exact hi9.mod M910 (fun k hk => hne k (.inr (.inl hk)))
 ·have := hown9.mod M910 (fun k hk => hne k (.inr (.inr hk)))
  simp only [hlv, List.flatMap_append]; exact this
 ·intro b h1 h2; rcases HKb.out b h1 with h | h
  ·exact HG.out.kv b h h2
  ·have := hil b h2; omega
 ·intro b h1 h2; rcases hvb b h2 with h | h
  ·exact hnk b h1 (.inl h)
  ·have := HOwn6.out.lt b h1; omega
 ·intro b h1 h2; rcases hvb b h2 with h | h
  ·exact HG.out.vi b h1 h
  ·have := hil b h1; omega
 ·exact (hm9.mono (fun _ _ h => h.elim .inl (fun h => .inr (.inr h)))).then M910 (fun i hi e => by omega)
 ·intro b hb; rcases hnb b hb with h | h
  ·exact .inl h
  ·exact .inr (by omega)
theorem jEg {w : World} {n : Nd} (key value : ByteArray) (kid : Int) (g : Gd w n) (hk : n.keys.length <= 8388608) (hv : n.values.length <= 8388608) (hi : n.kids.length <= 8388608) :
  Calls Tryz.prog 132 #[n.val, .string key, .string value, .int .i64 kid] w fun e w' => qUl w n key value kid e w' := by
 obtain ⟨leaf, ks, vs, is, ka, kc, va, vc, ia, ic⟩ := n; cases leaf with
 | true => exact qZm key value kid g hk hv
 | false => exact qXe key value kid g hk hi
end
section
open Go Go.RowKit
section
variable {P : Program} {ops : Array Oper} {md : Region.Mode} {C : World -> Prop}
def qKx (P : Program) (md : Region.Mode) (ops : Array Oper) (C : World -> Prop) (n : Nat) (L : Array Bool -> Act -> Prop) : Nat -> Array Bool -> Act -> Prop
 | 0, listed, a => L listed a
 | f + 1, listed, a => Region.ready md ops listed ≠ [] /\ ∀ i ∈ Region.ready md ops listed, i < n /\ qOp P ops C i (qKx P md ops C n L f (listed.setIfInBounds i true)) a
theorem qMx {n g : Nat} {L : Array Bool -> Act -> Prop} {Q : Exit -> Act -> World -> Prop} (hL : ∀ listed a w, C w -> L listed a -> wpAny P md ops Q g listed a w) :
  ∀ (f : Nat) (listed : Array Bool) (a : Act) (w : World), C w -> qKx P md ops C n L f listed a -> wpAny P md ops Q (f + g) listed a w
 | 0, listed, a, w, hw, h => by rw [Nat.zero_add]; exact hL _ _ _ hw h
 | f + 1, listed, a, w, hw, h => by
  rw [show f + 1 + g = (f + g) + 1 by omega]
  exact ⟨fun h0 => absurd h0 h.1, fun i hi => wpOp_of_qOp hw (fun a' w' hw' h' => qMx hL f _ a' w' hw' h') (h.2 i hi).2⟩
theorem qYl {n i : Nat} {oi : Oper} {v : Value} {L : Array Bool -> Act -> Prop} (hi : ops[i]? = some oi) (hsel : ∀ (j : Nat) (o : Oper) cs b, ops[j]? = some o -> o.op ≠ .select cs b)
  (hs : Region.sinkB md ops n = true) (hc : Region.chainB md ops n = true) (hn : n < ops.size) (hin : i < n)
  (hdone : ∀ listed a, L listed a -> ∀ j ∈ Region.ready md ops listed, n <= j) (f : Nat) : ∀ (listed : Array Bool) (a : Act), HeadInv md ops n listed →
   (∀ j oj, ops[j]? = some oj -> j ≠ i -> listed.getD j true = false -> (∀ e ∈ oj.after, Region.binds md e = true -> e.on ≠ i) -> oi.apart ops oj = true) →
   i ∈ Region.ready md ops listed -> YieldsIn P ops C oi v a →
   qKx P md ops C n L f (listed.setIfInBounds i true) (a.put oi.dst v) -> qKx P md ops C n L (f + 1) listed a := by
 induction f with
 | zero =>
  intro listed a inv _ hr hy H; have hun := (mem_ready.1 hr).1; refine ⟨List.ne_nil_of_mem hr, fun j hj => ?_⟩
  have hjn : j < n := Nat.lt_of_not_le fun h => tail_waits hs hc hn inv _ i rfl hin hun j h hj
  refine ⟨hjn, ?_⟩; by_cases hji : j = i
  ·subst hji; exact hy.qOp hi H
  ·have := hdone _ _ H j (ready_mono hj hji); omega
 | succ f ih =>
  intro listed a inv hfree hr hy H; have hun := (mem_ready.1 hr).1; refine ⟨List.ne_nil_of_mem hr, fun j hj => ?_⟩
  have hjn : j < n := Nat.lt_of_not_le fun h => tail_waits hs hc hn inv _ i rfl hin hun j h hj
  refine ⟨hjn, ?_⟩; by_cases hji : j = i
  ·subst hji; exact hy.qOp hi H
  ·obtain ⟨hjun, oj, hoj, hall⟩ := mem_ready.1 hj; have hnot : ∀ e ∈ oj.after, Region.binds md e = true -> e.on ≠ i := fun e he hb heq => by
    have h1 := hall e he hb; rw [heq, getD_both hun] at h1; cases h1
   have h2 := qOp_put hoj (hfree j oj hoj hji hjun hnot) (fun cs b => hsel i oi cs b hi) (fun cs b => hsel j oj cs b hoj) hy (H.2 j (ready_mono hj hji)).2
   refine qOp_mono (fun a' h3 => ih (listed.setIfInBounds j true) a' (inv.set hj hjn) (fun k ok hk hki hunk hno => hfree k ok hk hki ?_ hno) (ready_mono hr (Ne.symm hji)) h3.1 ?_) h2
   ·by_cases hjk : j = k
    ·subst hjk; exact hjun
    ·rwa [getD_set_ne true hjk] at hunk
   ·rw [Array.setIfInBounds_comm _ _ hji]; exact h3.2
theorem qPy {n g : Nat} {Lq : Act -> Prop} (hsel : Region.noSelect ops = true) (hs : Region.sinkB md ops n = true) (hc : Region.chainB md ops n = true) (hn : n < ops.size) :
  ∀ (l : List Oper) (k : Nat) (listed : Array Bool) (a : Act), (∀ j, j < l.length -> l[j]? = ops[k + j]?) -> k + l.length = n -> HeadInv md ops n listed →
  Region.lexHead md ops g l.length k listed = true -> wpQuiet P ops C Lq l a →
  qKx P md ops C n (fun listed' a' => Region.seqB md ops g n listed' = true /\ Lq a') l.length listed a
 | [], k, listed, a, _, hk, _, hB, h => by
  have : k = n := by simpa using hk
  subst this; exact ⟨by simpa [Region.lexHead] using hB, h⟩
 | o :: l, k, listed, a, hl, hk, inv, hB, h => by
  have h0 : ops[k]? = some o := by simpa using (hl 0 (by simp)).symm
  simp only [List.length_cons] at hk hB hl; simp only [Region.lexHead, Bool.and_eq_true] at hB; obtain ⟨⟨hr, hf⟩, hB'⟩ := hB; have hr' : k ∈ Region.ready md ops listed := by simpa using hr
  have hst : qOp P ops C k (wpQuiet P ops C Lq l) a := by unfold qOp; simp only [h0]; exact h
  obtain ⟨v, hy, hK⟩ := yieldsIn_of_qOp h0 hst; exact qYl h0 (Region.noSelect_spec hsel) hs hc hn (by omega) (fun listed' a' hL => seqB_ready hL.1) l.length listed a inv (Region.free_spec h0 hf) hr' hy
   (qPy hsel hs hc hn l (k + 1) _ _ (fun j hj => by have := hl (j + 1) (by omega); simpa [Nat.add_assoc, Nat.add_comm 1 j] using this) (by omega) (inv.set hr' (by omega)) hB' hK)
end
theorem qAt {P : Program} {id : Nat} {Q : Exit -> Act -> World -> Prop} {a : Act} {w : World} {l : List Oper} (n : Nat) (hm : P.follows .mixedOrders = true) (hB : Region.lexTailB .any l.toArray n = true)
  (h : wpQuiet P l.toArray (fun w' => ∃ x : Ext w, w' = x.val) (fun a' => ∀ w', (∃ x : Ext w, w' = x.val) -> wpList P l.toArray Q (l.drop n) a' w') (l.take n) a) : (Code.region id l.toArray true).wp P Q a w := by
 simp only [Region.lexTailB, Bool.and_eq_true, decide_eq_true_eq] at hB; obtain ⟨⟨⟨⟨hsel, hn⟩, hs⟩, hc⟩, hlex⟩ := hB; have htl : (l.take n).length = n := by simp at hn ⊢; omega
 have hdl : (l.drop n).length = l.toArray.size - n := by simp
 have inv0 : HeadInv .any l.toArray n (Array.replicate l.toArray.size false) :=
  ⟨by simp, fun j oj _ hl => (by rw [getD_replicate_false] at hl; cases hl), fun t _ ht => getD_in (by simpa using ht) (getD_replicate_false _ _)⟩
 have H := qPy (md := .any) (g := l.toArray.size - n) hsel hs hc hn (l.take n) 0 _ a (fun j hj => by
  have hj' : j < n := by rw [htl] at hj; exact hj
  simp [hj']) (by simpa using htl) inv0 (by rw [htl]; exact hlex) h
 refine wp_region_any hm ?_; have := qMx (Q := Q) (g := l.toArray.size - n) (fun listed a' w' hC hL => by
  have := wpAny_of_seq (md := .any) (Q' := Q) (l.drop n) n listed a' w' (fun j => by simp [List.getElem?_drop]) (by rw [hdl]; exact hL.1) (hL.2 w' hC)
  rwa [hdl] at this) _ _ _ { w with drawn := w.drawn + 1 } ⟨⟨_, (Mod.refl _ w).drew⟩, rfl⟩ H
 rw [htl, show n + (l.toArray.size - n) = l.toArray.size by omega] at this
 exact this
end
end Go.Proofs.YtkinkgbmlhiakaaGreatDoor
