/- levels: law 1, whole -/
import Derived.Test.YtigoikepcbbhjaaAuV
namespace Go.Proofs.Ytigoikepcbbhjaa
open Go Go.RowKit

variable {v0 v1 v2 v3 v4 v5 v6 v7 v8 v9 v10 v11 v12 v13 v14 : Value}

set_option maxRecDepth 100000 in
theorem levels_any {w : World} {la ga : Option Addr} {ls : List Lv} {gs : List Gd} (lc gc : Nat) (hl : Lies w 6 Lv.cs la ls) (hln : ls.length ≤ 140737488351232) (hg : GL w ga gs) (hn : gs.length ≤ 140737488351232) :
    Calls Try.prog 12 #[.agg #[v0, v1, v2, v3, .slice la ls.length lc, .slice ga gs.length gc, v6, v7, v8, v9, v10, v11, v12, v13, v14]] w fun e w' => e = .returned (.bool (ls.all (levelP (gs.map Gd.pl)))) ∧ Mod (fun _ => False) w w' := by
  have hma : Mod (fun _ => False) w (w.alloc (.cells #[v0, v1, v2, v3, .slice la ls.length lc, .slice ga gs.length gc, v6, v7, v8, v9, v10, v11, v12, v13, v14] 35)) := (Mod.refl _ _).alloc _
  have hcb : (w.alloc (.cells #[v0, v1, v2, v3, .slice la ls.length lc, .slice ga gs.length gc, v6, v7, v8, v9, v10, v11, v12, v13, v14] 35)).heap[w.heap.size]? = some (.cells #[v0, v1, v2, v3, .slice la ls.length lc, .slice ga gs.length gc, v6, v7, v8, v9, v10, v11, v12, v13, v14] 35 (0, 0)) := heap_alloc_new _ _
  have HM := hid hma
  have b4 := row_at (j := 4) (v := .slice la ls.length lc) hcb rfl
  have HK := hid (conLevel lc w.heap.size (fun x => !(levelP (gs.map Gd.pl) x)) (hl.ext hma) hln (fun w1 x hm1 _ => levelC_any gc x ((hm1.block _ (lt_of_heap hcb) (fun h => h)).trans hcb) ((hg.ext hma).ext hm1) hn))
  have HV := hid (all_not (levelP (gs.map Gd.pl)) ls)
  clear hma hcb hl hg
  go_enter Try.func12, Try.ntmps12
  go_wp2_with (first | (go_at_call 20; refine HK.out.mono ?_; rintro e w2 ⟨rfl, hm2⟩; have HM2 := hid hm2; clear hm2 b4))
  rw [HV.out]
  go_ret
  exact ⟨rfl, HM.out.trans HM2.out⟩

end Go.Proofs.Ytigoikepcbbhjaa
