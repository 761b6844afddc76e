/- The walk of NodeReads -/
import Derived.Test.YthdopgejikcfbaaDoorRDec
import Derived.Test.YthdopgejikcfbaaDoorRound
import Derived.Test.YthdopgejikcfbaaDoorAlikeD
import Derived.Test.YthdopgejikcfbaaDoorNdW
namespace Go.Proofs.YthdopgejikcfbaaDoor
open Go Go.RowKit

namespace NodeReads

set_option maxRecDepth 100000 in
set_option maxHeartbeats 4000000 in
theorem walk (W : World) (s : ByteArray) (hs : s.size ≤ 1048576) : Calls Tryd.prog 3 #[.string s] W fun e w' => e = .returned (.bool true) ∧ Below W.heap.size W w' := by
  have hd := dec_any W hs
  have hrd := fun v => rdec_any v hs
  have HFin : Hid (∀ w', Mod (fun _ => False) W w' → Below W.heap.size W w') := hid (fun w' h => h.below (Nat.le_refl _) (fun _ h => h.elim))
  cases hr : decP s with
  | none =>
    rw [hr] at hd hrd
    have HD := hid hd
    have HRD := hid hrd
    clear hd hrd hr
    go_enter Tryd.func3, Tryd.ntmps3
    go_wp2_with fail
    refine HD.out.mono ?_
    rintro e w1 ⟨hm1, rfl⟩
    have HM1 := hid hm1
    clear hm1
    go_wp2_with fail
    have hb3 : (w1.alloc (.cells #[.bool false, .slice none 0 0, .slice none 0 0, .slice none 0 0] 25)).heap[w1.heap.size]? = some (.cells #[.bool false, .slice none 0 0, .slice none 0 0, .slice none 0 0] 25 (0, 0)) := heap_alloc_new _ _
    have HB3 := hid hb3
    have HM2 := hid (HM1.out.alloc (.cells #[.bool false, .slice none 0 0, .slice none 0 0, .slice none 0 0] 25))
    clear hb3
    generalize w1.alloc (.cells #[.bool false, .slice none 0 0, .slice none 0 0, .slice none 0 0] 25) = X at *
    refine (HRD.out X).mono ?_
    rintro e w2 ⟨hm2, rfl⟩
    have HB4 := hid ((hm2.block _ (lt_of_heap HB3.out) (fun h => h)).trans HB3.out)
    have HM3 := hid (HM2.out.trans hm2)
    clear hm2
    go_wp2_with fail
    have HB5 : Hid ((w2.alloc (.cells #[.bool false, .slice none 0 0] 31)).heap[w1.heap.size]? = _) := hid ((Below.heap_alloc _ _ _ (lt_of_heap HB4.out)).trans HB4.out)
    have HM4 := hid (HM3.out.alloc (.cells #[.bool false, .slice none 0 0] 31))
    generalize w2.alloc (.cells #[.bool false, .slice none 0 0] 31) = Y at *
    refine (wakes_yes Y).mono ?_
    rintro e w3 ⟨rfl, hm3⟩
    obtain ⟨b0, b1, b2, b3⟩ := cells4 ((hm3.block _ (lt_of_heap HB5.out) (fun h => h)).trans HB5.out)
    have HM5 := hid (HM4.out.trans hm3)
    clear hm3
    go_wp2_with fail
    go_ret
    exact ⟨rfl, HFin.out _ HM5.out⟩
  | some p =>
    obtain ⟨leaf, es⟩ := p
    obtain ⟨hcl, htk, hlen⟩ := dec_round hr
    rw [hr] at hd hrd
    have HD := hid hd
    have HRD := hid hrd
    have HCl := hid hcl
    have hba : (ba (bytesL leaf es)).size = (bytesL leaf es).length := ba_size _
    have hex : s.extract 0 (ba (bytesL leaf es)).size = ba (bytesL leaf es) := by
      apply ba_ext
      rw [hba, ByteArray.data_extract]
      rw [Array.toList_extract, List.extract_eq_take_drop, List.drop_zero, Nat.sub_zero, htk]
      simp [ba]
    have hsl : ∀ v : World, (Instr.slice 9 (.string s) none (some (.int .i64 ((ba (bytesL leaf es)).size : Int))) none).run Tryd.prog v = .ok (.string (ba (bytesL leaf es))) v := fun v => by
      have := run_slice_string_h (P := Tryd.prog) v 9 s Tryd.underlying9 .i64 ((ba (bytesL leaf es)).size : Int) (by omega) (by omega)
      rw [this]
      rw [show (((ba (bytesL leaf es)).size : Int)).toNat = (ba (bytesL leaf es)).size by omega, hex]
    have d1 : decide ((ba (bytesL leaf es)).size ≤ s.size) = true := by rw [decide_eq_true_iff, hba]; exact hlen
    clear hd hrd hr hcl htk hlen hba hex
    go_enter Tryd.func3, Tryd.ntmps3
    go_wp2_with fail
    refine HD.out.mono ?_
    rintro e w1 ⟨hm1, m, hh, rfl, hg, hbs, henc, hok, hl⟩
    have HAt := hid (hh.ok hg (by omega) hok)
    have HEs := hid (hh.ents HCl.out)
    have HH := hid hh
    have HEnc := hid henc
    have HM1 := hid hm1
    clear hm1 hh hg hbs henc hok
    go_wp2_with fail
    have HB3 := hid (Bx.new w1 m)
    have HM2 := hid (HM1.out.alloc (.cells #[.bool m.leaf, .slice m.ka m.keys.length m.kc, .slice m.va m.values.length m.vc, .slice m.ia m.kids.length m.ic] 25))
    have HAt2 := hid (HAt.out.ext ((Mod.refl _ w1).alloc (.cells #[.bool m.leaf, .slice m.ka m.keys.length m.kc, .slice m.va m.values.length m.vc, .slice m.ia m.kids.length m.ic] 25)))
    generalize w1.alloc (.cells #[.bool m.leaf, .slice m.ka m.keys.length m.kc, .slice m.va m.values.length m.vc, .slice m.ia m.kids.length m.ic] 25) = X at *
    refine (HRD.out X).mono ?_
    rintro e w2 ⟨hm2, sa, cap, rfl, hlies⟩
    have HB4 := hid (HB3.out.mod hm2 (fun h => h))
    have HM3 := hid (HM2.out.trans hm2)
    have HAt3 := hid (HAt2.out.ext hm2)
    have HLi := hid hlies
    clear hm2 hlies
    go_wp2_with fail
    have hma : Mod (fun _ => False) w2 (w2.alloc (.cells #[.bool leaf, .slice sa es.length cap] 31)) := (Mod.refl _ _).alloc _
    have HB5 := hid (HB4.out.mod hma (fun h => h))
    have HR5 : Hid ((w2.alloc (.cells #[.bool leaf, .slice sa es.length cap] 31)).heap[w2.heap.size]? = some (.cells #[.bool leaf, .slice sa es.length cap] 31 (0, 0))) := hid (heap_alloc_new _ _)
    have HM4 := hid (HM3.out.trans hma)
    have HAt4 := hid (HAt3.out.ext hma)
    have HLi4 := hid (HLi.out.ext hma)
    clear hma
    generalize w2.alloc (.cells #[.bool leaf, .slice sa es.length cap] 31) = Y at *
    refine (wakes_yes Y).mono ?_
    rintro e w3 ⟨rfl, hm3⟩
    have HB6 := hid (HB5.out.mod hm3 (fun h => h))
    have HR6 := hid ((hm3.block _ (lt_of_heap HR5.out) (fun h => h)).trans HR5.out)
    have HM5 := hid (HM4.out.trans hm3)
    have HAt5 := hid (HAt4.out.ext hm3)
    have HLi5 := hid (HLi4.out.ext hm3)
    obtain ⟨b0, b1, b2, b3⟩ := HB6.out.cells
    clear hm3
    go_wp2_with fail
    refine (encode_any HAt5.out).mono ?_
    rintro e w4 ⟨rfl, hm4⟩
    rw [HEnc.out, HH.out.l, HEs.out, encV_true]
    have HB7 := hid (HB6.out.mod hm4 (fun h => h))
    have HR7 := hid ((hm4.block _ (lt_of_heap HR6.out) (fun h => h)).trans HR6.out)
    have HM6 := hid (HM5.out.trans hm4)
    have HAt6 := hid (HAt5.out.ext hm4)
    have HLi6 := hid (HLi5.out.ext hm4)
    clear hm4 b0 b1 b2 b3
    obtain ⟨b0, b1, b2, b3⟩ := HB7.out.cells
    obtain ⟨r0, r1⟩ := cells2 HR7.out
    generalize ba (bytesL leaf es) = t at *
    go_wp2_with fail
    refine (alike_any cap HAt6.out HH.out HEs.out HLi6.out).mono ?_
    rintro e w5 ⟨rfl, hm5⟩
    have HM7 := hid (HM6.out.trans hm5)
    clear hm5
    go_wp2_with fail
    go_ret
    exact ⟨rfl, HFin.out _ HM7.out⟩

end NodeReads
end Go.Proofs.YthdopgejikcfbaaDoor
