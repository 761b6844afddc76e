/- The walk of NodeBack -/
import Derived.Test.YthdopgejikcfbaaDoorDec
import Derived.Test.YthdopgejikcfbaaDoorBackF
import Derived.Test.YthdopgejikcfbaaDoorAlikeD
import Derived.Test.YthdopgejikcfbaaDoorNdW
import Derived.Deep.RegionHeld3
import Derived.Laws.OwnMore
namespace Go.Proofs.YthdopgejikcfbaaDoor
open Go Go.RowKit

namespace NodeBack

def zb (k : Nat) : ByteArray := ba (List.replicate k 0)
theorem zb_size (k : Nat) : (zb k).size = k := by unfold zb; rw [ba_size, List.length_replicate]
theorem zb_list (k : Nat) : (zb k).data.toList = List.replicate k 0 := by unfold zb; rw [ba_data]

theorem conv_zeros (V : World) (k : Nat) : (convert 39 9 (.slice (some ⟨V.heap.size, 0, none⟩) k k)).run Tryd.prog (V.alloc (.cells (madeCells #[.int .u8 0] k) 5)) = .ok (.string (zb k)) (V.alloc (.cells (madeCells #[.int .u8 0] k) 5)) := by
  have h := run_convert_bytes_back (P := Tryd.prog) (V.alloc (.cells (madeCells #[.int .u8 0] k) 5)) 39 9 5 ⟨V.heap.size, 0, none⟩ k (List.replicate k 0) Tryd.underlying39 Tryd.underlying5 Tryd.underlying9 (fun j hj => by
    rw [List.length_replicate] at hj
    rw [Addr.add_lit, cell_of_row _ V.heap.size (0 + j) _ 5 _ (heap_alloc_new V _), ← Array.getElem?_toList, toList_madeCells_one, Nat.zero_add, List.getElem?_replicate, if_pos hj, List.getElem_replicate]
    rfl)
  rw [List.length_replicate] at h
  exact h

theorem join_list (a b : ByteArray) : (a ++ b).data.toList = a.data.toList ++ b.data.toList := by rw [ByteArray.data_append, Array.toList_append]

theorem back_yes {n : Nd} {t : ByteArray} {k : Nat} (h : encOk n = true) (ht : t.data.toList = bytesL n.leaf n.ents) (hz : t.size ≤ 1024) (hk : k < 2000) : decP (t ++ zb k) = some (n.leaf, n.ents) := by
  refine dec_yes h (r := List.replicate k 0) (by rw [join_list, ht, zb_list]) ?_ (fun b hb => (List.mem_replicate.1 hb).2)
  rw [ByteArray.size_append, zb_size]
  have : (4096 : Nat) ≤ two64 := by decide
  omega

theorem back_no {n : Nd} {t : ByteArray} {k : Nat} (h : encOk n = true) (ht : t.data.toList = bytesL n.leaf n.ents) (hz : t.size ≤ 1024) (hk : k < 2000) : decP (t ++ zb k ++ ⟨#[1]⟩) = none := by
  refine dec_no h (r := List.replicate k 0 ++ [1]) (by rw [join_list, join_list, ht, zb_list, List.append_assoc]) ?_ (fun hh => ?_)
  · rw [ByteArray.size_append, ByteArray.size_append, zb_size]
    have : (4096 : Nat) ≤ two64 := by decide
    have h1 : (⟨#[1]⟩ : ByteArray).size = 1 := rfl
    omega
  · have := hh 1 (List.mem_append.2 (.inr (by simp)))
    cases this

set_option maxRecDepth 100000 in
set_option maxHeartbeats 4000000 in
theorem walk (W : World) (n : Nd) (hn : NdAt W n) (hb : n.keys.length ≤ 1048576) (z : Int) (hz1 : -9223372036854775808 ≤ z) (hz2 : z ≤ 9223372036854775807) :
    Calls Tryd.prog 4 #[.agg #[.bool n.leaf, .slice n.ka n.keys.length n.kc, .slice n.va n.values.length n.vc, .slice n.ia n.kids.length n.ic], .int .i64 z] W fun e w' => e = .returned (.bool true) ∧ Below W.heap.size W w' := by
  obtain ⟨i0, hi, hz0, hzs, hzb⟩ := info_parts infoU8
  have hm : Mod (fun _ => False) W (W.alloc (.cells #[.bool n.leaf, .slice n.ka n.keys.length n.kc, .slice n.va n.values.length n.vc, .slice n.ia n.kids.length n.ic] 25)) := (Mod.refl _ _).alloc _
  have hbox : Bx (W.alloc (.cells #[.bool n.leaf, .slice n.ka n.keys.length n.kc, .slice n.va n.values.length n.vc, .slice n.ia n.kids.length n.ic] 25)) W.heap.size n := Bx.new W n
  have HN := hid (hn.ext hm)
  have HM := hid hm
  have HBox := hid hbox
  have HFin : Hid (∀ w', Mod (fun _ => False) W w' → Below W.heap.size W w') := fun w' h => h.below (Nat.le_refl _) (fun _ h => h.elim)
  have HEs := hid (ents_ok hn)
  have HKl := hid hb
  clear hm hbox hn hb
  go_enter Tryd.func4, Tryd.ntmps4
  go_wp2_with fail
  generalize W.alloc (.cells #[.bool n.leaf, .slice n.ka n.keys.length n.kc, .slice n.va n.values.length n.vc, .slice n.ia n.kids.length n.ic] 25) = V at *
  refine (encode_any HN.out).mono ?_
  rintro e w1 ⟨rfl, hm1⟩
  have HM1 := hid (HM.out.trans hm1)
  have HBox1 := hid (HBox.out.mod hm1 (fun h => h))
  have HN1 := hid (HN.out.ext hm1)
  clear hm1
  cases hE : encOk n with
  | false =>
    rw [encV_false]
    clear hE
    go_wp2_with fail
    refine (wakes_yes w1).mono ?_
    rintro e w2 ⟨rfl, hm2⟩
    have HM2 := hid (HM1.out.trans hm2)
    clear hm2
    go_wp2_with fail
    refine (wakes_yes w2).mono ?_
    rintro e w3 ⟨rfl, hm3⟩
    have HM3 := hid (HM2.out.trans hm3)
    clear hm3
    go_wp2_with fail
    go_ret
    exact ⟨rfl, HFin.out _ HM3.out⟩
  | true =>
    rw [encV_true]
    obtain ⟨t, ht⟩ : ∃ t, ba (bytesL n.leaf n.ents) = t := ⟨_, rfl⟩
    have ht2 : t.data.toList = bytesL n.leaf n.ents := by rw [← ht, ba_data]
    have hts : t.size ≤ 1024 := by rw [← ht, ba_size]; exact (enc_small hE).2
    rw [ht]
    obtain ⟨m, hmz⟩ : ∃ m, max 0 z = m := ⟨_, rfl⟩
    have m0 : 0 ≤ m := by omega
    have m1 : m ≤ 9223372036854775807 := by omega
    obtain ⟨x, hx⟩ : ∃ x, m % 2000 = x := ⟨_, rfl⟩
    have x0 : 0 ≤ x := by omega
    have x1 : x < 2000 := by omega
    obtain ⟨k, rfl⟩ := Int.eq_ofNat_of_zero_le x0
    have hk : k < 2000 := by omega
    have hmk := fun W : World => run_makeSlice (P := Tryd.prog) W 39 5 i0 (.int .u8 0) Tryd.underlying39 hi hz0 .i64 .i64 (k : Int) (k : Int) x0 (Int.le_refl _) (by rw [hzs]; omega) (by rw [hzb]; omega) (by omega)
    have hcv := fun V : World => conv_zeros V k
    rw [hzs] at hmk
    simp only [Int.toNat_natCast, Nat.mul_one] at hmk
    have HD : Hid (∀ v, Calls Tryd.prog 5 #[.string (t ++ zb k)] v fun e w' => DecAns v (some (n.leaf, n.ents)) e w') := hid (fun v => by
      have := dec_any (s := t ++ zb k) v (by rw [ByteArray.size_append, zb_size]; omega)
      rwa [back_yes hE ht2 hts hk] at this)
    have HD2 : Hid (∀ v, Calls Tryd.prog 5 #[.string (t ++ zb k ++ ⟨#[1]⟩)] v fun e w' => DecAns v none e w') := hid (fun v => by
      have := dec_any (s := t ++ zb k ++ ⟨#[1]⟩) v (by rw [ByteArray.size_append, ByteArray.size_append, zb_size]; have h1 : (⟨#[1]⟩ : ByteArray).size = 1 := rfl; omega)
      rwa [back_no hE ht2 hts hk] at this)
    have hts2 : t.size ≤ 4096 := by omega
    have hzk : (zb k).size ≤ 4096 := by rw [zb_size]; omega
    have HE := hid hE
    clear hE ht2 ht x1 hts
    go_wp2_with fail
    refine (wakes_yes w1).mono ?_
    rintro e w2 ⟨rfl, hm2⟩
    have HM2 := hid (HM1.out.trans hm2)
    have HBox2 := hid (HBox1.out.mod hm2 (fun h => h))
    have HN2 := hid (HN1.out.ext hm2)
    clear hm2
    go_wp2_with fail
    have hma : Mod (fun _ => False) w2 (w2.alloc (.cells (madeCells #[.int .u8 0] k) 5)) := (Mod.refl _ _).alloc _
    have HM3 := hid (HM2.out.trans hma)
    have HBox3 := hid (HBox2.out.mod hma (fun h => h))
    have HN3 := hid (HN2.out.ext hma)
    clear hma
    generalize w2.alloc (.cells (madeCells #[.int .u8 0] k) 5) = w3 at *
    refine (HD.out _).mono ?_
    rintro e w4 ⟨hm4, q, hh, rfl, hg, hbs, henc, hok, hl⟩
    have HM4 := hid (HM3.out.trans hm4)
    have HBox4 := hid (HBox3.out.mod hm4 (fun h => h))
    have HN4 := hid (HN3.out.ext hm4)
    have HQ4 := hid (hh.ok hg (by omega) hok)
    have HQe := hid (hh.ents (clean_ents n))
    have HH := hid hh
    clear hm4 hh hg hbs henc hok hl
    go_wp2_with fail
    have hma : Mod (fun _ => False) w4 (w4.alloc (.cells #[.bool q.leaf, .slice q.ka q.keys.length q.kc, .slice q.va q.values.length q.vc, .slice q.ia q.kids.length q.ic] 25)) := (Mod.refl _ _).alloc _
    have HMr := hid (HM4.out.trans hma)
    have HBn := hid (HBox4.out.mod hma (fun h => h))
    have HBq := hid (Bx.new w4 q)
    have HNr := hid (HN4.out.ext hma)
    have HQr := hid (HQ4.out.ext hma)
    clear hma
    generalize w4.alloc (.cells #[.bool q.leaf, .slice q.ka q.keys.length q.kc, .slice q.va q.values.length q.vc, .slice q.ia q.kids.length q.ic] 25) = wr at *
    have hmd : Mod (fun _ => False) wr wr.drew := (Mod.refl _ _).drew
    have HRf : Hid (Calls Tryd.prog 10 #[.agg #[.bool n.leaf, .slice n.ka n.keys.length n.kc, .slice n.va n.values.length n.vc, .slice n.ia n.kids.length n.ic]] wr.drew fun e w' => OfAns4 wr.drew n.leaf n.ents e w') := hid (ref_any (HNr.out.ext hmd))
    have HAl : Hid (∀ (v : World) (sa : Option Addr) (cap : Nat), Mod (fun _ => False) wr.drew v → Lies v 3 Ent.cs sa n.ents → Calls Tryd.prog 9 #[.agg #[.bool q.leaf, .slice q.ka q.keys.length q.kc, .slice q.va q.values.length q.vc, .slice q.ia q.kids.length q.ic], .agg #[.bool n.leaf, .slice sa n.ents.length cap]] v fun e w' => e = .returned (.bool true) ∧ Mod (fun _ => False) v w') := hid (fun v sa cap hv hl => alike_any cap (HQr.out.ext (hmd.trans hv)) HH.out HQe.out hl)
    have HUp : Hid (∀ v, Mod (fun _ => False) wr.drew v → v.cell? ⟨W.heap.size, 0, none⟩ = some (.bool n.leaf) ∧ v.cell? ⟨W.heap.size, 1, none⟩ = some (.slice n.ka n.keys.length n.kc) ∧ v.cell? ⟨W.heap.size, 2, none⟩ = some (.slice n.va n.values.length n.vc) ∧ v.cell? ⟨W.heap.size, 3, none⟩ = some (.slice n.ia n.kids.length n.ic) ∧ v.cell? ⟨w4.heap.size, 0, none⟩ = some (.bool q.leaf) ∧ v.cell? ⟨w4.heap.size, 1, none⟩ = some (.slice q.ka q.keys.length q.kc) ∧ v.cell? ⟨w4.heap.size, 2, none⟩ = some (.slice q.va q.values.length q.vc) ∧ v.cell? ⟨w4.heap.size, 3, none⟩ = some (.slice q.ia q.kids.length q.ic)) := hid (fun v hv => by
      obtain ⟨a0, a1, a2, a3⟩ := (HBn.out.mod (hmd.trans hv) (fun h => h)).cells
      obtain ⟨a4, a5, a6, a7⟩ := (HBq.out.mod (hmd.trans hv) (fun h => h)).cells
      exact ⟨a0, a1, a2, a3, a4, a5, a6, a7⟩)
    have HMd := hid (HMr.out.trans hmd)
    clear hmd
    go_wp2_with fail
    obtain ⟨z0, z1, z2, z3, z4, z5, z6, z7⟩ := HUp.out wr.drew (Mod.refl _ _)
    go_region_held3 (fun w' => w'.cell? ⟨W.heap.size, 0, none⟩ = some (.bool n.leaf) ∧ w'.cell? ⟨W.heap.size, 1, none⟩ = some (.slice n.ka n.keys.length n.kc) ∧ w'.cell? ⟨W.heap.size, 2, none⟩ = some (.slice n.va n.values.length n.vc) ∧ w'.cell? ⟨W.heap.size, 3, none⟩ = some (.slice n.ia n.kids.length n.ic) ∧ w'.cell? ⟨w4.heap.size, 0, none⟩ = some (.bool q.leaf) ∧ w'.cell? ⟨w4.heap.size, 1, none⟩ = some (.slice q.ka q.keys.length q.kc) ∧ w'.cell? ⟨w4.heap.size, 2, none⟩ = some (.slice q.va q.values.length q.vc) ∧ w'.cell? ⟨w4.heap.size, 3, none⟩ = some (.slice q.ia q.kids.length q.ic))
      (first | exact ⟨x0, x1, x2, x3, x4, x5, x6, x7⟩ | exact ⟨y0, y1, y2, y3, y4, y5, y6, y7⟩ | exact ⟨z0, z1, z2, z3, z4, z5, z6, z7⟩ | go_keep)
      (first
        | (go_at_call 10; (with_reducible refine HRf.out.mono ?_); rintro e v1 ⟨sa, cap, rfl, hl, _, hm1⟩; obtain ⟨y0, y1, y2, y3, y4, y5, y6, y7⟩ := HUp.out v1 hm1; have HA1 := hid (And.intro hl hm1); clear hl hm1)
        | (go_at_call 9; (with_reducible refine (HAl.out v1 sa cap HA1.out.2 HA1.out.1).mono ?_); rintro e v2 ⟨rfl, hm2⟩; obtain ⟨x0, x1, x2, x3, x4, x5, x6, x7⟩ := HUp.out v2 (HA1.out.2.trans hm2); have HA2 := hid (HA1.out.2.trans hm2); clear hm2))
    go_wp2_with fail
    have HM5 := hid (HMd.out.trans HA2.out)
    refine (HD2.out _).mono ?_
    rintro e w6 ⟨hm6, rfl⟩
    have HM6 := hid (HM5.out.trans hm6)
    clear hm6
    go_wp2_with fail
    go_ret
    exact ⟨rfl, HFin.out _ HM6.out⟩

end NodeBack
end Go.Proofs.YthdopgejikcfbaaDoor
