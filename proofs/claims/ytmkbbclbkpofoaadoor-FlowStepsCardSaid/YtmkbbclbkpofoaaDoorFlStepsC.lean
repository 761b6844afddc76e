/- A definition has a step for each line that begins with step or wait, in their order, by their names; other texts are none: for every text. The card ties the listed variables to the program's text. (Printed by gensteps.py.) -/
import Derived.Test.YtmkbbclbkpofoaaDoorRows
import Derived.Test.YtmkbbclbkpofoaaDoorCards
import Derived.Test.YtmkbbclbkpofoaaDoorTie
import Derived.Test.YtmkbbclbkpofoaaDoorFlV
import Derived.Test.YtmkbbclbkpofoaaDoorFlSt
import Derived.Test.YtmkbbclbkpofoaaDoorFlB
import Derived.Test.YtmkbbclbkpofoaaDoorOpen1
import Derived.WalkKit
import Derived.ProofKit
import Derived.OpenShut
import Derived.ShutString
import Derived.Lay
import Derived.Deep.DeepHandedRow
namespace Go.Proofs.YtmkbbclbkpofoaaDoor
open Go Go.RowKit

namespace FlowSteps
open Go.ChangeShapes Go.WideShapes Go.ChangeAt Go.ChangeMaps

/-- The loop over the bytes. -/
structure SLoop (V wr : World) (t : ByteArray) (i : Nat) (na : Option Addr) (nc : Nat) (fa : Option Addr) (fc : Nat) (Ls : List (List UInt8)) (cur : List UInt8) (Ws : List (List UInt8)) (w : List UInt8) (N : List ByteArray) (F : Fs) : Prop where
  tok : Tok (t.data.toList.take i) Ls cur Ws w
  nn : N = Ls.flatMap lineName
  ff : F = fld Ws
  nown : Own wr 9 1 na N.length nc (N.flatMap strI)
  fown : Own wr 9 1 fa F.length fc (F.flatMap strI)
  nnew : ∀ k, blk na k → V.heap.size ≤ k
  fnew : ∀ k, blk fa k → V.heap.size ≤ k
  dis : ∀ k, blk na k → ¬ blk fa k
  mod : Mod (fun _ => False) V wr
  wl : w.length ≤ i
  nl : N.length ≤ i
  fl : F.length ≤ i
/-- Behind it. -/
structure SEnd (V wr : World) (na : Option Addr) (nc : Nat) (N : List ByteArray) : Prop where
  nown : Own wr 9 1 na N.length nc (N.flatMap strI)
  mod : Mod (fun _ => False) V wr

theorem step_list : wStep.toList = [115, 116, 101, 112] := by rw [ByteArray.toList_eq]; rfl
theorem wait_list : wWait.toList = [119, 97, 105, 116] := by rw [ByteArray.toList_eq]; rfl
theorem name_len (F : Fs) : (nameF F).length ≤ 1 := by
  match F with
  | [] => exact Nat.zero_le _
  | [_] => exact Nat.zero_le _
  | a :: b :: q =>
    rw [name_two]
    split
    · exact Nat.le_refl _
    · exact Nat.zero_le _
theorem take_next {l : List UInt8} {i : Nat} {b : UInt8} (h : l[i]? = some b) : l.take (i + 1) = l.take i ++ [b] := by rw [List.take_add_one, h]; rfl

set_option maxRecDepth 100000 in
set_option maxHeartbeats 16000000 in
theorem walk' (W : World) (hg : Glob W) (t : ByteArray) (_ : t.size ≤ maxLen) (_ : t.size ≤ 140737488351232) : Calls Tryd.prog 7 #[.string t] W fun e w' => e = .returned (.bool true) ∧ Below W.heap.size W w' := by
  obtain ⟨i0, hi0, hz0, hz1, hz2⟩ := info_parts infoStr
  have HG := hid hg
  have HF := hid (fun (x : Df) (n : Int) (h : parseL t = (x, n, 0)) => parse_names h)
  have HP := hid (parse_any t hg)
  have HW := hid (fun (X : World) (hm : Mod (fun _ => False) W X) => wakes_any (HG.out.ext hm))
  clear hg
  generalize hD : parseL t = D at *
  obtain ⟨d, at', n⟩ := D
  go_enter Tryd.func7, Tryd.ntmps7
  go_upto_region 2 with (go_at_call 9; refine HP.out.mono ?_; rintro e w1 ⟨hm, la, cap, ss, rfl, hl⟩; have HM1 := hid hm; have HL1 := hid hl; clear hm hl)
  have HM2 := hid (HM1.out.alloc (.cells #[.string d.name, .slice la d.steps.length cap] 24))
  have HB := hid (heap_alloc_new w1 (.cells #[.string d.name, .slice la d.steps.length cap] 24))
  have HL2 := hid (HL1.out.ext ((Mod.refl _ _).alloc (.cells #[.string d.name, .slice la d.steps.length cap] 24)))
  generalize w1.alloc (.cells #[.string d.name, .slice la d.steps.length cap] 24) = V at *
  generalize w1.heap.size = db at *
  clear HM1 HL1 HP
  by_cases hn : n = 0
  case neg =>
    have e1 : (n == 0) = false := beq_eq_false_iff_ne.2 hn
    clear hD HF
    go_wp2_with (first
      | (go_at_call 11; refine (HW.out V HM2.out).mono ?_; rintro e w2 ⟨rfl, hm⟩; have HM3 := hid (HM2.out.trans hm); clear hm)
      | (go_at_call 11; refine (HW.out w2 HM3.out).mono ?_; rintro e w3 ⟨rfl, hm⟩; have HM4 := hid (HM3.out.trans hm); clear hm))
    go_ret
    exact ⟨rfl, HM4.out.below (Nat.le_refl _) (fun _ h => h.elim)⟩
  case pos =>
    subst hn
    obtain ⟨ht, hnm, hsn, hdw⟩ := HF.out d at' rfl
    have HNm := hid hnm
    have HSn := hid hsn
    have HDw := hid hdw
    have hdl : t.data.toList.length = t.size := by simp
    clear hD HF hnm hsn hdw
    go_upto_region 6 with (go_at_call 11; refine (HW.out V HM2.out).mono ?_; rintro e w2 ⟨rfl, hm⟩; have HM3 := hid (HM2.out.trans hm); have HVm := hid hm; clear hm)
    have HB2 := hid ((HVm.out.block _ (lt_of_heap HB.out) (fun h => h)).trans HB.out)
    have HL3 := hid (HL2.out.ext HVm.out)
    clear HB HL2 HVm HW HM2
    go_upto_region 7 with fail
    go_loopw [6, 7, 8, 9] (fun s6 s7 s8 s9 wr => (∃ (i : Nat) (na : Option Addr) (nc : Nat) (fa : Option Addr) (fc : Nat) (Ls : List (List UInt8)) (cur : List UInt8) (Ws : List (List UInt8)) (w : List UInt8) (N : List ByteArray) (F : Fs), i ≤ t.size ∧ s6 = .slice na N.length nc ∧ s7 = .string (ba w) ∧ s8 = .slice fa F.length fc ∧ s9 = .int .i64 (i : Int) ∧ SLoop w2 wr t i na nc fa fc Ls cur Ws w N F) ∨
      (∃ (na : Option Addr) (nc : Nat), s6 = .slice na d.steps.length nc ∧ s9 = .int .i64 ((t.size : Int) + 1) ∧ SEnd w2 wr na nc (d.steps.map Sp.name))) (fun _ _ _ s9 _ => t.size + 2 - (intOf s9).toNat)
    case atStart => exact .inl ⟨0, none, 0, none, 0, [], [], [], [], [], [], Nat.zero_le _, rfl, rfl, rfl, rfl, ⟨by rw [List.take_zero]; exact tok_zero, rfl, rfl, Own.nil _ _ _, Own.nil _ _ _, fun k hk => (blk_none k hk).elim, fun k hk => (blk_none k hk).elim, fun k hk => (blk_none k hk).elim, Mod.refl _ _, Nat.zero_le _, Nat.zero_le _, Nat.zero_le _⟩⟩
    case round =>
      obtain ⟨wo, rfl⟩ : ∃ y, y = wr := ⟨wr, rfl⟩
      rcases hrel with ⟨i, na, nc, fa, fc, Ls, cur, Ws, w, N, F, hi, rfl, rfl, rfl, rfl, hs⟩ | ⟨na, nc, rfl, rfl, hs⟩
      · have HS := hid hs
        clear hs
        by_cases hlt : i < t.size
        case pos =>
          have HGl := hid (get_list t i hlt)
          have HTk : Hid (t.data.toList.take (i + 1) = t.data.toList.take i ++ [t[i]]) := hid (take_next HGl.out)
          by_cases hb1 : t[i] = 32
          case pos =>
            have eb1 : ((t[i].toNat : Int) == 32) = true := by rw [hb1]; rfl
            have eb2 : ((t[i].toNat : Int) == 10) = false := by rw [hb1]; rfl
            have en1 : ((t[i].toNat : Int) != 32) = false := by rw [bne, eb1]; rfl
            have en2 : ((t[i].toNat : Int) != 10) = true := by rw [bne, eb2]; rfl
            rw [hb1] at HTk
            clear hb1
            cases hwe : w.isEmpty with
            | true =>
              have HW0 : Hid (w = []) := hid (List.isEmpty_iff.1 hwe)
              have HFw := hid (fld_none (Ws := Ws) hwe)
              have ew : (ba w).toList.isEmpty = true := by rw [ByteArray.toList_eq, ba_data]; exact hwe
              clear hwe
              go_wp2_with fail
              go_roundw
              case rel => exact .inl ⟨i + 1, na, nc, fa, fc, Ls, cur ++ [32], Ws ++ [w], [], N, F, by omega, rfl, by rw [HW0.out], rfl, by go_num, ⟨by rw [HTk.out]; exact HS.out.tok.blank, HS.out.nn, by rw [HFw.out]; exact HS.out.ff, HS.out.nown, HS.out.fown, HS.out.nnew, HS.out.fnew, HS.out.dis, HS.out.mod, Nat.zero_le _, by have := HS.out.nl; omega, by have := HS.out.fl; omega⟩⟩
              case measure => simp [intOf]; omega
            | false =>
              have HFw := hid (fld_some (Ws := Ws) hwe)
              have ew : (ba w).toList.isEmpty = false := by rw [ByteArray.toList_eq, ba_data]; exact hwe
              clear hwe
              go_upto_region 12 with fail
              have HOf := hid (HS.out.fown.mod (S := fun _ => False) ((Mod.refl _ wo).alloc (.cells #[.string (ba w)] 9)) (fun _ _ h => h))
              have HSf : Hid (Src (wo.alloc (.cells #[.string (ba w)] 9)) 1 (some ⟨wo.heap.size, 0, none⟩) 1 [.string (ba w)]) := hid (src_new (heap_alloc_new _ _) rfl)
              have HMf := hid (HS.out.mod.alloc (.cells #[.string (ba w)] 9))
              clear ew
              go_upto_region 14 with (at_builtin; refine wpList_append_Own rfl (.tmp 56) (.tmp 58) 38 rfl 9 i0 _ 1 16 Tryd.underlying38 hi0 hz0 hz1 hz2 rfl fa F.length fc _ rfl HOf.out (some ⟨wo.heap.size, 0, none⟩) 1 1 _ rfl HSf.out (by intro u hu; simp at hu; subst hu; rfl) (by unfold maxLen; have := HS.out.fl; omega) (by have := HS.out.fl; omega) ?_; intro fa5 fc5 w5 hown hm hb hn' hr; have HO5 := hid hown; have HM5 := hid hm; have HB5 := hid hb; clear hown hm hb hn' hr)
              have HF2 : Hid (F ++ [ba w] = fld (Ws ++ [w])) := hid (by rw [HFw.out, HS.out.ff])
              have HFo : Hid (Own w5 9 1 fa5 (F ++ [ba w]).length fc5 ((F ++ [ba w]).flatMap strI)) := hid (by rw [List.length_append, List.flatMap_append]; exact HO5.out)
              have hFl1 : F.length + 1 = (F ++ [ba w]).length := by simp
              have HNo := hid ((HS.out.nown.mod (S := fun _ => False) ((Mod.refl _ wo).alloc (.cells #[.string (ba w)] 9)) (fun _ _ h => h)).mod HM5.out (fun k hk => HS.out.dis k hk))
              have HNn := hid HS.out.nnew
              have HFn : Hid (∀ k, blk fa5 k → w2.heap.size ≤ k) := hid (fun k hk => by
                rcases HB5.out k hk with h | h
                · exact HS.out.fnew k h
                · have := HMf.out.size; omega)
              have HDi : Hid (∀ k, blk na k → ¬ blk fa5 k) := hid (fun k hk h => by
                rcases HB5.out k h with h2 | h2
                · exact HS.out.dis k hk h2
                · have h3 := HS.out.nown.lt k hk
                  rw [World.size_alloc] at h2
                  omega)
              have HMx := hid (HMf.out.then HM5.out (fun j hj h => by have := HS.out.fnew j h; omega))
              have HFl : Hid ((F ++ [ba w]).length ≤ i + 1) := hid (by rw [← hFl1]; have := HS.out.fl; omega)
              rw [hFl1]
              clear hFl1
              have hFi : (F ++ [ba w]).length ≤ i + 1 := HFl.out
              go_wp2_with fail
              go_roundw
              case rel => exact .inl ⟨i + 1, na, nc, fa5, fc5, Ls, cur ++ [32], Ws ++ [w], [], N, F ++ [ba w], by omega, rfl, rfl, by rw [List.length_append]; rfl, by go_num, ⟨by rw [HTk.out]; exact HS.out.tok.blank, HS.out.nn, HF2.out, HNo.out, HFo.out, HNn.out, HFn.out, HDi.out, HMx.out, Nat.zero_le _, by have := HS.out.nl; omega, HFl.out⟩⟩
              case measure => simp [intOf]; omega
          case neg =>
            by_cases hb2 : t[i] = 10
            case pos =>
              have eb1 : ((t[i].toNat : Int) == 32) = false := by rw [hb2]; rfl
              have eb2 : ((t[i].toNat : Int) == 10) = true := by rw [hb2]; rfl
              have en1 : ((t[i].toNat : Int) != 32) = true := by rw [bne, eb1]; rfl
              have en2 : ((t[i].toNat : Int) != 10) = false := by rw [bne, eb2]; rfl
              rw [hb2] at HTk
              clear hb1 hb2
              cases hwe : w.isEmpty with
              | true =>
                have HW0 : Hid (w = []) := hid (List.isEmpty_iff.1 hwe)
                have HFw := hid (fld_none (Ws := Ws) hwe)
                have ew : (ba w).toList.isEmpty = true := by rw [ByteArray.toList_eq, ba_data]; exact hwe
                clear hwe
                have HF2 : Hid (F = fld (Ws ++ [w])) := hid (by rw [HFw.out]; exact HS.out.ff)
                have HFo := hid HS.out.fown
                have HNo := hid HS.out.nown
                have HNn := hid HS.out.nnew
                have HMx := hid HS.out.mod
                have HDi := hid HS.out.dis
                have HFl : Hid (F.length ≤ i) := hid HS.out.fl
                go_upto_region 15 with fail
                clear ew
                generalize hFF : F = F2 at *
                clear hFF
                match F2, HF2, HFo with
                | [], HF2, HFo =>
                  have hnf : nameF ([] : Fs) = [] := rfl
                  simp only [List.length_nil]
                  have HNl : Hid (N = (Ls ++ [cur]).flatMap lineName) := hid (by rw [List.flatMap_append, ← HS.out.nn, List.flatMap_cons, List.flatMap_nil, List.append_nil]; unfold lineName; rw [HS.out.tok.fields, ← HF2.out, hnf, List.append_nil])
                  clear hnf
                  go_wp2_with fail
                  go_roundw
                  case rel => exact .inl ⟨i + 1, na, nc, none, 0, Ls ++ [cur], [], [], [], N, [], by omega, rfl, by rw [HW0.out], rfl, by go_num, ⟨by rw [HTk.out]; exact HS.out.tok.line, HNl.out, rfl, HNo.out, Own.nil _ _ _, HNn.out, fun k hk => (blk_none k hk).elim, fun _ _ h => blk_none _ h, HMx.out, Nat.zero_le _, by have := HS.out.nl; omega, Nat.zero_le _⟩⟩
                  case measure => simp [intOf]; omega
                | [a1], HF2, HFo =>
                  have hnf : nameF [a1] = [] := rfl
                  simp only [List.length_cons, List.length_nil, Nat.zero_add]
                  have HNl : Hid (N = (Ls ++ [cur]).flatMap lineName) := hid (by rw [List.flatMap_append, ← HS.out.nn, List.flatMap_cons, List.flatMap_nil, List.append_nil]; unfold lineName; rw [HS.out.tok.fields, ← HF2.out, hnf, List.append_nil])
                  clear hnf
                  go_wp2_with fail
                  go_roundw
                  case rel => exact .inl ⟨i + 1, na, nc, none, 0, Ls ++ [cur], [], [], [], N, [], by omega, rfl, by rw [HW0.out], rfl, by go_num, ⟨by rw [HTk.out]; exact HS.out.tok.line, HNl.out, rfl, HNo.out, Own.nil _ _ _, HNn.out, fun k hk => (blk_none k hk).elim, fun _ _ h => blk_none _ h, HMx.out, Nat.zero_le _, by have := HS.out.nl; omega, Nat.zero_le _⟩⟩
                  case measure => simp [intOf]; omega
                | a1 :: b1 :: q1, HF2, HFo =>
                  obtain ⟨gf, off, hfa⟩ := HFo.out.lies.some (Nat.succ_pos _)
                  subst hfa
                  have hl2 := HFl.out
                  simp only [List.length_cons] at hl2
                  simp only [List.length_cons]
                  have p0 := HFo.out.lies.cell strI_len (i := 0) (x := a1) rfl (j := 0) rfl
                  have p1 := HFo.out.lies.cell strI_len (i := 1) (x := b1) rfl (j := 0) rfl
                  simp only [Nat.zero_mul, Nat.one_mul, Nat.add_zero] at p0 p1
                  have hgt : (1 : Int) < (q1.length : Int) + 1 + 1 := by omega
                  cases hs1 : (a1.toList == wStep.toList) with
                  | true =>
                    have hnf : nameF (a1 :: b1 :: q1) = [b1] := by rw [name_two, if_pos (.inl hs1)]
                    rw [step_list] at hs1
                    have HNl : Hid (N ++ [b1] = (Ls ++ [cur]).flatMap lineName) := hid (by rw [List.flatMap_append, ← HS.out.nn, List.flatMap_cons, List.flatMap_nil, List.append_nil]; unfold lineName; rw [HS.out.tok.fields, ← HF2.out, hnf])
                    clear hnf
                    go_upto_region 16 with fail
                    have HOa := hid (HNo.out.mod (S := fun _ => False) ((Mod.refl _ wo).alloc (.cells #[.string b1] 9)) (fun _ _ h => h))
                    have HSa : Hid (Src (wo.alloc (.cells #[.string b1] 9)) 1 (some ⟨wo.heap.size, 0, none⟩) 1 [.string b1]) := hid (src_new (heap_alloc_new _ _) rfl)
                    have HMa := hid (HMx.out.alloc (.cells #[.string b1] 9))
                    go_wp2_with (at_builtin; refine wpList_append_Own rfl (.tmp 85) (.tmp 89) 38 rfl 9 i0 _ 1 16 Tryd.underlying38 hi0 hz0 hz1 hz2 rfl na N.length nc _ rfl HOa.out (some ⟨wo.heap.size, 0, none⟩) 1 1 _ rfl HSa.out (by intro u hu; simp at hu; subst hu; rfl) (by unfold maxLen; have := HS.out.nl; omega) (by have := HS.out.nl; omega) ?_; intro na6 nc6 w6 hown hm hb hn' hr; have HO6 := hid hown; have HM6 := hid hm; have HB6 := hid hb; clear hown hm hb hn' hr p0 p1)
                    go_roundw
                    case rel => exact .inl ⟨i + 1, na6, nc6, none, 0, Ls ++ [cur], [], [], [], N ++ [b1], [], by omega, by rw [List.length_append]; rfl, by rw [HW0.out], rfl, by go_num, ⟨by rw [HTk.out]; exact HS.out.tok.line, HNl.out, rfl, (by rw [List.length_append, List.flatMap_append]; exact HO6.out : Own w6 9 1 na6 (N ++ [b1]).length nc6 ((N ++ [b1]).flatMap strI)), Own.nil _ _ _, fun k hk => by rcases HB6.out k hk with h | h; exact HNn.out k h; have := HMa.out.size; omega, fun k hk => (blk_none k hk).elim, fun _ _ h => blk_none _ h, HMa.out.then HM6.out (fun j hj h => by have := HNn.out j h; omega), Nat.zero_le _, by rw [List.length_append]; have := HS.out.nl; simp only [List.length_cons, List.length_nil]; omega, Nat.zero_le _⟩⟩
                    case measure => simp [intOf]; omega
                  | false =>
                    cases hs2 : (a1.toList == wWait.toList) with
                    | true =>
                      have hnf : nameF (a1 :: b1 :: q1) = [b1] := by rw [name_two, if_pos (.inr hs2)]
                      rw [step_list] at hs1
                      rw [wait_list] at hs2
                      have HNl : Hid (N ++ [b1] = (Ls ++ [cur]).flatMap lineName) := hid (by rw [List.flatMap_append, ← HS.out.nn, List.flatMap_cons, List.flatMap_nil, List.append_nil]; unfold lineName; rw [HS.out.tok.fields, ← HF2.out, hnf])
                      clear hnf
                      go_upto_region 16 with fail
                      have HOa := hid (HNo.out.mod (S := fun _ => False) ((Mod.refl _ wo).alloc (.cells #[.string b1] 9)) (fun _ _ h => h))
                      have HSa : Hid (Src (wo.alloc (.cells #[.string b1] 9)) 1 (some ⟨wo.heap.size, 0, none⟩) 1 [.string b1]) := hid (src_new (heap_alloc_new _ _) rfl)
                      have HMa := hid (HMx.out.alloc (.cells #[.string b1] 9))
                      go_wp2_with (at_builtin; refine wpList_append_Own rfl (.tmp 85) (.tmp 89) 38 rfl 9 i0 _ 1 16 Tryd.underlying38 hi0 hz0 hz1 hz2 rfl na N.length nc _ rfl HOa.out (some ⟨wo.heap.size, 0, none⟩) 1 1 _ rfl HSa.out (by intro u hu; simp at hu; subst hu; rfl) (by unfold maxLen; have := HS.out.nl; omega) (by have := HS.out.nl; omega) ?_; intro na6 nc6 w6 hown hm hb hn' hr; have HO6 := hid hown; have HM6 := hid hm; have HB6 := hid hb; clear hown hm hb hn' hr p0 p1)
                      go_roundw
                      case rel => exact .inl ⟨i + 1, na6, nc6, none, 0, Ls ++ [cur], [], [], [], N ++ [b1], [], by omega, by rw [List.length_append]; rfl, by rw [HW0.out], rfl, by go_num, ⟨by rw [HTk.out]; exact HS.out.tok.line, HNl.out, rfl, (by rw [List.length_append, List.flatMap_append]; exact HO6.out : Own w6 9 1 na6 (N ++ [b1]).length nc6 ((N ++ [b1]).flatMap strI)), Own.nil _ _ _, fun k hk => by rcases HB6.out k hk with h | h; exact HNn.out k h; have := HMa.out.size; omega, fun k hk => (blk_none k hk).elim, fun _ _ h => blk_none _ h, HMa.out.then HM6.out (fun j hj h => by have := HNn.out j h; omega), Nat.zero_le _, by rw [List.length_append]; have := HS.out.nl; simp only [List.length_cons, List.length_nil]; omega, Nat.zero_le _⟩⟩
                      case measure => simp [intOf]; omega
                    | false =>
                      have hnf : nameF (a1 :: b1 :: q1) = [] := by rw [name_two, hs1, hs2]; rfl
                      rw [step_list] at hs1
                      rw [wait_list] at hs2
                      have HNl : Hid (N = (Ls ++ [cur]).flatMap lineName) := hid (by rw [List.flatMap_append, ← HS.out.nn, List.flatMap_cons, List.flatMap_nil, List.append_nil]; unfold lineName; rw [HS.out.tok.fields, ← HF2.out, hnf, List.append_nil])
                      clear hnf
                      go_wp2_with fail
                      go_roundw
                      case rel => exact .inl ⟨i + 1, na, nc, none, 0, Ls ++ [cur], [], [], [], N, [], by omega, rfl, by rw [HW0.out], rfl, by go_num, ⟨by rw [HTk.out]; exact HS.out.tok.line, HNl.out, rfl, HNo.out, Own.nil _ _ _, HNn.out, fun k hk => (blk_none k hk).elim, fun _ _ h => blk_none _ h, HMx.out, Nat.zero_le _, by have := HS.out.nl; omega, Nat.zero_le _⟩⟩
                      case measure => simp [intOf]; omega
              | false =>
                have HFw := hid (fld_some (Ws := Ws) hwe)
                have ew : (ba w).toList.isEmpty = false := by rw [ByteArray.toList_eq, ba_data]; exact hwe
                clear hwe
                go_upto_region 12 with fail
                have HOf := hid (HS.out.fown.mod (S := fun _ => False) ((Mod.refl _ wo).alloc (.cells #[.string (ba w)] 9)) (fun _ _ h => h))
                have HSf : Hid (Src (wo.alloc (.cells #[.string (ba w)] 9)) 1 (some ⟨wo.heap.size, 0, none⟩) 1 [.string (ba w)]) := hid (src_new (heap_alloc_new _ _) rfl)
                have HMf := hid (HS.out.mod.alloc (.cells #[.string (ba w)] 9))
                clear ew
                go_upto_region 14 with (at_builtin; refine wpList_append_Own rfl (.tmp 56) (.tmp 58) 38 rfl 9 i0 _ 1 16 Tryd.underlying38 hi0 hz0 hz1 hz2 rfl fa F.length fc _ rfl HOf.out (some ⟨wo.heap.size, 0, none⟩) 1 1 _ rfl HSf.out (by intro u hu; simp at hu; subst hu; rfl) (by unfold maxLen; have := HS.out.fl; omega) (by have := HS.out.fl; omega) ?_; intro fa5 fc5 w5 hown hm hb hn' hr; have HO5 := hid hown; have HM5 := hid hm; have HB5 := hid hb; clear hown hm hb hn' hr)
                have HF2 : Hid (F ++ [ba w] = fld (Ws ++ [w])) := hid (by rw [HFw.out, HS.out.ff])
                have HFo : Hid (Own w5 9 1 fa5 (F ++ [ba w]).length fc5 ((F ++ [ba w]).flatMap strI)) := hid (by rw [List.length_append, List.flatMap_append]; exact HO5.out)
                have hFl1 : F.length + 1 = (F ++ [ba w]).length := by simp
                have HNo := hid ((HS.out.nown.mod (S := fun _ => False) ((Mod.refl _ wo).alloc (.cells #[.string (ba w)] 9)) (fun _ _ h => h)).mod HM5.out (fun k hk => HS.out.dis k hk))
                have HNn := hid HS.out.nnew
                have HFn : Hid (∀ k, blk fa5 k → w2.heap.size ≤ k) := hid (fun k hk => by
                  rcases HB5.out k hk with h | h
                  · exact HS.out.fnew k h
                  · have := HMf.out.size; omega)
                have HDi : Hid (∀ k, blk na k → ¬ blk fa5 k) := hid (fun k hk h => by
                  rcases HB5.out k h with h2 | h2
                  · exact HS.out.dis k hk h2
                  · have h3 := HS.out.nown.lt k hk
                    rw [World.size_alloc] at h2
                    omega)
                have HMx := hid (HMf.out.then HM5.out (fun j hj h => by have := HS.out.fnew j h; omega))
                have HFl : Hid ((F ++ [ba w]).length ≤ i + 1) := hid (by rw [← hFl1]; have := HS.out.fl; omega)
                rw [hFl1]
                clear hFl1
                generalize hFF : F ++ [ba w] = F2 at *
                clear hFF
                go_upto_region 15 with fail
                match F2, HF2, HFo with
                | [], HF2, HFo =>
                  have hnf : nameF ([] : Fs) = [] := rfl
                  simp only [List.length_nil]
                  have HNl : Hid (N = (Ls ++ [cur]).flatMap lineName) := hid (by rw [List.flatMap_append, ← HS.out.nn, List.flatMap_cons, List.flatMap_nil, List.append_nil]; unfold lineName; rw [HS.out.tok.fields, ← HF2.out, hnf, List.append_nil])
                  clear hnf
                  go_wp2_with fail
                  go_roundw
                  case rel => exact .inl ⟨i + 1, na, nc, none, 0, Ls ++ [cur], [], [], [], N, [], by omega, rfl, rfl, rfl, by go_num, ⟨by rw [HTk.out]; exact HS.out.tok.line, HNl.out, rfl, HNo.out, Own.nil _ _ _, HNn.out, fun k hk => (blk_none k hk).elim, fun _ _ h => blk_none _ h, HMx.out, Nat.zero_le _, by have := HS.out.nl; omega, Nat.zero_le _⟩⟩
                  case measure => simp [intOf]; omega
                | [a1], HF2, HFo =>
                  have hnf : nameF [a1] = [] := rfl
                  simp only [List.length_cons, List.length_nil, Nat.zero_add]
                  have HNl : Hid (N = (Ls ++ [cur]).flatMap lineName) := hid (by rw [List.flatMap_append, ← HS.out.nn, List.flatMap_cons, List.flatMap_nil, List.append_nil]; unfold lineName; rw [HS.out.tok.fields, ← HF2.out, hnf, List.append_nil])
                  clear hnf
                  go_wp2_with fail
                  go_roundw
                  case rel => exact .inl ⟨i + 1, na, nc, none, 0, Ls ++ [cur], [], [], [], N, [], by omega, rfl, rfl, rfl, by go_num, ⟨by rw [HTk.out]; exact HS.out.tok.line, HNl.out, rfl, HNo.out, Own.nil _ _ _, HNn.out, fun k hk => (blk_none k hk).elim, fun _ _ h => blk_none _ h, HMx.out, Nat.zero_le _, by have := HS.out.nl; omega, Nat.zero_le _⟩⟩
                  case measure => simp [intOf]; omega
                | a1 :: b1 :: q1, HF2, HFo =>
                  obtain ⟨gf, off, hfa⟩ := HFo.out.lies.some (Nat.succ_pos _)
                  subst hfa
                  have hl2 := HFl.out
                  simp only [List.length_cons] at hl2
                  simp only [List.length_cons]
                  have p0 := HFo.out.lies.cell strI_len (i := 0) (x := a1) rfl (j := 0) rfl
                  have p1 := HFo.out.lies.cell strI_len (i := 1) (x := b1) rfl (j := 0) rfl
                  simp only [Nat.zero_mul, Nat.one_mul, Nat.add_zero] at p0 p1
                  have hgt : (1 : Int) < (q1.length : Int) + 1 + 1 := by omega
                  cases hs1 : (a1.toList == wStep.toList) with
                  | true =>
                    have hnf : nameF (a1 :: b1 :: q1) = [b1] := by rw [name_two, if_pos (.inl hs1)]
                    rw [step_list] at hs1
                    have HNl : Hid (N ++ [b1] = (Ls ++ [cur]).flatMap lineName) := hid (by rw [List.flatMap_append, ← HS.out.nn, List.flatMap_cons, List.flatMap_nil, List.append_nil]; unfold lineName; rw [HS.out.tok.fields, ← HF2.out, hnf])
                    clear hnf
                    go_upto_region 16 with fail
                    have HOa := hid (HNo.out.mod (S := fun _ => False) ((Mod.refl _ w5).alloc (.cells #[.string b1] 9)) (fun _ _ h => h))
                    have HSa : Hid (Src (w5.alloc (.cells #[.string b1] 9)) 1 (some ⟨w5.heap.size, 0, none⟩) 1 [.string b1]) := hid (src_new (heap_alloc_new _ _) rfl)
                    have HMa := hid (HMx.out.alloc (.cells #[.string b1] 9))
                    go_wp2_with (at_builtin; refine wpList_append_Own rfl (.tmp 85) (.tmp 89) 38 rfl 9 i0 _ 1 16 Tryd.underlying38 hi0 hz0 hz1 hz2 rfl na N.length nc _ rfl HOa.out (some ⟨w5.heap.size, 0, none⟩) 1 1 _ rfl HSa.out (by intro u hu; simp at hu; subst hu; rfl) (by unfold maxLen; have := HS.out.nl; omega) (by have := HS.out.nl; omega) ?_; intro na6 nc6 w6 hown hm hb hn' hr; have HO6 := hid hown; have HM6 := hid hm; have HB6 := hid hb; clear hown hm hb hn' hr p0 p1)
                    go_roundw
                    case rel => exact .inl ⟨i + 1, na6, nc6, none, 0, Ls ++ [cur], [], [], [], N ++ [b1], [], by omega, by rw [List.length_append]; rfl, rfl, rfl, by go_num, ⟨by rw [HTk.out]; exact HS.out.tok.line, HNl.out, rfl, (by rw [List.length_append, List.flatMap_append]; exact HO6.out : Own w6 9 1 na6 (N ++ [b1]).length nc6 ((N ++ [b1]).flatMap strI)), Own.nil _ _ _, fun k hk => by rcases HB6.out k hk with h | h; exact HNn.out k h; have := HMa.out.size; omega, fun k hk => (blk_none k hk).elim, fun _ _ h => blk_none _ h, HMa.out.then HM6.out (fun j hj h => by have := HNn.out j h; omega), Nat.zero_le _, by rw [List.length_append]; have := HS.out.nl; simp only [List.length_cons, List.length_nil]; omega, Nat.zero_le _⟩⟩
                    case measure => simp [intOf]; omega
                  | false =>
                    cases hs2 : (a1.toList == wWait.toList) with
                    | true =>
                      have hnf : nameF (a1 :: b1 :: q1) = [b1] := by rw [name_two, if_pos (.inr hs2)]
                      rw [step_list] at hs1
                      rw [wait_list] at hs2
                      have HNl : Hid (N ++ [b1] = (Ls ++ [cur]).flatMap lineName) := hid (by rw [List.flatMap_append, ← HS.out.nn, List.flatMap_cons, List.flatMap_nil, List.append_nil]; unfold lineName; rw [HS.out.tok.fields, ← HF2.out, hnf])
                      clear hnf
                      go_upto_region 16 with fail
                      have HOa := hid (HNo.out.mod (S := fun _ => False) ((Mod.refl _ w5).alloc (.cells #[.string b1] 9)) (fun _ _ h => h))
                      have HSa : Hid (Src (w5.alloc (.cells #[.string b1] 9)) 1 (some ⟨w5.heap.size, 0, none⟩) 1 [.string b1]) := hid (src_new (heap_alloc_new _ _) rfl)
                      have HMa := hid (HMx.out.alloc (.cells #[.string b1] 9))
                      go_wp2_with (at_builtin; refine wpList_append_Own rfl (.tmp 85) (.tmp 89) 38 rfl 9 i0 _ 1 16 Tryd.underlying38 hi0 hz0 hz1 hz2 rfl na N.length nc _ rfl HOa.out (some ⟨w5.heap.size, 0, none⟩) 1 1 _ rfl HSa.out (by intro u hu; simp at hu; subst hu; rfl) (by unfold maxLen; have := HS.out.nl; omega) (by have := HS.out.nl; omega) ?_; intro na6 nc6 w6 hown hm hb hn' hr; have HO6 := hid hown; have HM6 := hid hm; have HB6 := hid hb; clear hown hm hb hn' hr p0 p1)
                      go_roundw
                      case rel => exact .inl ⟨i + 1, na6, nc6, none, 0, Ls ++ [cur], [], [], [], N ++ [b1], [], by omega, by rw [List.length_append]; rfl, rfl, rfl, by go_num, ⟨by rw [HTk.out]; exact HS.out.tok.line, HNl.out, rfl, (by rw [List.length_append, List.flatMap_append]; exact HO6.out : Own w6 9 1 na6 (N ++ [b1]).length nc6 ((N ++ [b1]).flatMap strI)), Own.nil _ _ _, fun k hk => by rcases HB6.out k hk with h | h; exact HNn.out k h; have := HMa.out.size; omega, fun k hk => (blk_none k hk).elim, fun _ _ h => blk_none _ h, HMa.out.then HM6.out (fun j hj h => by have := HNn.out j h; omega), Nat.zero_le _, by rw [List.length_append]; have := HS.out.nl; simp only [List.length_cons, List.length_nil]; omega, Nat.zero_le _⟩⟩
                      case measure => simp [intOf]; omega
                    | false =>
                      have hnf : nameF (a1 :: b1 :: q1) = [] := by rw [name_two, hs1, hs2]; rfl
                      rw [step_list] at hs1
                      rw [wait_list] at hs2
                      have HNl : Hid (N = (Ls ++ [cur]).flatMap lineName) := hid (by rw [List.flatMap_append, ← HS.out.nn, List.flatMap_cons, List.flatMap_nil, List.append_nil]; unfold lineName; rw [HS.out.tok.fields, ← HF2.out, hnf, List.append_nil])
                      clear hnf
                      go_wp2_with fail
                      go_roundw
                      case rel => exact .inl ⟨i + 1, na, nc, none, 0, Ls ++ [cur], [], [], [], N, [], by omega, rfl, rfl, rfl, by go_num, ⟨by rw [HTk.out]; exact HS.out.tok.line, HNl.out, rfl, HNo.out, Own.nil _ _ _, HNn.out, fun k hk => (blk_none k hk).elim, fun _ _ h => blk_none _ h, HMx.out, Nat.zero_le _, by have := HS.out.nl; omega, Nat.zero_le _⟩⟩
                      case measure => simp [intOf]; omega
            case neg =>
              have eb1 : ((t[i].toNat : Int) == 32) = false := by
                have : t[i].toNat ≠ 32 := fun h => hb1 (UInt8.toNat_inj.1 h)
                simp; omega
              have eb2 : ((t[i].toNat : Int) == 10) = false := by
                have : t[i].toNat ≠ 10 := fun h => hb2 (UInt8.toNat_inj.1 h)
                simp; omega
              have en1 : ((t[i].toNat : Int) != 32) = true := by rw [bne, eb1]; rfl
              have en2 : ((t[i].toNat : Int) != 10) = true := by rw [bne, eb2]; rfl
              have hH1 := hid hb1
              have hH2 := hid hb2
              have hex : ba w ++ t.extract i (i + 1) = ba (w ++ [t[i]]) := by
                apply ba_ext
                rw [ba_data, ByteArray.data_append, Array.toList_append, ba_data]
                congr 1
                have h1 := HGl.out
                have h2 : (t.extract i (i + 1)).data.toList = (t.data.toList.drop i).take 1 := by simp [List.take_drop]
                rw [h2, List.drop_eq_getElem_cons (by omega), List.take_succ_cons, List.take_zero]
                rfl
              have hsz : (ba w).size + 1 ≤ 4096 := by rw [ba_size]; have := HS.out.wl; omega
              have hse : (t.extract i (i + 1)).size = 1 := by rw [ByteArray.size_extract]; omega
              have HEx := hid hex
              have hsl : ∀ v : World, (Instr.slice 9 (.string t) (some (.int .i64 (i : Int))) (some (.int .i64 ((i : Int) + 1))) none).run Tryd.prog v = .ok (.string (t.extract i (i + 1))) v := fun v => by
                have := run_slice_string (P := Tryd.prog) v 9 t .i64 .i64 (i : Int) ((i : Int) + 1) Tryd.underlying9 (by omega) (by omega) (by omega)
                rw [show ((i : Int) + 1).toNat = i + 1 by omega, show ((i : Int)).toNat = i by omega] at this
                exact this
              clear hb1 hb2 hex
              go_wp2_with fail
              go_roundw
              case rel => exact .inl ⟨i + 1, na, nc, fa, fc, Ls, cur ++ [t[i]], Ws, w ++ [t[i]], N, F, by omega, rfl, by rw [HEx.out], rfl, by go_num, ⟨by rw [HTk.out]; exact HS.out.tok.byte hH1.out hH2.out, HS.out.nn, HS.out.ff, HS.out.nown, HS.out.fown, HS.out.nnew, HS.out.fnew, HS.out.dis, HS.out.mod, by rw [List.length_append]; have := HS.out.wl; simp only [List.length_cons, List.length_nil]; omega, by have := HS.out.nl; omega, by have := HS.out.fl; omega⟩⟩
              case measure => simp [intOf]; omega
        case neg =>
          have hie : i = t.size := by omega
          subst hie
          have HTot : Hid (t.data.toList.take t.size = t.data.toList) := hid (List.take_of_length_le (by omega))
          cases hwe : w.isEmpty with
          | true =>
            have HW0 : Hid (w = []) := hid (List.isEmpty_iff.1 hwe)
            have HFw := hid (fld_none (Ws := Ws) hwe)
            have ew : (ba w).toList.isEmpty = true := by rw [ByteArray.toList_eq, ba_data]; exact hwe
            clear hwe
            have HF2 : Hid (F = fld (Ws ++ [w])) := hid (by rw [HFw.out]; exact HS.out.ff)
            have HFo := hid HS.out.fown
            have HNo := hid HS.out.nown
            have HNn := hid HS.out.nnew
            have HMx := hid HS.out.mod
            have HDi := hid HS.out.dis
            have HFl : Hid (F.length ≤ t.size) := hid HS.out.fl
            go_upto_region 15 with fail
            clear ew
            generalize hFF : F = F2 at *
            clear hFF
            match F2, HF2, HFo with
            | [], HF2, HFo =>
              have hnf : nameF ([] : Fs) = [] := rfl
              simp only [List.length_nil]
              have HEnd : Hid (d.steps.map Sp.name = N) := hid (by rw [HNm.out, ← HTot.out, HS.out.tok.names, ← HS.out.nn, ← HF2.out, hnf, List.append_nil])
              have HLe : Hid (d.steps.length = N.length) := hid (by have := congrArg List.length HEnd.out; simpa using this)
              clear hnf
              go_wp2_with fail
              go_roundw
              case rel => exact .inr ⟨na, nc, by rw [HLe.out], by go_num, ⟨by rw [HEnd.out]; exact HNo.out, HMx.out⟩⟩
              case measure => simp [intOf] <;> omega
            | [a1], HF2, HFo =>
              have hnf : nameF [a1] = [] := rfl
              simp only [List.length_cons, List.length_nil, Nat.zero_add]
              have HEnd : Hid (d.steps.map Sp.name = N) := hid (by rw [HNm.out, ← HTot.out, HS.out.tok.names, ← HS.out.nn, ← HF2.out, hnf, List.append_nil])
              have HLe : Hid (d.steps.length = N.length) := hid (by have := congrArg List.length HEnd.out; simpa using this)
              clear hnf
              go_wp2_with fail
              go_roundw
              case rel => exact .inr ⟨na, nc, by rw [HLe.out], by go_num, ⟨by rw [HEnd.out]; exact HNo.out, HMx.out⟩⟩
              case measure => simp [intOf] <;> omega
            | a1 :: b1 :: q1, HF2, HFo =>
              obtain ⟨gf, off, hfa⟩ := HFo.out.lies.some (Nat.succ_pos _)
              subst hfa
              have hl2 := HFl.out
              simp only [List.length_cons] at hl2
              simp only [List.length_cons]
              have p0 := HFo.out.lies.cell strI_len (i := 0) (x := a1) rfl (j := 0) rfl
              have p1 := HFo.out.lies.cell strI_len (i := 1) (x := b1) rfl (j := 0) rfl
              simp only [Nat.zero_mul, Nat.one_mul, Nat.add_zero] at p0 p1
              have hgt : (1 : Int) < (q1.length : Int) + 1 + 1 := by omega
              cases hs1 : (a1.toList == wStep.toList) with
              | true =>
                have hnf : nameF (a1 :: b1 :: q1) = [b1] := by rw [name_two, if_pos (.inl hs1)]
                rw [step_list] at hs1
                have HEnd : Hid (d.steps.map Sp.name = N ++ [b1]) := hid (by rw [HNm.out, ← HTot.out, HS.out.tok.names, ← HS.out.nn, ← HF2.out, hnf])
                have HLe : Hid (d.steps.length = N.length + 1) := hid (by have := congrArg List.length HEnd.out; simpa using this)
                clear hnf
                go_upto_region 16 with fail
                have HOa := hid (HNo.out.mod (S := fun _ => False) ((Mod.refl _ wo).alloc (.cells #[.string b1] 9)) (fun _ _ h => h))
                have HSa : Hid (Src (wo.alloc (.cells #[.string b1] 9)) 1 (some ⟨wo.heap.size, 0, none⟩) 1 [.string b1]) := hid (src_new (heap_alloc_new _ _) rfl)
                have HMa := hid (HMx.out.alloc (.cells #[.string b1] 9))
                go_wp2_with (at_builtin; refine wpList_append_Own rfl (.tmp 85) (.tmp 89) 38 rfl 9 i0 _ 1 16 Tryd.underlying38 hi0 hz0 hz1 hz2 rfl na N.length nc _ rfl HOa.out (some ⟨wo.heap.size, 0, none⟩) 1 1 _ rfl HSa.out (by intro u hu; simp at hu; subst hu; rfl) (by unfold maxLen; have := HS.out.nl; omega) (by have := HS.out.nl; omega) ?_; intro na6 nc6 w6 hown hm hb hn' hr; have HO6 := hid hown; have HM6 := hid hm; have HB6 := hid hb; clear hown hm hb hn' hr p0 p1)
                go_roundw
                case rel => exact .inr ⟨na6, nc6, by rw [HLe.out], by go_num, ⟨by rw [HEnd.out]; exact (by rw [List.length_append, List.flatMap_append]; exact HO6.out : Own w6 9 1 na6 (N ++ [b1]).length nc6 ((N ++ [b1]).flatMap strI)), HMa.out.then HM6.out (fun j hj h => by have := HNn.out j h; omega)⟩⟩
                case measure => simp [intOf] <;> omega
              | false =>
                cases hs2 : (a1.toList == wWait.toList) with
                | true =>
                  have hnf : nameF (a1 :: b1 :: q1) = [b1] := by rw [name_two, if_pos (.inr hs2)]
                  rw [step_list] at hs1
                  rw [wait_list] at hs2
                  have HEnd : Hid (d.steps.map Sp.name = N ++ [b1]) := hid (by rw [HNm.out, ← HTot.out, HS.out.tok.names, ← HS.out.nn, ← HF2.out, hnf])
                  have HLe : Hid (d.steps.length = N.length + 1) := hid (by have := congrArg List.length HEnd.out; simpa using this)
                  clear hnf
                  go_upto_region 16 with fail
                  have HOa := hid (HNo.out.mod (S := fun _ => False) ((Mod.refl _ wo).alloc (.cells #[.string b1] 9)) (fun _ _ h => h))
                  have HSa : Hid (Src (wo.alloc (.cells #[.string b1] 9)) 1 (some ⟨wo.heap.size, 0, none⟩) 1 [.string b1]) := hid (src_new (heap_alloc_new _ _) rfl)
                  have HMa := hid (HMx.out.alloc (.cells #[.string b1] 9))
                  go_wp2_with (at_builtin; refine wpList_append_Own rfl (.tmp 85) (.tmp 89) 38 rfl 9 i0 _ 1 16 Tryd.underlying38 hi0 hz0 hz1 hz2 rfl na N.length nc _ rfl HOa.out (some ⟨wo.heap.size, 0, none⟩) 1 1 _ rfl HSa.out (by intro u hu; simp at hu; subst hu; rfl) (by unfold maxLen; have := HS.out.nl; omega) (by have := HS.out.nl; omega) ?_; intro na6 nc6 w6 hown hm hb hn' hr; have HO6 := hid hown; have HM6 := hid hm; have HB6 := hid hb; clear hown hm hb hn' hr p0 p1)
                  go_roundw
                  case rel => exact .inr ⟨na6, nc6, by rw [HLe.out], by go_num, ⟨by rw [HEnd.out]; exact (by rw [List.length_append, List.flatMap_append]; exact HO6.out : Own w6 9 1 na6 (N ++ [b1]).length nc6 ((N ++ [b1]).flatMap strI)), HMa.out.then HM6.out (fun j hj h => by have := HNn.out j h; omega)⟩⟩
                  case measure => simp [intOf] <;> omega
                | false =>
                  have hnf : nameF (a1 :: b1 :: q1) = [] := by rw [name_two, hs1, hs2]; rfl
                  rw [step_list] at hs1
                  rw [wait_list] at hs2
                  have HEnd : Hid (d.steps.map Sp.name = N) := hid (by rw [HNm.out, ← HTot.out, HS.out.tok.names, ← HS.out.nn, ← HF2.out, hnf, List.append_nil])
                  have HLe : Hid (d.steps.length = N.length) := hid (by have := congrArg List.length HEnd.out; simpa using this)
                  clear hnf
                  go_wp2_with fail
                  go_roundw
                  case rel => exact .inr ⟨na, nc, by rw [HLe.out], by go_num, ⟨by rw [HEnd.out]; exact HNo.out, HMx.out⟩⟩
                  case measure => simp [intOf] <;> omega
          | false =>
            have HFw := hid (fld_some (Ws := Ws) hwe)
            have ew : (ba w).toList.isEmpty = false := by rw [ByteArray.toList_eq, ba_data]; exact hwe
            clear hwe
            go_upto_region 12 with fail
            have HOf := hid (HS.out.fown.mod (S := fun _ => False) ((Mod.refl _ wo).alloc (.cells #[.string (ba w)] 9)) (fun _ _ h => h))
            have HSf : Hid (Src (wo.alloc (.cells #[.string (ba w)] 9)) 1 (some ⟨wo.heap.size, 0, none⟩) 1 [.string (ba w)]) := hid (src_new (heap_alloc_new _ _) rfl)
            have HMf := hid (HS.out.mod.alloc (.cells #[.string (ba w)] 9))
            clear ew
            go_upto_region 14 with (at_builtin; refine wpList_append_Own rfl (.tmp 56) (.tmp 58) 38 rfl 9 i0 _ 1 16 Tryd.underlying38 hi0 hz0 hz1 hz2 rfl fa F.length fc _ rfl HOf.out (some ⟨wo.heap.size, 0, none⟩) 1 1 _ rfl HSf.out (by intro u hu; simp at hu; subst hu; rfl) (by unfold maxLen; have := HS.out.fl; omega) (by have := HS.out.fl; omega) ?_; intro fa5 fc5 w5 hown hm hb hn' hr; have HO5 := hid hown; have HM5 := hid hm; have HB5 := hid hb; clear hown hm hb hn' hr)
            have HF2 : Hid (F ++ [ba w] = fld (Ws ++ [w])) := hid (by rw [HFw.out, HS.out.ff])
            have HFo : Hid (Own w5 9 1 fa5 (F ++ [ba w]).length fc5 ((F ++ [ba w]).flatMap strI)) := hid (by rw [List.length_append, List.flatMap_append]; exact HO5.out)
            have hFl1 : F.length + 1 = (F ++ [ba w]).length := by simp
            have HNo := hid ((HS.out.nown.mod (S := fun _ => False) ((Mod.refl _ wo).alloc (.cells #[.string (ba w)] 9)) (fun _ _ h => h)).mod HM5.out (fun k hk => HS.out.dis k hk))
            have HNn := hid HS.out.nnew
            have HFn : Hid (∀ k, blk fa5 k → w2.heap.size ≤ k) := hid (fun k hk => by
              rcases HB5.out k hk with h | h
              · exact HS.out.fnew k h
              · have := HMf.out.size; omega)
            have HDi : Hid (∀ k, blk na k → ¬ blk fa5 k) := hid (fun k hk h => by
              rcases HB5.out k h with h2 | h2
              · exact HS.out.dis k hk h2
              · have h3 := HS.out.nown.lt k hk
                rw [World.size_alloc] at h2
                omega)
            have HMx := hid (HMf.out.then HM5.out (fun j hj h => by have := HS.out.fnew j h; omega))
            have HFl : Hid ((F ++ [ba w]).length ≤ t.size + 1) := hid (by rw [← hFl1]; have := HS.out.fl; omega)
            rw [hFl1]
            clear hFl1
            generalize hFF : F ++ [ba w] = F2 at *
            clear hFF
            go_upto_region 15 with fail
            match F2, HF2, HFo with
            | [], HF2, HFo =>
              have hnf : nameF ([] : Fs) = [] := rfl
              simp only [List.length_nil]
              have HEnd : Hid (d.steps.map Sp.name = N) := hid (by rw [HNm.out, ← HTot.out, HS.out.tok.names, ← HS.out.nn, ← HF2.out, hnf, List.append_nil])
              have HLe : Hid (d.steps.length = N.length) := hid (by have := congrArg List.length HEnd.out; simpa using this)
              clear hnf
              go_wp2_with fail
              go_roundw
              case rel => exact .inr ⟨na, nc, by rw [HLe.out], by go_num, ⟨by rw [HEnd.out]; exact HNo.out, HMx.out⟩⟩
              case measure => simp [intOf] <;> omega
            | [a1], HF2, HFo =>
              have hnf : nameF [a1] = [] := rfl
              simp only [List.length_cons, List.length_nil, Nat.zero_add]
              have HEnd : Hid (d.steps.map Sp.name = N) := hid (by rw [HNm.out, ← HTot.out, HS.out.tok.names, ← HS.out.nn, ← HF2.out, hnf, List.append_nil])
              have HLe : Hid (d.steps.length = N.length) := hid (by have := congrArg List.length HEnd.out; simpa using this)
              clear hnf
              go_wp2_with fail
              go_roundw
              case rel => exact .inr ⟨na, nc, by rw [HLe.out], by go_num, ⟨by rw [HEnd.out]; exact HNo.out, HMx.out⟩⟩
              case measure => simp [intOf] <;> omega
            | a1 :: b1 :: q1, HF2, HFo =>
              obtain ⟨gf, off, hfa⟩ := HFo.out.lies.some (Nat.succ_pos _)
              subst hfa
              have hl2 := HFl.out
              simp only [List.length_cons] at hl2
              simp only [List.length_cons]
              have p0 := HFo.out.lies.cell strI_len (i := 0) (x := a1) rfl (j := 0) rfl
              have p1 := HFo.out.lies.cell strI_len (i := 1) (x := b1) rfl (j := 0) rfl
              simp only [Nat.zero_mul, Nat.one_mul, Nat.add_zero] at p0 p1
              have hgt : (1 : Int) < (q1.length : Int) + 1 + 1 := by omega
              cases hs1 : (a1.toList == wStep.toList) with
              | true =>
                have hnf : nameF (a1 :: b1 :: q1) = [b1] := by rw [name_two, if_pos (.inl hs1)]
                rw [step_list] at hs1
                have HEnd : Hid (d.steps.map Sp.name = N ++ [b1]) := hid (by rw [HNm.out, ← HTot.out, HS.out.tok.names, ← HS.out.nn, ← HF2.out, hnf])
                have HLe : Hid (d.steps.length = N.length + 1) := hid (by have := congrArg List.length HEnd.out; simpa using this)
                clear hnf
                go_upto_region 16 with fail
                have HOa := hid (HNo.out.mod (S := fun _ => False) ((Mod.refl _ w5).alloc (.cells #[.string b1] 9)) (fun _ _ h => h))
                have HSa : Hid (Src (w5.alloc (.cells #[.string b1] 9)) 1 (some ⟨w5.heap.size, 0, none⟩) 1 [.string b1]) := hid (src_new (heap_alloc_new _ _) rfl)
                have HMa := hid (HMx.out.alloc (.cells #[.string b1] 9))
                go_wp2_with (at_builtin; refine wpList_append_Own rfl (.tmp 85) (.tmp 89) 38 rfl 9 i0 _ 1 16 Tryd.underlying38 hi0 hz0 hz1 hz2 rfl na N.length nc _ rfl HOa.out (some ⟨w5.heap.size, 0, none⟩) 1 1 _ rfl HSa.out (by intro u hu; simp at hu; subst hu; rfl) (by unfold maxLen; have := HS.out.nl; omega) (by have := HS.out.nl; omega) ?_; intro na6 nc6 w6 hown hm hb hn' hr; have HO6 := hid hown; have HM6 := hid hm; have HB6 := hid hb; clear hown hm hb hn' hr p0 p1)
                go_roundw
                case rel => exact .inr ⟨na6, nc6, by rw [HLe.out], by go_num, ⟨by rw [HEnd.out]; exact (by rw [List.length_append, List.flatMap_append]; exact HO6.out : Own w6 9 1 na6 (N ++ [b1]).length nc6 ((N ++ [b1]).flatMap strI)), HMa.out.then HM6.out (fun j hj h => by have := HNn.out j h; omega)⟩⟩
                case measure => simp [intOf] <;> omega
              | false =>
                cases hs2 : (a1.toList == wWait.toList) with
                | true =>
                  have hnf : nameF (a1 :: b1 :: q1) = [b1] := by rw [name_two, if_pos (.inr hs2)]
                  rw [step_list] at hs1
                  rw [wait_list] at hs2
                  have HEnd : Hid (d.steps.map Sp.name = N ++ [b1]) := hid (by rw [HNm.out, ← HTot.out, HS.out.tok.names, ← HS.out.nn, ← HF2.out, hnf])
                  have HLe : Hid (d.steps.length = N.length + 1) := hid (by have := congrArg List.length HEnd.out; simpa using this)
                  clear hnf
                  go_upto_region 16 with fail
                  have HOa := hid (HNo.out.mod (S := fun _ => False) ((Mod.refl _ w5).alloc (.cells #[.string b1] 9)) (fun _ _ h => h))
                  have HSa : Hid (Src (w5.alloc (.cells #[.string b1] 9)) 1 (some ⟨w5.heap.size, 0, none⟩) 1 [.string b1]) := hid (src_new (heap_alloc_new _ _) rfl)
                  have HMa := hid (HMx.out.alloc (.cells #[.string b1] 9))
                  go_wp2_with (at_builtin; refine wpList_append_Own rfl (.tmp 85) (.tmp 89) 38 rfl 9 i0 _ 1 16 Tryd.underlying38 hi0 hz0 hz1 hz2 rfl na N.length nc _ rfl HOa.out (some ⟨w5.heap.size, 0, none⟩) 1 1 _ rfl HSa.out (by intro u hu; simp at hu; subst hu; rfl) (by unfold maxLen; have := HS.out.nl; omega) (by have := HS.out.nl; omega) ?_; intro na6 nc6 w6 hown hm hb hn' hr; have HO6 := hid hown; have HM6 := hid hm; have HB6 := hid hb; clear hown hm hb hn' hr p0 p1)
                  go_roundw
                  case rel => exact .inr ⟨na6, nc6, by rw [HLe.out], by go_num, ⟨by rw [HEnd.out]; exact (by rw [List.length_append, List.flatMap_append]; exact HO6.out : Own w6 9 1 na6 (N ++ [b1]).length nc6 ((N ++ [b1]).flatMap strI)), HMa.out.then HM6.out (fun j hj h => by have := HNn.out j h; omega)⟩⟩
                  case measure => simp [intOf] <;> omega
                | false =>
                  have hnf : nameF (a1 :: b1 :: q1) = [] := by rw [name_two, hs1, hs2]; rfl
                  rw [step_list] at hs1
                  rw [wait_list] at hs2
                  have HEnd : Hid (d.steps.map Sp.name = N) := hid (by rw [HNm.out, ← HTot.out, HS.out.tok.names, ← HS.out.nn, ← HF2.out, hnf, List.append_nil])
                  have HLe : Hid (d.steps.length = N.length) := hid (by have := congrArg List.length HEnd.out; simpa using this)
                  clear hnf
                  go_wp2_with fail
                  go_roundw
                  case rel => exact .inr ⟨na, nc, by rw [HLe.out], by go_num, ⟨by rw [HEnd.out]; exact HNo.out, HMx.out⟩⟩
                  case measure => simp [intOf] <;> omega
      · have HS := hid hs
        clear hs
        have hsl : d.steps.length = ss.length := by rw [← HL3.out.map, List.length_map]
        have HSl := hid hsl
        clear hsl
        have hl8 := HL3.out.len
        have hnl : (d.steps.map Sp.name).length = d.steps.length := by rw [List.length_map]
        have HNo := hid HS.out.nown
        rw [hnl] at HNo
        obtain ⟨y0, y1, _, _⟩ := row2 ((HS.out.mod.block _ (lt_of_heap HB2.out) (fun h => h)).trans HB2.out)
        clear hnl
        go_upto_region 21 with fail
        clear y0 y1
        go_loopw [10, 11, 100] (fun _ _ sk wr => ∃ k : Nat, sk = .int .i64 (k : Int) ∧ k ≤ d.steps.length ∧ Mod (fun _ => False) wo wr) (fun _ _ sk _ => d.steps.length - (intOf sk).toNat)
        case atStart => exact ⟨0, rfl, Nat.zero_le _, Mod.refl _ _⟩
        case round =>
          obtain ⟨k, rfl, hk, hm⟩ := hrel
          have HM := hid hm
          clear hm
          by_cases hlt : k < d.steps.length
          case neg =>
            obtain ⟨y0, y1, _, _⟩ := row2 (((HS.out.mod.trans HM.out).block _ (lt_of_heap HB2.out) (fun h => h)).trans HB2.out)
            have hds : d.name.size ≤ 140737488351232 := by
              have h1 := HDw.out
              unfold wordS wordL at h1
              simp only [Bool.and_eq_true, decide_eq_true_eq] at h1
              have h2 := h1.2
              have h3 : d.name.data.toList.length = d.name.size := by simp
              omega
            have HIw := hid (isword_any d.name wr hds)
            rw [HDw.out] at HIw
            go_wp2_with (go_at_call 14; refine HIw.out.mono ?_; rintro e w5 ⟨rfl, rfl⟩)
            go_ret
            exact ⟨rfl, (HM3.out.trans (HS.out.mod.trans HM.out)).below (Nat.le_refl _) (fun _ h => h.elim)⟩
          case pos =>
            have HLo := hid (HL3.out.ext (HS.out.mod.trans HM.out))
            obtain ⟨x, hx⟩ : ∃ x, ss[k]? = some x := ⟨_, List.getElem?_eq_getElem (by have := HSl.out; omega)⟩
            obtain ⟨g, off, hla⟩ := HLo.out.lies.some (by have := HSl.out; omega)
            subst hla
            have q0 := HLo.out.lies.cell SA.len hx (j := 0) rfl
            have q1 := HLo.out.lies.cell SA.len hx (j := 1) rfl
            have q2 := HLo.out.lies.cell SA.len hx (j := 2) rfl
            have q3 := HLo.out.lies.cell SA.len hx (j := 3) rfl
            have q4 := HLo.out.lies.cell SA.len hx (j := 4) rfl
            have q5 := HLo.out.lies.cell SA.len hx (j := 5) rfl
            have q6 := HLo.out.lies.cell SA.len hx (j := 6) rfl
            have q7 := HLo.out.lies.cell SA.len hx (j := 7) rfl
            have q8 := HLo.out.lies.cell SA.len hx (j := 8) rfl
            simp only [Nat.add_zero] at q0
            have hxs : d.steps[k]? = some x.s := by rw [← HLo.out.map, List.getElem?_map, hx]; rfl
            have HXn := hid (HSn.out x.s (List.mem_of_getElem? hxs))
            have hnk : (d.steps.map Sp.name)[k]? = some x.s.name := by rw [List.getElem?_map, hxs]; rfl
            have hNl := (HNo.out.mod HM.out (fun _ _ h => h))
            obtain ⟨gn, on, hna⟩ : ∃ gn on, na = some ⟨gn, on, none⟩ := by
              rcases hNl.2.2.2 with ⟨_, hc⟩ | ⟨g1, o1, _, h1, _⟩
              · have := hNl.2.1; omega
              · exact ⟨g1, o1, h1⟩
            subst hna
            have n0 := hNl.elem strI_len hnk (j := 0) rfl
            simp only [Nat.add_zero, Nat.mul_one] at n0
            have hws : x.s.name.size ≤ 140737488351232 := by
              have h1 := HXn.out.word
              unfold wordS wordL at h1
              simp only [Bool.and_eq_true, decide_eq_true_eq] at h1
              have h2 := h1.2
              have h3 : x.s.name.data.toList.length = x.s.name.size := by simp
              omega
            have HIw := hid (fun V : World => isword_any x.s.name V hws)
            rw [HXn.out.word] at HIw
            have hone := HXn.out.one
            clear hx hxs hnk hNl hws
            go_upto_region 23 with fail
            have hmc : Mod (fun _ => False) wr (wr.alloc (.cells #[.string x.s.name, .string x.s.verb, .string x.s.undo, .string x.s.event, .bool x.s.final, .int .i64 x.s.retry, .int .i64 x.s.every, .int .i64 x.s.within, .slice x.aa x.s.after.length x.ac] 40)) := (Mod.refl _ _).alloc _
            have HMc := hid (HM.out.trans hmc)
            have n1 := (hmc.cell (World.block_lt_of_cell? _ _ n0) (fun h => h)).trans n0
            obtain ⟨⟨c0, c1, _, c3, _, _, _, _, _⟩, _⟩ := row9 (heap_alloc_new wr (.cells #[.string x.s.name, .string x.s.verb, .string x.s.undo, .string x.s.event, .bool x.s.final, .int .i64 x.s.retry, .int .i64 x.s.every, .int .i64 x.s.within, .slice x.aa x.s.after.length x.ac] 40))
            clear q0 q1 q2 q3 q4 q5 q6 q7 q8 n0 hmc
            generalize wr.alloc (.cells #[.string x.s.name, .string x.s.verb, .string x.s.undo, .string x.s.event, .bool x.s.final, .int .i64 x.s.retry, .int .i64 x.s.every, .int .i64 x.s.within, .slice x.aa x.s.after.length x.ac] 40) = X at *
            have m0 := fun y : Ext X => y.cell n1
            have k0 := fun y : Ext X => y.cell c0
            have k1 := fun y : Ext X => y.cell c1
            have k3 := fun y : Ext X => y.cell c3
            clear n1 c0 c1 c3
            generalize hev : x.s.event.toList.isEmpty = ev at *
            generalize hvb : x.s.verb.toList.isEmpty = vb at *
            subst hone
            cases ev <;>
            · refine wp_region_ext (by kernel_rfl) (by kernel_rfl) ?_
              repeat (go_big_quiet_step ((go_at_call 14; exact ext_same (HIw.out _))))
              refine wpQuiet_nil ?_
              rintro _ ⟨y, rfl⟩
              clear m0 k0 k1 k3
              go_wp2_with fail
              go_roundw
              case rel => exact ⟨k + 1, by go_num, by omega, HMc.out.trans y.mod⟩
              case measure => simp [intOf]; omega
theorem own : ownKnob Tryd.prog.godebug = none := by kernel_rfl
theorem laidOut : laidOutB Tryd.prog = true := by kernel_rfl

/-- A world for the witness: the listed tables are laid. -/
noncomputable def laidWorld (os : Os) : World := World.laidAll Tryd.prog os Rows.flowStepsRow.laid
theorem laid_met (os : Os) : laidMetH Tryd.prog Rows.flowStepsRow.laid ((laidWorld os).forCall (fun _ _ => 0) ⟨#[], #[.string ⟨#[]⟩], []⟩).memory := by
  rw [MakeChecks.laidMetH_plain _ _ _ (by kernel_rfl)]
  exact laidMet_laidAll _ (by kernel_rfl) (by kernel_rfl)

set_option maxRecDepth 100000 in
theorem lifted (os : Os) (started : os.Started) (H : Type) (enc : TypeId × Value → H) (F : Stop.Interp) :
    ReturnsInHanded {} Tryd.checked os 7 .any ((OpenSpec.ofChange Rows.flowStepsSpec).preRow enc Tryd.prog Tryd.f7 Rows.flowStepsRow.domain false Rows.flowStepsRow.laid) (((OpenSpec.ofChange Rows.flowStepsSpec).at F).post enc Tryd.prog Tryd.f7 false true false false) := by
  refine returnsInHanded_of_row (C := Tryd.checked) (s := OpenSpec.ofChange Rows.flowStepsSpec) own started (by kernel_rfl) Tryd.func7
    (witness_row_at (enc := enc) (C := Tryd.checked) false (laidWorld os) #[.string ⟨#[]⟩] (World.laidAll_os _ _ _) (by kernel_rfl) (by kernel_rfl) (by kernel_rfl)
      (OpenSpec.preRow_of_B rfl 8 (by kernel_rfl) (by kernel_rfl) (laid_met os))) ?_
  intro W base args ds gs before hval0 hW _ _ hsz0 hlaid hshape _
  have hsz : (DataW.weightsEach Tryd.prog (Tryd.f7.params.toList ++ Rows.flowStepsSpec.plain.varTypes Tryd.prog) (ds ++ gs)).all (· ≤ reachBytes) = true := hsz0
  clear hsz0
  have hval : ∀ (j : Nat) t v, Tryd.f7.params[j]? = some t → args[j]? = some v → Value.okWide Tryd.prog W .any base t v := hval0
  have hW' := hW
  obtain ⟨p, q, hA0, hV, rfl, hfz, hnd⟩ := hW
  have hA : DataW.TrodAll enc Tryd.prog W 0 (fun _ => true) true Tryd.f7.params.toList args.toList ds p := hA0
  rw [Tryd.params7] at hA hval hsz
  obtain ⟨v0, vs0, d0, ds0, p0, q0, hargs, rfl, rfl, h0, r0⟩ := trodAll_cons hA
  obtain ⟨rfl, rfl, rfl⟩ := trodAll_nil r0
  obtain rfl : args = #[v0] := by cases args; simp_all
  obtain ⟨rfl, rfl⟩ := trodVars_none hV
  have lt0 : ∀ x ∈ p0, x.block < W.heap.size := by obtain ⟨m, hm⟩ := h0; exact DataW.trod_lt m _ _ _ hm
  have hsz' : (DataW.weightsEach Tryd.prog [9] [d0]).all (· ≤ reachBytes) = true := hsz
  obtain ⟨s0, rfl, rfl, rfl, ws0⟩ := open_string Tryd.underlying9 (hval 0 9 v0 rfl rfl) h0
  have wt0 : s0.size ≤ 140737488351232 := by have := (fits_of_each hsz' (j := 0) rfl rfl) s0.data.toList.length (by simp [DataW.weights]); simpa using this
  clear hA0 hval0
  refine (walk' W (glob_of hlaid hshape) s0 ws0 wt0).mono fun e W' ⟨he, bel⟩ => ?_
  subst he
  exact ⟨_, rfl, _, _, _, [], _, [], hW', trodAll_mk1 (shut_bool Tryd.underlying4 _), (trodAll_cons_mk (Below.trod laidOut (by kernel_rfl) (of_decide_eq_true (by kernel_rfl)) h0 bel lt0) trodAll_mk0), rfl, bel.frame _, fun h => by cases h⟩

theorem said : Rows.FlowStepsSaid :=
  OpenClaim.holds_of_cond 7 Tryd.f7 rfl rfl rfl rfl rfl rfl rfl ⟨rfl, rfl, rfl, rfl, rfl⟩ rfl rfl rfl rfl rfl (by kernel_rfl) Tryd.func7 (by kernel_rfl)
    (of_decide_eq_true (by kernel_rfl)) (by unfold Func.isWrapper; first | (rw [if_pos (by decide +kernel)]; kernel_rfl) | (rw [if_neg (by decide +kernel)]; exact ⟨rfl, rfl⟩))
    (fun os started H enc _ F => by rw [OpenClaim.pre_eq_preRow]; exact lifted os started H enc F)

theorem plain (f : FuncId) (fn : Func) (hf : Tryd.pinned.checked.prog.funcNamed "chandler/chandlerlaw10.FlowSteps" = some f) (hfn : Tryd.pinned.checked.prog.funcs[f]? = some fn) :
    true = Tryd.pinned.checked.prog.looks [] ∧ ∀ (j : Nat) t, fn.params[j]? = some t → Tryd.pinned.checked.prog.wantsStandIn t = false := by
  obtain rfl : f = 7 := Option.some.inj ((show Tryd.prog.funcNamed "chandler/chandlerlaw10.FlowSteps" = some 7 by kernel_rfl).symm.trans hf) |>.symm
  obtain rfl : fn = Tryd.f7 := (Option.some.inj (Tryd.func7.symm.trans hfn)).symm
  refine ⟨by kernel_rfl, fun j t ht => ?_⟩
  rw [Tryd.params7] at ht
  obtain rfl : t = 9 := by simpa using Array.mem_of_getElem? ht
  exact (show Tryd.prog.wantsStandIn 9 = false by kernel_rfl)

theorem card : Rows.FlowStepsCardSaid :=
  Claim7.holds_tied_plain_at .later [] _ _ _ _ said (fun _ h => by cases h) (by kernel_rfl) (fun _ h => by cases h) flowSteps_row_tie rfl ⟨rfl, rfl⟩ (by kernel_rfl) rfl plain (by kernel_rfl)

end FlowSteps

theorem flowSteps_holds : Rows.FlowStepsCardSaid := FlowSteps.card
#print axioms flowSteps_holds

end Go.Proofs.YtmkbbclbkpofoaaDoor
