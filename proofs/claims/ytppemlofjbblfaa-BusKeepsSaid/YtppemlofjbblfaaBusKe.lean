/- What was sent is there until it is taken, as it was, and nothing else, whatever script is run; the script reads afterwards as before. No condition. -/
import Derived.Test.YtppemlofjbblfaaRows
import Derived.Test.YtppemlofjbblfaaBusW
import Derived.Test.YtppemlofjbblfaaBusSt
import Derived.Test.YtppemlofjbblfaaBusOpn
import Derived.Test.YtppemlofjbblfaaMap
import Derived.Maps.OwnOps
import Derived.Deep.DeepCutAuto
import Derived.Deep.CutBlock
import Derived.OpenShut
import Derived.ShutString
namespace Go.Proofs.Ytppemlofjbblfaa
open Go Go.RowKit

namespace BusKeeps

theorem uInt : Try.prog.underlying 3 = some (.int .i64) := Try.underlying3
def KI : Keys Try.prog 3 Int := intKeys uInt
theorem KI_kv (i : Int) : KI.kv i = .int .i64 i := rfl

theorem zeroRun (w : World) : (zeroValue 28).run Try.prog w = .ok (.agg #[.int .i64 0, .int .i64 0, .int .i64 0, .int .i64 0, .int .i64 0, .int .i64 0, .int .i64 0, .string ByteArray.empty]) w := by kernel_rfl

def ent (x : Let) : Int × Value := (x.id, .agg x.cs.toArray)

/-- A bus and a map, each in memory of the call's own. -/
def KSt (W w : World) (b : Nat) (ls : List Let) (n : Int) (mb : Nat) (ml : List (Int × Value)) : Prop :=
  ∃ sa cap, BusAt 58 28 w b sa cap ls n ∧ (∀ k, busF b sa k → W.heap.size ≤ k) ∧ Mod (fun k => W.heap.size ≤ k) W w ∧ MapAt KI.kv w mb ml ∧ W.heap.size ≤ mb ∧ ¬ busF b sa mb

theorem KSt.ext {W w w' : World} {b mb : Nat} {ls : List Let} {n : Int} {ml : List (Int × Value)} (h : KSt W w b ls n mb ml) (hm : Mod (fun _ => False) w w') : KSt W w' b ls n mb ml := by
  obtain ⟨sa, cap, h1, h2, h3, h4, h5, h6⟩ := h
  exact ⟨sa, cap, h1.mod hm (fun _ _ h => h), h2, h3.then hm (fun _ _ h => h.elim), h4.mod hm (fun h => h), h5, h6⟩

theorem KSt.map {W w w' : World} {b mb : Nat} {ls : List Let} {n : Int} {ml ml' : List (Int × Value)} (h : KSt W w b ls n mb ml) (hm : Mod (fun k => k = mb) w w') (hat : MapAt KI.kv w' mb ml') : KSt W w' b ls n mb ml' := by
  obtain ⟨sa, cap, h1, h2, h3, h4, h5, h6⟩ := h
  exact ⟨sa, cap, h1.mod hm (fun k hk h => h6 (h ▸ hk)), h2, h3.then hm (fun k _ h => by omega), hat, h5, h6⟩

theorem KSt.opened {W w : World} {b mb : Nat} {ls : List Let} {n : Int} {ml : List (Int × Value)} (h : KSt W w b ls n mb ml) : ∃ sa cap, BusAt 58 28 w b sa cap ls n ∧ MapAt KI.kv w mb ml ∧ ∀ (w' : World) (ls' : List Let) (n' : Int), BusStep 58 28 w w' b sa ls' n' → KSt W w' b ls' n' mb ml := by
  obtain ⟨sa, cap, h1, h2, h3, h4, h5, h6⟩ := h
  refine ⟨sa, cap, h1, h4, fun w' ls' n' hs => ?_⟩
  obtain ⟨sa', cap', hat, hm, hb⟩ := hs
  have hw := h3.size
  have hl := h4.lt
  refine ⟨sa', cap', hat, fun k hk => ?_, h3.then hm (fun k _ h => h2 k h), h4.mod hm h6, h5, fun hk => ?_⟩
  · rcases hk with rfl | hk
    · exact h2 _ (Or.inl rfl)
    · rcases hb k hk with h | h
      · exact h2 k (Or.inr h)
      · omega
  · rcases hk with hk | hk
    · exact h6 (Or.inl hk)
    · rcases hb mb hk with h | h
      · exact h6 (Or.inr h)
      · omega

theorem KSt.opened2 {W w w1 : World} {b mb : Nat} {ls : List Let} {n : Int} {ml : List (Int × Value)} (h : KSt W w b ls n mb ml) (hx : Mod (fun _ => False) w w1) : ∃ sa cap, BusAt 58 28 w1 b sa cap ls n ∧ MapAt KI.kv w1 mb ml ∧ (∀ k, busF b sa k → k < w.heap.size) ∧ mb < w.heap.size ∧ ∀ (w' : World) (ls' : List Let) (n' : Int), BusStep 58 28 w1 w' b sa ls' n' → KSt W w' b ls' n' mb ml := by
  obtain ⟨sa, cap, h1, h2, h3, h4, h5, h6⟩ := h
  have hl := h1.lt
  have hml := h4.lt
  have hz := hx.size
  have hw := h3.size
  refine ⟨sa, cap, h1.mod hx (fun _ _ h => h), h4.mod hx (fun h => h), hl, hml, fun w' ls' n' hs => ?_⟩
  obtain ⟨sa', cap', hat, hm, hb⟩ := hs
  refine ⟨sa', cap', hat, fun k hk => ?_, (h3.then hx (fun _ _ h => h.elim)).then hm (fun k _ h => h2 k h), (h4.mod hx (fun h => h)).mod hm h6, h5, fun hk => ?_⟩
  · rcases hk with rfl | hk
    · exact h2 _ (Or.inl rfl)
    · rcases hb k hk with h | h
      · exact h2 k (Or.inr h)
      · omega
  · rcases hk with hk | hk
    · exact h6 (Or.inl hk)
    · rcases hb mb hk with h | h
      · exact h6 (Or.inr h)
      · omega

theorem KSt.kept {W w : World} {b mb : Nat} {ls : List Let} {n : Int} {ml : List (Int × Value)} (h : KSt W w b ls n mb ml) : Mod (fun k => W.heap.size ≤ k) W w := by
  obtain ⟨_, _, _, _, h3, _⟩ := h
  exact h3

theorem aget_fresh {n : Int} {ls : List Let} {last : Int} (h : okList n last ls = true) : aget (ls.map ent) n = none := by
  rw [aget_none_iff, List.findIdx?_eq_none_iff]
  intro p hp
  obtain ⟨x, hx, rfl⟩ := List.mem_map.1 hp
  obtain ⟨i, hi⟩ := List.getElem?_of_mem hx
  have := (okAt h hi).2
  exact decide_eq_false (by simp only [ent]; omega)

theorem findIdx_at {n : Int} : ∀ {ls : List Let} {last : Int} {i : Nat} {x : Let}, okList n last ls = true → ls[i]? = some x → (ls.map ent).findIdx? (fun p => decide (p.1 = x.id)) = some i := by
  intro ls
  induction ls with
  | nil => intro last i x _ h; simp at h
  | cons l r ih =>
    intro last i x h hx
    simp only [okList, Bool.and_eq_true, decide_eq_true_eq] at h
    cases i with
    | zero => simp at hx; subst hx; simp [ent, List.findIdx?_cons]
    | succ i =>
      have h2 := (okAt h.2.2 (i := i) (by simpa using hx)).1
      have h3 := ih h.2.2 (i := i) (by simpa using hx)
      have hne : ¬ l.id = x.id := by omega
      simp only [List.map_cons, List.findIdx?_cons, ent, hne, decide_false]
      rw [show (List.findIdx? (fun p : Int × Value => decide (p.1 = x.id)) (List.map ent r)) = some i from h3]
      rfl

theorem aget_at {n last : Int} {ls : List Let} {i : Nat} {x : Let} (h : okList n last ls = true) (hx : ls[i]? = some x) : aget (ls.map ent) x.id = some (.agg x.cs.toArray) := by
  unfold aget
  rw [List.find?_eq_bind_findIdx?_getElem?, findIdx_at h hx]
  simp [hx, ent]

def In (w : World) (ls : List Let) (g : Nat) (c : Value) (wr : World) : Prop := ∃ j : Nat, j + g = ls.length ∧ c = .int .i64 j ∧ Mod (fun _ => False) w wr

def Rel (W : World) (b mb : Nat) (os : List Opr) (g : Nat) (c : Value) (wr : World) : Prop :=
  ∃ (k : Nat) (ls : List Let) (n : Int), k + g = os.length ∧ c = .int .i64 k ∧ KSt W wr b ls n mb (ls.map ent) ∧ Fit n ls (1 + k)

/-- What the call of the script has left. -/
def Mid (W : World) (b mb k : Nat) (wr : World) : Prop := ∃ (ls : List Let) (n' : Int), KSt W wr b ls n' mb (ls.map ent) ∧ Fit n' ls (1 + ((k + 1 : Nat) : Int))

set_option maxRecDepth 100000 in
set_option maxHeartbeats 2000000 in
theorem walk (W : World) (a : Option Addr) (cap : Nat) (os : List Opr) (hsrc : Src W 10 a os.length (os.flatMap Opr.cs)) (hsp : 0 < os.length → ∀ x, a = some x → x.spot = none) (hlt : ∀ k, 0 < os.length → blk a k → k < W.heap.size) (hr : os.length * 88 ≤ 140737488351232) :
    Calls Try.prog 3 #[.slice a os.length cap] W fun e w' => e = .returned (.bool true) ∧ Below W.heap.size W w' := by
  have Hsrc := hid hsrc
  have Hlt := hid hlt
  have Hsp := hid hsp
  clear hsrc hlt hsp
  have hmm := @run_makeMap Try.prog
  go_enter Try.func3, Try.ntmps3
  go_wp2_with (first | (go_at_call 9; refine (wakes_yes _).mono ?_; rintro e w1 ⟨rfl, hm1⟩; have M1 := hid hm1; clear hm1) | (go_at_call 10; refine (new_any _).mono ?_; rintro e w2 ⟨rfl, hat2, hm2⟩; have A2 := hid hat2; have M2 := hid hm2; clear hat2 hm2))
  clear hmm
  have hs1 := M1.out.size
  have hs2 := M2.out.size
  have hl2 := A2.out.lt _ (Or.inl rfl)
  have HS : Hid (KSt W (w2.alloc (.map #[] 0)) w1.heap.size [] 1 w2.heap.size []) := by
    refine ⟨none, 0, A2.out.mod (S := fun _ => False) ((Mod.refl _ _).alloc _) (fun _ _ h => h), fun k h => ?_, ((M1.out.trans M2.out).alloc _).mono fun _ _ h => h.elim, MapAt.made _ _, by omega, fun h => ?_⟩
    · rcases h with rfl | h; omega; exact (blk_none _ h).elim
    · rcases h with h | h; omega; exact (blk_none _ h).elim
  obtain ⟨mb, Hmb⟩ : ∃ mb, Hid (mb = w2.heap.size) := ⟨_, rfl⟩
  rw [← Hmb.out] at HS ⊢
  clear M1 M2 A2
  go_loopg [26] os.length (fun g c wr => Rel W w1.heap.size mb os g c wr)
  case atStart => exact ⟨0, [], 1, Nat.zero_add _, rfl, HS.out, ⟨rfl, by decide, by decide, by simp⟩⟩
  case round =>
    obtain ⟨k, ls, n, hk, rfl, hst, hfit⟩ := hrel
    by_cases hlt : k < os.length
    · obtain ⟨⟨kd, p, a0, a1, a2, a3, a4, a5, a6, s⟩, hx⟩ : ∃ x, os[k]? = some x := ⟨_, List.getElem?_eq_getElem hlt⟩
      obtain ⟨a, rfl⟩ : ∃ x, a = some x := by
        cases a with
        | none => have := Hsrc.out.2.1 rfl; omega
        | some a => exact ⟨a, rfl⟩
      obtain ⟨g, off, sp⟩ := a
      have hsp := Hsp.out (by omega) _ rfl
      simp only at hsp
      subst hsp
      obtain ⟨q0, q1, q2, q3, q4, q5, q6, q7, q8, q9⟩ := opr_cells rfl (Hsrc.out.mod hst.kept (fun k hk h2 => by have := Hlt.out k (by omega) hk; omega)) hx
      have hal : Mod (fun _ => False) wr (wr.alloc (.cells #[.int .i64 kd, .int .i64 p, .int .i64 a0, .int .i64 a1, .int .i64 a2, .int .i64 a3, .int .i64 a4, .int .i64 a5, .int .i64 a6, .string s] 30)) := (Mod.refl _ wr).alloc _
      have HO := hid (heap_alloc_new wr (.cells #[.int .i64 kd, .int .i64 p, .int .i64 a0, .int .i64 a1, .int .i64 a2, .int .i64 a3, .int .i64 a4, .int .i64 a5, .int .i64 a6, .string s] 30))
      obtain ⟨sa0, ca0, hb0, hmap0, hlb, hlm, hX0⟩ := hst.opened2 hal
      have HST := hid (hst.ext hal)
      have HST0 := hid hst
      have Hal := hid hal
      have HB := hid hb0
      have HNO : Hid (¬ busF w1.heap.size sa0 wr.heap.size) := fun h => by have := hlb _ h; omega
      have HX := hid hX0
      have Hfit := hid hfit
      have hnN : n ≤ 1 + (k : Int) := hfit.2.2.1
      clear hx hst hfit hb0 hX0 hmap0 hal hlb
      have c0 : decide ((k : Int) < (os.length : Int)) = true := by simp; omega
      go_upto_block 1 with fail
      go_cut [] (fun wx => Mid W w1.heap.size mb k wx)
      case first =>
        by_cases h1 : kd = 1
        · have c1 : (kd == 1) = true := by simp [h1]
          clear h1
          go_wp2_with fail
          by_cases hl : ls.length < 4096
          · refine (send_ok _ _ _ _ _ ls a0 a1 a2 a3 a4 a5 a6 s HB.out hl (by have := Hfit.out.2.1; omega) (by have := Hfit.out.2.2.1; omega)).mono ?_
            rintro e w5 ⟨rfl, hst5⟩
            have H5 := hid (HX.out _ _ _ hst5)
            obtain ⟨_, _, _, hm5, _⟩ := hst5
            have hO : w5.heap[wr.heap.size]? = _ := (hm5.block wr.heap.size (lt_of_heap HO.out) (fun h => HNO.out h)).trans HO.out
            obtain ⟨o0, o1, o2, o3, o4, o5, o6, o7, o8, o9⟩ := cells10 hO
            have HO := hid hO
            clear hO
            clear hm5
            have Hno := hid (aget_fresh Hfit.out.1)
            have HA := hid (H5.out.ext ((Mod.refl _ w5).alloc (.cells #[.int .i64 n, .int .i64 a1, .int .i64 a2, .int .i64 a3, .int .i64 a4, .int .i64 a5, .int .i64 a6, .string s] 28)))
            have HA2 := hid (HA.out.ext ((Mod.refl _ _).alloc (.cells #[.int .i64 0, .int .i64 0, .int .i64 0, .int .i64 0, .int .i64 0, .int .i64 0, .int .i64 0, .string ByteArray.empty] 28)))
            have HM1 : Hid (MapAt KI.kv (w5.alloc (.cells #[.int .i64 n, .int .i64 a1, .int .i64 a2, .int .i64 a3, .int .i64 a4, .int .i64 a5, .int .i64 a6, .string s] 28)) mb (ls.map ent)) := by obtain ⟨_, _, _, h, _⟩ := HA.out.opened; exact h
            have HM2 : Hid (MapAt KI.kv ((w5.alloc (.cells #[.int .i64 n, .int .i64 a1, .int .i64 a2, .int .i64 a3, .int .i64 a4, .int .i64 a5, .int .i64 a6, .string s] 28)).alloc (.cells #[.int .i64 0, .int .i64 0, .int .i64 0, .int .i64 0, .int .i64 0, .int .i64 0, .int .i64 0, .string ByteArray.empty] 28)) mb (ls.map ent)) := by obtain ⟨_, _, _, h, _⟩ := HA2.out.opened; exact h
            go_wp2_with (first | (at_lookup; refine wpList_lookup_at rfl _ _ 26 true rfl KI Try.underlying26 (zeroRun _) mb _ n rfl rfl HM1.out ?_; rw [Hno.out]; simp only [Option.getD_none, Option.isSome_none, if_true]) | (at_mapUpdate; refine wpList_update_new rfl _ _ _ 26 rfl KI Try.underlying26 mb _ n (.agg #[.int .i64 n, .int .i64 a1, .int .i64 a2, .int .i64 a3, .int .i64 a4, .int .i64 a5, .int .i64 a6, .string s]) rfl rfl rfl HM2.out Hno.out ?_; intro w7 hat7 hm7; have H7 := hid (HA2.out.map hm7 hat7); clear hat7 hm7))
            go_meet
            case rel => exact ⟨ls ++ [⟨n, a1, a2, a3, a4, a5, a6, s⟩], n + 1, by have := H7.out; simpa [ent, Let.cs] using this, by rw [show (1 : Int) + ((k + 1 : Nat) : Int) = 1 + (k : Int) + 1 by omega]; exact Hfit.out.send hl rfl⟩
          · refine (send_full _ _ _ _ _ ls a0 a1 a2 a3 a4 a5 a6 s HB.out (by omega)).mono ?_
            rintro e w5 ⟨rfl, hm5⟩
            have H5 := hid (HST.out.ext hm5)
            clear hm5
            go_wp2_with fail
            go_meet
            case rel => exact ⟨_, _, H5.out, (by rw [show (1 : Int) + ((k + 1 : Nat) : Int) = 1 + (k : Int) + 1 by omega]; exact Hfit.out.same)⟩
        · have c1 : (kd == 1) = false := by simp [h1]
          by_cases h3 : kd = 3
          · have c3 : (kd == 3) = true := by simp [h3]
            clear h1 h3
            have Hl := hid (list_any HB.out (by have := Hfit.out.2.2.2; omega))
            go_wp2_with fail
            refine Hl.out.mono ?_
            rintro e w5 ⟨la, lc, rfl, hown5, hm5, hbk5⟩
            have hO := (hm5.block wr.heap.size (lt_of_heap HO.out) (fun h => h)).trans HO.out
            obtain ⟨o0, o1, o2, o3, o4, o5, o6, o7, o8, o9⟩ := cells10 hO
            have HO := hid hO
            have HO5 := hid hown5
            have Hbk5 := hid hbk5
            have HST5 := hid (HST.out.ext hm5)
            obtain ⟨sb5, cb5, hb5, _, hlb5, hlm5, hX5⟩ := HST0.out.opened2 (Hal.out.trans hm5)
            have HB5 := hid hb5
            have HX5 := hid hX5
            have HL5 := hid hlb5
            have hz5 := hm5.size
            clear hown5 hbk5 hO hm5 hb5 hX5 hlb5 q0 q1 q2 q3 q4 q5 q6 q7 q8 q9
            go_wp2_with fail
            by_cases hp : 0 ≤ p ∧ p < ls.length
            · obtain ⟨i, rfl⟩ : ∃ i : Nat, p = i := ⟨p.toNat, by omega⟩
              have hi : i < ls.length := by omega
              obtain ⟨⟨y0, y1, y2, y3, y4, y5, y6, ys⟩, hy⟩ : ∃ x, ls[i]? = some x := ⟨_, List.getElem?_eq_getElem hi⟩
              by_cases hl : ls.length < 4096
              · refine (double_ok HB5.out i hy hl (by have := Hfit.out.2.1; omega) (by have := Hfit.out.2.2.1; omega)).mono ?_
                rintro e w6 ⟨rfl, hst6⟩
                have H6 := hid (HX5.out _ _ _ hst6)
                obtain ⟨_, _, _, hm6, _⟩ := hst6
                have hO := (hm6.block wr.heap.size (lt_of_heap HO.out) (fun h => by have := HL5.out _ h; omega)).trans HO.out
                clear o0 o1 o2 o3 o4 o5 o6 o7 o8 o9
                obtain ⟨o0, o1, o2, o3, o4, o5, o6, o7, o8, o9⟩ := cells10 hO
                obtain ⟨g5, off5, rfl⟩ := own_some HO5.out (by omega)
                have hown6 := HO5.out.mod hm6 (fun k hk h => by have := Hbk5.out k hk; have := HL5.out k h; simp at *; omega)
                obtain ⟨d0, d1, d2, d3, d4, d5, d6, d7⟩ := let_cells hown6 hy
                have Hno := hid (aget_fresh Hfit.out.1)
                have HA := hid (H6.out.ext ((Mod.refl _ w6).alloc (.cells #[.int .i64 n, .int .i64 y1, .int .i64 y2, .int .i64 y3, .int .i64 y4, .int .i64 y5, .int .i64 y6, .string ys] 28)))
                have HM1 : Hid (MapAt KI.kv (w6.alloc (.cells #[.int .i64 n, .int .i64 y1, .int .i64 y2, .int .i64 y3, .int .i64 y4, .int .i64 y5, .int .i64 y6, .string ys] 28)) mb (ls.map ent)) := by obtain ⟨_, _, _, h, _⟩ := HA.out.opened; exact h
                have i5 : (i : Int) < (ls.length : Int) := by omega
                clear hm6 hO hown6 hy
                go_wp2_with (at_mapUpdate; refine wpList_update_new rfl _ _ _ 26 rfl KI Try.underlying26 mb _ n (.agg #[.int .i64 n, .int .i64 y1, .int .i64 y2, .int .i64 y3, .int .i64 y4, .int .i64 y5, .int .i64 y6, .string ys]) rfl rfl rfl HM1.out Hno.out ?_; intro w7 hat7 hm7; have H7 := hid (HA.out.map hm7 hat7); clear hat7 hm7)
                go_meet
                case rel => exact ⟨ls ++ [⟨n, y1, y2, y3, y4, y5, y6, ys⟩], n + 1, by have := H7.out; simpa [ent, Let.cs] using this, by rw [show (1 : Int) + ((k + 1 : Nat) : Int) = 1 + (k : Int) + 1 by omega]; exact Hfit.out.send hl rfl⟩
              · refine (double_full HB5.out i hi (by omega)).mono ?_
                rintro e w6 ⟨rfl, hm6⟩
                have H6 := hid (HST5.out.ext hm6)
                clear hm6 hy
                go_wp2_with fail
                go_meet
                case rel => exact ⟨_, _, H6.out, (by rw [show (1 : Int) + ((k + 1 : Nat) : Int) = 1 + (k : Int) + 1 by omega]; exact Hfit.out.same)⟩
            · refine (double_bad HB5.out p (by omega)).mono ?_
              rintro e w6 ⟨rfl, rfl⟩
              go_wp2_with fail
              go_meet
              case rel => exact ⟨_, _, HST5.out, (by rw [show (1 : Int) + ((k + 1 : Nat) : Int) = 1 + (k : Int) + 1 by omega]; exact Hfit.out.same)⟩
          · have c3 : (kd == 3) = false := by simp [h3]
            by_cases h2 : kd = 2
            · have c2 : (kd == 2) = true := by simp [h2]
              clear h1 h2 h3
              go_wp2_with fail
              by_cases hp : 0 ≤ p ∧ p < ls.length
              · obtain ⟨i, rfl⟩ : ∃ i : Nat, p = i := ⟨p.toNat, by omega⟩
                have hi : i < ls.length := by omega
                obtain ⟨⟨y0, y1, y2, y3, y4, y5, y6, ys⟩, hy⟩ : ∃ x, ls[i]? = some x := ⟨_, List.getElem?_eq_getElem hi⟩
                have Hget := hid (aget_at Hfit.out.1 hy)
                have Hidx := hid (findIdx_at Hfit.out.1 hy)
                refine (take_ok HB.out i hy Hfit.out.2.2.2).mono ?_
                rintro e w5 ⟨rfl, hst5⟩
                have H5 := hid (HX.out _ _ _ hst5)
                have HA := hid (H5.out.ext ((Mod.refl _ w5).alloc (.cells #[.int .i64 y0, .int .i64 y1, .int .i64 y2, .int .i64 y3, .int .i64 y4, .int .i64 y5, .int .i64 y6, .string ys] 28)))
                have HM1 : Hid (MapAt KI.kv (w5.alloc (.cells #[.int .i64 y0, .int .i64 y1, .int .i64 y2, .int .i64 y3, .int .i64 y4, .int .i64 y5, .int .i64 y6, .string ys] 28)) mb (ls.map ent)) := by obtain ⟨_, _, _, h, _⟩ := HA.out.opened; exact h
                clear hst5 hy q0 q1 q2 q3 q4 q5 q6 q7 q8 q9
                go_wp2_with (first | (at_lookup; refine wpList_lookup_at rfl _ _ 26 false rfl KI Try.underlying26 (zeroRun _) mb _ y0 rfl rfl HM1.out ?_; rw [Hget.out]; simp only [Option.getD_some, Bool.false_eq_true, if_false, Let.cs]) | (refine wpList_delete_at rfl _ _ 26 3 rfl KI Try.underlying26 mb _ y0 rfl rfl HM1.out ?_; intro w7 hat7 hm7; rw [Hidx.out] at hat7; have H7 := hid (HA.out.map hm7 hat7); clear hat7 hm7))
                go_meet
                case rel => exact ⟨ls.eraseIdx i, n, by rw [map_erase]; exact H7.out, by rw [show (1 : Int) + ((k + 1 : Nat) : Int) = 1 + (k : Int) + 1 by omega]; exact Hfit.out.take i⟩
              · refine (take_bad HB.out p (by omega)).mono ?_
                rintro e w5 ⟨rfl, hm5⟩
                have H5 := hid ((HST.out.ext hm5).ext ((Mod.refl _ w5).alloc (.cells #[.int .i64 0, .int .i64 0, .int .i64 0, .int .i64 0, .int .i64 0, .int .i64 0, .int .i64 0, .string ByteArray.empty] 28)))
                clear hm5
                go_wp2_with fail
                go_meet
                case rel => exact ⟨_, _, H5.out, (by rw [show (1 : Int) + ((k + 1 : Nat) : Int) = 1 + (k : Int) + 1 by omega]; exact Hfit.out.same)⟩
            · have c2 : (kd == 2) = false := by simp [h2]
              clear h1 h2 h3
              go_wp2_with fail
              go_meet
              case rel => exact ⟨_, _, HST.out, (by rw [show (1 : Int) + ((k + 1 : Nat) : Int) = 1 + (k : Int) + 1 by omega]; exact Hfit.out.same)⟩
      case rest =>
        obtain ⟨ls', n', hst', hfit'⟩ := hcut
        have HS' := hid hst'
        have HF' := hid hfit'
        clear hst' hfit' q0 q1 q2 q3 q4 q5 q6 q7 q8 q9
        go_wp2_with fail
        go_roundg (gk - 1)
        case measure => omega
        case rel => exact ⟨k + 1, ls', n', by omega, by go_num, HS'.out, HF'.out⟩
    · have c0 : decide ((k : Int) < (os.length : Int)) = false := by simp; omega
      obtain ⟨sb, cb, hb', hmap', _⟩ := hst.opened
      have Hl := hid (list_any hb' (by have := hfit.2.2.2; omega))
      have HB' := hid hb'
      have HMap := hid hmap'
      have HST' := hid hst
      have Hfit' := hid hfit
      have hl4 : ls.length ≤ 4096 := hfit.2.2.2
      clear hst hfit hb' hmap'
      go_wp2_with (go_at_call 12; refine Hl.out.mono ?_; rintro e w6 ⟨la, lc, rfl, hown6, hm6, hbk6⟩; have HO6 := hid hown6; have HM6 := hid hm6; clear hown6 hm6 hbk6)
      obtain ⟨wo, rfl⟩ : ∃ wo : World, wo = wr := ⟨_, rfl⟩
      obtain ⟨go, rfl⟩ : ∃ go : Nat, go = gk := ⟨_, rfl⟩
      go_loopg [104] ls.length (fun g c wr => In w6 ls g c wr)
      case atStart => exact ⟨0, Nat.zero_add _, rfl, Mod.refl _ _⟩
      case round =>
        obtain ⟨j, hj, rfl, hm⟩ := hrel
        have hmw := HM6.out.trans hm
        by_cases hjl : j < ls.length
        · obtain ⟨⟨x0, x1, x2, x3, x4, x5, x6, xs⟩, hx⟩ : ∃ x, ls[j]? = some x := ⟨_, List.getElem?_eq_getElem hjl⟩
          obtain ⟨g2, off2, rfl⟩ := own_some HO6.out (by omega)
          obtain ⟨t0, t1, t2, t3, t4, t5, t6, t7⟩ := let_cells (HO6.out.mod hm (fun _ _ h => h)) hx
          have Hget := hid (aget_at Hfit'.out.1 hx)
          have bj : decide ((j : Int) < (ls.length : Int)) = true := by simp; omega
          have i1 : (j : Int) < (ls.length : Int) := by omega
          have HM1 := hid (HMap.out.mod (hmw.trans ((Mod.refl (fun _ => False) wr).alloc (.cells #[.int .i64 x0, .int .i64 x1, .int .i64 x2, .int .i64 x3, .int .i64 x4, .int .i64 x5, .int .i64 x6, .string xs] 28))) (fun h => h))
          have Hin := hid hm
          clear hm hmw hx
          go_wp2_with (at_lookup; refine wpList_lookup_at rfl _ _ 26 false rfl KI Try.underlying26 (zeroRun _) mb _ x0 rfl rfl HM1.out ?_; rw [Hget.out]; simp only [Option.getD_some, Bool.false_eq_true, if_false, Let.cs])
          go_roundg (gk - 1)
          case measure => omega
          case rel => exact ⟨j + 1, by omega, by go_num, Hin.out.alloc _⟩
        · have HBr := hid (HB'.out.mod hmw (fun _ _ h => h))
          have HMr := hid (HMap.out.mod hmw (fun h => h))
          have HKr := hid (HST'.out.kept.then hmw (fun _ _ h => h.elim))
          have bj : decide ((j : Int) < (ls.length : Int)) = false := by simp; omega
          have e1 : ((ls.length : Int) == (ls.length : Int)) = true := by simp
          have el : (ls.map ent).length = ls.length := List.length_map _
          clear hm hmw
          go_wp2_with (first | (go_at_call 15; refine (len_any HBr.out).mono ?_; rintro e w' ⟨rfl, rfl⟩) | (refine wpList_len_at rfl _ 26 rfl Try.underlying26 mb _ rfl HMr.out ?_; rw [el]))
          go_ret
          exact ⟨rfl, HKr.out.below (Nat.le_refl _) (fun _ h => h)⟩

open Go.ChangeShapes Go.WideShapes Go.ChangeAt
theorem own : ownKnob Try.prog.godebug = none := by kernel_rfl
theorem laidOut : laidOutB Try.prog = true := by kernel_rfl

set_option maxRecDepth 100000 in
theorem lifted (os : Os) (started : os.Started) (H : Type) (enc : TypeId × Value → H) :
    ReturnsInHanded {} Try.checked os 3 .any (Rows.busKeepsSpec.pre6 enc Try.prog Try.f3 Rows.busKeepsRow.domain false) (Rows.busKeepsSpec.post enc Try.prog Try.f3 false true false false) := by
  refine returnsInHanded_of_change_sized (C := Try.checked) own started (by kernel_rfl) Try.func3
    (ChangeSpec.witness6 (enc := enc) (C := Try.checked) false ⟨#[], #[.slice none 0 0], []⟩ 8 (by kernel_rfl) (by kernel_rfl) (by kernel_rfl) (by kernel_rfl)) ?_
  intro W base args ds gs before hval0 hW hcnd hsz0 _
  have hsz : (DataW.weightsEach Try.prog (Try.f3.params.toList ++ Rows.busKeepsSpec.plain.varTypes Try.prog) (ds ++ gs)).all (· ≤ reachBytes) = true := hsz0
  clear hsz0
  have hval : ∀ (j : Nat) t v, Try.f3.params[j]? = some t → args[j]? = some v → Value.okWide Try.prog W .any base t v := hval0
  have hW' := hW
  obtain ⟨p, q, hA0, hV, rfl, hfz, hnd⟩ := hW
  have hA : DataW.TrodAll enc Try.prog W 0 (fun _ => true) true Try.f3.params.toList args.toList ds p := hA0
  rw [Try.params3] at hA hval hsz
  obtain ⟨v0, vs0, d0, ds0, p0, q0, hargs, rfl, rfl, h0, r0⟩ := trodAll_cons hA
  obtain ⟨rfl, rfl, rfl⟩ := trodAll_nil r0
  obtain rfl : args = #[v0] := by cases args; simp_all
  obtain ⟨rfl, rfl⟩ := trodVars_none hV
  have lt0 : ∀ x ∈ p0, x.block < W.heap.size := by obtain ⟨m, hm⟩ := h0; exact DataW.trod_lt m _ _ _ hm
  have hsz' : (DataW.weightsEach Try.prog [22] [d0]).all (· ≤ reachBytes) = true := hsz
  obtain ⟨a0, len0, cap0, rfl⟩ := okWide_slice Try.underlying22 (hval 0 22 v0 rfl rfl)
  obtain ⟨os0, rfl, o1, o2, o3, _⟩ := open_ops h0
  have o4 := slice_reach hsz' (j := 0) rfl rfl Try.underlying22 h0
  have o5 : Try.prog.bytesOf 30 = 88 := by kernel_rfl
  rw [o5] at o4
  clear hA0 hval0
  refine (walk W a0 cap0 os0 o1 o2 o3 o4).mono fun e W' ⟨he, bel⟩ => ?_
  subst he
  exact ⟨_, rfl, _, _, _, [], _, [], hW', trodAll_mk1 (shut_bool Try.underlying4 _), (trodAll_cons_mk (Below.trod laidOut (by kernel_rfl) (of_decide_eq_true (by kernel_rfl)) h0 bel lt0) trodAll_mk0), rfl, bel.frame _, fun h => by cases h⟩

theorem over : Rows.busKeepsRow.holds Try.pinned (OpenSpec.ofChange Rows.busKeepsSpec) :=
  OpenClaim.holds_of_wide 3 Try.f3 rfl rfl rfl rfl rfl rfl rfl ⟨rfl, rfl, rfl, rfl, rfl⟩ rfl rfl rfl rfl rfl (by kernel_rfl) Try.func3 (by kernel_rfl)
    (of_decide_eq_true (by kernel_rfl)) (by unfold Func.isWrapper; first | (rw [if_pos (by decide +kernel)]; kernel_rfl) | (rw [if_neg (by decide +kernel)]; exact ⟨rfl, rfl⟩))
    (fun os started H enc _ => lifted os started H enc)

theorem proved : Rows.BusKeepsSaid := over


end BusKeeps

theorem busKeeps_holds : Rows.BusKeepsSaid := BusKeeps.proved
#print axioms busKeeps_holds

end Go.Proofs.Ytppemlofjbblfaa
