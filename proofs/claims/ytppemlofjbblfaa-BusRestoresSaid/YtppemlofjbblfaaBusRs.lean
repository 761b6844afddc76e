/- Whatever list a bus is made of, it is refused as the document says, or it goes on as the document's bus does, for every script; the arguments read afterwards as before. No condition. -/
import Derived.Test.YtppemlofjbblfaaRows
import Derived.Test.YtppemlofjbblfaaBusW
import Derived.Test.YtppemlofjbblfaaBusPl
import Derived.Test.YtppemlofjbblfaaBusOpn
import Derived.OpenShut
import Derived.ShutString
namespace Go.Proofs.Ytppemlofjbblfaa
open Go Go.RowKit

namespace BusRestores

def LRel (w : World) (ls : List Let) (v c : Value) (wr : World) : Prop :=
  ∃ (k : Nat) (la : Option Addr) (lc : Nat), k ≤ ls.length ∧ c = .int .i64 k ∧ v = .slice la k lc ∧ Own wr 50 8 la k lc ((ls.take k).flatMap Let.cs) ∧ Mod (fun _ => False) w wr ∧ (∀ j, blk la j → w.heap.size ≤ j)

/-- What a Restore has answered: refused, or a bus. -/
def Ans (T E : TypeId) (w0 : World) (ls : List Let) (next : Int) (p e : Value) (w : World) : Prop :=
  (p = .pointer none ∧ e = .int .i64 2 ∧ okAll next ls = false) ∨
  (∃ b sa cap, p = .pointer (some ⟨b, 0, none⟩) ∧ e = .int .i64 0 ∧ okAll next ls = true ∧ BusAt T E w b sa cap ls next ∧ ∀ k, busF b sa k → w0.heap.size ≤ k)

theorem Ans.ext {T E : TypeId} {w0 w w' : World} {ls : List Let} {next : Int} {p e : Value} (h : Ans T E w0 ls next p e w) (hm : Mod (fun _ => False) w w') : Ans T E w0 ls next p e w' := by
  rcases h with h | ⟨b, sa, cap, h1, h2, h3, h4, h5⟩
  · exact Or.inl h
  · exact Or.inr ⟨b, sa, cap, h1, h2, h3, h4.mod hm (fun _ _ h => h), h5⟩

theorem ans_of {T E : TypeId} {w w' : World} {ls : List Let} {next : Int} {e : Ending} (h : (okAll next ls = true ∧ Restored T E w ls next e w') ∨ (okAll next ls = false ∧ e = .returned (.tuple #[.pointer none, .int .i64 2]) ∧ Mod (fun _ => False) w w')) :
    ∃ p ev, e = .returned (.tuple #[p, ev]) ∧ Ans T E w ls next p ev w' ∧ Mod (fun _ => False) w w' := by
  rcases h with ⟨h0, b, sa, cap, rfl, h1, h2, h3⟩ | ⟨h0, rfl, h1⟩
  · exact ⟨_, _, rfl, Or.inr ⟨b, sa, cap, rfl, rfl, h0, h1, h3⟩, h2⟩
  · exact ⟨_, _, rfl, Or.inl ⟨rfl, rfl, h0⟩, h1⟩

theorem restore_any {w : World} {sa : Option Addr} {cap : Nat} {ls : List Let} (hown : Own w 28 8 sa ls.length cap (ls.flatMap Let.cs)) (next : Int) (hn : ls.length * 72 ≤ 140737488355328) :
    Calls Try.prog 18 #[.int .i64 next, .slice sa ls.length cap] w fun e w' => (okAll next ls = true ∧ Restored 58 28 w ls next e w') ∨ (okAll next ls = false ∧ e = .returned (.tuple #[.pointer none, .int .i64 2]) ∧ Mod (fun _ => False) w w') := by
  by_cases hg : 1 ≤ next ∧ next ≤ 1152921504606846976 ∧ ls.length ≤ 4096
  · have e0 : okAll next ls = okList next 0 ls := by simp [okAll, hg.1, hg.2.1, hg.2.2]
    rw [e0]
    exact restore_in hown next hg.1 hg.2.1 hg.2.2
  · refine (restore_range next (by omega) hn).mono ?_
    rintro e w' ⟨rfl, rfl⟩
    refine Or.inr ⟨?_, rfl, Mod.refl _ _⟩
    simp only [okAll, Bool.and_eq_false_imp, decide_eq_true_eq, decide_eq_false_iff_not]
    intro h1 h2 h3
    exact absurd ⟨h1, h2, h3⟩ hg

theorem rrestore_any {w : World} {sa : Option Addr} {cap : Nat} {ls : List Let} (hown : Own w 50 8 sa ls.length cap (ls.flatMap Let.cs)) (next : Int) (hn : ls.length * 72 ≤ 140737488355328) :
    Calls Try.prog 20 #[.int .i64 next, .slice sa ls.length cap] w fun e w' => (okAll next ls = true ∧ Restored 47 50 w ls next e w') ∨ (okAll next ls = false ∧ e = .returned (.tuple #[.pointer none, .int .i64 2]) ∧ Mod (fun _ => False) w w') := by
  by_cases hg : 1 ≤ next ∧ next ≤ 1152921504606846976 ∧ ls.length ≤ 4096
  · have e0 : okAll next ls = okList next 0 ls := by simp [okAll, hg.1, hg.2.1, hg.2.2]
    rw [e0]
    exact rrestore_in hown next hg.1 hg.2.1 hg.2.2
  · refine (rrestore_range next (by omega) hn).mono ?_
    rintro e w' ⟨rfl, rfl⟩
    refine Or.inr ⟨?_, rfl, Mod.refl _ _⟩
    simp only [okAll, Bool.and_eq_false_imp, decide_eq_true_eq, decide_eq_false_iff_not]
    intro h1 h2 h3
    exact absurd ⟨h1, h2, h3⟩ hg

theorem fit_of_ok {next : Int} {ls : List Let} (h : okAll next ls = true) : Fit next ls next := by
  simp only [okAll, Bool.and_eq_true, decide_eq_true_eq] at h
  exact ⟨h.2.2.2, h.1, Int.le_refl _, h.2.2.1⟩

theorem le_of_ok {next : Int} {ls : List Let} (h : okAll next ls = true) : next ≤ 1152921504606846976 := by
  simp only [okAll, Bool.and_eq_true, decide_eq_true_eq] at h
  exact h.2.1

theorem src_let {w : World} {g off n : Nat} {ls : List Let} {i : Nat} {a0 a1 a2 a3 a4 a5 a6 : Int} {s : ByteArray} (hs : Src w 8 (some ⟨g, off, none⟩) n (ls.flatMap Let.cs)) (hx : ls[i]? = some ⟨a0, a1, a2, a3, a4, a5, a6, s⟩) :
    w.cell? ⟨g, off + i * 8, none⟩ = some (.int .i64 a0) ∧ w.cell? ⟨g, off + i * 8 + 1, none⟩ = some (.int .i64 a1) ∧ w.cell? ⟨g, off + i * 8 + 2, none⟩ = some (.int .i64 a2) ∧ w.cell? ⟨g, off + i * 8 + 3, none⟩ = some (.int .i64 a3) ∧
    w.cell? ⟨g, off + i * 8 + 4, none⟩ = some (.int .i64 a4) ∧ w.cell? ⟨g, off + i * 8 + 5, none⟩ = some (.int .i64 a5) ∧ w.cell? ⟨g, off + i * 8 + 6, none⟩ = some (.int .i64 a6) ∧ w.cell? ⟨g, off + i * 8 + 7, none⟩ = some (.string s) := by
  have hg : ∀ j u, (Let.cs ⟨a0, a1, a2, a3, a4, a5, a6, s⟩)[j]? = some u → w.cell? ⟨g, off + i * 8 + j, none⟩ = some u := by
    intro j u hu
    have hj : j < 8 := (List.getElem?_eq_some_iff.1 hu).1
    have := hs.2.2 _ rfl (i * 8 + j) u (by rw [flat_get Let.len ls i j hj, hx]; exact hu)
    rw [Addr.add_lit, ← Nat.add_assoc] at this
    exact this
  exact ⟨hg 0 _ rfl, hg 1 _ rfl, hg 2 _ rfl, hg 3 _ rfl, hg 4 _ rfl, hg 5 _ rfl, hg 6 _ rfl, hg 7 _ rfl⟩

set_option maxRecDepth 100000 in
set_option maxHeartbeats 2000000 in
theorem walk (W : World) (next : Int) (a1 : Option Addr) (cap1 : Nat) (ls : List Let) (a2 : Option Addr) (cap2 : Nat) (os : List Opr)
    (hs1 : Src W 8 a1 ls.length (ls.flatMap Let.cs)) (hp1 : 0 < ls.length → ∀ x, a1 = some x → x.spot = none) (hl1 : ∀ k, 0 < ls.length → blk a1 k → k < W.heap.size) (hr1 : ls.length * 72 ≤ 140737488351232)
    (hs2 : Src W 10 a2 os.length (os.flatMap Opr.cs)) (hp2 : 0 < os.length → ∀ x, a2 = some x → x.spot = none) (hl2 : ∀ k, 0 < os.length → blk a2 k → k < W.heap.size) (hr2 : os.length * 88 ≤ 140737488351232) :
    Calls Try.prog 6 #[.int .i64 next, .slice a1 ls.length cap1, .slice a2 os.length cap2] W fun e w' => e = .returned (.bool true) ∧ Below W.heap.size W w' := by
  obtain ⟨i0, hi0, hz0, hz1, hz2⟩ := info_parts infoLet
  obtain ⟨j0, hj0, jz0, jz1, jz2⟩ := info_parts infoRLetS
  have S1 := hid hs1
  have S2 := hid hs2
  have P1 := hid hp1
  have L2 := hid hl2
  have P2 := hid hp2
  have Hone := hid (flat_one Let.one ls)
  clear hs1 hs2 hp1 hp2 hl1 hl2
  go_enter Try.func6, Try.ntmps6
  go_wp2_with (at_builtin; refine wpList_append_Own rfl (.const (.slice none 0 0)) (.tmp 16) 35 rfl 28 i0 _ 8 72 Try.underlying35 hi0 hz0 hz1 hz2 rfl none 0 0 [] rfl (Own.nil _ _ _) a1 ls.length cap1 _ rfl S1.out Hone.out (by unfold maxLen; omega) (by omega) ?_; intro sa' cap' w1 hown1 hm1 hb1 hn1 hr1; have Hm1 := hid hm1; have Hown1 := hid hown1; clear hm1 hown1 hb1 hn1 hr1)
  refine (restore_any (by simpa using Hown1.out) next (by omega)).mono ?_
  intro e w2 hc
  obtain ⟨p1, e1, rfl, han, hm2⟩ := ans_of hc
  have HA1 := hid han
  have HM2 := hid ((Mod.refl (fun _ => False) W).then Hm1.out (fun k _ h => (blk_none k h).elim) |>.trans hm2)
  have hsz1 := Hm1.out.size
  clear hc han hm2
  go_wp2_with fail
  go_loopw [9, 23] (fun v c wr => LRel w2 ls v c wr) (fun _ c _ => ls.length - (intOf c).toNat)
  case atStart => exact ⟨0, none, 0, Nat.zero_le _, rfl, rfl, Own.nil _ _ _, Mod.refl _ _, fun j h => (blk_none j h).elim⟩
  case round =>
    obtain ⟨k, la, lc, hk, rfl, rfl, hown, hm, hbk⟩ := hrel
    have Hm := hid hm
    have Hown := hid hown
    have Hbk := hid hbk
    have hsz := hm.size
    by_cases hlt : k < ls.length
    · obtain ⟨⟨x0, x1, x2, x3, x4, x5, x6, xs⟩, hx⟩ : ∃ x, ls[k]? = some x := ⟨_, List.getElem?_eq_getElem hlt⟩
      have hsrc := S1.out.mod (HM2.out.trans hm) (fun _ _ h => h)
      obtain ⟨a, rfl⟩ : ∃ a, a1 = some a := by
        cases a1 with
        | none => have := S1.out.2.1 rfl; omega
        | some a => exact ⟨a, rfl⟩
      obtain ⟨g, off, sp⟩ := a
      have hsp := P1.out (by omega) _ rfl
      simp only at hsp
      subst hsp
      obtain ⟨q0, q1, q2, q3, q4, q5, q6, q7⟩ := src_let hsrc hx
      have Hx := hid hx
      have Hone1 := hid (Let.one ⟨x0, x1, x2, x3, x4, x5, x6, xs⟩)
      clear hown hm hbk hsrc hx
      have hk63 : k + 1 ≤ maxLen := by unfold maxLen; omega
      have hkb : (k + 1) * 72 ≤ 140737488355328 := by omega
      go_wp2_with (first | (go_at_call 19; refine (ref_any _ _ _ _ _ _ _ _ _).mono ?_; rintro e w3 ⟨rfl, hm3⟩; have M3 := hid (((Mod.refl (fun _ => False) wr).alloc _).trans hm3); have Ho3 := hid ((Hown.out.mod M3.out (fun _ _ h => h)).mod ((Mod.refl (fun _ => False) w3).alloc (.cells #[.int .i64 x0, .int .i64 x1, .int .i64 x2, .int .i64 x3, .int .i64 x4, .int .i64 x5, .int .i64 x6, .string xs] 50)) (fun _ _ h => h)); have Hs3 := hid (src_new (size := 8) (m := 1) (heap_alloc_new w3 (.cells #[.int .i64 x0, .int .i64 x1, .int .i64 x2, .int .i64 x3, .int .i64 x4, .int .i64 x5, .int .i64 x6, .string xs] 50)) rfl); clear hm3) | (at_builtin; refine wpList_append_Own rfl (.tmp 27) (.tmp 30) 45 rfl 50 j0 _ 8 72 Try.underlying45 hj0 jz0 jz1 jz2 rfl la k lc _ rfl Ho3.out (some ⟨w3.heap.size, 0, none⟩) 1 1 _ rfl Hs3.out Hone1.out hk63 hkb ?_; intro la' lc' w4 hown4 hm4 hb4 hn4 hr4; have Hm4 := hid hm4; have Hown4 := hid hown4; have Hb4 := hid hb4; clear hm4 hown4 hb4 hn4 hr4))
      go_roundw
      case rel =>
        have hs3 := M3.out.size
        have e2 : ls.take (k + 1) = ls.take k ++ [(⟨x0, x1, x2, x3, x4, x5, x6, xs⟩ : Let)] := by rw [List.take_add_one, Hx.out]; rfl
        refine ⟨k + 1, la', lc', by omega, by go_num, rfl, ?_, ?_, ?_⟩
        · rw [e2, List.flatMap_append]; exact Hown4.out
        · exact ((Hm.out.trans M3.out).alloc _).then Hm4.out (fun j hj h => by have := Hbk.out j h; omega)
        · intro j hj
          rcases Hb4.out j hj with h | h
          · exact Hbk.out j h
          · simp at h; omega
      case measure => simp [intOf]; omega
    · have hkn : k = ls.length := by omega
      have ht : ls.take k = ls := by rw [hkn, List.take_length]
      rw [ht] at hown
      subst hkn
      have Hc := hid (rrestore_any hown next (by omega))
      clear hown hm hbk ht
      go_wp2_with (go_at_call 20; refine Hc.out.mono ?_; intro e w5 hc; obtain ⟨p2, e2, rfl, han, hm5⟩ := ans_of hc; have HA2 := hid han; have HM5 := hid hm5; clear hc han hm5)
      refine (wakes_yes _).mono ?_
      rintro e w6 ⟨rfl, hm6⟩
      have hw5 := Hm.out.size
      have hw6 := HM5.out.size
      have hw7 := hm6.size
      have hW2 := HM2.out.size
      have han1 := HA1.out
      have han2 := HA2.out.ext hm6
      have HM6 := hid (((HM2.out.trans Hm.out).trans HM5.out).trans hm6)
      have HMn := hid ((Hm.out.trans HM5.out).trans hm6)
      clear hm6
      rcases han1 with ⟨rfl, rfl, hn1⟩ | ⟨b, sb, cb, rfl, rfl, hn1, hat1, hF1⟩ <;> rcases han2 with ⟨rfl, rfl, hn2⟩ | ⟨r, sr, cr, rfl, rfl, hn2, hat2, hF2⟩
      · clear hn1 hn2
        have c1 : ((2 : Int) != 2) = false := by decide
        have c2 : ((2 : Int) != 0) = true := by decide
        go_wp2
        go_ret
        exact ⟨rfl, (HM6.out.mono fun _ _ h => h.elim : Mod (fun k => W.heap.size ≤ k) W w6).below (Nat.le_refl _) (fun _ h => h)⟩
      · exact absurd (hn1.symm.trans hn2) (by decide)
      · exact absurd (hn2.symm.trans hn1) (by decide)
      · have hat0 := hat1.mod HMn.out (fun _ _ h => h)
        have hT : Two w6 (fun k => busF b sb k ∨ busF r sr k) w6 b sb cb ls next r sr cr ls next :=
          ⟨hat0, hat2, fun k h1 h2 => by have := hF2 k h2; have := hat1.lt k h1; omega, fun k h => Or.inl (Or.inl h), fun k h => Or.inl (Or.inr h), Mod.refl _ _⟩
        have hFF : ∀ k, busF b sb k ∨ busF r sr k → W.heap.size ≤ k := by
          rintro k (h | h)
          · have := hF1 k h; omega
          · have := hF2 k h; omega
        have HFF := hid hFF
        have HT := hid hT
        have Hok := hid hn1
        clear hn1 hn2 hat0 hat1 hat2 hF1 hF2 hT hFF
        have c1 : ((0 : Int) != 0) = false := by decide
        go_wp2_with fail
        refine (alike_yes HT.out.bus HT.out.ref (fit_of_ok Hok.out).2.2.2).mono ?_
        rintro e w7 ⟨rfl, hm7⟩
        have HT7 := hid (HT.out.ext hm7)
        have HM7 := hid (HM6.out.trans hm7)
        have hw8 := hm7.size
        clear hm7
        go_wp2_with fail
        have hT7 : Two w7 (fun k => busF b sb k ∨ busF r sr k) w7 b sb cb ls next r sr cr ls next := ⟨HT7.out.bus, HT7.out.ref, HT7.out.dis, fun k h => Or.inl (Or.inl h), fun k h => Or.inl (Or.inr h), Mod.refl _ _⟩
        refine (play_yes hT7 (fit_of_ok Hok.out) (by have := le_of_ok Hok.out; omega) (S2.out.mod HM7.out (fun _ _ h => h)) P2.out (fun h0 k hk h => by have := L2.out k h0 hk; have := HFF.out k h; omega)).mono ?_
        rintro e w8 ⟨rfl, hans⟩
        have HAn := hid hans
        clear hans hT7
        go_wp2
        go_ret
        obtain ⟨_, _, _, _, _, _, _, hT, _⟩ := HAn.out
        refine ⟨rfl, ?_⟩
        have : Mod (fun k => W.heap.size ≤ k) W w8 := (HM7.out.mono fun _ _ h => h.elim).then hT.mod (fun k _ h => HFF.out k h)
        exact this.below (Nat.le_refl _) (fun k h => h)

open Go.ChangeShapes Go.WideShapes Go.ChangeAt
theorem own : ownKnob Try.prog.godebug = none := by kernel_rfl
theorem laidOut : laidOutB Try.prog = true := by kernel_rfl

set_option maxRecDepth 100000 in
theorem lifted (os : Os) (started : os.Started) (H : Type) (enc : TypeId × Value → H) :
    ReturnsInHanded {} Try.checked os 6 .any (Rows.busRestoresSpec.pre6 enc Try.prog Try.f6 Rows.busRestoresRow.domain false) (Rows.busRestoresSpec.post enc Try.prog Try.f6 false true false false) := by
  refine returnsInHanded_of_change_sized (C := Try.checked) own started (by kernel_rfl) Try.func6
    (ChangeSpec.witness6 (enc := enc) (C := Try.checked) false ⟨#[], #[.int .i64 0, .slice none 0 0, .slice none 0 0], []⟩ 8 (by kernel_rfl) (by kernel_rfl) (by kernel_rfl) (by kernel_rfl)) ?_
  intro W base args ds gs before hval0 hW hcnd hsz0 _
  have hsz : (DataW.weightsEach Try.prog (Try.f6.params.toList ++ Rows.busRestoresSpec.plain.varTypes Try.prog) (ds ++ gs)).all (· ≤ reachBytes) = true := hsz0
  clear hsz0
  have hval : ∀ (j : Nat) t v, Try.f6.params[j]? = some t → args[j]? = some v → Value.okWide Try.prog W .any base t v := hval0
  have hW' := hW
  obtain ⟨p, q, hA0, hV, rfl, hfz, hnd⟩ := hW
  have hA : DataW.TrodAll enc Try.prog W 0 (fun _ => true) true Try.f6.params.toList args.toList ds p := hA0
  rw [Try.params6] at hA hval hsz
  obtain ⟨v0, vs0, d0, ds0, p0, q0, hargs, rfl, rfl, h0, r0⟩ := trodAll_cons hA
  obtain ⟨v1, vs1, d1, ds1, p1, q1, rfl, rfl, rfl, h1, r1⟩ := trodAll_cons r0
  obtain ⟨v2, vs2, d2, ds2, p2, q2, rfl, rfl, rfl, h2, r2⟩ := trodAll_cons r1
  obtain ⟨rfl, rfl, rfl⟩ := trodAll_nil r2
  obtain rfl : args = #[v0, v1, v2] := by cases args; simp_all
  obtain ⟨rfl, rfl⟩ := trodVars_none hV
  have lt0 : ∀ x ∈ p0, x.block < W.heap.size := by obtain ⟨m, hm⟩ := h0; exact DataW.trod_lt m _ _ _ hm
  have lt1 : ∀ x ∈ p1, x.block < W.heap.size := by obtain ⟨m, hm⟩ := h1; exact DataW.trod_lt m _ _ _ hm
  have lt2 : ∀ x ∈ p2, x.block < W.heap.size := by obtain ⟨m, hm⟩ := h2; exact DataW.trod_lt m _ _ _ hm
  have hsz' : (DataW.weightsEach Try.prog [3, 35, 22] [d0, d1, d2]).all (· ≤ reachBytes) = true := hsz
  obtain ⟨n0, rfl, _, _, _⟩ := open_int Try.underlying3 (hval 0 3 v0 rfl rfl) h0
  obtain ⟨a1, len1, cap1, rfl⟩ := okWide_slice Try.underlying35 (hval 1 35 v1 rfl rfl)
  obtain ⟨a2, len2, cap2, rfl⟩ := okWide_slice Try.underlying22 (hval 2 22 v2 rfl rfl)
  obtain ⟨ls1, rfl, o1, o2, o3, o4, o5⟩ := open_lets h1
  obtain ⟨os2, rfl, u1, u2, u3, u4, u5⟩ := open_ops h2
  have o6 := slice_reach hsz' (j := 1) rfl rfl Try.underlying35 h1
  have u6 := slice_reach hsz' (j := 2) rfl rfl Try.underlying22 h2
  have hby : Try.prog.bytesOf 30 = 88 := by kernel_rfl
  have hbl : Try.prog.bytesOf 28 = 72 := by kernel_rfl
  rw [hbl] at o6
  rw [hby] at u6
  clear hA0 hval0
  refine (walk W n0 a1 cap1 ls1 a2 cap2 os2 o1 o2 o3 o6 u1 u2 u3 u6).mono fun e W' ⟨he, bel⟩ => ?_
  subst he
  exact ⟨_, rfl, _, _, _, [], _, [], hW', trodAll_mk1 (shut_bool Try.underlying4 _), (trodAll_cons_mk (Below.trod laidOut (by kernel_rfl) (of_decide_eq_true (by kernel_rfl)) h0 bel lt0) (trodAll_cons_mk (Below.trod laidOut (by kernel_rfl) (of_decide_eq_true (by kernel_rfl)) h1 bel lt1) (trodAll_cons_mk (Below.trod laidOut (by kernel_rfl) (of_decide_eq_true (by kernel_rfl)) h2 bel lt2) trodAll_mk0))), rfl, bel.frame _, fun h => by cases h⟩

theorem over : Rows.busRestoresRow.holds Try.pinned (OpenSpec.ofChange Rows.busRestoresSpec) :=
  OpenClaim.holds_of_wide 6 Try.f6 rfl rfl rfl rfl rfl rfl rfl ⟨rfl, rfl, rfl, rfl, rfl⟩ rfl rfl rfl rfl rfl (by kernel_rfl) Try.func6 (by kernel_rfl)
    (of_decide_eq_true (by kernel_rfl)) (by unfold Func.isWrapper; first | (rw [if_pos (by decide +kernel)]; kernel_rfl) | (rw [if_neg (by decide +kernel)]; exact ⟨rfl, rfl⟩))
    (fun os started H enc _ => lifted os started H enc)

theorem proved : Rows.BusRestoresSaid := over


end BusRestores

theorem busRestores_holds : Rows.BusRestoresSaid := BusRestores.proved
#print axioms busRestores_holds

end Go.Proofs.Ytppemlofjbblfaa
