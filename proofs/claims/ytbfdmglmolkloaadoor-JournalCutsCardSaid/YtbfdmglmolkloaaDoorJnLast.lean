/- The walk of JournalLast -/
import Derived.Test.YtbfdmglmolkloaaDoorJrX
namespace Go.Proofs.YtbfdmglmolkloaaDoor
open Go Go.RowKit

/-- A commit that came in. -/
structure Cm where
  a : Option Addr
  cap : Nat
  cs : List Chg
def Cm.vs (x : Cm) : List Value := [.slice x.a x.cs.length x.cap]
theorem cm_len (x : Cm) : x.vs.length = 1 := rfl

def CmOk (w : World) (x : Cm) : Prop := ChAt w x.a x.cs ∧ (0 < x.cs.length → ∀ k, blk x.a k → k < w.heap.size) ∧ x.cs.length * 24 ≤ 140737488351232

theorem took_budget {room k : Nat} {cs : List Chg} {D D' : Dsk} (t : Took room cs D D' k) (h : cs.length ≤ room) (m : Nat) (hm : k + 2 * room + 2 ≤ m) : Lit D' m := t.lit.le (by omega)

namespace JournalLast

/-- What holds at every round's head. -/
def Rel (W : World) (b : Nat) (sa : Option Addr) (j nb k : Nat) (wr : World) : Prop :=
  ∃ (D : Dsk) (ws : List ByteArray), JS W wr b sa j 6 D ∧ Lit D (14 * k) ∧ D.secs.length = 30 ∧ Holds 6 D ws ∧ Clear D ∧ Own wr 9 1 (some ⟨nb, 0, none⟩) 23 23 (ws.map .string)

set_option maxRecDepth 100000 in
set_option maxHeartbeats 4000000 in
theorem walk (W : World) (a : Option Addr) (cap : Nat) (ls : List Cm) (hls : Lies W 1 Cm.vs a ls) (hok : ∀ x ∈ ls, CmOk W x) (hl : ls.length * 24 ≤ 140737488351232) :
    Calls Tryd.prog 4 #[.slice a ls.length cap] W fun e w' => e = .returned (.bool true) ∧ Below W.heap.size W w' := by
  obtain ⟨i0, hi, hz0, hzs, hzb⟩ := info_parts info_str
  have HLs := hid hls
  have HOk := hid hok
  have hN := fun (w : World) (hm : Mod (fun k => W.heap.size ≤ k) W w) => st_new hm 30
  have HO := hid (fun (w : World) (b : Nat) (hs : St W w b (newD 30)) => js_open (room := 6) hs (lit_new 30) (by decide) (by decide) (by decide) (by decide) (clear_new 30))
  have hlen : (newD 30).secs.length = 30 := rfl
  have hjl : jlen 6 (newD 30) = 23 := rfl
  have HJl : Hid (∀ (w : World) (b j : Nat) (sa : Option Addr), JS W w b sa j 6 (newD 30) → Calls Tryd.prog 14 #[.pointer (some ⟨j, 0, none⟩)] w fun e w' => e = .returned (.int .i64 23) ∧ JS W w' b sa j 6 (newD 30) ∧ Mod (fun _ => False) w w') := hid (fun w b j sa hj => by
    have := hj.len (by rw [hlen]; decide) (by decide)
    rw [hjl] at this
    exact this)
  have hh0 := holds_new 6 30
  rw [hjl] at hh0
  have HH0 := hid hh0
  have HL0 := hid (lit_new 30)
  have HC0 := hid (clear_new 30)
  have hmk := fun W : World => run_makeSlice (P := Tryd.prog) W 38 9 i0 (.string ⟨#[]⟩) Tryd.underlying38 hi hz0 .i64 .i64 23 23 (by decide) (Int.le_refl _) (by rw [hzs]; decide) (by rw [hzb]; decide) (by decide)
  rw [hzs] at hmk
  have e8 : (23 : Int).toNat = 23 := rfl
  simp only [e8, Nat.mul_one] at hmk
  have hom := fun w : World => own_made w 23 (by decide)
  have hrl : (List.replicate 23 (⟨#[]⟩ : ByteArray)).length = 23 := rfl
  rw [hrl] at hom
  have HOm := hid hom
  have HN := hid hN
  generalize newD 30 = D0 at *
  clear hls hok hh0 hom hN hjl
  go_enter Tryd.func4, Tryd.ntmps4
  go_wp2_with fail
  refine (wakes_yes W).mono ?_
  rintro e w0 ⟨rfl, hm⟩
  have HM0 := hid (hm.mono (T := fun k => W.heap.size ≤ k) (fun _ _ h => h.elim))
  clear hm
  go_wp2_with fail
  refine (HN.out w0 HM0.out).mono ?_
  rintro e w1 ⟨b, rfl, hs⟩
  have HS := hid hs
  clear hs
  go_wp2_with fail
  refine (HO.out w1 b HS.out).mono ?_
  rintro e w2 ⟨j, rfl, hs⟩
  obtain ⟨sa, hjs⟩ := hs.js
  have HJ := hid hjs
  clear hs hjs
  go_wp2_with fail
  refine (HJl.out w2 b j sa HJ.out).mono ?_
  rintro e w3 ⟨rfl, hj, _⟩
  have HJ3 := hid hj
  clear hj
  go_wp2_with fail
  have hma : Mod (fun _ => False) w3 (w3.alloc (.cells (madeCells #[.string ⟨#[]⟩] 23) 9)) := (Mod.refl _ _).alloc _
  have HJ4 := hid (HJ3.out.ext hma)
  have HO4 := hid (HOm.out w3)
  have hnb : ¬ diskF b sa w3.heap.size := fun hf => by have := HJ3.out.d.lt _ hf; omega
  have hnj : w3.heap.size ≠ j := fun h => by have := HJ3.out.ja.lt; omega
  have hnW : W.heap.size ≤ w3.heap.size := HJ3.out.m.size
  generalize w3.alloc (.cells (madeCells #[.string ⟨#[]⟩] 23) 9) = w4 at *
  generalize w3.heap.size = nb at *
  have HNd : Hid (∀ k, blk (some ⟨nb, 0, none⟩) k → ¬ diskF b sa k) := hid (fun k hk => by rw [blk_some] at hk; rw [← hk]; exact hnb)
  clear hma
  go_loopw [27] (fun c wr => ∃ k : Nat, k ≤ ls.length ∧ c = .int .i64 (k : Int) ∧ Rel W b sa j nb k wr) (fun c _ => ls.length - (intOf c).toNat)
  case atStart => exact ⟨0, Nat.zero_le _, rfl, D0, _, HJ4.out, HL0.out, hlen, HH0.out, HC0.out, HO4.out⟩
  case round =>
    obtain ⟨k, hk, rfl, D, ws, r1, r2, r3, r4, r5, r6⟩ := hrel
    obtain ⟨wo, rfl⟩ : ∃ wo : World, wo = wr := ⟨_, rfl⟩
    have HJr := hid r1
    have HLr := hid r2
    have HHr := hid r4
    have HCr := hid r5
    have HOr := hid r6
    have hD := r3
    have hjl : jlen 6 D = 23 := by unfold jlen; rw [r3]
    have hwl : ws.length = 23 := by rw [r4.1, hjl]
    clear r1 r2 r3 r4 r5 r6
    by_cases hlt : k < ls.length
    · obtain ⟨x, hx⟩ : ∃ x, ls[k]? = some x := ⟨_, List.getElem?_eq_getElem hlt⟩
      obtain ⟨hx1, hx2, hx3⟩ := HOk.out x (List.mem_of_getElem? hx)
      obtain ⟨g, off, rfl⟩ := HLs.out.some (by omega)
      have hc := (HLs.out.old HJr.out.m (fun k h => h)).cell cm_len hx (j := 0) rfl
      simp only [Nat.add_zero, Nat.mul_one] at hc
      obtain ⟨xa, xc, cs⟩ := x
      simp only at hx1 hx2 hx3 hc
      have HX := hid hx1
      have hb1 : 14 * k ≤ 1152921504606846976 := by omega
      have HCm := hid (HJr.out.commit HLr.out.b hb1 (by decide) xc (hx1.mod HJr.out.m (fun h0 k hk h => by have := hx2 h0 k hk; omega)) (fun h0 k hk hf => by have := hx2 h0 k hk; have := HJr.out.f k hf; omega) (by unfold maxLen; omega))
      have hcl := commit_lit HLr.out (room := 6) (by decide) cs
      have hcn : cs.length ≤ 5864062014800 := by omega
      have HTake : Hid (∀ D', (∃ (q : 14 * k = 14 * k), Took 6 cs D D' (14 * k)) → checkL (jlen 6 D) [] cs = 0 → Holds 6 D' (upd ws cs)) := hid (fun D' ⟨_, t⟩ hc => holds_took HHr.out hc t)
      generalize commitF 6 cs D = F at *
      have hcl2 : (F.1 ≠ 0 ∧ F.2 = D) ∨ (F.1 = 0 ∧ (∀ c ∈ cs, 0 ≤ c.pos ∧ c.pos.toNat < 23) ∧ Lit F.2 (14 * (k + 1)) ∧ F.2.secs.length = 30 ∧ Holds 6 F.2 (upd ws cs) ∧ Clear F.2) := by
        rcases hcl with ⟨c1, c2, _⟩ | ⟨c1, ⟨rfl, c3⟩ | ⟨_, c4, c5, c6⟩⟩
        · exact .inl ⟨c1, c2⟩
        · exact .inr ⟨c1, (fun c hcm => by cases hcm), by rw [c3]; exact HLr.out.le (by omega), by rw [c3]; exact hD, by rw [c3]; exact HHr.out, by rw [c3]; exact HCr.out⟩
        · refine .inr ⟨c1, fun c hcm => ?_, took_budget c6 c5 _ (by omega), by rw [c6.len]; exact hD, HTake.out _ ⟨rfl, c6⟩ c4, .inr c6.head⟩
          obtain ⟨z1, z2, _⟩ := (check_zero cs [] c4).1 c hcm
          rw [hjl] at z2
          exact ⟨z1, z2⟩
      clear hcl HTake hx hx1 hx2 hx3
      go_wp2_with fail
      refine HCm.out.mono ?_
      rintro e w5 ⟨rfl, hj5, hm5⟩
      have HJ5 := hid hj5
      have HO5 := hid (HOr.out.mod hm5 HNd.out)
      clear hj5 hm5 hc
      rcases hcl2 with ⟨f1, f2⟩ | ⟨f1, f2, f3, f4, f5, f6⟩
      · have f0 : (F.1 == 0) = false := by simpa using f1
        rw [f2] at HJ5
        clear f1 f2
        have HHo := hid (holds_yes HJ5.out HLr.out (by decide) (cap := 23) (by rw [hwl]; exact HO5.out) HNd.out HHr.out)
        rw [hwl] at HHo
        go_wp2_with fail
        refine HHo.out.mono ?_
        rintro e w6 ⟨rfl, hj6, hm6⟩
        have HJ6 := hid hj6
        have HO6 := hid (HO5.out.mod hm6 HNd.out)
        clear hj6 hm6
        go_wp2_with fail
        go_roundw
        case rel => exact ⟨k + 1, by omega, by go_num, D, ws, HJ6.out, HLr.out.le (by omega), hD, HHr.out, HCr.out, HO6.out⟩
        case measure => simp [intOf]; omega
      · have f0 : (F.1 == 0) = true := by simpa using f1
        have HP := hid f2
        have HF3 := hid f3
        have HF5 := hid f5
        have HF6 := hid f6
        clear f1 f2 f3 f5 f6
        go_wp2_with fail
        go_loopw [37] (fun c wv => ∃ m : Nat, m ≤ cs.length ∧ c = .int .i64 (m : Int) ∧ JS W wv b sa j 6 F.2 ∧ Own wv 9 1 (some ⟨nb, 0, none⟩) 23 23 ((upd ws (cs.take m)).map .string)) (fun c _ => cs.length - (intOf c).toNat)
        case atStart => exact ⟨0, Nat.zero_le _, rfl, HJ5.out, by rw [List.take_zero]; exact HO5.out⟩
        case round =>
          obtain ⟨m, hm, rfl, hj, ho⟩ := hrel
          obtain ⟨wv, rfl⟩ : ∃ wv : World, wv = wr := ⟨_, rfl⟩
          have HJm := hid hj
          have HOv := hid ho
          clear hj ho
          by_cases hml : m < cs.length
          · obtain ⟨y, hy⟩ : ∃ y, cs[m]? = some y := ⟨_, List.getElem?_eq_getElem hml⟩
            have hye : cs[m] = y := by rw [List.getElem?_eq_getElem hml] at hy; exact Option.some.inj hy
            obtain ⟨z1, z2⟩ := HP.out y (List.mem_of_getElem? hy)
            obtain ⟨g2, o2, rfl⟩ := HX.out.l.some (by omega)
            have hcc := HX.out.l.old HJm.out.m (fun k h => h)
            have q0 := hcc.cell chg_len hy (j := 0) rfl
            have q1 := hcc.cell chg_len hy (j := 1) rfl
            simp only [Nat.add_zero] at q0
            have HTk : Hid (upd ws (cs.take (m + 1)) = (upd ws (cs.take m)).set y.pos.toNat y.data) := hid (by rw [List.take_succ_eq_append_getElem hml, hye, upd_snoc])
            obtain ⟨pos, data⟩ := y
            simp only at q0 q1 z1 z2 HTk
            obtain ⟨p, rfl⟩ := Int.eq_ofNat_of_zero_le z1
            have hpn : ((p : Int)).toNat = p := by omega
            rw [hpn] at HTk z2
            obtain ⟨vv, hcell⟩ : ∃ vv, wv.cell? ⟨nb, p, none⟩ = some vv := ⟨_, by have := HOv.out.cell p (by omega); rwa [Nat.zero_add] at this⟩
            have hfz : wv.frozen? ⟨nb, p, none⟩ = false := HOv.out.frozen p
            have hnlt : nb < wv.heap.size := HOv.out.lt _ (blk_some.2 rfl)
            have hst : Mod (fun k => k = nb) wv (wv.setCell ⟨nb, p, none⟩ (.string data)) := Mod.setCell (S := fun k => k = nb) (Mod.refl _ _) (fun _ => rfl) _
            have hma : Mod (fun _ => False) (wv.setCell ⟨nb, p, none⟩ (.string data)) ((wv.setCell ⟨nb, p, none⟩ (.string data)).alloc (.cells #[.int .i64 (p : Int), .string data] 35)) := (Mod.refl _ _).alloc _
            have HJa := hid ((HJm.out.keep hst (fun k h => by omega) (fun k hk h => by subst h; exact hnb hk) (fun h => hnj h.symm)).ext hma)
            have hos := HOv.out.set p (by omega) (.string data)
            rw [Nat.zero_add] at hos
            have HOa := hid (hos.mod hma (fun _ _ h => h))
            clear hy hye hcc hpn hma z1 hst hos
            go_wp2_with fail
            go_roundw
            case rel =>
              refine ⟨m + 1, by omega, by go_num, ?_, ?_⟩
              · exact HJa.out
              · rw [HTk.out, List.map_set]
                exact HOa.out
            case measure => simp [intOf]; omega
          · have hme : m = cs.length := by omega
            subst hme
            have hul : (upd ws cs).length = 23 := by rw [upd_len, hwl]
            have HOe : Hid (Own wv 9 1 (some ⟨nb, 0, none⟩) 23 23 ((upd ws cs).map .string)) := hid (by have := HOv.out; rwa [List.take_length] at this)
            have HHo := hid (holds_yes HJm.out HF3.out (by decide) (cap := 23) (by rw [hul]; exact HOe.out) HNd.out HF5.out)
            rw [hul] at HHo
            go_wp2_with fail
            refine HHo.out.mono ?_
            rintro e w6 ⟨rfl, hj6, hm6⟩
            have HJ6 := hid hj6
            have HO6 := hid (HOe.out.mod hm6 HNd.out)
            clear hj6 hm6
            go_wp2_with fail
            go_roundw
            case rel => exact ⟨k + 1, by omega, by go_num, F.2, upd ws cs, HJ6.out, HF3.out, f4, HF5.out, HF6.out, HO6.out⟩
            case measure => simp [intOf]; omega
    · have hke : k = ls.length := by omega
      subst hke
      have HOp := hid (HJr.out.open HLr.out (by omega) (by decide) (by decide) (by rw [hD]; decide) HCr.out)
      go_wp2_with fail
      refine HOp.out.mono ?_
      rintro e w5 ⟨j2, rfl, hj5, hm5⟩
      have HHo := hid (holds_yes hj5 HLr.out (by decide) (cap := 23) (by rw [hwl]; exact HOr.out.mod hm5 HNd.out) HNd.out HHr.out)
      rw [hwl] at HHo
      clear hj5 hm5
      go_wp2_with fail
      refine HHo.out.mono ?_
      rintro e w6 ⟨rfl, hj6, _⟩
      have HJ6 := hid hj6
      clear hj6
      go_wp2_with fail
      go_ret
      exact ⟨rfl, HJ6.out.st.below⟩

end JournalLast
end Go.Proofs.YtbfdmglmolkloaaDoor
