/- The walk of JournalCosts -/
import Derived.Test.YtbfdmglmolkloaaDoorJrX
namespace Go.Proofs.YtbfdmglmolkloaaDoor
open Go Go.RowKit

namespace JournalCosts

theorem infoCh : (Tryd.prog.info? 35).map (fun i => (i.zero, i.size, i.bytes)) = some (some (.agg #[.int .i64 0, .string ⟨#[]⟩]), 2, 24) := by kernel_rfl

theorem one_cells (cs : List Chg) : ∀ u ∈ cs.flatMap Chg.cs, u.oneCell' = true := flat_one (f := Chg.cs) (fun x u hu => by
  simp only [Chg.cs, List.mem_cons, List.mem_nil_iff, or_false] at hu
  rcases hu with rfl | rfl <;> rfl) cs

/-- What the commit left. -/
def Left (cs : List Chg) (F : Int × Dsk) : Prop :=
  Lit F.2 20 ∧ 0 < F.2.secs.length ∧ Clear F.2 ∧ ((F.1 ≠ 0 ∧ F.2.writes = 0) ∨ (F.1 = 0 ∧ cs.length = 0 ∧ F.2.writes = 0) ∨ (F.1 = 0 ∧ 0 < cs.length ∧ cs.length ≤ 8 ∧ F.2.writes = 2 * (cs.length : Int) + 2))

theorem left_of (cs : List Chg) : Left cs (commitF 8 cs (newD 40)) := by
  have L := lit_new 40
  have hl : (newD 40).secs.length = 40 := rfl
  have hw : (newD 40).writes = 0 := rfl
  rcases commit_lit L (room := 8) (by decide) cs with ⟨a, b, _⟩ | ⟨a, ⟨rfl, c⟩ | ⟨c, _, d, t⟩⟩
  · refine ⟨by rw [b]; exact L.le (by decide), by rw [b, hl]; decide, by rw [b]; exact clear_new 40, .inl ⟨a, by rw [b, hw]⟩⟩
  · refine ⟨by rw [c]; exact L.le (by decide), by rw [c, hl]; decide, by rw [c]; exact clear_new 40, .inr (.inl ⟨a, rfl, by rw [c, hw]⟩)⟩
  · refine ⟨t.lit.le (by omega), by rw [t.len, hl]; decide, .inr t.head, .inr (.inr ⟨a, ?_, d, by rw [t.writes, hw]; omega⟩)⟩
    exact Nat.pos_of_ne_zero (fun h => c (List.eq_nil_of_length_eq_zero h))

set_option maxRecDepth 100000 in
set_option maxHeartbeats 2000000 in
theorem walk (W : World) (a : Option Addr) (cap : Nat) (cs : List Chg) (hc : ChAt W a cs) (hlt : 0 < cs.length → ∀ k, blk a k → k < W.heap.size) (hl : cs.length * 24 ≤ 140737488351232) :
    Calls Tryd.prog 3 #[.slice a cs.length cap] W fun e w' => e = .returned (.bool true) ∧ Below W.heap.size W w' := by
  obtain ⟨i0, hi, hz0, hz1, hz2⟩ := info_parts infoCh
  have HC := hid hc
  have HLt := hid hlt
  have HLeft := hid (left_of cs)
  have HN := hid (st_new (Mod.refl (fun k => W.heap.size ≤ k) W) 40)
  have hwr : (newD 40).writes = 0 := rfl
  have HO := hid (fun (w : World) (b : Nat) (hs : St W w b (newD 40)) => js_open (room := 8) hs (lit_new 40) (by decide) (by decide) (by decide) (by decide) (clear_new 40))
  have HCm := hid (fun (w : World) (b j : Nat) (sa ga : Option Addr) (gc : Nat) (hj : JS W w b sa j 8 (newD 40)) (hca : ChAt w ga cs) (hap : 0 < cs.length → ∀ k, blk ga k → ¬ diskF b sa k) => hj.commit (lit_new 40).b (by decide) (by decide) gc hca hap (by unfold maxLen; omega))
  generalize commitF 8 cs (newD 40) = F at *
  generalize newD 40 = D at *
  have hn : cs.length ≤ 5864062014800 := by omega
  have hb24 : cs.length * 24 ≤ 140737488355328 := by omega
  clear hc hlt hl
  go_enter Tryd.func3, Tryd.ntmps3
  go_wp2_with fail
  refine HN.out.mono ?_
  rintro e w1 ⟨b, rfl, hs⟩
  have HS := hid hs
  clear hs
  go_wp2_with fail
  refine (HO.out w1 b HS.out).mono ?_
  rintro e w2 ⟨j, rfl, hs⟩
  have HJ := hid hs
  clear hs
  go_wp2_with fail
  refine (jread_none w2 0).mono ?_
  rintro e w3 ⟨rfl, rfl⟩
  go_wp2_with fail
  refine (open_none w2 8).mono ?_
  rintro e w3 ⟨rfl, rfl⟩
  go_wp2_with fail
  refine (wakes_yes w2).mono ?_
  rintro e w3 ⟨rfl, hm⟩
  obtain ⟨sa, hjs⟩ := (HJ.out.ext hm).js
  have HJ3 := hid hjs
  clear hm hjs
  go_wp2_with fail
  refine (commit_none w3 _).mono ?_
  rintro e w4 ⟨rfl, rfl⟩
  go_wp2_with fail
  refine (jlen_none w3).mono ?_
  rintro e w4 ⟨rfl, rfl⟩
  go_wp2_with fail
  refine (HJ3.out.writes).mono ?_
  rintro e w4 ⟨rfl, rfl⟩
  rw [hwr]
  have HSr : Hid (Src w3 2 a cs.length (cs.flatMap Chg.cs)) := hid (HC.out.l.old HJ3.out.m (fun k h => h)).src
  have HOne := hid (one_cells cs)
  go_wp2_with (at_builtin; refine wpList_append_Own rfl (.const (.slice none 0 0)) (.tmp 60) 22 rfl 35 i0 _ 2 24 Tryd.underlying22 hi hz0 hz1 hz2 rfl none 0 0 [] rfl (Own.nil _ _ _) a cs.length cap (cs.flatMap Chg.cs) rfl HSr.out HOne.out (by unfold maxLen; omega) (by rw [Nat.zero_add]; exact hb24) ?_; intro ga gc w4 hown hm4 hb4 _ _; simp only [Nat.zero_add, List.nil_append] at hown; have HOg := hid hown; have HM4 : Hid (Mod (fun _ => False) w3 w4) := hid (hm4.mono (fun k _ h => (blk_none k h).elim)); have HB4 := hid hb4; clear hown hm4 hb4; rw [Nat.zero_add])
  have HJ4 := hid (HJ3.out.ext HM4.out)
  have HGd : Hid (∀ k, blk ga k → ¬ diskF b sa k) := hid (fun k hk hf => by
    have h3 := HJ3.out.d.lt k hf
    rcases HB4.out k hk with h | h
    · exact (blk_none k h).elim
    · omega)
  have HCg : Hid (ChAt w4 ga cs) := hid ⟨HOg.out.lies, HC.out.s, HC.out.p⟩
  refine (HCm.out w4 b j sa ga gc HJ4.out HCg.out (fun _ => HGd.out)).mono ?_
  rintro e w5 ⟨rfl, hj, hm⟩
  have HJ5 := hid hj
  have HG5 := hid (HCg.out.mod hm (fun _ => HGd.out))
  have HA5 := hid (HC.out.l.old HJ5.out.m (fun k h => h))
  have HW5 := hid (fun (w : World) (hj : JS W w b sa j 8 F.2) => hj.writes)
  clear hj hm
  go_wp2_with fail
  refine (HW5.out w5 HJ5.out).mono ?_
  rintro e w6 ⟨rfl, rfl⟩
  go_wp2_with fail
  go_loopw [69] (fun c wr => ∃ k : Nat, k ≤ cs.length ∧ c = .int .i64 (k : Int) ∧ Mod (fun _ => False) w5 wr) (fun c _ => cs.length - (intOf c).toNat)
  case atStart => exact ⟨0, Nat.zero_le _, rfl, Mod.refl _ _⟩
  case round =>
    obtain ⟨k, hk, rfl, hm⟩ := hrel
    have HM := hid hm
    clear hm
    by_cases hlk : k < cs.length
    · obtain ⟨x, hx⟩ : ∃ x, cs[k]? = some x := ⟨_, List.getElem?_eq_getElem hlk⟩
      have hga := HG5.out.l.ext HM.out
      have haa := HA5.out.ext HM.out
      obtain ⟨g1, o1, rfl⟩ := hga.some (by omega)
      obtain ⟨g2, o2, rfl⟩ := haa.some (by omega)
      have q0 := hga.cell chg_len hx (j := 0) rfl
      have q1 := hga.cell chg_len hx (j := 1) rfl
      have p0 := haa.cell chg_len hx (j := 0) rfl
      have p1 := haa.cell chg_len hx (j := 1) rfl
      simp only [Nat.add_zero] at q0 p0
      obtain ⟨pos, data⟩ := x
      simp only at q0 q1 p0 p1
      clear hx hga haa
      go_wp2_with fail
      go_quiet (fail)
      go_wp2_with fail
      go_roundw
      case rel => exact ⟨k + 1, by omega, by go_num, HM.out.trans ((Mod.refl _ _).drewN _)⟩
      case measure => simp [intOf]; omega
    · have hke : k = cs.length := by omega
      subst hke
      have HJr := hid (HJ5.out.ext HM.out)
      obtain ⟨l1, l2, l3, l4⟩ := HLeft.out
      have HLi := hid l1
      have HCl := hid l3
      rcases l4 with ⟨f1, f2⟩ | ⟨f1, f2, f3⟩ | ⟨f1, f2, f3, f4⟩
      · have f0 : (F.1 == 0) = false := by simpa using f1
        have f0' : (F.1 != 0) = true := by simpa using f1
        clear f1
        go_wp2_with fail
        go_ret
        exact ⟨rfl, HJr.out.st.below⟩
      · have f0 : (F.1 == 0) = true := by simpa using f1
        have f0' : (F.1 != 0) = false := by simpa using f1
        clear f1
        have e0 : ((cs.length : Int) == 0) = true := by rw [beq_iff_eq]; omega
        go_wp2_with fail
        go_ret
        exact ⟨rfl, HJr.out.st.below⟩
      · have f0 : (F.1 == 0) = true := by simpa using f1
        have f0' : (F.1 != 0) = false := by simpa using f1
        have HOp := hid (HJr.out.open HLi.out (by decide) (by decide) (by decide) l2 HCl.out)
        have e0 : ((cs.length : Int) == 0) = false := by rw [beq_eq_false_iff_ne]; omega
        clear f1 l1 l2 l3
        go_wp2_with fail
        refine HOp.out.mono ?_
        rintro e w7 ⟨j2, rfl, hj, _⟩
        have HJ7 := hid hj
        clear hj
        go_wp2_with fail
        refine (HJ7.out.writes).mono ?_
        rintro e w8 ⟨rfl, rfl⟩
        go_wp2_with fail
        go_ret
        exact ⟨rfl, HJ7.out.st.below⟩

end JournalCosts
end Go.Proofs.YtbfdmglmolkloaaDoor
