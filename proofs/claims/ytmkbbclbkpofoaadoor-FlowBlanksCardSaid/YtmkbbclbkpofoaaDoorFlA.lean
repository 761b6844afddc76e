/- Flow: after -/
import Derived.Test.YtmkbbclbkpofoaaDoorFlM
namespace Go.Proofs.YtmkbbclbkpofoaaDoor
open Go Go.RowKit

theorem infoStr : (Tryd.prog.info? 9).map (fun i => (i.zero, i.size, i.bytes)) = some (some (.string ⟨#[]⟩), 1, 16) := by kernel_rfl
theorem info_parts {P : Program} {t : TypeId} {z : Option Value} {n m : Nat} (h : (P.info? t).map (fun i => (i.zero, i.size, i.bytes)) = some (z, n, m)) : ∃ i, P.info? t = some i ∧ i.zero = z ∧ i.size = n ∧ i.bytes = m := by
  cases hi : P.info? t with
  | none => rw [hi] at h; cases h
  | some i => rw [hi] at h; cases h; exact ⟨i, rfl, rfl, rfl, rfl⟩

/-- The names behind 'after', or a fault. -/
def AfAns (L : Nat) (a : Option Addr) (w : World) (x : Rs (List ByteArray)) (e : Ending) (w' : World) : Prop :=
  Mod (fun k => k = L) w w' ∧
    match x with
    | .ok l r => (∃ la cap, e = .returned (.slice la l.length cap) ∧ Own w' 9 1 la l.length cap (l.flatMap strI) ∧ ∀ k, blk la k → w.heap.size ≤ k) ∧ l.length ≤ 4096 ∧ ∃ a1 c1, Ln w' L a1 c1 r ∧ ∀ k, blk a1 k → blk a k
    | .bad n => e = fault n

def lenOf : Value → Nat
  | .slice _ n _ => n
  | _ => 0

theorem after_no {fs : Fs} (h : hasB wAfter fs = false) : afterP fs = .ok [] fs := by unfold afterP; rw [if_neg (by rw [h]; exact Bool.false_ne_true)]
theorem after_nil {fs : Fs} (h : hasB wAfter fs = true) (h2 : fs.drop 1 = []) : afterP fs = .bad 100 := by unfold afterP; rw [if_pos h, if_pos h2]
theorem after_bad {fs : Fs} {s : ByteArray} (h : hasB wAfter fs = true) (h2 : s ∈ fs.drop 1) (h3 : wordS s = false) : afterP fs = .bad 100 := by
  unfold afterP
  rw [if_pos h, if_neg (fun e => by rw [e] at h2; cases h2), if_neg]
  intro ha
  rw [List.all_eq_true] at ha
  have := ha s h2
  rw [h3] at this
  cases this
theorem after_ok {fs : Fs} (h : hasB wAfter fs = true) (h2 : 0 < (fs.drop 1).length) (h3 : ∀ s ∈ fs.drop 1, wordS s = true) : afterP fs = .ok (fs.drop 1) [] := by
  unfold afterP
  rw [if_pos h, if_neg (fun e => by rw [e] at h2; exact absurd h2 (Nat.lt_irrefl _)), if_pos (List.all_eq_true.2 h3)]
theorem hasR_true {k : ByteArray} {fs : Fs} (h : hasB k fs = true) : hasR k fs = fs.drop 1 := if_pos h
theorem hasR_false {k : ByteArray} {fs : Fs} (h : hasB k fs = false) : hasR k fs = fs := if_neg (by rw [h]; exact Bool.false_ne_true)

/-- The loop over the names. -/
structure ALoop (w wr : World) (L : Nat) (a : Option Addr) (all done rest : Fs) (la : Option Addr) (cap : Nat) : Prop where
  cut : all = done ++ rest
  good : ∀ s ∈ done, wordS s = true
  own : Own wr 9 1 la done.length cap (done.flatMap strI)
  new : ∀ k, blk la k → w.heap.size ≤ k
  mod : Mod (fun k => k = L) w wr
  ln : ∃ a1 c1, Ln wr L a1 c1 rest ∧ ∀ k, blk a1 k → blk a k

set_option maxRecDepth 100000 in
set_option maxHeartbeats 4000000 in
theorem after_any {w : World} {L c : Nat} {a : Option Addr} {fs : Fs} (h : Ln w L a c fs) : Calls Tryd.prog 41 #[.pointer (some ⟨L, 0, none⟩)] w fun e w' => AfAns L a w (afterP fs) e w' := by
  obtain ⟨i0, hi0, hz0, hz1, hz2⟩ := info_parts infoStr
  have HH := hid (has_any wAfter h)
  have hlen := h.len
  have hLt := lt_of_heap h.box
  have hLA := fun k h0 hk => h.lies.lt k h0 hk
  unfold wAfter at HH
  clear h
  cases hb : hasB wAfter fs with
  | false =>
    have HV := hid (after_no hb)
    have HR := hid (hasR_false hb)
    unfold wAfter at hb HR
    rw [hb, HR.out] at HH
    rw [HV.out]
    clear hb
    go_enter Tryd.func41, Tryd.ntmps41
    go_wp2_with (go_at_call 27; refine HH.out.mono ?_; rintro e w1 ⟨rfl, a1, c1, hm, hl, hbk⟩; have HM := hid hm; have HL := hid hl; have HBk := hid hbk; clear hm hl hbk)
    go_ret
    exact ⟨HM.out, ⟨none, 0, rfl, Own.nil _ _ _, fun k hk => (blk_none k hk).elim⟩, Nat.zero_le _, a1, c1, HL.out, HBk.out⟩
  | true =>
    have HV := hid hb
    have HR := hid (hasR_true hb)
    unfold wAfter at hb HR
    rw [hb, HR.out] at HH
    have hd0 : (fs.drop 1).length ≤ 4096 := by rw [List.length_drop]; omega
    have HA0 : Hid (∀ k, blk a k → k < w.heap.size) := hid (fun k hk => hLA k (by cases fs with | nil => cases hb | cons _ _ => exact Nat.succ_pos _) hk)
    have HO := hid (fun h2 h3 => after_ok HV.out h2 h3)
    have HB := hid (fun s h2 h3 => after_bad (s := s) HV.out h2 h3)
    have HN := hid (after_nil HV.out)
    clear hb HV HR hlen hLA
    generalize fs.drop 1 = r at *
    obtain ⟨x, hx⟩ : ∃ x, afterP fs = x := ⟨_, rfl⟩
    rw [hx] at HO HB HN
    rw [hx]
    clear hx
    cases r with
    | nil =>
      obtain rfl := HN.out rfl
      go_enter Tryd.func41, Tryd.ntmps41
      go_wp2_with (first
        | (go_at_call 27; refine HH.out.mono ?_; rintro e w1 ⟨rfl, a1, c1, hm, hl, _⟩; have HM := hid hm; have HL := hid (word_any hl); clear hm hl)
        | (go_at_call 28; refine HL.out.mono ?_; rintro e w2 ⟨hm2, he⟩; have HM2 := hid (HM.out.trans hm2); simp only [wordP, nextP, fault] at he; subst he; clear hm2))
      exact ⟨rfl, HM2.out, rfl⟩
    | cons s t =>
      simp only [List.length_cons] at hd0
      cases hw : wordS s with
      | false =>
        obtain rfl := HB.out s List.mem_cons_self hw
        have HW : Hid (wordP (s :: t) = .bad 100) := hid (next_bad hw)
        clear hw
        go_enter Tryd.func41, Tryd.ntmps41
        go_wp2_with (first
          | (go_at_call 27; refine HH.out.mono ?_; rintro e w1 ⟨rfl, a1, c1, hm, hl, _⟩; have HM := hid hm; have HL := hid (word_any hl); rw [HW.out] at HL; clear hm hl)
          | (go_at_call 28; refine HL.out.mono ?_; rintro e w2 ⟨hm2, he⟩; have HM2 := hid (HM.out.trans hm2); simp only [fault] at he; subst he; clear hm2))
        exact ⟨rfl, HM2.out, rfl⟩
      | true =>
        have HW : Hid (wordP (s :: t) = .ok s t) := hid (next_ok hw)
        have HWs := hid hw
        clear hw
        go_enter Tryd.func41, Tryd.ntmps41
        go_upto_region 3 with (go_at_call 27; refine HH.out.mono ?_; rintro e w1 ⟨rfl, a1, c1, hm, hl, hbk⟩; have HM := hid hm; have HL := hid (word_any hl); rw [HW.out] at HL; have HBk := hid hbk; clear hm hl hbk)
        go_wp2_with (go_at_call 28; refine HL.out.mono ?_; rintro e w2 ⟨hm2, rfl, hl2⟩; have HM2 := hid (HM.out.trans hm2); have HL2 := hid hl2; clear hm2 hl2)
        have HS : Hid (Own (w2.alloc (.cells #[.string s] 9)) 9 1 (some ⟨w2.heap.size, 0, none⟩) 1 1 [.string s]) := hid ⟨rfl, Nat.le_refl _, by unfold maxLen; omega, .inr ⟨_, 0, _, rfl, heap_alloc_new _ _, by simp, rfl⟩⟩
        have HM3 := hid (HM2.out.alloc (.cells #[.string s] 9))
        have HL3 : Hid (∃ a1 c1, Ln (w2.alloc (.cells #[.string s] 9)) L a1 c1 t ∧ ∀ k, blk a1 k → blk a k) := hid (by
          obtain ⟨a2, c2, hl2, hb2⟩ := HL2.out
          exact ⟨a2, c2, hl2.ext ((Mod.refl _ _).alloc _), fun k hk => HBk.out k (hb2 k hk)⟩)
        have HSz := hid HM2.out.size
        generalize w2.alloc (.cells #[.string s] 9) = V at *
        go_loopw [3] (fun so wr => ∃ (done rest : Fs) (la : Option Addr) (cap : Nat), so = .slice la done.length cap ∧ ALoop w wr L a (s :: t) done rest la cap) (fun so _ => (s :: t).length - lenOf so)
        case atStart => exact ⟨[s], t, some ⟨w2.heap.size, 0, none⟩, 1, rfl, ⟨rfl, fun x hx => by rw [List.mem_singleton] at hx; subst hx; exact HWs.out, HS.out, fun k hk => by rw [blk_some] at hk; subst hk; exact HSz.out, HM3.out, HL3.out⟩⟩
        case round =>
          obtain ⟨done, rest, la, cap, rfl, hd⟩ := hrel
          have HD := hid hd
          obtain ⟨a4, c4, hl4, hb4⟩ := hd.ln
          have HB4 := hid hb4
          have hall := hd.cut
          clear hd hb4
          cases rest with
          | nil =>
            obtain ⟨b0, _⟩ := row1 hl4.box
            have HL4 := hid hl4
            simp only [List.length_nil] at b0
            rw [List.append_nil] at hall
            obtain rfl := HO.out (Nat.succ_pos _) (fun x hx => HD.out.good x (by rw [← hall]; exact hx))
            have HAll := hid hall
            clear hl4 hall
            go_wp2
            go_ret
            rw [HAll.out]
            exact ⟨HD.out.mod, ⟨la, cap, rfl, HD.out.own, HD.out.new⟩, by rw [← HAll.out]; simp only [List.length_cons]; omega, a4, c4, HL4.out, HB4.out⟩
          | cons s2 t2 =>
            obtain ⟨g4, o4, ha4, b0, _, q0⟩ := hl4.open
            have HWd := hid (word_any hl4)
            have hl0 := hl4.len
            have hle : done.length + 1 ≤ (s :: t).length := by rw [hall]; simp
            have hmem : s2 ∈ s :: t := by rw [hall]; simp
            simp only [List.length_cons] at hl0 hle
            cases hw2 : wordS s2 with
            | false =>
              obtain rfl := HB.out s2 hmem hw2
              rw [show wordP (s2 :: t2) = .bad 100 from next_bad hw2] at HWd
              clear hl4 hall hw2
              go_wp2_with (go_at_call 28; refine HWd.out.mono ?_; rintro e w5 ⟨hm5, he⟩; have HM5 := hid (HD.out.mod.trans hm5); simp only [fault] at he; subst he; clear hm5)
              exact ⟨rfl, HM5.out, rfl⟩
            | true =>
              rw [show wordP (s2 :: t2) = .ok s2 t2 from next_ok hw2] at HWd
              have HW2 := hid hw2
              have HAll := hid hall
              clear hl4 hall hw2
              go_upto_region 5 with fail
              clear b0 q0
              go_wp2_with (first
                | (go_at_call 28; refine HWd.out.mono ?_; rintro e w5 ⟨hm5, rfl, hl5⟩; have HM5 := hid (HD.out.mod.trans hm5); have HL5 := hid hl5; have HOa := hid ((HD.out.own.mod hm5 (fun k hk e => by have := HD.out.new k hk; omega)).mod (S := fun _ => False) ((Mod.refl _ _).alloc (.cells #[.string s2] 9)) (fun _ _ h => h)); have HSa : Hid (Src (w5.alloc (.cells #[.string s2] 9)) 1 (some ⟨w5.heap.size, 0, none⟩) 1 [.string s2]) := hid (src_new (heap_alloc_new _ _) rfl); have HMa := hid (HM5.out.alloc (.cells #[.string s2] 9)); have HSz5 := hid HM5.out.size; clear hm5 hl5)
                | (at_builtin; refine wpList_append_Own rfl (.tmp 15) (.tmp 18) 38 rfl 9 i0 _ 1 16 Tryd.underlying38 hi0 hz0 hz1 hz2 rfl la done.length cap _ rfl HOa.out (some ⟨w5.heap.size, 0, none⟩) 1 1 _ rfl HSa.out (by intro u hu; simp at hu; subst hu; rfl) (by unfold maxLen; omega) (by omega) ?_; intro la6 cap6 w6 hown hm hb hn hr; have HO6 := hid hown; have HM6 := hid hm; have HB6 := hid hb; clear hown hm hb hn hr))
              go_roundw
              case rel =>
                refine ⟨done ++ [s2], t2, la6, cap6, by rw [List.length_append]; rfl, ⟨by rw [HAll.out, List.append_assoc]; rfl, fun x hx => ?_, ?_, fun j hj => ?_, ?_, ?_⟩⟩
                · rcases List.mem_append.1 hx with h | h
                  · exact HD.out.good x h
                  · rw [List.mem_singleton] at h; subst h; exact HW2.out
                · have := HO6.out
                  rw [List.flatMap_append, List.length_append]
                  simpa [strI] using this
                · rcases HB6.out j hj with h | h
                  · exact HD.out.new j h
                  · have := HSz5.out; have : w5.heap.size ≤ (w5.alloc (.cells #[.string s2] 9)).heap.size := by simp
                    omega
                · exact HMa.out.then HM6.out (fun i hi h => by have := HD.out.new i h; omega)
                · obtain ⟨a5, c5, hl5, hb5⟩ := HL5.out
                  exact ⟨a5, c5, (hl5.ext ((Mod.refl _ _).alloc _)).mod HM6.out (fun h => by have := HD.out.new L h; omega) (fun h0 k hk h => by have := HD.out.new k h; have := HA0.out k (HB4.out k (hb5 k hk)); omega), fun k hk => HB4.out k (hb5 k hk)⟩
              case measure => simp [lenOf]; omega

end Go.Proofs.YtmkbbclbkpofoaaDoor
