/- Flow: the document's pieces, fields, isVerb -/
import Derived.Test.YtmkbbclbkpofoaaDoorFlWo
import Derived.Test.YtmkbbclbkpofoaaDoorFlA
import Derived.Test.YtmkbbclbkpofoaaDoorFlFi
import Derived.Test.YtmkbbclbkpofoaaDoorFlQ
namespace Go.Proofs.YtmkbbclbkpofoaaDoor
open Go Go.RowKit

/-- A list of texts in new memory is answered. -/
def PcAns (w : World) (P : Fs) (e : Ending) (w' : World) : Prop :=
  Mod (fun _ => False) w w' ∧ ∃ la cap, e = .returned (.slice la P.length cap) ∧ Own w' 9 1 la P.length cap (P.flatMap strI) ∧ ∀ k, blk la k → w.heap.size ≤ k

/-- Pieces under way: up to i, the last one from f on. -/
structure PcAt (c : UInt8) (l : List UInt8) (i f : Nat) (done : List (List UInt8)) : Prop where
  le : i ≤ l.length + 1
  few : done.length ≤ i
  run : i ≤ l.length → f ≤ i ∧ pieces c l = done ++ pieces c (l.drop f) ∧ ∀ j, f ≤ j → j < i → l[j]? ≠ some c
  fin : l.length < i → pieces c l = done

section
variable {c : UInt8} {l : List UInt8} {i f : Nat} {done : List (List UInt8)}

theorem PcAt.step (h : PcAt c l i f done) (hi : i < l.length) (hc : l[i]? ≠ some c) : PcAt c l (i + 1) f done := by
  obtain ⟨h1, h2, h3⟩ := h.run (by omega)
  refine ⟨by omega, by have := h.few; omega, fun _ => ⟨by omega, h2, fun j hj hji => ?_⟩, fun hh => by omega⟩
  by_cases hje : j = i
  · subst hje; exact hc
  · exact h3 j hj (by omega)

theorem PcAt.free (h : PcAt c l i f done) (hi : i ≤ l.length) : c ∉ (l.drop f).take (i - f) := by
  obtain ⟨h1, _, h3⟩ := h.run hi
  intro hm
  obtain ⟨j, hj⟩ := List.getElem?_of_mem hm
  rw [List.getElem?_take] at hj
  split at hj
  · next hlt =>
    rw [List.getElem?_drop] at hj
    exact h3 (f + j) (by omega) (by omega) hj
  · cases hj

theorem PcAt.cut (h : PcAt c l i f done) (hi : i < l.length) (hc : l[i]? = some c) : PcAt c l (i + 1) (i + 1) (done ++ [(l.drop f).take (i - f)]) := by
  obtain ⟨h1, h2, _⟩ := h.run (by omega)
  have hf := h.free (by omega)
  have hd : l.drop f = (l.drop f).take (i - f) ++ c :: l.drop (i + 1) := by
    have e : (l.drop f).drop (i - f) = c :: l.drop (i + 1) := by
      rw [List.drop_drop, show f + (i - f) = i by omega, List.drop_eq_getElem_cons hi]
      rw [List.getElem?_eq_getElem hi] at hc
      cases hc
      rfl
    rw [← e, List.take_append_drop]
  refine ⟨by omega, by have := h.few; simp; omega, fun _ => ⟨Nat.le_refl _, ?_, fun j h4 h5 => by omega⟩, fun hh => by omega⟩
  rw [h2, List.append_assoc]
  congr 1
  conv => lhs; rw [hd]
  rw [pieces_app, pieces_none c _ hf]

theorem PcAt.last (h : PcAt c l l.length f done) : PcAt c l (l.length + 1) (l.length + 1) (done ++ [(l.drop f).take (l.length - f)]) := by
  obtain ⟨h1, h2, _⟩ := h.run (Nat.le_refl _)
  have hf := h.free (Nat.le_refl _)
  have e : (l.drop f).take (l.length - f) = l.drop f := List.take_of_length_le (by rw [List.length_drop]; exact Nat.le_refl _)
  refine ⟨Nat.le_refl _, by have := h.few; simp; omega, fun hh => by omega, fun _ => ?_⟩
  rw [e] at hf ⊢
  rw [h2, pieces_none c _ hf]
end

theorem ext_ba (s : ByteArray) (f i : Nat) : s.extract f i = ba ((s.data.toList.drop f).take (i - f)) := by
  refine ba_ext ?_
  rw [ba_data]
  simp

set_option maxRecDepth 100000 in
set_option maxHeartbeats 1000000 in
theorem rpieces_any (s : ByteArray) (c : UInt8) (w : World) (hs : s.size ≤ 4096) : Calls Tryd.prog 19 #[.string s, .int .u8 (c.toNat : Int)] w fun e w' => PcAns w ((pieces c s.data.toList).map ba) e w' := by
  obtain ⟨i0, hi0, hz0, hz1, hz2⟩ := info_parts infoStr
  have hlen : s.data.toList.length = s.size := by simp
  have HZ : Hid (PcAt c s.data.toList 0 0 []) := hid ⟨Nat.zero_le _, Nat.le_refl _, fun _ => ⟨Nat.le_refl _, by rw [List.drop_zero]; rfl, fun j _ h => by omega⟩, fun h => by omega⟩
  go_enter Tryd.func19, Tryd.ntmps19
  go_upto_region 4 with fail
  go_loopw [5, 6, 7] (fun so sf si wr => ∃ (i f : Nat) (done : List (List UInt8)) (la : Option Addr) (cap : Nat), so = .slice la done.length cap ∧ sf = .int .i64 (f : Int) ∧ si = .int .i64 (i : Int) ∧ PcAt c s.data.toList i f done ∧ Own wr 9 1 la done.length cap ((done.map ba).flatMap strI) ∧ Mod (fun _ => False) w wr ∧ (∀ k, blk la k → w.heap.size ≤ k)) (fun _ _ si _ => s.size + 1 - (intOf si).toNat)
  case atStart => exact ⟨0, 0, [], none, 0, rfl, rfl, rfl, HZ.out, Own.nil _ _ _, Mod.refl _ _, fun k hk => (blk_none k hk).elim⟩
  case round =>
    obtain ⟨i, f, done, la, cap, rfl, rfl, rfl, hp, ho, hm, hn⟩ := hrel
    have HP := hid hp
    have HO := hid ho
    have HM := hid hm
    have HN := hid hn
    have hle := hp.le
    have hfew := hp.few
    have hrun := hp.run
    rw [hlen] at hle
    have hfi : i ≤ s.size → f ≤ i := fun h => (hrun (by omega)).1
    clear hp ho hm hn hrun
    by_cases hlt : i ≤ s.size
    case neg =>
      have HE := hid (HP.out.fin (by omega))
      clear hfi
      go_wp2_with fail
      go_ret
      rw [HE.out]
      refine ⟨HM.out, la, cap, by rw [List.length_map]; rfl, by rw [List.length_map]; exact HO.out, HN.out⟩
    case pos =>
      have hfi := hfi hlt
      have HSz := hid HM.out.size
      have HS : Hid (Src (wr.alloc (.cells #[.string (s.extract f i)] 9)) 1 (some ⟨wr.heap.size, 0, none⟩) 1 [.string (s.extract f i)]) := hid (src_new (heap_alloc_new _ _) rfl)
      have HMa := hid (HM.out.alloc (.cells #[.string (s.extract f i)] 9))
      have HOa := hid (HO.out.mod (S := fun _ => False) ((Mod.refl _ wr).alloc (.cells #[.string (s.extract f i)] 9)) (fun _ _ h => h))
      have HEx : Hid (s.extract f i = ba ((s.data.toList.drop f).take (i - f))) := hid (ext_ba s f i)
      by_cases hie : i = s.size
      · subst hie
        have e1 : ((s.size : Int) == (s.size : Int)) = true := by simp
        have HX : Hid (PcAt c s.data.toList (s.size + 1) (s.size + 1) (done ++ [(s.data.toList.drop f).take (s.size - f)])) := hid (by
          have h := HP.out
          rw [← hlen] at h ⊢
          exact h.last)
        go_wp2_with (at_builtin; refine wpList_append_Own rfl (.tmp 25) (.tmp 30) 38 rfl 9 i0 _ 1 16 Tryd.underlying38 hi0 hz0 hz1 hz2 rfl la done.length cap _ rfl HOa.out (some ⟨wr.heap.size, 0, none⟩) 1 1 _ rfl HS.out (by intro u hu; simp at hu; subst hu; rfl) (by unfold maxLen; omega) (by omega) ?_; intro la6 cap6 w6 hown hm hb hn hr; have HO6 := hid hown; have HM6 := hid hm; have HB6 := hid hb; clear hown hm hb hn hr)
        go_roundw
        case rel =>
          refine ⟨s.size + 1, s.size + 1, done ++ [(s.data.toList.drop f).take (s.size - f)], la6, cap6, by rw [List.length_append]; rfl, by go_num, by go_num, HX.out, ?_, HMa.out.then HM6.out (fun j hj h => by have := HN.out j h; omega), fun j hj => ?_⟩
          · have := HO6.out
            rw [List.map_append, List.flatMap_append, List.length_append]
            rw [HEx.out] at this
            simpa [strI] using this
          · rcases HB6.out j hj with h | h
            · exact HN.out j h
            · have := HSz.out; have : wr.heap.size ≤ (wr.alloc (.cells #[.string (s.extract f s.size)] 9)).heap.size := by simp
              omega
        case measure => simp [intOf]
      · have hil : i < s.size := by omega
        have e1 : ((i : Int) == (s.size : Int)) = false := by simp; omega
        have HG := hid (get_list s i hil)
        by_cases hc : s[i] = c
        · have e2 : ((s[i].toNat : Int) == (c.toNat : Int)) = true := by rw [hc]; simp
          have HX : Hid (PcAt c s.data.toList (i + 1) (i + 1) (done ++ [(s.data.toList.drop f).take (i - f)])) := hid (HP.out.cut (by omega) (by rw [HG.out, hc]))
          clear hc
          go_wp2_with (at_builtin; refine wpList_append_Own rfl (.tmp 25) (.tmp 30) 38 rfl 9 i0 _ 1 16 Tryd.underlying38 hi0 hz0 hz1 hz2 rfl la done.length cap _ rfl HOa.out (some ⟨wr.heap.size, 0, none⟩) 1 1 _ rfl HS.out (by intro u hu; simp at hu; subst hu; rfl) (by unfold maxLen; omega) (by omega) ?_; intro la6 cap6 w6 hown hm hb hn hr; have HO6 := hid hown; have HM6 := hid hm; have HB6 := hid hb; clear hown hm hb hn hr)
          go_roundw
          case rel =>
            refine ⟨i + 1, i + 1, done ++ [(s.data.toList.drop f).take (i - f)], la6, cap6, by rw [List.length_append]; rfl, by go_num, by go_num, HX.out, ?_, HMa.out.then HM6.out (fun j hj h => by have := HN.out j h; omega), fun j hj => ?_⟩
            · have := HO6.out
              rw [List.map_append, List.flatMap_append, List.length_append]
              rw [HEx.out] at this
              simpa [strI] using this
            · rcases HB6.out j hj with h | h
              · exact HN.out j h
              · have := HSz.out; have : wr.heap.size ≤ (wr.alloc (.cells #[.string (s.extract f i)] 9)).heap.size := by simp
                omega
          case measure => simp [intOf]; omega
        · have e2 : ((s[i].toNat : Int) == (c.toNat : Int)) = false := by
            have : s[i].toNat ≠ c.toNat := fun h => hc (UInt8.toNat_inj.1 h)
            simp; omega
          have HX : Hid (PcAt c s.data.toList (i + 1) f done) := hid (HP.out.step (by omega) (by rw [HG.out]; intro e; exact hc (Option.some.inj e)))
          clear hc
          go_wp2_with fail
          go_roundw
          case rel => exact ⟨i + 1, f, done, la, cap, rfl, rfl, by go_num, HX.out, HO.out, HM.out, HN.out⟩
          case measure => simp [intOf]; omega

/-- The fields among the first pieces. -/
def keptF (Q : List (List UInt8)) : Fs := (Q.filter (fun p => !p.isEmpty)).map ba
theorem kept_app (a b : List (List UInt8)) : keptF (a ++ b) = keptF a ++ keptF b := by unfold keptF; rw [List.filter_append, List.map_append]

set_option maxRecDepth 100000 in
set_option maxHeartbeats 1000000 in
theorem rfields_any (s : ByteArray) (w : World) (hs : s.size ≤ 4096) : Calls Tryd.prog 20 #[.string s] w fun e w' => PcAns w (fieldsL s.data.toList) e w' := by
  obtain ⟨i0, hi0, hz0, hz1, hz2⟩ := info_parts infoStr
  have HP : Hid (Calls Tryd.prog 19 #[.string s, .int .u8 32] w fun e w' => PcAns w ((pieces 32 s.data.toList).map ba) e w') := hid (rpieces_any s 32 w hs)
  have HF : Hid (fieldsL s.data.toList = keptF (pieces 32 s.data.toList)) := hid rfl
  have hq := (pieces_len 32 s.data.toList).1
  have hlen : s.data.toList.length = s.size := by simp
  rw [hlen] at hq
  clear hlen
  generalize pieces 32 s.data.toList = Q at *
  rw [HF.out]
  clear HF
  go_enter Tryd.func20, Tryd.ntmps20
  go_upto_region 4 with (go_at_call 19; refine HP.out.mono ?_; rintro e w1 ⟨hm, lq, cq, rfl, ho, hn⟩; have HM1 := hid hm; have HOq := hid ho; have HNq := hid hn; clear hm ho hn)
  have hQl : (Q.map ba).length = Q.length := List.length_map ..
  go_loopw [4, 5] (fun so si wr => ∃ (i : Nat) (done : Fs) (la : Option Addr) (cap : Nat), so = .slice la done.length cap ∧ si = .int .i64 (i : Int) ∧ i ≤ Q.length ∧ done = keptF (Q.take i) ∧ Own wr 9 1 la done.length cap (done.flatMap strI) ∧ Mod (fun _ => False) w1 wr ∧ (∀ k, blk la k → w1.heap.size ≤ k)) (fun _ si _ => Q.length - (intOf si).toNat)
  case atStart => exact ⟨0, [], none, 0, rfl, rfl, Nat.zero_le _, rfl, Own.nil _ _ _, Mod.refl _ _, fun k hk => (blk_none k hk).elim⟩
  case round =>
    obtain ⟨i, done, la, cap, rfl, rfl, hi, hd, ho, hm, hn⟩ := hrel
    have HD := hid hd
    have HO := hid ho
    have HM := hid hm
    have HN := hid hn
    have hfew : done.length ≤ i := by
      rw [hd]
      unfold keptF
      rw [List.length_map]
      exact Nat.le_trans (List.length_filter_le _ _) (by rw [List.length_take]; omega)
    clear hd ho hm hn
    by_cases hlt : i < Q.length
    case neg =>
      have hie : i = Q.length := by omega
      subst hie
      have HE : Hid (done = keptF Q) := hid (by rw [HD.out, List.take_length])
      go_wp2_with fail
      go_ret
      refine ⟨HM1.out.trans HM.out, la, cap, by rw [← HE.out]; rfl, by rw [← HE.out]; exact HO.out, fun k hk => by have := HN.out k hk; have := HM1.out.size; omega⟩
    case pos =>
      obtain ⟨p, hpk⟩ : ∃ p, Q[i]? = some p := ⟨_, List.getElem?_eq_getElem hlt⟩
      have hpb : (Q.map ba)[i]? = some (ba p) := by rw [List.getElem?_map, hpk]; rfl
      have hLq : Lies wr 1 strI lq (Q.map ba) := (HOq.out.mod HM.out (fun _ _ h => h)).lies
      obtain ⟨g, off, hlq⟩ := hLq.some (by rw [hQl]; omega)
      subst hlq
      have q0 := hLq.cell strI_len hpb (j := 0) rfl
      simp only [Nat.add_zero, Nat.mul_one] at q0
      have HT : Hid (keptF (Q.take (i + 1)) = done ++ keptF [p]) := hid (by rw [List.take_add_one, hpk, HD.out]; exact kept_app _ _)
      clear hpk hpb hLq
      cases hp : p.isEmpty with
      | true =>
        have e1 : (ba p).toList.isEmpty = true := by rw [ByteArray.toList_eq, ba_data]; exact hp
        have HX : Hid (keptF [p] = []) := hid (by unfold keptF; simp [hp])
        clear hp
        go_wp2_with fail
        go_roundw
        case rel => exact ⟨i + 1, done, la, cap, rfl, by go_num, by omega, by rw [HT.out, HX.out, List.append_nil], HO.out, HM.out, HN.out⟩
        case measure => simp [intOf]; omega
      | false =>
        have e1 : (ba p).toList.isEmpty = false := by rw [ByteArray.toList_eq, ba_data]; exact hp
        have HX : Hid (keptF [p] = [ba p]) := hid (by unfold keptF; simp [hp])
        have HSz := hid HM.out.size
        have HS : Hid (Src (wr.alloc (.cells #[.string (ba p)] 9)) 1 (some ⟨wr.heap.size, 0, none⟩) 1 [.string (ba p)]) := hid (src_new (heap_alloc_new _ _) rfl)
        have HMa := hid (HM.out.alloc (.cells #[.string (ba p)] 9))
        have HOa := hid (HO.out.mod (S := fun _ => False) ((Mod.refl _ wr).alloc (.cells #[.string (ba p)] 9)) (fun _ _ h => h))
        clear hp
        go_wp2_with (at_builtin; refine wpList_append_Own rfl (.tmp 19) (.tmp 24) 38 rfl 9 i0 _ 1 16 Tryd.underlying38 hi0 hz0 hz1 hz2 rfl la done.length cap _ rfl HOa.out (some ⟨wr.heap.size, 0, none⟩) 1 1 _ rfl HS.out (by intro u hu; simp at hu; subst hu; rfl) (by unfold maxLen; omega) (by omega) ?_; intro la6 cap6 w6 hown hm hb hn hr; have HO6 := hid hown; have HM6 := hid hm; have HB6 := hid hb; clear hown hm hb hn hr)
        go_roundw
        case rel =>
          refine ⟨i + 1, done ++ [ba p], la6, cap6, by rw [List.length_append]; rfl, by go_num, by omega, by rw [HT.out, HX.out], ?_, HMa.out.then HM6.out (fun j hj h => by have := HN.out j h; omega), fun j hj => ?_⟩
          · have := HO6.out
            rw [List.flatMap_append, List.length_append]
            simpa [strI] using this
          · rcases HB6.out j hj with h | h
            · exact HN.out j h
            · have := HSz.out; have : wr.heap.size ≤ (wr.alloc (.cells #[.string (ba p)] 9)).heap.size := by simp
              omega
        case measure => simp [intOf]; omega

set_option maxRecDepth 100000 in
set_option maxHeartbeats 1000000 in
theorem risverb_any (s : ByteArray) (w : World) (hs : s.size ≤ 140737488351232) : Calls Tryd.prog 42 #[.string s] w fun e w' => e = .returned (.bool (verbS s)) ∧ w = w' := by
  have hlen : s.data.toList.length = s.size := by simp
  go_enter Tryd.func42, Tryd.ntmps42
  go_upto_region 2 with fail
  go_loop [3] (fun c => ∃ k : Nat, k ≤ s.size ∧ c = .int .i64 k ∧ ∀ j, j < k → s.data.toList[j]? ≠ some 46) (fun c => s.size - (intOf c).toNat)
  case atStart => exact ⟨0, Nat.zero_le _, rfl, fun j h => by omega⟩
  case round =>
    obtain ⟨k, hk, rfl, hb⟩ := hrel
    have HB := hid hb
    clear hb
    have HFr : Hid ((46 : UInt8) ∉ s.data.toList.take k) := hid (fun hm => by
      obtain ⟨j, hj⟩ := List.getElem?_of_mem hm
      rw [List.getElem?_take] at hj
      split at hj
      · next hlt => exact HB.out j hlt hj
      · cases hj)
    by_cases hlt : k < s.size
    · have HG := hid (get_list s k hlt)
      by_cases hc : s[k] = 46
      · have e1 : ((s[k].toNat : Int) == 46) = true := by rw [hc]; rfl
        have HV : Hid (verbS s = (wordS (s.extract 0 k) && wordS (s.extract (k + 1) s.size))) := hid (by
          have hd : s.data.toList = s.data.toList.take k ++ 46 :: s.data.toList.drop (k + 1) := by
            have e : s.data.toList.drop k = 46 :: s.data.toList.drop (k + 1) := by
              rw [List.drop_eq_getElem_cons (by omega)]
              have h := HG.out
              rw [hc, List.getElem?_eq_getElem (by omega)] at h
              rw [Option.some.inj h]
            rw [← e, List.take_append_drop]
          rw [verb_hit hd HFr.out]
          unfold wordS
          congr 2
          · simp
          · simp [List.take_of_length_le])
        have h1 : (s.extract 0 k).size ≤ 140737488351232 := by simp; omega
        have h2 : (s.extract (k + 1) s.size).size ≤ 140737488351232 := by simp; omega
        have HW1 := hid (rword_any (s.extract 0 k) w h1)
        have HW2 := hid (rword_any (s.extract (k + 1) s.size) w h2)
        clear hc h1 h2
        generalize wordS (s.extract 0 k) = A at *
        generalize wordS (s.extract (k + 1) s.size) = B at *
        cases A <;> cases B <;>
        · go_wp2_with (first
            | (go_at_call 15; with_reducible refine HW1.out.mono ?_; rintro e w1 ⟨rfl, rfl⟩)
            | (go_at_call 15; with_reducible refine HW2.out.mono ?_; rintro e w1 ⟨rfl, rfl⟩))
          go_ret
          rw [HV.out]
          exact ⟨rfl, rfl⟩
      · have e1 : ((s[k].toNat : Int) == 46) = false := by
          have : s[k].toNat ≠ (46 : UInt8).toNat := fun h => hc (UInt8.toNat_inj.1 h)
          have h46 : (46 : UInt8).toNat = 46 := rfl
          simp; omega
        have HX : Hid (∀ j, j < k + 1 → s.data.toList[j]? ≠ some 46) := hid (fun j hj => by
          by_cases hjk : j = k
          · subst hjk
            rw [HG.out]
            intro e
            exact hc (Option.some.inj e)
          · exact HB.out j (by omega))
        clear hc
        go_wp2_with fail
        go_round
        case rel => exact ⟨k + 1, by omega, by go_num, HX.out⟩
        case measure => simp [intOf]; omega
    · have hke : k = s.size := by omega
      subst hke
      have HV : Hid (verbS s = false) := hid (verb_miss (by have := HFr.out; rwa [List.take_of_length_le (by omega)] at this))
      go_wp2_with fail
      go_ret
      rw [HV.out]
      exact ⟨rfl, rfl⟩

end Go.Proofs.YtmkbbclbkpofoaaDoor
