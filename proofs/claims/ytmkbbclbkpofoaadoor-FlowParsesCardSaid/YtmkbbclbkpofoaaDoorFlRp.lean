/- Flow: the document's Parse (printed by genrparse.py) -/
import Derived.Test.YtmkbbclbkpofoaaDoorFlRm
import Derived.Deep.RegionHeld3
namespace Go.Proofs.YtmkbbclbkpofoaaDoor
open Go Go.RowKit

/-- A line was read into the definition, but for its end. -/
def MidL (w : World) (lq : Option Addr) (PL : List (List UInt8)) (L : Nat) (fa : Option Addr) (fc : Nat) (fs : Fs) (d : Df) (wx : World) : Prop :=
  ∃ (d' : Df) (sa' : Option Addr) (cap' : Nat) (ss' : List SA) (q' : LS), PdM w wx lq PL L fa fc fs d' sa' cap' ss' q' ∧ (q' = .good [] → readP d fs = .ok d' []) ∧ (∀ s t, q' = .good (s :: t) → readP d fs = .bad 101) ∧ (∀ e, q' = .bad e → readP d fs = .bad e)

theorem read_flow {d : Df} {fs : Fs} (hn : d.name.toList.isEmpty = true) (hf : hasB wFlow fs = true) : readP d fs = (wordP (fs.drop 1)).bind fun n r => endP ⟨n, d.steps⟩ r := by unfold readP; rw [if_pos hn, if_pos hf]
theorem read_noflow {d : Df} {fs : Fs} (hn : d.name.toList.isEmpty = true) (hf : hasB wFlow fs = false) : readP d fs = .bad 101 := by unfold readP; rw [if_pos hn, if_neg (by rw [hf]; exact Bool.false_ne_true)]
theorem read_step {d : Df} {fs : Fs} (hn : d.name.toList.isEmpty = false) (hf : hasB wStep fs = true) (hl : d.steps.length < 8) : readP d fs = (stepP (fs.drop 1)).bind fun s r => endP ⟨d.name, d.steps ++ [s]⟩ r := by unfold readP; rw [if_neg (by rw [hn]; exact Bool.false_ne_true), if_pos hf, if_pos hl]
theorem read_stepm {d : Df} {fs : Fs} (hn : d.name.toList.isEmpty = false) (hf : hasB wStep fs = true) (hl : ¬ d.steps.length < 8) : readP d fs = .bad 72 := by unfold readP; rw [if_neg (by rw [hn]; exact Bool.false_ne_true), if_pos hf, if_neg hl]
theorem read_wait {d : Df} {fs : Fs} (hn : d.name.toList.isEmpty = false) (hg : hasB wStep fs = false) (hf : hasB wWait fs = true) (hl : d.steps.length < 8) : readP d fs = (waitP (fs.drop 1)).bind fun s r => endP ⟨d.name, d.steps ++ [s]⟩ r := by unfold readP; rw [if_neg (by rw [hn]; exact Bool.false_ne_true), if_neg (by rw [hg]; exact Bool.false_ne_true), if_pos hf, if_pos hl]
theorem read_waitm {d : Df} {fs : Fs} (hn : d.name.toList.isEmpty = false) (hg : hasB wStep fs = false) (hf : hasB wWait fs = true) (hl : ¬ d.steps.length < 8) : readP d fs = .bad 72 := by unfold readP; rw [if_neg (by rw [hn]; exact Bool.false_ne_true), if_neg (by rw [hg]; exact Bool.false_ne_true), if_pos hf, if_neg hl]
theorem read_none {d : Df} {fs : Fs} (hn : d.name.toList.isEmpty = false) (hg : hasB wStep fs = false) (hf : hasB wWait fs = false) : readP d fs = .bad 101 := by unfold readP; rw [if_neg (by rw [hn]; exact Bool.false_ne_true), if_neg (by rw [hg]; exact Bool.false_ne_true), if_neg (by rw [hf]; exact Bool.false_ne_true)]

/-- What is answered of a line that is refused. -/
theorem ans_bad {w W : World} {lq sa : Option Addr} {PL : List (List UInt8)} {d : Df} {cap : Nat} {ss : List SA} (h : PdB w W lq PL d sa cap ss) (a e : Int) : ∀ Z, Z = (W.setCell ⟨w.heap.size, 0, none⟩ (.string ⟨#[]⟩)).setCell ⟨w.heap.size, 1, none⟩ (.slice none 0 0) →
    (Z.cell? ⟨w.heap.size, 0, none⟩ = some (.string ⟨#[]⟩) ∧ Z.cell? ⟨w.heap.size, 1, none⟩ = some (.slice none 0 0)) ∧ PsAns w (noD, a, e) (.returned (.tuple #[.agg #[.string ⟨#[]⟩, .slice none 0 0], .int .i64 a, .int .i64 e])) Z := by
  intro Z hZ
  obtain ⟨hc, hm, _⟩ := h.done Z hZ
  exact ⟨hc, hm, none, 0, [], rfl, defLies_no Z⟩

theorem PsAns.drew {w Z : World} {x : Df × Int × Int} {e : Ending} (h : PsAns w x e Z) : PsAns w x e Z.drew := by
  obtain ⟨hm, la, cap, ss, he, hd⟩ := h
  exact ⟨hm.drew, la, cap, ss, he, hd.ext ((Mod.refl _ _).drew)⟩

set_option maxRecDepth 100000 in
set_option maxHeartbeats 16000000 in
theorem rparse_any {w : World} (t : ByteArray) : Calls Tryd.prog 10 #[.string t] w fun e w' => PsAns w (parseL t) e w' := by
  obtain ⟨i0, hi0, hz0, hz1, hz2⟩ := info_parts infoRStp
  by_cases hbig : 2048 < t.size
  · have HX : Hid (parseL t = (noD, 0, 11)) := hid (if_pos hbig)
    rw [HX.out]
    have e1 : (2048 : Int) < (t.size : Int) := by omega
    have HR := hid (heap_alloc_new w (.cells #[.string ⟨#[]⟩, .slice none 0 0] 30))
    have HM : Hid (Mod (fun _ => False) w (w.alloc (.cells #[.string ⟨#[]⟩, .slice none 0 0] 30))) := hid ((Mod.refl _ _).alloc _)
    go_enter Tryd.func10, Tryd.ntmps10
    go_upto_region 2 with fail
    generalize w.alloc (.cells #[.string ⟨#[]⟩, .slice none 0 0] 30) = V at *
    obtain ⟨a0, a1, f0, f1⟩ := row2 HR.out
    go_wp2_with fail
    obtain ⟨z0, z1, z2⟩ := put2 HR.out (.string ⟨#[]⟩) (.slice none 0 0)
    exact bodyPost_ret (v := .tuple #[.agg #[.string ⟨#[]⟩, .slice none 0 0], .int .i64 0, .int .i64 11]) (by simp [results, Tryd.results10, go_sem, z0, z1]) rfl ⟨HM.out.then z2 (fun i hi e => by omega), none, 0, [], rfl, defLies_no _⟩
  · have HX : Hid (parseL t = goL (pieces 10 t.data.toList) 0 noD) := hid (if_neg hbig)
    have hts : t.data.toList.length = t.size := by simp
    obtain ⟨hpl1, hpl2⟩ := pieces_len 10 t.data.toList
    rw [HX.out]
    have e1 : ¬ (2048 : Int) < (t.size : Int) := by omega
    have HP : Hid (∀ V, Calls Tryd.prog 19 #[.string t, .int .u8 10] V fun e w' => PcAns V ((pieces 10 t.data.toList).map ba) e w') := hid (fun V => rpieces_any t 10 V (by omega))
    rw [hts] at hpl1 hpl2
    have HPl : Hid (∀ p ∈ pieces 10 t.data.toList, p.length ≤ 2048) := hid (fun p hp => by have := hpl2 p hp; omega)
    clear hpl2 hts HX
    generalize pieces 10 t.data.toList = PL at *
    obtain ⟨x, hx⟩ : ∃ x, goL PL 0 noD = x := ⟨_, rfl⟩
    have HXx := hid hx
    rw [hx]
    clear hx
    have HR : Hid (((w.alloc (.cells #[.string ⟨#[]⟩, .slice none 0 0] 30)).alloc (.cells #[.string ⟨#[]⟩, .slice none 0 0] 30)).heap[w.heap.size]? = some (.cells #[.string ⟨#[]⟩, .slice none 0 0] 30 (0, 0))) := hid (by
      rw [Below.heap_alloc _ _ _ (by rw [World.size_alloc]; omega)]
      exact heap_alloc_new _ _)
    have HD : Hid (((w.alloc (.cells #[.string ⟨#[]⟩, .slice none 0 0] 30)).alloc (.cells #[.string ⟨#[]⟩, .slice none 0 0] 30)).heap[w.heap.size + 1]? = some (.cells #[.string ⟨#[]⟩, .slice none 0 0] 30 (0, 0))) := hid (by
      have h := heap_alloc_new (w.alloc (.cells #[.string ⟨#[]⟩, .slice none 0 0] 30)) (.cells #[.string ⟨#[]⟩, .slice none 0 0] 30)
      rwa [World.size_alloc] at h)
    have HM : Hid (Mod (fun _ => False) w ((w.alloc (.cells #[.string ⟨#[]⟩, .slice none 0 0] 30)).alloc (.cells #[.string ⟨#[]⟩, .slice none 0 0] 30))) := hid (((Mod.refl _ _).alloc _).alloc _)
    go_enter Tryd.func10, Tryd.ntmps10
    go_upto_region 4 with fail
    generalize (w.alloc (.cells #[.string ⟨#[]⟩, .slice none 0 0] 30)).alloc (.cells #[.string ⟨#[]⟩, .slice none 0 0] 30) = V at *
    have hVs := lt_of_heap HD.out
    go_upto_region 6 with (go_at_call 19; refine (HP.out V).mono ?_; rintro e w1 ⟨hm, lq, cq, rfl, ho, hn⟩; have HM1 := hid hm; have HOq := hid ho; have HNq := hid hn; clear hm ho hn)
    have HB0 : Hid (PdB w w1 lq PL noD none 0 []) := hid ⟨⟨(HM1.out.block _ (lt_of_heap HD.out) (fun h => h)).trans HD.out, rfl, Own.nil _ _ _, blk_none _, fun x h => (List.not_mem_nil h).elim, Nat.zero_le _, fun k hk => by rcases hk with rfl | hk; omega; exact (blk_none k hk).elim⟩, (HM1.out.block _ (lt_of_heap HR.out) (fun h => h)).trans HR.out, HOq.out.lies, fun j hj => by
      rcases hj with rfl | hj | ⟨x, hx, _⟩
      · exact ⟨by omega, fun _ h => by have := HNq.out _ h; omega⟩
      · exact (blk_none j hj).elim
      · exact (List.not_mem_nil hx).elim, fun _ j hj => by have := HNq.out j hj; omega, HM.out.trans HM1.out⟩
    clear HP HR HD HOq HNq
    go_loopw [7] (fun si wr => ∃ (k : Nat) (d : Df) (sa : Option Addr) (cap : Nat) (ss : List SA), si = .int .i64 (k : Int) ∧ k ≤ PL.length ∧ PdB w wr lq PL d sa cap ss ∧ x = goL (PL.drop k) k d) (fun si _ => PL.length - (intOf si).toNat)
    case atStart => exact ⟨0, noD, none, 0, [], rfl, Nat.zero_le _, HB0.out, by rw [List.drop_zero]; exact HXx.out.symm⟩
    case round =>
      obtain ⟨k, d, sa, cap, ss, rfl, hk, hp, heq⟩ := hrel
      obtain ⟨wo, rfl⟩ : ∃ y, y = wr := ⟨wr, rfl⟩
      have HP := hid hp
      have HEq := hid heq
      clear hp heq
      by_cases hlt : k < PL.length
      case neg =>
        have hke : k = PL.length := by omega
        subst hke
        have HE : Hid (x = if d.name.toList.isEmpty = true then (noD, 0, 101) else (d, 0, 0)) := hid (by rw [HEq.out, List.drop_length]; rfl)
        obtain ⟨a0, a1, f0, f1⟩ := row2 HP.out.t.box
        obtain ⟨r0, r1, g0, g1⟩ := row2 HP.out.res
        cases hne : d.name.toList.isEmpty with
        | true =>
          have hx0 := HE.out
          rw [hne, if_pos rfl] at hx0
          subst hx0
          clear HE HEq HXx
          have HA := hid (ans_bad HP.out 0 101)
          go_wp2_with fail
          obtain ⟨⟨z0, z1⟩, z2⟩ := HA.out _ rfl
          exact bodyPost_ret (v := .tuple #[.agg #[.string ⟨#[]⟩, .slice none 0 0], .int .i64 0, .int .i64 101]) (by simp [results, Tryd.results10, go_sem, z0, z1]) rfl z2
        | false =>
          have hx0 := HE.out
          rw [hne, if_neg Bool.false_ne_true] at hx0
          subst hx0
          clear HE HEq HXx
          have HA := hid (HP.out.done (v0 := .string d.name) (v1 := .slice sa d.steps.length cap))
          go_wp2_with fail
          obtain ⟨⟨z0, z1⟩, hm, hl⟩ := HA.out _ rfl
          exact bodyPost_ret (v := .tuple #[.agg #[.string d.name, .slice sa d.steps.length cap], .int .i64 0, .int .i64 0]) (by simp [results, Tryd.results10, go_sem, z0, z1]) rfl ⟨hm, sa, cap, ss, rfl, hl⟩
      case pos =>
        obtain ⟨p, hpk⟩ : ∃ p, PL[k]? = some p := ⟨_, List.getElem?_eq_getElem hlt⟩
        have HDr : Hid (PL.drop k = p :: PL.drop (k + 1)) := hid (by rw [List.drop_eq_getElem_cons hlt]; rw [List.getElem?_eq_getElem hlt] at hpk; cases hpk; rfl)
        have hpl := HPl.out p (List.mem_of_getElem? hpk)
        have HE : Hid (x = goL (p :: PL.drop (k + 1)) k d) := hid (by rw [HEq.out, HDr.out])
        have hpb : (PL.map ba)[k]? = some (ba p) := by rw [List.getElem?_map, hpk]; rfl
        have hLq := HP.out.lin
        obtain ⟨g, off, hlq⟩ := hLq.some (by rw [List.length_map]; omega)
        subst hlq
        have q0 := hLq.cell strI_len hpb (j := 0) rfl
        simp only [Nat.add_zero, Nat.mul_one] at q0
        have HF : Hid (∀ V, Calls Tryd.prog 20 #[.string (ba p)] V fun e w' => PcAns V (fieldsL p) e w') := hid (fun V => by
          have := rfields_any (ba p) V (by rw [ba_size]; omega)
          rwa [ba_data] at this)
        have hfl : (fieldsL p).length ≤ 2049 := by
          have := (pieces_len 32 p).1
          unfold fieldsL
          rw [List.length_map]
          exact Nat.le_trans (List.length_filter_le _ _) (by omega)
        have HFz : Hid (∀ s ∈ fieldsL p, s.size ≤ 4096 ∧ 0 < s.size) := hid (fun s hs => by
          unfold fieldsL at hs
          obtain ⟨q, hq, rfl⟩ := List.mem_map.1 hs
          obtain ⟨h1, h2⟩ := List.mem_filter.1 hq
          have := (pieces_len 32 p).2 q h1
          rw [ba_size]
          cases q with
          | nil => cases h2
          | cons _ _ => exact ⟨by omega, Nat.succ_pos _⟩)
        have HSk : Hid (skipF (fieldsL p) = true → x = goL (PL.drop (k + 1)) (k + 1) d) := hid (fun h => by rw [HE.out, goL_skip h])
        have HGd : Hid (skipF (fieldsL p) = false → ∀ d', readP d (fieldsL p) = .ok d' [] → x = goL (PL.drop (k + 1)) (k + 1) d') := hid (fun h d' h2 => by rw [HE.out, goL_ok h h2])
        have HBd : Hid (skipF (fieldsL p) = false → ∀ e, readP d (fieldsL p) = .bad e → x = (noD, (k : Int) + 1, e)) := hid (fun h e h2 => by rw [HE.out, goL_bad h h2])
        clear hpk hpb hLq HE HDr HEq
        generalize fieldsL p = fs at *
        go_upto_region 9 with fail
        have HLb := hid (heap_alloc_new wo (.cells #[.slice none 0 0, .int .i64 0, .int .i64 0] 49))
        have HMl : Hid (Mod (fun _ => False) wo (wo.alloc (.cells #[.slice none 0 0, .int .i64 0, .int .i64 0] 49))) := hid ((Mod.refl _ _).alloc _)
        have hws := World.size_alloc wo (.cells #[.slice none 0 0, .int .i64 0, .int .i64 0] 49)
        generalize wo.alloc (.cells #[.slice none 0 0, .int .i64 0, .int .i64 0] 49) = W1 at *
        have q1 := (HMl.out.cell (World.block_lt_of_cell? _ _ q0) (fun h => h)).trans q0
        clear q0
        go_upto_region 10 with (go_at_call 20; refine (HF.out W1).mono ?_; rintro e w3 ⟨hm, la, lc, rfl, ho, hn⟩; have HM3 := hid hm; have HO3 := hid ho; have HN3 := hid hn; have hbx := (hm.block _ (lt_of_heap HLb.out) (fun h => h)).trans HLb.out; have HB3 := hid hbx; obtain ⟨b0, _⟩ := row3 hbx; have f0 := frozen_of_row _ _ 0 _ _ hbx; clear hm ho hn hbx)
        clear b0 f0 q1 HF
        have hLt := lt_of_heap HB3.out
        have hml : Mod (fun k => k = wo.heap.size) w3 (w3.setCell ⟨wo.heap.size, 0, none⟩ (.slice la fs.length lc)) := setL _ _ _ _
        have HLA : Hid (LA (w3.setCell ⟨wo.heap.size, 0, none⟩ (.slice la fs.length lc)) wo.heap.size la lc fs 0 0) := hid ⟨heap_setCell_same w3 _ 0 _ _ _ HB3.out, HO3.out.lies.mod hml (fun _ k hk e => by have := HN3.out k hk; omega), fun _ hk => by have := HN3.out _ hk; omega, by omega, HFz.out, Nat.zero_le _⟩
        have hwB := HP.out.mod.size
        have hD1 := lt_of_heap HP.out.t.box
        have hlts : ∀ j, dset (w.heap.size + 1) sa ss j → j < wo.heap.size := fun j hj => by
          rcases hj with rfl | hj | ⟨y, hy, h0, hj⟩
          · exact hD1
          · exact HP.out.t.own.lt j hj
          · exact (HP.out.t.all y hy).1.lt j h0 hj
        have HPM : Hid (PdM w (w3.setCell ⟨wo.heap.size, 0, none⟩ (.slice la fs.length lc)) (some ⟨g, off, none⟩) PL wo.heap.size la lc fs d sa cap ss (.good fs)) := hid ⟨(HP.out.ext (HMl.out.trans HM3.out)).pass hml hD1 (fun j hj e => by have := hlts j hj; omega) (fun h0 hk => by have := HP.out.lin.lt _ (by rw [List.length_map]; exact h0) hk; omega), ⟨0, 0, HLA.out, by rw [rep_good, List.drop_zero]⟩, fun j hj => by
          have := hlts j hj
          exact ⟨by omega, fun _ hk => by have := HN3.out j hk; omega⟩, fun h0 hk => by have := HP.out.lin.lt _ (by rw [List.length_map]; exact h0) hk; omega, hD1, fun _ k hk => by have := HN3.out k hk; omega⟩
        clear hml hlts HP HM3 HO3 HN3 HB3 HMl HLb
        generalize w3.setCell ⟨wo.heap.size, 0, none⟩ (.slice la fs.length lc) = V3 at *
        generalize wo.heap.size = L at *
        obtain ⟨c0, c1, c2, _, c4⟩ := row3 HLA.out.box
        cases fs with
        | nil =>
          have HN := hid (HSk.out rfl)
          simp only [List.length_nil] at c0
          go_wp2_with fail
          go_roundw
          case rel => exact ⟨k + 1, d, sa, cap, ss, by go_num, by omega, HPM.out.b, HN.out⟩
          case measure => simp [intOf]; omega
        | cons s r =>
          obtain ⟨gf, of, hla⟩ := HLA.out.lies.some (Nat.succ_pos _)
          subst hla
          have q2 := HLA.out.lies.cell strI_len (i := 0) (x := s) rfl (j := 0) rfl
          simp only [Nat.zero_mul, Nat.add_zero] at q2
          simp only [List.length_cons] at c0
          have hs0 := (HFz.out s List.mem_cons_self).2
          have hhd : s.data.toList.head? = some s[0] := by rw [List.head?_eq_getElem?]; exact get_list s 0 hs0
          have i1 : ¬ ((r.length : Int) + 1 = 0) := by omega
          by_cases h35 : s[0] = 35
          · have z1 : ((s[0].toNat : Int) == 35) = true := by rw [h35]; rfl
            have HN := hid (HSk.out (by rw [show skipF (s :: r) = (s.data.toList.head? == some 35) from rfl, hhd, h35]; rfl))
            clear h35 hhd
            go_wp2_with fail
            go_roundw
            case rel => exact ⟨k + 1, d, sa, cap, ss, by go_num, by omega, HPM.out.b, HN.out⟩
            case measure => simp [intOf]; omega
          · have z1 : ((s[0].toNat : Int) == 35) = false := by
              have : s[0].toNat ≠ (35 : UInt8).toNat := fun h => h35 (UInt8.toNat_inj.1 h)
              have h46 : (35 : UInt8).toNat = 35 := rfl
              simp; omega
            have HNs : Hid (skipF (s :: r) = false) := hid (by rw [show skipF (s :: r) = (s.data.toList.head? == some 35) from rfl, hhd]; exact beq_eq_false_iff_ne.2 (fun e => h35 (Option.some.inj e)))
            clear h35 hhd HSk
            obtain ⟨a0, a1, f0, f1⟩ := row2 HPM.out.b.t.box
            go_upto_if 55 with fail
            clear z1 q2 c0 c1 c2 c4 a0 a1 f0 f1
            generalize hfs : s :: r = fs at *
            clear hfs
            go_cut [] (fun wx => MidL w (some ⟨g, off, none⟩) PL L (some ⟨gf, of, none⟩) lc fs d wx)
            case first =>
              cases hne : d.name.toList.isEmpty with
              | true =>
                have HH := hid (HPM.out.has wFlow)
                obtain ⟨⟨b, q3⟩, hx⟩ : ∃ y, hasQ wFlow (.good fs) = y := ⟨_, rfl⟩
                rw [hx] at HH
                have HX := hid hx
                unfold wFlow at HH
                clear hx
                have HNe := hid hne
                go_upto_region 13 with (go_at_call 21; refine HH.out.mono ?_; rintro e w4 ⟨rfl, h1⟩; have HQ := hid h1; clear h1)
                cases b with
                | false =>
                  have HBx := hid (HBd.out HNs.out 101 (read_noflow HNe.out ((has_not HX.out).2 fs rfl)))
                  have HA := hid (ans_bad HQ.out.b ((k : Int) + 1) 101)
                  obtain ⟨r0, r1, g0, g1⟩ := row2 HQ.out.b.res
                  go_wp2_with fail
                  obtain ⟨⟨z0, z1⟩, z2⟩ := HA.out _ rfl
                  rw [HBx.out]
                  exact bodyPost_ret (v := .tuple #[.agg #[.string ⟨#[]⟩, .slice none 0 0], .int .i64 ((k : Int) + 1), .int .i64 101]) (by simp [results, Tryd.results10, go_sem, z0, z1]) rfl z2
                | true =>
                  obtain ⟨r3, hr3, hb3, hq3⟩ := has_inv HX.out
                  cases hr3
                  subst hq3
                  have HBf := hid hb3
                  clear hb3
                  have HW := hid (HQ.out.word)
                  have HAg := hid (agree_run wordP emp (.good (fs.drop 1)))
                  generalize runQ wordP emp (.good (fs.drop 1)) = y5 at *
                  obtain ⟨n5, q5⟩ := y5
                  simp only at HAg
                  go_wp2_with (go_at_call 22; refine HW.out.mono ?_; rintro e w5 ⟨rfl, h1⟩; have HQ5 := hid h1; obtain ⟨a0, a1, f0, f1⟩ := row2 h1.b.t.box; clear h1)
                  go_meet
                  case rel =>
                    have hE := agree_end (fun n => (⟨n, d.steps⟩ : Df)) HAg.out (rfl : LS.good (fs.drop 1) = LS.good (fs.drop 1))
                    rw [← read_flow HNe.out HBf.out] at hE
                    exact ⟨_, sa, cap, ss, _, HQ5.out.named _, hE.1, hE.2.1, hE.2.2⟩
              | false =>
                have HH := hid (HPM.out.has wStep)
                obtain ⟨⟨b1, q3⟩, hx⟩ : ∃ y, hasQ wStep (.good fs) = y := ⟨_, rfl⟩
                rw [hx] at HH
                have HX := hid hx
                unfold wStep at HH
                clear hx
                have HNe := hid hne
                go_upto_region 17 with (go_at_call 21; refine HH.out.mono ?_; rintro e w4 ⟨rfl, h1⟩; have HQ3 := hid h1; clear h1)
                have HH2 := hid (HQ3.out.has wWait)
                obtain ⟨⟨b2, q4⟩, hx⟩ : ∃ y, hasQ wWait q3 = y := ⟨_, rfl⟩
                rw [hx] at HH2
                have HX2 := hid hx
                unfold wWait at HH2
                clear hx
                go_upto_region 18 with (go_at_call 21; refine HH2.out.mono ?_; rintro e w5 ⟨rfl, h1⟩; have HQ4 := hid h1; clear h1)
                cases b1 with
                | true =>
                  obtain ⟨r3, hr3, hb3, hq3⟩ := has_inv HX.out
                  cases hr3
                  subst hq3
                  have HBs := hid hb3
                  clear hb3
                  cases b2 with
                  | true =>
                    obtain ⟨p4, e4, hl4, hr4⟩ := HQ4.out.la
                    obtain ⟨r4, hr5, _, hq4⟩ := has_inv HX2.out
                    cases hr5
                    subst hq4
                    obtain ⟨he4, _⟩ := rep_inj_good hr4
                    subst he4
                    obtain ⟨d0, d1, d2, d3, _⟩ := row3 hl4.box
                    have h1l : 1 ≤ fs.length := by
                      have h := HBs.out
                      cases fs with
                      | nil => cases h
                      | cons _ _ => exact Nat.succ_pos _
                    have HQ : Hid (PdM w (w5.setCell ⟨L, 1, none⟩ (.int .i64 1)) (some ⟨g, off, none⟩) PL L (some ⟨gf, of, none⟩) lc fs d sa cap ss (.good (fs.drop 1))) := hid (HQ4.out.pass (setL _ _ _ _) ⟨1, 0, ⟨heap_setCell_same w5 L 1 _ 49 _ hl4.box, hl4.lies.mod (setL w5 L 1 (.int .i64 1)) (fun h0 _ hk e => hl4.ne h0 (e ▸ hk)), hl4.ne, hl4.len, hl4.sz, h1l⟩, rep_good fs 1⟩)
                    clear hl4 hr4
                    go_upto_region 20 with fail
                    clear d0 d1 d2 d3
                    generalize w5.setCell ⟨L, 1, none⟩ (.int .i64 1) = W5 at *
                    obtain ⟨a0, a1, f0, f1⟩ := row2 HQ.out.b.t.box
                    have hl88 := HQ.out.b.t.len
                    by_cases hl8 : d.steps.length < 8
                    case neg =>
                      have i8 : (8 : Int) ≤ (d.steps.length : Int) := by omega
                      have HBx := hid (HBd.out HNs.out 72 (read_stepm HNe.out HBs.out hl8))
                      have HA := hid (ans_bad HQ.out.b ((k : Int) + 1) 72)
                      obtain ⟨r0, r1, g0, g1⟩ := row2 HQ.out.b.res
                      go_wp2_with fail
                      obtain ⟨⟨z0, z1⟩, z2⟩ := HA.out _ rfl
                      rw [HBx.out]
                      exact bodyPost_ret (v := .tuple #[.agg #[.string ⟨#[]⟩, .slice none 0 0], .int .i64 ((k : Int) + 1), .int .i64 72]) (by simp [results, Tryd.results10, go_sem, z0, z1]) rfl z2
                    case pos =>
                      have i8 : ¬ (8 : Int) ≤ (d.steps.length : Int) := by omega
                      go_upto_region 25 with fail
                      clear a0 a1 f0 f1
                      have HSt := hid (HQ.out.step)
                      go_upto_region 26 with (go_at_call 23; refine HSt.out.mono ?_; rintro e w6 ⟨s, aa, ac, q6, rfl, hpm, hli, hln, hnw, hag⟩; have HQ6 := hid hpm; have HLi6 := hid hli; have HNw := hid hnw; have HAg := hid hag; clear hpm hli hnw hag)
                      have HS6 : Hid ((w6.alloc (.cells #[.string s.name, .string s.verb, .string s.undo, .string s.event, .bool s.final, .int .i64 s.retry, .int .i64 s.every, .int .i64 s.within, .slice aa s.after.length ac] 53)).heap[w6.heap.size]? = some (.cells #[.string s.name, .string s.verb, .string s.undo, .string s.event, .bool s.final, .int .i64 s.retry, .int .i64 s.every, .int .i64 s.within, .slice aa s.after.length ac] 53 (0, 0))) := hid (heap_alloc_new _ _)
                      have HQ7 := hid (HQ6.out.ext ((Mod.refl _ _).alloc (.cells #[.string s.name, .string s.verb, .string s.undo, .string s.event, .bool s.final, .int .i64 s.retry, .int .i64 s.every, .int .i64 s.within, .slice aa s.after.length ac] 53)))
                      have HLi7 := hid (HLi6.out.ext ((Mod.refl _ _).alloc (.cells #[.string s.name, .string s.verb, .string s.undo, .string s.event, .bool s.final, .int .i64 s.retry, .int .i64 s.every, .int .i64 s.within, .slice aa s.after.length ac] 53)))
                      generalize w6.alloc (.cells #[.string s.name, .string s.verb, .string s.undo, .string s.event, .bool s.final, .int .i64 s.retry, .int .i64 s.every, .int .i64 s.within, .slice aa s.after.length ac] 53) = W7 at *
                      obtain ⟨⟨t0, t1, t2, t3, t4, t5, t6, t7, t8⟩, _⟩ := row9 HS6.out
                      obtain ⟨a0, a1, f0, f1⟩ := row2 HQ7.out.b.t.box
                      have HQ8 := hid (HQ7.out.ext ((Mod.refl _ _).alloc (.cells #[.string s.name, .string s.verb, .string s.undo, .string s.event, .bool s.final, .int .i64 s.retry, .int .i64 s.every, .int .i64 s.within, .slice aa s.after.length ac] 53)))
                      have HLi8 := hid (HLi7.out.ext ((Mod.refl _ _).alloc (.cells #[.string s.name, .string s.verb, .string s.undo, .string s.event, .bool s.final, .int .i64 s.retry, .int .i64 s.every, .int .i64 s.within, .slice aa s.after.length ac] 53)))
                      have HSr : Hid (Src (W7.alloc (.cells #[.string s.name, .string s.verb, .string s.undo, .string s.event, .bool s.final, .int .i64 s.retry, .int .i64 s.every, .int .i64 s.within, .slice aa s.after.length ac] 53)) 9 (some ⟨W7.heap.size, 0, none⟩) 1 (SA.cs ⟨s, aa, ac⟩)) := hid (src_new (cs := SA.cs ⟨s, aa, ac⟩) (heap_alloc_new W7 _) rfl)
                      have HRo := hid (fun (V : World) (hm : Mod (blk sa) (W7.alloc (.cells #[.string s.name, .string s.verb, .string s.undo, .string s.event, .bool s.final, .int .i64 s.retry, .int .i64 s.every, .int .i64 s.within, .slice aa s.after.length ac] 53)) V) => row2 ((hm.block _ (lt_of_heap HQ8.out.b.t.box) HQ8.out.b.t.ne).trans HQ8.out.b.t.box))
                      go_wp2_with (at_builtin; refine wpList_append_Own rfl (.tmp 97) (.tmp 99) 28 rfl 53 i0 _ 9 120 Tryd.underlying28 hi0 hz0 hz1 hz2 rfl sa d.steps.length cap _ rfl HQ8.out.b.t.own (some ⟨W7.heap.size, 0, none⟩) 1 1 _ rfl HSr.out (SA.one _) (by unfold maxLen; omega) (by omega) ?_; intro sa9 cap9 w9 hown hm hb hn hr; have HO9 := hid hown; have HM9 := hid hm; have HB9 := hid hb; clear hown hm hb hn hr a0 a1 f0 f1; obtain ⟨a0, a1, f0, f1⟩ := HRo.out w9 HM9.out)
                      go_meet
                      case rel =>
                        obtain ⟨q9, e9, hl9, _⟩ := HQ.out.la
                        have hE := agree_end (fun s => (⟨d.name, d.steps ++ [s]⟩ : Df)) HAg.out rfl
                        rw [← read_step HNe.out HBs.out hl8] at hE
                        exact ⟨_, sa9, cap9, _, q6, HQ8.out.grown HM9.out hl8 HO9.out HB9.out HLi8.out hln HNw.out (fun j hj => by
                          rcases hj with hj | rfl | rfl | ⟨h0, hj⟩ | ⟨h0, hj⟩
                          · exact HQ.out.b.t.own.lt j hj
                          · exact lt_of_heap hl9.box
                          · exact lt_of_heap HQ.out.b.t.box
                          · exact hl9.lies.lt j h0 hj
                          · exact HQ.out.b.lin.lt j (by rw [List.length_map]; exact h0) hj), hE.1, hE.2.1, hE.2.2⟩
                  | false =>
                    have hq4 := (has_not HX2.out).1
                    subst hq4
                    have HQ := HQ4
                    go_upto_region 20 with fail
                    obtain ⟨a0, a1, f0, f1⟩ := row2 HQ.out.b.t.box
                    have hl88 := HQ.out.b.t.len
                    by_cases hl8 : d.steps.length < 8
                    case neg =>
                      have i8 : (8 : Int) ≤ (d.steps.length : Int) := by omega
                      have HBx := hid (HBd.out HNs.out 72 (read_stepm HNe.out HBs.out hl8))
                      have HA := hid (ans_bad HQ.out.b ((k : Int) + 1) 72)
                      obtain ⟨r0, r1, g0, g1⟩ := row2 HQ.out.b.res
                      go_wp2_with fail
                      obtain ⟨⟨z0, z1⟩, z2⟩ := HA.out _ rfl
                      rw [HBx.out]
                      exact bodyPost_ret (v := .tuple #[.agg #[.string ⟨#[]⟩, .slice none 0 0], .int .i64 ((k : Int) + 1), .int .i64 72]) (by simp [results, Tryd.results10, go_sem, z0, z1]) rfl z2
                    case pos =>
                      have i8 : ¬ (8 : Int) ≤ (d.steps.length : Int) := by omega
                      go_upto_region 25 with fail
                      clear a0 a1 f0 f1
                      have HSt := hid (HQ.out.step)
                      go_upto_region 26 with (go_at_call 23; refine HSt.out.mono ?_; rintro e w6 ⟨s, aa, ac, q6, rfl, hpm, hli, hln, hnw, hag⟩; have HQ6 := hid hpm; have HLi6 := hid hli; have HNw := hid hnw; have HAg := hid hag; clear hpm hli hnw hag)
                      have HS6 : Hid ((w6.alloc (.cells #[.string s.name, .string s.verb, .string s.undo, .string s.event, .bool s.final, .int .i64 s.retry, .int .i64 s.every, .int .i64 s.within, .slice aa s.after.length ac] 53)).heap[w6.heap.size]? = some (.cells #[.string s.name, .string s.verb, .string s.undo, .string s.event, .bool s.final, .int .i64 s.retry, .int .i64 s.every, .int .i64 s.within, .slice aa s.after.length ac] 53 (0, 0))) := hid (heap_alloc_new _ _)
                      have HQ7 := hid (HQ6.out.ext ((Mod.refl _ _).alloc (.cells #[.string s.name, .string s.verb, .string s.undo, .string s.event, .bool s.final, .int .i64 s.retry, .int .i64 s.every, .int .i64 s.within, .slice aa s.after.length ac] 53)))
                      have HLi7 := hid (HLi6.out.ext ((Mod.refl _ _).alloc (.cells #[.string s.name, .string s.verb, .string s.undo, .string s.event, .bool s.final, .int .i64 s.retry, .int .i64 s.every, .int .i64 s.within, .slice aa s.after.length ac] 53)))
                      generalize w6.alloc (.cells #[.string s.name, .string s.verb, .string s.undo, .string s.event, .bool s.final, .int .i64 s.retry, .int .i64 s.every, .int .i64 s.within, .slice aa s.after.length ac] 53) = W7 at *
                      obtain ⟨⟨t0, t1, t2, t3, t4, t5, t6, t7, t8⟩, _⟩ := row9 HS6.out
                      obtain ⟨a0, a1, f0, f1⟩ := row2 HQ7.out.b.t.box
                      have HQ8 := hid (HQ7.out.ext ((Mod.refl _ _).alloc (.cells #[.string s.name, .string s.verb, .string s.undo, .string s.event, .bool s.final, .int .i64 s.retry, .int .i64 s.every, .int .i64 s.within, .slice aa s.after.length ac] 53)))
                      have HLi8 := hid (HLi7.out.ext ((Mod.refl _ _).alloc (.cells #[.string s.name, .string s.verb, .string s.undo, .string s.event, .bool s.final, .int .i64 s.retry, .int .i64 s.every, .int .i64 s.within, .slice aa s.after.length ac] 53)))
                      have HSr : Hid (Src (W7.alloc (.cells #[.string s.name, .string s.verb, .string s.undo, .string s.event, .bool s.final, .int .i64 s.retry, .int .i64 s.every, .int .i64 s.within, .slice aa s.after.length ac] 53)) 9 (some ⟨W7.heap.size, 0, none⟩) 1 (SA.cs ⟨s, aa, ac⟩)) := hid (src_new (cs := SA.cs ⟨s, aa, ac⟩) (heap_alloc_new W7 _) rfl)
                      have HRo := hid (fun (V : World) (hm : Mod (blk sa) (W7.alloc (.cells #[.string s.name, .string s.verb, .string s.undo, .string s.event, .bool s.final, .int .i64 s.retry, .int .i64 s.every, .int .i64 s.within, .slice aa s.after.length ac] 53)) V) => row2 ((hm.block _ (lt_of_heap HQ8.out.b.t.box) HQ8.out.b.t.ne).trans HQ8.out.b.t.box))
                      go_wp2_with (at_builtin; refine wpList_append_Own rfl (.tmp 97) (.tmp 99) 28 rfl 53 i0 _ 9 120 Tryd.underlying28 hi0 hz0 hz1 hz2 rfl sa d.steps.length cap _ rfl HQ8.out.b.t.own (some ⟨W7.heap.size, 0, none⟩) 1 1 _ rfl HSr.out (SA.one _) (by unfold maxLen; omega) (by omega) ?_; intro sa9 cap9 w9 hown hm hb hn hr; have HO9 := hid hown; have HM9 := hid hm; have HB9 := hid hb; clear hown hm hb hn hr a0 a1 f0 f1; obtain ⟨a0, a1, f0, f1⟩ := HRo.out w9 HM9.out)
                      go_meet
                      case rel =>
                        obtain ⟨q9, e9, hl9, _⟩ := HQ.out.la
                        have hE := agree_end (fun s => (⟨d.name, d.steps ++ [s]⟩ : Df)) HAg.out rfl
                        rw [← read_step HNe.out HBs.out hl8] at hE
                        exact ⟨_, sa9, cap9, _, q6, HQ8.out.grown HM9.out hl8 HO9.out HB9.out HLi8.out hln HNw.out (fun j hj => by
                          rcases hj with hj | rfl | rfl | ⟨h0, hj⟩ | ⟨h0, hj⟩
                          · exact HQ.out.b.t.own.lt j hj
                          · exact lt_of_heap hl9.box
                          · exact lt_of_heap HQ.out.b.t.box
                          · exact hl9.lies.lt j h0 hj
                          · exact HQ.out.b.lin.lt j (by rw [List.length_map]; exact h0) hj), hE.1, hE.2.1, hE.2.2⟩
                | false =>
                  obtain ⟨hq3, hb3⟩ := has_not HX.out
                  subst hq3
                  have HBs := hid (hb3 fs rfl)
                  clear hb3
                  cases b2 with
                  | true =>
                    obtain ⟨r3, hr3, hb3, hq3⟩ := has_inv HX2.out
                    cases hr3
                    subst hq3
                    have HBw := hid hb3
                    have HQ := HQ4
                    clear hb3
                    go_upto_region 22 with fail
                    obtain ⟨a0, a1, f0, f1⟩ := row2 HQ.out.b.t.box
                    have hl88 := HQ.out.b.t.len
                    by_cases hl8 : d.steps.length < 8
                    case neg =>
                      have i8 : (8 : Int) ≤ (d.steps.length : Int) := by omega
                      have HBx := hid (HBd.out HNs.out 72 (read_waitm HNe.out HBs.out HBw.out hl8))
                      have HA := hid (ans_bad HQ.out.b ((k : Int) + 1) 72)
                      obtain ⟨r0, r1, g0, g1⟩ := row2 HQ.out.b.res
                      go_wp2_with fail
                      obtain ⟨⟨z0, z1⟩, z2⟩ := HA.out _ rfl
                      rw [HBx.out]
                      exact bodyPost_ret (v := .tuple #[.agg #[.string ⟨#[]⟩, .slice none 0 0], .int .i64 ((k : Int) + 1), .int .i64 72]) (by simp [results, Tryd.results10, go_sem, z0, z1]) rfl z2
                    case pos =>
                      have i8 : ¬ (8 : Int) ≤ (d.steps.length : Int) := by omega
                      go_upto_region 27 with fail
                      clear a0 a1 f0 f1
                      have HSt := hid (HQ.out.wait)
                      go_upto_region 28 with (go_at_call 24; refine HSt.out.mono ?_; rintro e w6 ⟨s, aa, ac, q6, rfl, hpm, hli, hln, hnw, hag⟩; have HQ6 := hid hpm; have HLi6 := hid hli; have HNw := hid hnw; have HAg := hid hag; clear hpm hli hnw hag)
                      have HS6 : Hid ((w6.alloc (.cells #[.string s.name, .string s.verb, .string s.undo, .string s.event, .bool s.final, .int .i64 s.retry, .int .i64 s.every, .int .i64 s.within, .slice aa s.after.length ac] 53)).heap[w6.heap.size]? = some (.cells #[.string s.name, .string s.verb, .string s.undo, .string s.event, .bool s.final, .int .i64 s.retry, .int .i64 s.every, .int .i64 s.within, .slice aa s.after.length ac] 53 (0, 0))) := hid (heap_alloc_new _ _)
                      have HQ7 := hid (HQ6.out.ext ((Mod.refl _ _).alloc (.cells #[.string s.name, .string s.verb, .string s.undo, .string s.event, .bool s.final, .int .i64 s.retry, .int .i64 s.every, .int .i64 s.within, .slice aa s.after.length ac] 53)))
                      have HLi7 := hid (HLi6.out.ext ((Mod.refl _ _).alloc (.cells #[.string s.name, .string s.verb, .string s.undo, .string s.event, .bool s.final, .int .i64 s.retry, .int .i64 s.every, .int .i64 s.within, .slice aa s.after.length ac] 53)))
                      generalize w6.alloc (.cells #[.string s.name, .string s.verb, .string s.undo, .string s.event, .bool s.final, .int .i64 s.retry, .int .i64 s.every, .int .i64 s.within, .slice aa s.after.length ac] 53) = W7 at *
                      obtain ⟨⟨t0, t1, t2, t3, t4, t5, t6, t7, t8⟩, _⟩ := row9 HS6.out
                      obtain ⟨a0, a1, f0, f1⟩ := row2 HQ7.out.b.t.box
                      have HQ8 := hid (HQ7.out.ext ((Mod.refl _ _).alloc (.cells #[.string s.name, .string s.verb, .string s.undo, .string s.event, .bool s.final, .int .i64 s.retry, .int .i64 s.every, .int .i64 s.within, .slice aa s.after.length ac] 53)))
                      have HLi8 := hid (HLi7.out.ext ((Mod.refl _ _).alloc (.cells #[.string s.name, .string s.verb, .string s.undo, .string s.event, .bool s.final, .int .i64 s.retry, .int .i64 s.every, .int .i64 s.within, .slice aa s.after.length ac] 53)))
                      have HSr : Hid (Src (W7.alloc (.cells #[.string s.name, .string s.verb, .string s.undo, .string s.event, .bool s.final, .int .i64 s.retry, .int .i64 s.every, .int .i64 s.within, .slice aa s.after.length ac] 53)) 9 (some ⟨W7.heap.size, 0, none⟩) 1 (SA.cs ⟨s, aa, ac⟩)) := hid (src_new (cs := SA.cs ⟨s, aa, ac⟩) (heap_alloc_new W7 _) rfl)
                      have HRo := hid (fun (V : World) (hm : Mod (blk sa) (W7.alloc (.cells #[.string s.name, .string s.verb, .string s.undo, .string s.event, .bool s.final, .int .i64 s.retry, .int .i64 s.every, .int .i64 s.within, .slice aa s.after.length ac] 53)) V) => row2 ((hm.block _ (lt_of_heap HQ8.out.b.t.box) HQ8.out.b.t.ne).trans HQ8.out.b.t.box))
                      go_wp2_with (at_builtin; refine wpList_append_Own rfl (.tmp 105) (.tmp 107) 28 rfl 53 i0 _ 9 120 Tryd.underlying28 hi0 hz0 hz1 hz2 rfl sa d.steps.length cap _ rfl HQ8.out.b.t.own (some ⟨W7.heap.size, 0, none⟩) 1 1 _ rfl HSr.out (SA.one _) (by unfold maxLen; omega) (by omega) ?_; intro sa9 cap9 w9 hown hm hb hn hr; have HO9 := hid hown; have HM9 := hid hm; have HB9 := hid hb; clear hown hm hb hn hr a0 a1 f0 f1; obtain ⟨a0, a1, f0, f1⟩ := HRo.out w9 HM9.out)
                      go_meet
                      case rel =>
                        obtain ⟨q9, e9, hl9, _⟩ := HQ.out.la
                        have hE := agree_end (fun s => (⟨d.name, d.steps ++ [s]⟩ : Df)) HAg.out rfl
                        rw [← read_wait HNe.out HBs.out HBw.out hl8] at hE
                        exact ⟨_, sa9, cap9, _, q6, HQ8.out.grown HM9.out hl8 HO9.out HB9.out HLi8.out hln HNw.out (fun j hj => by
                          rcases hj with hj | rfl | rfl | ⟨h0, hj⟩ | ⟨h0, hj⟩
                          · exact HQ.out.b.t.own.lt j hj
                          · exact lt_of_heap hl9.box
                          · exact lt_of_heap HQ.out.b.t.box
                          · exact hl9.lies.lt j h0 hj
                          · exact HQ.out.b.lin.lt j (by rw [List.length_map]; exact h0) hj), hE.1, hE.2.1, hE.2.2⟩
                  | false =>
                    have HBx := hid (HBd.out HNs.out 101 (read_none HNe.out HBs.out ((has_not HX2.out).2 fs rfl)))
                    have HA := hid (ans_bad HQ4.out.b ((k : Int) + 1) 101)
                    obtain ⟨r0, r1, g0, g1⟩ := row2 HQ4.out.b.res
                    go_wp2_with fail
                    obtain ⟨⟨z0, z1⟩, z2⟩ := HA.out _ rfl
                    rw [HBx.out]
                    exact bodyPost_ret (v := .tuple #[.agg #[.string ⟨#[]⟩, .slice none 0 0], .int .i64 ((k : Int) + 1), .int .i64 101]) (by simp [results, Tryd.results10, go_sem, z0, z1]) rfl z2
            case rest =>
              obtain ⟨d', sa', cap', ss', q', hpm, h1, h2, h3⟩ := hcut
              have HQ := hid hpm
              obtain ⟨p6, e6, hl6, hr6⟩ := hpm.la
              have H1 := hid h1
              have H2 := hid h2
              have H3 := hid h3
              obtain ⟨c0, c1, c2, _, c4⟩ := row3 hl6.box
              have hle6 := hl6.le
              clear hpm h1 h2 h3
              by_cases he6 : e6 = 0
              · subst he6
                rw [rep_good] at hr6
                by_cases hp6 : p6 < fs.length
                · have i1 : (p6 : Int) < (fs.length : Int) := by omega
                  have i2 : decide ((p6 : Int) < (fs.length : Int)) = true := decide_eq_true i1
                  have i3 : decide (p6 < fs.length) = true := decide_eq_true hp6
                  have HBx := hid (HBd.out HNs.out 101 (H2.out _ _ (by rw [← hr6, List.drop_eq_getElem_cons hp6])))
                  have HE := hid (fun n : Nat => HQ.out.ext ((Mod.refl _ wc).drewN n))
                  clear hr6
                  go_upto_region 29 with fail
                  go_quiet (fail)
                  have HE1 := hid (HE.out nq)
                  have HL1 := hid (hl6.ext ((Mod.refl _ wc).drewN nq))
                  clear HE
                  generalize wc.drewN nq = Wd at *
                  clear c0 c1 c2 c4 hl6
                  obtain ⟨c0, c1, c2, _, c4⟩ := row3 HL1.out.box
                  have HE2 := hid (HE1.out.b.pass (setL Wd L 2 (.int .i64 101)) HE1.out.lf.1 (fun j hj => (HE1.out.nl j hj).1) HE1.out.nq)
                  have HL2 := hid (HL1.out.fault 101)
                  go_upto_region 31 with fail
                  generalize Wd.setCell ⟨L, 2, none⟩ (.int .i64 101) = We at *
                  clear c0 c1 c2 c4 HE1 HL1
                  obtain ⟨c0, c1, c2, _, c4⟩ := row3 HL2.out.box
                  clear HL2
                  obtain ⟨r0, r1, g0, g1⟩ := row2 HE2.out.res
                  have hRL : w.heap.size ≠ L := by have := HQ.out.lf.1; omega
                  have HA := hid (ans_bad (w := w) (W := We) HE2.out ((k : Int) + 1) 101)
                  have w1 : IntKind.i64.wrap ((k : Int) + 1) = (k : Int) + 1 := IntWalk.i64_in _ (by omega)
                  go_upto_region 32 with fail
                  have c2d : We.drew.cell? ⟨L, 2, none⟩ = some (.int .i64 101) := c2
                  have c2e : ((We.setCell ⟨w.heap.size, 0, none⟩ (.string ⟨#[]⟩)).setCell ⟨w.heap.size, 1, none⟩ (.slice none 0 0)).drew.cell? ⟨L, 2, none⟩ = some (.int .i64 101) := ((put2 HE2.out.res (.string ⟨#[]⟩) (.slice none 0 0)).2.2.cell (World.block_lt_of_cell? _ _ c2) (fun e => hRL e.symm)).trans c2
                  clear H1 H2 H3 HBd HGd HQ HNs HFz HLA HM HXx HPM HE2
                  go_region_held3 (fun w' => w'.cell? ⟨L, 2, none⟩ = some (.int .i64 101)) (first | exact c2d | exact c2e | go_keep) (first | fail)
                  obtain ⟨⟨z0, z1⟩, z2⟩ := HA.out _ rfl
                  have z3 := z2.drew
                  generalize (We.setCell ⟨w.heap.size, 0, none⟩ (.string ⟨#[]⟩)).setCell ⟨w.heap.size, 1, none⟩ (.slice none 0 0) = Z at *
                  have y0 : Z.drew.cell? ⟨w.heap.size, 0, none⟩ = some (.string ⟨#[]⟩) := z0
                  have y1 : Z.drew.cell? ⟨w.heap.size, 1, none⟩ = some (.slice none 0 0) := z1
                  go_wp2_with fail
                  rw [HBx.out]
                  exact bodyPost_ret (v := .tuple #[.agg #[.string ⟨#[]⟩, .slice none 0 0], .int .i64 ((k : Int) + 1), .int .i64 101]) (by simp [results, Tryd.results10, go_sem, y0, y1]) rfl z3
                · have i1 : ¬ (p6 : Int) < (fs.length : Int) := by omega
                  have i2 : decide ((p6 : Int) < (fs.length : Int)) = false := decide_eq_false i1
                  have i3 : decide (p6 < fs.length) = false := decide_eq_false hp6
                  have HN := hid (HGd.out HNs.out d' (H1.out (by rw [← hr6, List.drop_eq_nil_of_le (by omega)])))
                  have HE := hid (fun n : Nat => HQ.out.ext ((Mod.refl _ wc).drewN n))
                  clear hr6
                  go_upto_region 29 with fail
                  go_quiet (fail)
                  have HE1 := hid (HE.out nq)
                  have HL1 := hid (hl6.ext ((Mod.refl _ wc).drewN nq))
                  clear HE
                  generalize wc.drewN nq = Wd at *
                  clear c0 c1 c2 c4 hl6
                  obtain ⟨c0, c1, c2, _, c4⟩ := row3 HL1.out.box
                  go_wp2_with fail
                  go_roundw
                  case rel => exact ⟨k + 1, d', sa', cap', ss', by go_num, by omega, HE1.out.b, HN.out⟩
                  case measure => simp [intOf]; omega
              · have e7 : (e6 == 0) = false := beq_eq_false_iff_ne.2 he6
                rw [rep_bad fs p6 he6] at hr6
                have HBx := hid (HBd.out HNs.out e6 (H3.out _ hr6.symm))
                have HE := hid (fun n : Nat => HQ.out.ext ((Mod.refl _ wc).drewN n))
                clear hr6 he6
                go_upto_region 29 with fail
                go_quiet (fail)
                have HE1 := hid (HE.out nq)
                have HL1 := hid (hl6.ext ((Mod.refl _ wc).drewN nq))
                clear HE
                generalize wc.drewN nq = Wd at *
                clear c0 c1 c2 c4 hl6
                obtain ⟨c0, c1, c2, _, c4⟩ := row3 HL1.out.box
                have HE2 := hid HE1.out.b
                go_upto_region 31 with fail
                generalize Wd = We at *
                clear HE1 HL1
                obtain ⟨r0, r1, g0, g1⟩ := row2 HE2.out.res
                have hRL : w.heap.size ≠ L := by have := HQ.out.lf.1; omega
                have HA := hid (ans_bad (w := w) (W := We) HE2.out ((k : Int) + 1) e6)
                have w1 : IntKind.i64.wrap ((k : Int) + 1) = (k : Int) + 1 := IntWalk.i64_in _ (by omega)
                go_upto_region 32 with fail
                have c2d : We.drew.cell? ⟨L, 2, none⟩ = some (.int .i64 e6) := c2
                have c2e : ((We.setCell ⟨w.heap.size, 0, none⟩ (.string ⟨#[]⟩)).setCell ⟨w.heap.size, 1, none⟩ (.slice none 0 0)).drew.cell? ⟨L, 2, none⟩ = some (.int .i64 e6) := ((put2 HE2.out.res (.string ⟨#[]⟩) (.slice none 0 0)).2.2.cell (World.block_lt_of_cell? _ _ c2) (fun e => hRL e.symm)).trans c2
                clear H1 H2 H3 HBd HGd HQ HNs HFz HLA HM HXx HPM HE2
                go_region_held3 (fun w' => w'.cell? ⟨L, 2, none⟩ = some (.int .i64 e6)) (first | exact c2d | exact c2e | go_keep) (first | fail)
                obtain ⟨⟨z0, z1⟩, z2⟩ := HA.out _ rfl
                have z3 := z2.drew
                generalize (We.setCell ⟨w.heap.size, 0, none⟩ (.string ⟨#[]⟩)).setCell ⟨w.heap.size, 1, none⟩ (.slice none 0 0) = Z at *
                have y0 : Z.drew.cell? ⟨w.heap.size, 0, none⟩ = some (.string ⟨#[]⟩) := z0
                have y1 : Z.drew.cell? ⟨w.heap.size, 1, none⟩ = some (.slice none 0 0) := z1
                go_wp2_with fail
                rw [HBx.out]
                exact bodyPost_ret (v := .tuple #[.agg #[.string ⟨#[]⟩, .slice none 0 0], .int .i64 ((k : Int) + 1), .int .i64 e6]) (by simp [results, Tryd.results10, go_sem, y0, y1]) rfl z3

end Go.Proofs.YtmkbbclbkpofoaaDoor
