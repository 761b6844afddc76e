/- The law's tableRef, same, plain and wakes -/
import Derived.Test.YtoclecpedhbokaaRwX
namespace Go.Proofs.Ytoclecpedhbokaa
open Go Go.RowKit

theorem infoInt : (Try.prog.info? 3).map (fun i => (i.zero, i.size, i.bytes)) = some (some (.int .i64 0), 1, 8) := by kernel_rfl

theorem one_take (cs : List Int) (k : Nat) (hk : k < cs.length) : (cs.take (k + 1)).flatMap oneI = (cs.take k).flatMap oneI ++ [.int .i64 cs[k]] := by
  rw [List.take_succ_eq_append_getElem hk, List.flatMap_append]
  simp [oneI]

theorem set4 {w : World} {b : Nat} {v0 v1 v2 v3 : Value} {t : TypeId} (h : w.heap[b]? = some (.cells #[v0, v1, v2, v3] t (0, 0))) (u : Value) :
    (w.setCell ⟨b, 0, none⟩ u).heap[b]? = some (.cells #[u, v1, v2, v3] t (0, 0)) ∧ (w.setCell ⟨b, 1, none⟩ u).heap[b]? = some (.cells #[v0, u, v2, v3] t (0, 0)) ∧ (w.setCell ⟨b, 2, none⟩ u).heap[b]? = some (.cells #[v0, v1, u, v3] t (0, 0)) ∧ (w.setCell ⟨b, 3, none⟩ u).heap[b]? = some (.cells #[v0, v1, v2, u] t (0, 0)) :=
  ⟨heap_setCell_same w b 0 _ t u h, heap_setCell_same w b 1 _ t u h, heap_setCell_same w b 2 _ t u h, heap_setCell_same w b 3 _ t u h⟩

/-- What the loop keeps. -/
structure TLoop (w wr : World) (name keys idx : Int) (cols : List Int) (k : Nat) (la : Option Addr) (cap : Nat) : Prop where
  own : Own wr 3 1 la k cap ((cols.take k).flatMap oneI)
  new : ∀ b, blk la b → w.heap.size + 3 ≤ b
  mod : Mod (fun _ => False) w wr
  out : wr.heap[w.heap.size + 1]? = some (.cells #[.int .u8 0, .slice none 0 0, .int .i64 0, .int .i64 0] 37 (0, 0))
  tab : wr.heap[w.heap.size + 1 + 1]? = some (.cells #[.int .u8 name, .slice la k cap, .int .i64 keys, .int .i64 idx] 37 (0, 0))

theorem froz4 {V : World} {b : Nat} {v0 v1 v2 v3 : Value} {T : TypeId} (h : V.heap[b]? = some (.cells #[v0, v1, v2, v3] T (0, 0))) : V.frozen? ⟨b, 0, none⟩ = false ∧ V.frozen? ⟨b, 1, none⟩ = false ∧ V.frozen? ⟨b, 2, none⟩ = false ∧ V.frozen? ⟨b, 3, none⟩ = false :=
  ⟨frozen_of_row _ _ 0 _ _ h, frozen_of_row _ _ 1 _ _ h, frozen_of_row _ _ 2 _ _ h, frozen_of_row _ _ 3 _ _ h⟩

set_option maxRecDepth 100000 in
set_option maxHeartbeats 4000000 in
theorem tableRef_any {w : World} {ca : Option Addr} {cols : List Int} (name keys idx : Int) (cc : Nat) (hl : Lies w 1 oneI ca cols) (hn : cols.length ≤ 4194304) :
    Calls Try.prog 9 #[.agg #[.int .u8 name, .slice ca cols.length cc, .int .i64 keys, .int .i64 idx]] w fun e w' => Mod (fun _ => False) w w' ∧ ∃ la cap, e = .returned (.agg #[.int .u8 name, .slice la cols.length cap, .int .i64 keys, .int .i64 idx]) ∧ Lies w' 1 oneI la cols := by
  obtain ⟨i0, hi0, hz0, hz1, hz2⟩ := info_parts infoInt
  have hma : Mod (fun _ => False) w (((w.alloc (.cells #[.int .u8 name, .slice ca cols.length cc, .int .i64 keys, .int .i64 idx] 24)).alloc (.cells #[.int .u8 0, .slice none 0 0, .int .i64 0, .int .i64 0] 37)).alloc (.cells #[.int .u8 name, .slice none 0 0, .int .i64 keys, .int .i64 idx] 37)) := (((Mod.refl _ _).alloc _).alloc _).alloc _
  obtain ⟨a1, a2, a3⟩ := alloc3 w (.cells #[.int .u8 name, .slice ca cols.length cc, .int .i64 keys, .int .i64 idx] 24) (.cells #[.int .u8 0, .slice none 0 0, .int .i64 0, .int .i64 0] 37) (.cells #[.int .u8 name, .slice none 0 0, .int .i64 keys, .int .i64 idx] 37)
  have hma2 : (w.alloc (.cells #[.int .u8 name, .slice ca cols.length cc, .int .i64 keys, .int .i64 idx] 24)).heap[w.heap.size]? = some (.cells #[.int .u8 name, .slice ca cols.length cc, .int .i64 keys, .int .i64 idx] 24 (0, 0)) := heap_alloc_new _ _
  have hma3 : ((w.alloc (.cells #[.int .u8 name, .slice ca cols.length cc, .int .i64 keys, .int .i64 idx] 24)).alloc (.cells #[.int .u8 0, .slice none 0 0, .int .i64 0, .int .i64 0] 37)).heap[w.heap.size]? = some (.cells #[.int .u8 name, .slice ca cols.length cc, .int .i64 keys, .int .i64 idx] 24 (0, 0)) := (((Mod.refl (fun _ => False) _).alloc _).block _ (lt_of_heap hma2) (fun h => h)).trans hma2
  have hs3 : (((w.alloc (.cells #[.int .u8 name, .slice ca cols.length cc, .int .i64 keys, .int .i64 idx] 24)).alloc (.cells #[.int .u8 0, .slice none 0 0, .int .i64 0, .int .i64 0] 37)).alloc (.cells #[.int .u8 name, .slice none 0 0, .int .i64 keys, .int .i64 idx] 37)).heap.size = w.heap.size + 3 := by simp
  have HStart : Hid (TLoop w _ name keys idx cols 0 none 0) := hid ⟨Own.nil _ _ _, (fun k hk => (blk_none k hk).elim), hma, a2, a3⟩
  have HB := hid a1
  have HL := hid hl
  have HS3 := hid hs3
  obtain ⟨p0, p1, p2, p3⟩ := row4 hma3
  obtain ⟨b0, b1, b2, b3⟩ := row4 a1
  clear hma a1 a2 a3 hma2 hma3 hl hs3
  go_enter Try.func9, Try.ntmps9
  go_wp2_with fail
  clear b0 b1 b2 b3 p0 p1 p2 p3
  generalize (((w.alloc (.cells #[.int .u8 name, .slice ca cols.length cc, .int .i64 keys, .int .i64 idx] 24)).alloc (.cells #[.int .u8 0, .slice none 0 0, .int .i64 0, .int .i64 0] 37)).alloc (.cells #[.int .u8 name, .slice none 0 0, .int .i64 keys, .int .i64 idx] 37)) = C at *
  go_loopw [16] (fun sc wr => ∃ (k : Nat) (la : Option Addr) (cap : Nat), k ≤ cols.length ∧ sc = .int .i64 (k : Int) ∧ TLoop w wr name keys idx cols k la cap) (fun sc _ => cols.length - (intOf sc).toNat)
  case atStart => exact ⟨0, none, 0, Nat.zero_le _, rfl, HStart.out⟩
  case round =>
    obtain ⟨k, la, cap, hk, rfl, hd⟩ := hrel
    have HD := hid hd
    clear hd
    by_cases hlt : k < cols.length
    case neg =>
      have hke : k = cols.length := by omega
      subst hke
      obtain ⟨c0, c1, c2, c3⟩ := row4 HD.out.tab
      obtain ⟨d0, d1, d2, d3⟩ := row4 HD.out.out
      obtain ⟨f0, f1, f2, f3⟩ := froz4 HD.out.out
      go_wp2_with fail
      have h4 := (set4 (set4 (set4 (set4 HD.out.out (.int .u8 name)).1 (.slice la cols.length cap)).2.1 (.int .i64 keys)).2.2.1 (.int .i64 idx)).2.2.2
      have HM4 : Hid (Mod (fun j => j = w.heap.size + 1) wr ((((wr.setCell ⟨w.heap.size + 1, 0, none⟩ (.int .u8 name)).setCell ⟨w.heap.size + 1, 1, none⟩ (.slice la cols.length cap)).setCell ⟨w.heap.size + 1, 2, none⟩ (.int .i64 keys)).setCell ⟨w.heap.size + 1, 3, none⟩ (.int .i64 idx))) :=
        hid (Mod.setCell (S := fun j => j = w.heap.size + 1) (Mod.setCell (S := fun j => j = w.heap.size + 1) (Mod.setCell (S := fun j => j = w.heap.size + 1) (Mod.setCell (S := fun j => j = w.heap.size + 1) (Mod.refl _ _) (fun _ => rfl) _) (fun _ => rfl) _) (fun _ => rfl) _) (fun _ => rfl) _)
      clear c0 c1 c2 c3 d0 d1 d2 d3 f0 f1 f2 f3
      generalize ((((wr.setCell ⟨w.heap.size + 1, 0, none⟩ (.int .u8 name)).setCell ⟨w.heap.size + 1, 1, none⟩ (.slice la cols.length cap)).setCell ⟨w.heap.size + 1, 2, none⟩ (.int .i64 keys)).setCell ⟨w.heap.size + 1, 3, none⟩ (.int .i64 idx)) = Z at *
      obtain ⟨g0, g1, g2, g3⟩ := row4 h4
      refine bodyPost_ret (v := .agg #[.int .u8 name, .slice la cols.length cap, .int .i64 keys, .int .i64 idx]) (by simp [results, Try.results9, go_sem, g0, g1, g2, g3]) rfl ⟨HD.out.mod.then HM4.out (fun i hi h => by omega), la, cap, rfl, ?_⟩
      have hown := HD.out.own
      rw [List.take_length] at hown
      exact hown.lies.mod HM4.out (fun _ j hj h => by have := HD.out.new j hj; omega)
    case pos =>
      obtain ⟨c, hc⟩ : ∃ c, cols[k]? = some c := ⟨_, List.getElem?_eq_getElem hlt⟩
      have hce : cols[k] = c := by rw [List.getElem?_eq_getElem hlt] at hc; exact Option.some.inj hc
      have HTk : Hid ((cols.take (k + 1)).flatMap oneI = (cols.take k).flatMap oneI ++ [.int .i64 c]) := hid (by rw [one_take cols k hlt, hce])
      have hlc := HL.out.ext HD.out.mod
      obtain ⟨g, off, rfl⟩ := hlc.some (by omega)
      have q0 := hlc.cell oneI_len hc (j := 0) rfl
      rw [Nat.add_zero, Nat.mul_one] at q0
      obtain ⟨c0, c1, c2, c3⟩ := row4 HD.out.tab
      have hma : Mod (fun _ => False) wr (wr.alloc (.cells #[.int .i64 c] 3)) := (Mod.refl _ _).alloc _
      have HMa := hid (HD.out.mod.trans hma)
      have HOa := hid (HD.out.own.mod hma (fun _ _ h => h))
      have HSa : Hid (Src (wr.alloc (.cells #[.int .i64 c] 3)) 1 (some ⟨wr.heap.size, 0, none⟩) 1 [.int .i64 c]) := hid (src_new (heap_alloc_new _ _) rfl)
      have HTa := hid ((hma.block _ (lt_of_heap HD.out.tab) (fun h => h)).trans HD.out.tab)
      have HOu := hid ((hma.block _ (lt_of_heap HD.out.out) (fun h => h)).trans HD.out.out)
      have HSz := hid (Nat.lt_of_lt_of_le (lt_of_heap HD.out.tab) hma.size)
      clear hc hce hlc hma
      go_wp2_with (at_builtin; refine wpList_append_Own rfl (.tmp 21) (.tmp 23) 35 rfl 3 i0 _ 1 8 Try.underlying35 hi0 hz0 hz1 hz2 rfl la k cap _ rfl HOa.out (some ⟨wr.heap.size, 0, none⟩) 1 1 _ rfl HSa.out (by intro u hu; simp at hu; subst hu; rfl) (by unfold maxLen; omega) (by omega) ?_; intro la' cap' w6 hown6 hm6 hb6 hn6 hr6; have HO6 := hid hown6; have HM6 := hid hm6; have HB6 := hid hb6; clear hown6 hm6 hb6 hn6 hr6 c0 c1 c2 c3; have HT6 := hid ((HM6.out.block _ (lt_of_heap HTa.out) (fun h => by have := HD.out.new _ h; omega)).trans HTa.out); have HU6 := hid ((HM6.out.block _ (lt_of_heap HOu.out) (fun h => by have := HD.out.new _ h; omega)).trans HOu.out); obtain ⟨d0, d1, d2, d3⟩ := row4 HT6.out; obtain ⟨f0, f1, f2, f3⟩ := froz4 HT6.out)
      go_roundw
      case rel =>
        have HBn : ∀ b, blk la' b → w.heap.size + 3 ≤ b := fun b hb => by
          rcases HB6.out b hb with h | h
          · exact HD.out.new b h
          · have := HSz.out; omega
        have hm7 : Mod (fun j => j = w.heap.size + 1 + 1) w6 (w6.setCell ⟨w.heap.size + 1 + 1, 1, none⟩ (.slice la' (k + 1) cap')) := Mod.setCell (S := fun j => j = w.heap.size + 1 + 1) (Mod.refl _ _) (fun _ => rfl) _
        refine ⟨k + 1, la', cap', by omega, by go_num, ⟨?_, HBn, (HMa.out.then HM6.out (fun i hi h => by have := HD.out.new i h; omega)).then hm7 (fun i hi h => by omega), set_other HU6.out (by omega) _, (set4 HT6.out _).2.1⟩⟩
        rw [HTk.out]
        exact HO6.out.mod hm7 (fun j hj h => by have := HBn j hj; omega)
      case measure => simp [intOf]; omega

set_option maxRecDepth 100000 in
set_option maxHeartbeats 2000000 in
theorem same_same {w : World} {a b : Option Addr} {r : List Vl} (c1 c2 : Nat) (h1 : Lies w 2 Vl.cs a r) (h2 : Lies w 2 Vl.cs b r) (hn : r.length ≤ 140737488351232) :
    Calls Try.prog 13 #[.slice a r.length c1, .slice b r.length c2] w fun e w' => e = .returned (.bool true) ∧ Mod (fun _ => False) w w' := by
  have H1 := hid h1
  have H2 := hid h2
  clear h1 h2
  go_enter Try.func13, Try.ntmps13
  go_wp2_with fail
  go_loopw [13] (fun sc wr => ∃ k : Nat, k ≤ r.length ∧ sc = .int .i64 (k : Int) ∧ Mod (fun _ => False) w wr) (fun sc _ => r.length - (intOf sc).toNat)
  case atStart => exact ⟨0, Nat.zero_le _, rfl, Mod.refl _ _⟩
  case round =>
    obtain ⟨k, hk, rfl, hm⟩ := hrel
    have HM := hid hm
    by_cases hlt : k < r.length
    case neg =>
      have hke : k = r.length := by omega
      subst hke
      go_wp2_with fail
      go_ret
      exact ⟨rfl, HM.out⟩
    case pos =>
      obtain ⟨v, hv⟩ : ∃ v, r[k]? = some v := ⟨_, List.getElem?_eq_getElem hlt⟩
      have hq := H1.out.ext hm
      have hp := H2.out.ext hm
      obtain ⟨g, off, rfl⟩ := hq.some (by omega)
      obtain ⟨g2, off2, rfl⟩ := hp.some (by omega)
      have q0 := fun x : Ext wr => x.cell (hq.cell vl_len hv (j := 0) rfl)
      have q1 := fun x : Ext wr => x.cell (hq.cell vl_len hv (j := 1) rfl)
      have p0 := fun x : Ext wr => x.cell (hp.cell vl_len hv (j := 0) rfl)
      have p1 := fun x : Ext wr => x.cell (hp.cell vl_len hv (j := 1) rfl)
      obtain ⟨n, t⟩ := v
      simp only [Nat.add_zero] at q0 p0
      simp only at q1 p1
      clear hq hp hv hm
      go_upto_region 6 with fail
      refine wp_region_ext (by kernel_rfl) (by kernel_rfl) ?_
      repeat (go_big_quiet_step ((fail)))
      refine wpQuiet_nil ?_
      rintro _ ⟨x, rfl⟩
      clear q0 q1 p0 p1
      go_wp2_with fail
      go_roundw
      case rel => exact ⟨k + 1, by omega, by go_num, HM.out.trans x.mod⟩
      case measure => simp [intOf]; omega

/-- The columns of the law's plain table. -/
def plainC : List Int := [0, 1]
def plainR : List Vl := [⟨5, ⟨#[]⟩⟩, ⟨0, ⟨#[120]⟩⟩]
def plainK : List UInt8 := [97, 0, 128, 0, 0, 0, 0, 0, 0, 5]
def plainX : List UInt8 := [97, 1, 120, 0, 128, 0, 0, 0, 0, 0, 0, 5]

set_option maxRecDepth 100000 in
theorem plain_any (w : World) : Calls Try.prog 24 #[] w fun e w' => Mod (fun _ => False) w w' ∧ ∃ ca, e = .returned (.agg #[.int .u8 97, .slice ca plainC.length 2, .int .i64 1, .int .i64 1]) ∧ Lies w' 1 oneI ca plainC := by
  have hs : (w.alloc (.cells #[.int .u8 97, .slice (some ⟨w.heap.size + 1, 0, none⟩) 2 2, .int .i64 1, .int .i64 1] 24)).heap.size = w.heap.size + 1 := by simp
  have h1 : ((w.alloc (.cells #[.int .u8 97, .slice (some ⟨w.heap.size + 1, 0, none⟩) 2 2, .int .i64 1, .int .i64 1] 24)).alloc (.cells #[.int .i64 0, .int .i64 1] 48)).heap[w.heap.size]? = some (.cells #[.int .u8 97, .slice (some ⟨w.heap.size + 1, 0, none⟩) 2 2, .int .i64 1, .int .i64 1] 24 (0, 0)) := by
    rw [Below.heap_alloc _ _ _ (by omega)]
    exact heap_alloc_new _ _
  have h2 : ((w.alloc (.cells #[.int .u8 97, .slice (some ⟨w.heap.size + 1, 0, none⟩) 2 2, .int .i64 1, .int .i64 1] 24)).alloc (.cells #[.int .i64 0, .int .i64 1] 48)).heap[w.heap.size + 1]? = some (.cells (plainC.flatMap oneI).toArray 48 (0, 0)) := by
    have h := heap_alloc_new (w.alloc (.cells #[.int .u8 97, .slice (some ⟨w.heap.size + 1, 0, none⟩) 2 2, .int .i64 1, .int .i64 1] 24)) (.cells #[.int .i64 0, .int .i64 1] 48)
    rw [hs] at h
    exact h
  have HM : Hid (Mod (fun _ => False) w ((w.alloc (.cells #[.int .u8 97, .slice (some ⟨w.heap.size + 1, 0, none⟩) 2 2, .int .i64 1, .int .i64 1] 24)).alloc (.cells #[.int .i64 0, .int .i64 1] 48))) := hid (((Mod.refl _ _).alloc _).alloc _)
  have H1 := hid h1
  have H2 := hid h2
  clear hs h1 h2
  go_enter Try.func24, Try.ntmps24
  go_wp2_with fail
  generalize (w.alloc (.cells #[.int .u8 97, .slice (some ⟨w.heap.size + 1, 0, none⟩) 2 2, .int .i64 1, .int .i64 1] 24)).alloc (.cells #[.int .i64 0, .int .i64 1] 48) = Z at *
  obtain ⟨g0, g1, g2, g3⟩ := row4 H1.out
  exact bodyPost_ret (v := .agg #[.int .u8 97, .slice (some ⟨w.heap.size + 1, 0, none⟩) 2 2, .int .i64 1, .int .i64 1]) (by simp [results, Try.results24, go_sem, g0, g1, g2, g3]) rfl ⟨HM.out, _, rfl, lies_new oneI_len H2.out⟩

theorem uvar_one : uvar 1 = [1] := by rw [uvar_small (by decide)]; rfl

theorem plain_good : Good 97 plainC 1 1 plainR := by
  refine ⟨?_, rfl, fun j c v hc hv => ?_, fun j v _ hv => ?_⟩
  · unfold fitB
    rw [if_pos (fun k hk => by simp [plainC] at hk; rcases hk with rfl | rfl; exact .inl rfl; exact .inr rfl)]
    rfl
  · have hj := (List.getElem?_eq_some_iff.1 hv).1
    have h2 : j = 0 ∨ j = 1 := by simp [plainR] at hj; omega
    rcases h2 with rfl | rfl
    · cases hc; cases hv; unfold typedV; rw [if_pos rfl, ByteArray.toList_eq]; rfl
    · cases hc; cases hv; rfl
  · have hj := (List.getElem?_eq_some_iff.1 hv).1
    have h2 : j = 0 ∨ j = 1 := by simp [plainR] at hj; omega
    rcases h2 with rfl | rfl <;> cases hv <;> rfl

theorem plain_px : pxOf 97 plainC 1 1 plainR = ⟨plainK, [1, 120], plainX⟩ := by
  have ho : ordL 5 = [128, 0, 0, 0, 0, 0, 0, 5] := by decide +kernel
  have h1 : keysL plainC plainR 1 = [128, 0, 0, 0, 0, 0, 0, 5] := by
    unfold keysL plainC plainR
    simp [formV, formL, ho]
  have h2 : valL plainC plainR 1 2 = [1, 120] := by
    have ht : textL ⟨#[120]⟩ = [1, 120] := by
      unfold textL
      rw [show (⟨#[120]⟩ : ByteArray).size = 1 from rfl, uvar_one]; rfl
    unfold valL plainC plainR
    simp [packV, ht]
  have h3 : idxL plainC plainR 1 = [120, 0] := by
    unfold idxL plainC plainR
    simp [formV, formL]
  unfold pxOf pkeyL pvalL pxL
  rw [show (1 : Int).toNat = 1 from rfl, show (97 : Int).toNat = 97 from rfl, h1, show plainC.length = 2 from rfl, h2, h3, if_pos (by decide)]
  simp [headL, plainK, plainX]

theorem plain_pair : pairO 97 plainC 1 1 plainR = some ⟨plainK, [1, 120], plainX⟩ := by
  rw [pairO_some plain_good (by rw [plain_px]; decide), plain_px]

theorem plain_ok : ∀ v ∈ plainR, v.Ok := by
  intro v hv
  simp [plainR] at hv
  rcases hv with rfl | rfl
  · exact ⟨by decide, by decide, by decide⟩
  · exact ⟨by decide, by decide, by decide⟩

theorem plain_sizes : (∀ k, (keysL plainC plainR k).length ≤ 1152921504606846976) ∧ ∀ j k, (valL plainC plainR j k).length ≤ 1152921504606846976 :=
  sizes_small (by decide) plain_ok (fun v hv => by simp [plainR] at hv; rcases hv with rfl | rfl <;> decide)

set_option maxRecDepth 100000 in
set_option maxHeartbeats 4000000 in
theorem wakes_any (w : World) : Calls Try.prog 11 #[] w fun e w' => e = .returned (.bool true) ∧ Mod (fun _ => False) w w' := by
  have HP := hid (fun W : World => plain_any W)
  have HE := hid (fun (W : World) (ca ra : Option Addr) (hl : Lies W 1 oneI ca plainC) (hr : Lies W 2 Vl.cs ra plainR) => encode_any (w := W) 97 1 1 2 2 hl hr (by decide) (by decide) plain_ok plain_sizes.1 plain_sizes.2)
  rw [plain_pair] at HE
  have he : encV (some ⟨plainK, [1, 120], plainX⟩) = .tuple #[.agg #[.string (ba plainK), .string (ba [1, 120])], .int .i64 0] := rfl
  rw [he] at HE
  clear he
  go_enter Try.func11, Try.ntmps11
  go_upto_region 2 with (first
    | (go_at_call 24; refine (HP.out _).mono ?_; rintro e w1 ⟨hm1, ca, rfl, hl1⟩; have HM1 := hid hm1; have HL1 := hid hl1; have HR1 : Hid (Lies (w1.alloc (.cells #[.int .i64 5, .string ⟨#[]⟩, .int .i64 0, .string ⟨#[120]⟩] 50)) 2 Vl.cs (some ⟨w1.heap.size, 0, none⟩) plainR) := hid (lies_new vl_len (heap_alloc_new _ _)); have HL2 := hid (hl1.ext ((Mod.refl (fun _ => False) _).alloc (.cells #[.int .i64 5, .string ⟨#[]⟩, .int .i64 0, .string ⟨#[120]⟩] 50))); clear hm1 hl1)
    | (go_at_call 7; refine (HE.out _ _ _ HL2.out HR1.out).mono ?_; rintro e w2 ⟨rfl, hm2⟩; have HM2 := hid hm2; clear hm2))
  have HMU := hid (((HM1.out.alloc (.cells #[.int .i64 5, .string ⟨#[]⟩, .int .i64 0, .string ⟨#[120]⟩] 50)).trans HM2.out).alloc (.cells #[.string (ba plainK), .string (ba [1, 120])] 28))
  have HX : Hid (∀ W, Mod (fun _ => False) (w2.alloc (.cells #[.string (ba plainK), .string (ba [1, 120])] 28)) W → W.cell? ⟨w2.heap.size, 0, none⟩ = some (.string (ba plainK)) ∧ W.cell? ⟨w2.heap.size, 1, none⟩ = some (.string (ba [1, 120]))) := hid (fun W hm => by
    have h := row2 ((hm.block _ (lt_of_heap (heap_alloc_new _ _)) (fun h => h)).trans (heap_alloc_new _ _))
    exact ⟨h.1, h.2.1⟩)
  clear HE
  generalize w2.alloc (.cells #[.string (ba plainK), .string (ba [1, 120])] 28) = U at *
  have HD := hid (fun (W : World) (ca : Option Addr) (hl : Lies W 1 oneI ca plainC) => ((decode_any (w := W) 97 1 1 2 (ba plainK) (ba [1, 120]) hl (by decide) (by decide) (by decide)).mono (fun e w' h => by
    refine ⟨h.1, ?_⟩
    have hy := dec_pair plain_ok plain_pair
    rcases h.2 with ⟨r, la, cap, h1, h2, h3, h4, h5, h6⟩ | ⟨h1, h2⟩
    · have hr := dec_one hy h1
      subst hr
      exact ⟨la, cap, h4, h5⟩
    · exact absurd hy (h1 _) : ∀ e w', DecAns W 97 plainC 1 1 (ba plainK) (ba [1, 120]) e w' → Mod (fun _ => False) W w' ∧ ∃ la cap, e = .returned (.tuple #[.slice la plainR.length cap, .int .i64 0]) ∧ Lies w' 2 Vl.cs la plainR)))
  have hU0 : Mod (fun _ => False) U U.drew := (Mod.refl _ _).drew
  obtain ⟨y0, y1⟩ := HX.out _ hU0
  go_region_held3 (fun W' => W'.cell? ⟨w2.heap.size, 0, none⟩ = some (.string (ba plainK)) ∧ W'.cell? ⟨w2.heap.size, 1, none⟩ = some (.string (ba [1, 120])))
    (first | exact ⟨u0, u1⟩ | exact ⟨z0, z1⟩ | exact ⟨y0, y1⟩ | go_keep)
    (first
      | (go_at_call 24; refine (HP.out _).mono ?_; rintro e w3 ⟨hm3, ca3, rfl, hl3⟩; have HM3 := hid (hU0.trans hm3); have HL3 := hid hl3; obtain ⟨z0, z1⟩ := HX.out _ HM3.out; clear hm3 hl3)
      | (go_at_call 12; refine (HD.out _ _ HL3.out).mono ?_; rintro e w4 ⟨hm4, la4, cap4, rfl, hl4⟩; have HM4 := hid (HM3.out.trans hm4); have HL4 := hid hl4; obtain ⟨u0, u1⟩ := HX.out _ HM4.out; clear hm4 hl4))
  all_goals
    rw [show ba plainK = (⟨#[97, 0, 128, 0, 0, 0, 0, 0, 0, 5]⟩ : ByteArray) from rfl] at u0
    rw [show ba [1, 120] = (⟨#[1, 120]⟩ : ByteArray) from rfl] at u1
    have h2 : plainR.length = 2 := rfl
    obtain ⟨g, off, rfl⟩ := HL4.out.some (by decide)
    have q0 := HL4.out.cell vl_len (i := 0) (x := ⟨5, ⟨#[]⟩⟩) rfl (j := 0) rfl
    simp only [Nat.zero_mul, Nat.add_zero] at q0
    go_wp2_with fail
    go_ret
    exact ⟨rfl, HMU.out.trans HM4.out⟩

end Go.Proofs.Ytoclecpedhbokaa
