/- The node as one, or as two -/
import Derived.Test.YthdopgejikcfbaaJoin
import Derived.Deep.RegionHeld3
namespace Go.Proofs.Ythdopgejikcfbaa
open Go Go.RowKit

def Nd.cs (m : Nd) : List Value := [.bool m.leaf, .slice m.ka m.keys.length m.kc, .slice m.va m.values.length m.vc, .slice m.ia m.kids.length m.ic]

/-- How many bytes entries have. -/
def wt (leaf : Bool) (es : List Ent) : Nat := (es.flatMap (entL leaf)).length

/-- Where a node is cut. -/
structure CutAt (leaf : Bool) (es : List Ent) (i : Nat) : Prop where
  lo : 1 ≤ i
  hi : i < es.length
  great : i + 1 = es.length ∨ wt leaf es ≤ 2 * wt leaf (es.take i)
  small : i = 1 ∨ 2 * wt leaf (es.take (i - 1)) < wt leaf es
  big : 1024 < (bytesL leaf es).length

/-- One node, or two, in memory that is new since w. -/
def SplitAns (w : World) (leaf : Bool) (es : List Ent) (e : Ending) (w' : World) : Prop :=
  Mod (fun _ => False) w w' ∧ ∃ g : Nat, w.heap.size ≤ g ∧
    ((∃ m : Nd, (es.length < 2 ∨ (bytesL leaf es).length ≤ 1024) ∧ Has m leaf es ∧ Gd w' m ∧ (∀ b, m.bs b → w.heap.size ≤ b ∧ b ≠ g) ∧ w'.heap[g]? = some (.cells m.cs.toArray 26 (0, 0)) ∧ e = .returned (.slice (some ⟨g, 0, none⟩) 1 1)) ∨
     ∃ (i : Nat) (m q : Nd), CutAt leaf es i ∧ Has m leaf (es.take i) ∧ Has q leaf (es.drop i) ∧ Gd w' m ∧ Gd w' q ∧ (∀ b, m.bs b → w.heap.size ≤ b ∧ b ≠ g ∧ ¬ q.bs b) ∧ (∀ b, q.bs b → w.heap.size ≤ b ∧ b ≠ g) ∧ w'.heap[g]? = some (.cells (m.cs ++ q.cs).toArray 26 (0, 0)) ∧ e = .returned (.slice (some ⟨g, 0, none⟩) 2 2))

theorem one_ans {w V w1 : World} {leaf : Bool} {es : List Ent} {m : Nd} (hm : Mod (fun _ => False) w V) (hm1 : Mod (fun _ => False) V w1) (h1 : es.length < 2 ∨ (bytesL leaf es).length ≤ 1024) (hh : Has m leaf es) (hg : Gd w1 m) (hbs : ∀ b, m.bs b → V.heap.size ≤ b) :
    SplitAns w leaf es (.returned (.slice (some ⟨w1.heap.size, 0, none⟩) 1 1)) (w1.alloc (.cells #[.bool m.leaf, .slice m.ka m.keys.length m.kc, .slice m.va m.values.length m.vc, .slice m.ia m.kids.length m.ic] 26)) := by
  have s1 := hm.size
  have s2 := hm1.size
  refine ⟨(hm.trans hm1).alloc _, w1.heap.size, by omega, .inl ⟨m, h1, hh, hg.ext (S := fun _ => False) ((Mod.refl _ _).alloc _) (fun _ _ h => h), fun b h => ?_, heap_alloc_new _ _, rfl⟩⟩
  have := hbs b h
  have := hg.lt h
  exact ⟨by omega, by omega⟩

theorem two_ans {w V w1 w2 : World} {n : Nd} {k : Nat} {m q : Nd} (hm : Mod (fun _ => False) w V) (hc : CutAt n.leaf n.ents k) (h1 : Has m n.leaf ((n.ents.take k).drop 0)) (g1 : Gd w1 m) (hm1 : Mod (fun _ => False) V w1) (hb1 : ∀ b, m.bs b → V.heap.size ≤ b)
    (h2 : Has q n.leaf ((n.ents.take n.keys.length).drop k)) (g2 : Gd w2 q) (hm2 : Mod (fun _ => False) w1 w2) (hb2 : ∀ b, q.bs b → w1.heap.size ≤ b) :
    SplitAns w n.leaf n.ents (.returned (.slice (some ⟨w2.heap.size, 0, none⟩) 2 2)) (w2.alloc (.cells #[.bool m.leaf, .slice m.ka m.keys.length m.kc, .slice m.va m.values.length m.vc, .slice m.ia m.kids.length m.ic, .bool q.leaf, .slice q.ka q.keys.length q.kc, .slice q.va q.values.length q.vc, .slice q.ia q.kids.length q.ic] 26)) := by
  have s1 := hm.size
  have s2 := hm1.size
  have s3 := hm2.size
  have g1' := g1.ext hm2 (fun _ _ h => h)
  rw [List.drop_zero] at h1
  rw [← ents_len, List.take_length] at h2
  refine ⟨((hm.trans hm1).trans hm2).alloc _, w2.heap.size, by omega, .inr ⟨k, m, q, hc, h1, h2, g1'.ext (S := fun _ => False) ((Mod.refl _ _).alloc _) (fun _ _ h => h), g2.ext (S := fun _ => False) ((Mod.refl _ _).alloc _) (fun _ _ h => h), fun b h => ?_, fun b h => ?_, heap_alloc_new _ _, rfl⟩⟩
  · have := hb1 b h
    have := g1.lt h
    exact ⟨by omega, by omega, fun h => by have := hb2 b h; omega⟩
  · have := hb2 b h
    have := g2.lt h
    exact ⟨by omega, by omega⟩

theorem bytesL_len (leaf : Bool) (es : List Ent) : (bytesL leaf es).length = 1 + (uvar es.length).length + wt leaf es := by unfold bytesL wt; simp; omega

set_option maxRecDepth 100000 in
set_option maxHeartbeats 2000000 in
theorem split_one {w : World} {n : Nd} (h : NdAt w n) (h1 : n.keys.length < 2 ∨ (bytesL n.leaf n.ents).length ≤ 1024) : Calls Try.prog 18 #[.agg #[.bool n.leaf, .slice n.ka n.keys.length n.kc, .slice n.va n.values.length n.vc, .slice n.ia n.kids.length n.ic]] w fun e w' => SplitAns w n.leaf n.ents e w' := by
  have hkb := h.bk
  have hm : Mod (fun _ => False) w (w.alloc (.cells #[.bool n.leaf, .slice n.ka n.keys.length n.kc, .slice n.va n.values.length n.vc, .slice n.ia n.kids.length n.ic] 26)) := (Mod.refl _ _).alloc _
  have hbox : (w.alloc (.cells #[.bool n.leaf, .slice n.ka n.keys.length n.kc, .slice n.va n.values.length n.vc, .slice n.ia n.kids.length n.ic] 26)).heap[w.heap.size]? = some (.cells #[.bool n.leaf, .slice n.ka n.keys.length n.kc, .slice n.va n.values.length n.vc, .slice n.ia n.kids.length n.ic] 26 (0, 0)) := heap_alloc_new _ _
  have HN := hid (h.ext hm)
  have HM := hid hm
  have HBox := hid hbox
  have H1 := hid h1
  clear h hm hbox h1
  by_cases h2 : n.keys.length < 2
  · have d : decide (n.keys.length < 2) = true := by simpa using h2
    go_enter Try.func18, Try.ntmps18
    go_wp2_with fail
    generalize w.alloc (.cells #[.bool n.leaf, .slice n.ka n.keys.length n.kc, .slice n.va n.values.length n.vc, .slice n.ia n.kids.length n.ic] 26) = V at *
    refine (part_any HN.out 0 n.keys.length (Nat.zero_le _) (Nat.le_refl _)).mono ?_
    rintro e w1 ⟨m, hh, rfl, hg, hm1, hbs⟩
    rw [ents_take_all] at hh
    have hgo := one_ans HM.out hm1 (by rw [ents_len]; exact H1.out) hh hg hbs
    have HGo := hid hgo
    clear hh hg hm1 hbs hgo
    go_wp2_with fail
    go_ret
    exact HGo.out
  · have h3 : (bytesL n.leaf n.ents).length ≤ 1024 := H1.out.resolve_left h2
    have d : decide (n.keys.length < 2) = false := by simpa using h2
    have d2 : decide ((bytesL n.leaf n.ents).length ≤ 1024) = true := by simpa using h3
    go_enter Try.func18, Try.ntmps18
    go_wp2_with fail
    generalize w.alloc (.cells #[.bool n.leaf, .slice n.ka n.keys.length n.kc, .slice n.va n.values.length n.vc, .slice n.ia n.kids.length n.ic] 26) = V at *
    refine (weight_any HN.out).mono ?_
    rintro e w0 ⟨rfl, hm0⟩
    have HN0 := hid (HN.out.ext hm0)
    have HM0 := hid (HM.out.trans hm0)
    obtain ⟨b0, b1, b2, b3⟩ := cells4 ((hm0.block _ (lt_of_heap HBox.out) (fun h => h)).trans HBox.out)
    clear hm0
    go_wp2_with fail
    refine (part_any HN0.out 0 n.keys.length (Nat.zero_le _) (Nat.le_refl _)).mono ?_
    rintro e w1 ⟨m, hh, rfl, hg, hm1, hbs⟩
    rw [ents_take_all] at hh
    have hgo := one_ans HM0.out hm1 (by rw [ents_len]; exact H1.out) hh hg hbs
    have HGo := hid hgo
    clear hh hg hm1 hbs hgo
    go_wp2_with fail
    go_ret
    exact HGo.out

theorem wt_succ (n : Nd) (k : Nat) (hk : k < n.keys.length) : wt n.leaf (n.ents.take (k + 1)) = wt n.leaf (n.ents.take k) + (entL n.leaf (entAt n k)).length := by
  have := upTo_succ n 0 k (Nat.zero_le _) hk
  simp only [List.drop_zero] at this
  rw [this]
  unfold wt
  simp

theorem wt_bound {w : World} {n : Nd} (h : NdAt w n) (k : Nat) : wt n.leaf (n.ents.take k) ≤ 35184455974912 := by
  have h1 := flat_le (leaf := n.leaf) (es := n.ents.take k) (fun x hx => ents_ok h x (List.mem_of_mem_take hx))
  have h2 : (n.ents.take k).length ≤ 4194304 := by rw [List.length_take, ents_len]; have := h.bk; omega
  unfold wt
  have : (n.ents.take k).length * 8388628 ≤ 4194304 * 8388628 := Nat.mul_le_mul_right _ h2
  omega

theorem wt_mono {w : World} {n : Nd} (_h : NdAt w n) (k : Nat) : wt n.leaf (n.ents.take k) ≤ wt n.leaf n.ents := by
  unfold wt
  conv => rhs; rw [← List.take_append_drop k n.ents]
  rw [List.flatMap_append, List.length_append]
  omega

set_option maxRecDepth 100000 in
set_option maxHeartbeats 4000000 in
theorem split_two {w : World} {n : Nd} (h : NdAt w n) (h1 : 2 ≤ n.keys.length) (h2 : 1024 < (bytesL n.leaf n.ents).length) : Calls Try.prog 18 #[.agg #[.bool n.leaf, .slice n.ka n.keys.length n.kc, .slice n.va n.values.length n.vc, .slice n.ia n.kids.length n.ic]] w fun e w' => SplitAns w n.leaf n.ents e w' := by
  have hkb := h.bk
  have hm : Mod (fun _ => False) w (w.alloc (.cells #[.bool n.leaf, .slice n.ka n.keys.length n.kc, .slice n.va n.values.length n.vc, .slice n.ia n.kids.length n.ic] 26)) := (Mod.refl _ _).alloc _
  have hbox : (w.alloc (.cells #[.bool n.leaf, .slice n.ka n.keys.length n.kc, .slice n.va n.values.length n.vc, .slice n.ia n.kids.length n.ic] 26)).heap[w.heap.size]? = some (.cells #[.bool n.leaf, .slice n.ka n.keys.length n.kc, .slice n.va n.values.length n.vc, .slice n.ia n.kids.length n.ic] 26 (0, 0)) := heap_alloc_new _ _
  have HN := hid (h.ext hm)
  have HM := hid hm
  have HBox := hid hbox
  have hall : wt n.leaf (n.ents.take n.keys.length) = wt n.leaf n.ents := by rw [← ents_len, List.take_length]
  have hbd : wt n.leaf n.ents ≤ 35184455974912 := by rw [← hall]; exact wt_bound h _
  have HAll := hid hall
  have d : decide (n.keys.length < 2) = false := by simpa using h1
  have d2 : decide ((bytesL n.leaf n.ents).length ≤ 1024) = false := by simpa using h2
  clear h hm hbox hall
  go_enter Try.func18, Try.ntmps18
  go_wp2_with fail
  generalize w.alloc (.cells #[.bool n.leaf, .slice n.ka n.keys.length n.kc, .slice n.va n.values.length n.vc, .slice n.ia n.kids.length n.ic] 26) = V at *
  refine (weight_any HN.out).mono ?_
  rintro e w0 ⟨rfl, hm0⟩
  have HN0 := hid (HN.out.ext hm0)
  have HM0 := hid (HM.out.trans hm0)
  have HB0 := hid ((hm0.block _ (lt_of_heap HBox.out) (fun h => h)).trans HBox.out)
  obtain ⟨b0, b1, b2, b3⟩ := cells4 HB0.out
  clear hm0
  go_wp2_with fail
  go_loopw [3, 25] (fun t c wr => ∃ k : Nat, k ≤ n.keys.length ∧ c = .int .i64 k ∧ t = .int .i64 (wt n.leaf (n.ents.take k)) ∧ Mod (fun _ => False) w0 wr) (fun _ c _ => n.keys.length - (intOf c).toNat)
  case atStart => exact ⟨0, Nat.zero_le _, rfl, rfl, Mod.refl _ _⟩
  case round =>
    obtain ⟨k, hk, rfl, rfl, hmr⟩ := hrel
    have HMr := hid hmr
    obtain ⟨c0, c1, c2, c3⟩ := cells4 ((hmr.block _ (lt_of_heap HB0.out) (fun h => h)).trans HB0.out)
    have HNr := hid (HN0.out.ext hmr)
    have hb := wt_bound HNr.out k
    clear hmr
    by_cases hlt : k < n.keys.length
    · have HE := hid (entry_any HNr.out k hlt)
      have hen := entL_len n.leaf (entAt_ok HNr.out hlt)
      have HS := hid (wt_succ n k hlt)
      have hsz : (ba (entL n.leaf (entAt n k))).size = (entL n.leaf (entAt n k)).length := ba_size _
      go_wp2_with fail
      refine HE.out.mono ?_
      rintro e w1 ⟨rfl, hm1⟩
      have HM1 := hid (HMr.out.trans hm1)
      clear hm1
      go_wp2_with fail
      go_roundw
      case rel => exact ⟨k + 1, by omega, by go_num, by rw [HS.out]; go_num, HM1.out⟩
      case measure => simp [intOf]; omega
    · obtain rfl : k = n.keys.length := by omega
      rw [HAll.out]
      clear hb
      go_wp2_with fail
      go_loopw [5, 6] (fun c t wr => ∃ k : Nat, k + 1 ≤ n.keys.length ∧ c = .int .i64 k ∧ t = .int .i64 (wt n.leaf (n.ents.take k)) ∧ (k ≤ 1 ∨ 2 * wt n.leaf (n.ents.take (k - 1)) < wt n.leaf n.ents) ∧ Mod (fun _ => False) w0 wr) (fun c _ _ => n.keys.length - (intOf c).toNat)
      case atStart => exact ⟨0, by omega, rfl, rfl, .inl (by omega), HMr.out⟩
      case round =>
        obtain ⟨k, hk, rfl, rfl, hsm, hmr⟩ := hrel
        have HSm := hid hsm
        have HMr := hid hmr
        have HBr := hid ((hmr.block _ (lt_of_heap HB0.out) (fun h => h)).trans HB0.out)
        obtain ⟨c0, c1, c2, c3⟩ := cells4 HBr.out
        have HNr := hid (HN0.out.ext hmr)
        have hb := wt_bound HNr.out k
        clear hmr hsm
        by_cases hgo : k < 1 ∨ (1 ≤ k ∧ k + 1 < n.keys.length ∧ 2 * wt n.leaf (n.ents.take k) < wt n.leaf n.ents)
        · have HE := hid (entry_any HNr.out k (by omega))
          have hen := entL_len n.leaf (entAt_ok HNr.out (show k < n.keys.length by omega))
          have HS := hid (wt_succ n k (by omega))
          have hsz : (ba (entL n.leaf (entAt n k))).size = (entL n.leaf (entAt n k)).length := ba_size _
          have HGo : Hid (k + 1 ≤ 1 ∨ 2 * wt n.leaf (n.ents.take (k + 1 - 1)) < wt n.leaf n.ents) := by
            rcases hgo with h | h
            · exact .inl (by omega)
            · exact .inr (by simpa using h.2.2)
          have hk2 : k + 1 + 1 ≤ n.keys.length := by omega
          rcases hgo with h0 | ⟨hk0, h0, h3⟩
          · obtain rfl : k = 0 := by omega
            have hz : wt n.leaf [] ≤ 0 := Nat.le_refl _
            have HZ : Hid (wt n.leaf (n.ents.take 0) = wt n.leaf []) := rfl
            go_wp2_with fail
            refine HE.out.mono ?_
            rintro e w1 ⟨rfl, hm1⟩
            have HM1 := hid (HMr.out.trans hm1)
            clear hm1
            go_wp2_with fail
            go_roundw
            case rel => exact ⟨1, by omega, by go_num, by rw [HS.out, HZ.out]; go_num, HGo.out, HM1.out⟩
            case measure => simp [intOf]; omega
          · have d3 : ¬ k = 0 := by omega
            have d4 : decide ((k : Int) < (n.keys.length : Int) - 1) = true := by simp; omega
            have d5 : decide (2 * (wt n.leaf (n.ents.take k) : Int) < (wt n.leaf n.ents : Int)) = true := by simp; omega
            go_wp2_with fail
            refine HE.out.mono ?_
            rintro e w1 ⟨rfl, hm1⟩
            have HM1 := hid (HMr.out.trans hm1)
            clear hm1
            go_wp2_with fail
            go_roundw
            case rel => exact ⟨k + 1, by omega, by go_num, by rw [HS.out]; go_num, HGo.out, HM1.out⟩
            case measure => simp [intOf]; omega
        · have d3 : ¬ k = 0 := by omega
          have HCut : Hid (CutAt n.leaf n.ents k) := ⟨by omega, by rw [ents_len]; omega, by rw [ents_len]; omega, by rcases HSm.out with h | h <;> omega, h2⟩
          have hmd : Mod (fun _ => False) wr wr.drew := (Mod.refl _ _).drew
          have HM2 := hid ((HM0.out.trans HMr.out).trans hmd)
          have HP1 : Hid (Calls Try.prog 29 #[.agg #[.bool n.leaf, .slice n.ka n.keys.length n.kc, .slice n.va n.values.length n.vc, .slice n.ia n.kids.length n.ic], .int .i64 0, .int .i64 k] wr.drew fun e w' => NewNd wr.drew n.leaf ((n.ents.take k).drop 0) e w') := part_any (HNr.out.ext hmd) 0 k (Nat.zero_le _) (by omega)
          have HP2 : Hid (∀ w1, Mod (fun _ => False) wr.drew w1 → Calls Try.prog 29 #[.agg #[.bool n.leaf, .slice n.ka n.keys.length n.kc, .slice n.va n.values.length n.vc, .slice n.ia n.kids.length n.ic], .int .i64 k, .int .i64 n.keys.length] w1 fun e w' => NewNd w1 n.leaf ((n.ents.take n.keys.length).drop k) e w') := fun w1 hm1 => part_any (HNr.out.ext (hmd.trans hm1)) k n.keys.length (by omega) (Nat.le_refl _)
          have HUp : Hid (∀ w1, Mod (fun _ => False) wr.drew w1 → w1.cell? ⟨w.heap.size, 0, none⟩ = some (.bool n.leaf) ∧ w1.cell? ⟨w.heap.size, 1, none⟩ = some (.slice n.ka n.keys.length n.kc) ∧ w1.cell? ⟨w.heap.size, 2, none⟩ = some (.slice n.va n.values.length n.vc) ∧ w1.cell? ⟨w.heap.size, 3, none⟩ = some (.slice n.ia n.kids.length n.ic)) := fun w1 hm1 => cells4 (((hmd.trans hm1).block _ (lt_of_heap HBr.out) (fun h => h)).trans HBr.out)
          clear hmd
          by_cases hk1 : k + 1 < n.keys.length
          · have d4 : decide ((k : Int) < (n.keys.length : Int) - 1) = true := by simp; omega
            have d5 : decide (2 * (wt n.leaf (n.ents.take k) : Int) < (wt n.leaf n.ents : Int)) = false := by simp; omega
            go_wp2_with fail
            clear b0 b1 b2 b3
            go_region_held3 (fun w' => w'.cell? ⟨w.heap.size, 0, none⟩ = some (.bool n.leaf) ∧ w'.cell? ⟨w.heap.size, 1, none⟩ = some (.slice n.ka n.keys.length n.kc) ∧ w'.cell? ⟨w.heap.size, 2, none⟩ = some (.slice n.va n.values.length n.vc) ∧ w'.cell? ⟨w.heap.size, 3, none⟩ = some (.slice n.ia n.kids.length n.ic))
              (first | exact ⟨x0, x1, x2, x3⟩ | exact ⟨y0, y1, y2, y3⟩ | go_keep)
              (first
                | (go_at_call 29; (with_reducible refine HP1.out.mono ?_); rintro e w1 ⟨m, hh, rfl, hg, hm1, hbs⟩; obtain ⟨y0, y1, y2, y3⟩ := HUp.out w1 hm1; have HA1 := hid (And.intro hh (And.intro hg (And.intro hm1 hbs))); clear hh hg hm1 hbs)
                | (go_at_call 29; (with_reducible refine (HP2.out w1 HA1.out.2.2.1).mono ?_); rintro e w2 ⟨q, hh, rfl, hg, hm1, hbs⟩; obtain ⟨x0, x1, x2, x3⟩ := HUp.out w2 (HA1.out.2.2.1.trans hm1); have HA2 := hid (And.intro hh (And.intro hg (And.intro hm1 hbs))); clear hh hg hm1 hbs))
            go_wp2_with fail
            go_ret
            exact two_ans HM2.out HCut.out HA1.out.1 HA1.out.2.1 HA1.out.2.2.1 HA1.out.2.2.2 HA2.out.1 HA2.out.2.1 HA2.out.2.2.1 HA2.out.2.2.2
          · have d4 : decide ((k : Int) < (n.keys.length : Int) - 1) = false := by simp; omega
            go_wp2_with fail
            clear b0 b1 b2 b3
            go_region_held3 (fun w' => w'.cell? ⟨w.heap.size, 0, none⟩ = some (.bool n.leaf) ∧ w'.cell? ⟨w.heap.size, 1, none⟩ = some (.slice n.ka n.keys.length n.kc) ∧ w'.cell? ⟨w.heap.size, 2, none⟩ = some (.slice n.va n.values.length n.vc) ∧ w'.cell? ⟨w.heap.size, 3, none⟩ = some (.slice n.ia n.kids.length n.ic))
              (first | exact ⟨x0, x1, x2, x3⟩ | exact ⟨y0, y1, y2, y3⟩ | go_keep)
              (first
                | (go_at_call 29; (with_reducible refine HP1.out.mono ?_); rintro e w1 ⟨m, hh, rfl, hg, hm1, hbs⟩; obtain ⟨y0, y1, y2, y3⟩ := HUp.out w1 hm1; have HA1 := hid (And.intro hh (And.intro hg (And.intro hm1 hbs))); clear hh hg hm1 hbs)
                | (go_at_call 29; (with_reducible refine (HP2.out w1 HA1.out.2.2.1).mono ?_); rintro e w2 ⟨q, hh, rfl, hg, hm1, hbs⟩; obtain ⟨x0, x1, x2, x3⟩ := HUp.out w2 (HA1.out.2.2.1.trans hm1); have HA2 := hid (And.intro hh (And.intro hg (And.intro hm1 hbs))); clear hh hg hm1 hbs))
            go_wp2_with fail
            go_ret
            exact two_ans HM2.out HCut.out HA1.out.1 HA1.out.2.1 HA1.out.2.2.1 HA1.out.2.2.2 HA2.out.1 HA2.out.2.1 HA2.out.2.2.1 HA2.out.2.2.2

theorem split_any {w : World} {n : Nd} (h : NdAt w n) : Calls Try.prog 18 #[.agg #[.bool n.leaf, .slice n.ka n.keys.length n.kc, .slice n.va n.values.length n.vc, .slice n.ia n.kids.length n.ic]] w fun e w' => SplitAns w n.leaf n.ents e w' := by
  by_cases h1 : n.keys.length < 2 ∨ (bytesL n.leaf n.ents).length ≤ 1024
  · exact split_one h h1
  · exact split_two h (by omega) (by omega)

end Go.Proofs.Ythdopgejikcfbaa
