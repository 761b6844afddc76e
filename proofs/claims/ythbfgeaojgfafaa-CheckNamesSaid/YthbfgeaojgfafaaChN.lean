/- The steps' numbers by their names -/
import Derived.Test.YthbfgeaojgfafaaChM
namespace Go.Proofs.Ythbfgeaojgfafaa
open Go Go.RowKit

noncomputable def KS : Keys Try.prog 9 ByteArray := strKeys Try.underlying9
noncomputable def KI : Keys Try.prog 3 Int := intKeys Try.underlying3

def nameAt (ss : List Stp) (k : Nat) : ByteArray := ((ss[k]?).map (·.name)).getD ByteArray.empty

/-- The map behind k steps. -/
def ent (ss : List Stp) : Nat → List (ByteArray × Value)
  | 0 => []
  | k + 1 => aput (ent ss k) (nameAt ss k) (.int .i64 k)

theorem ent_keys (ss : List Stp) : ∀ (k : Nat) (x : ByteArray), x ∈ (ent ss k).map (·.1) ↔ ∃ i, i < k ∧ nameAt ss i = x
  | 0, x => by simp [ent]
  | k + 1, x => by
    unfold ent
    rw [aput_keys, ent_keys ss k x]
    constructor
    · rintro (rfl | ⟨i, hi, e⟩)
      · exact ⟨k, by omega, rfl⟩
      · exact ⟨i, by omega, e⟩
    · rintro ⟨i, hi, e⟩
      rcases Nat.lt_or_ge i k with h | h
      · exact .inr ⟨i, h, e⟩
      · have : i = k := by omega
        subst this; exact .inl e.symm

theorem ent_mem (ss : List Stp) : ∀ (k : Nat) {x : ByteArray} {v : Value}, (x, v) ∈ ent ss k → ∃ i : Nat, i < k ∧ nameAt ss i = x ∧ v = .int .i64 i
  | 0, x, v, h => by simp [ent] at h
  | k + 1, x, v, h => by
    unfold ent at h
    rcases aput_mem h with h | h
    · simp only [Prod.mk.injEq] at h
      exact ⟨k, by omega, h.1.symm, h.2⟩
    · obtain ⟨i, hi, e⟩ := ent_mem ss k h
      exact ⟨i, by omega, e⟩

theorem aput_length {K : Type} [DecidableEq K] (l : List (K × Value)) (k : K) (v : Value) : (k ∈ l.map (·.1) → (aput l k v).length = l.length) ∧ (k ∉ l.map (·.1) → (aput l k v).length = l.length + 1) := by
  constructor
  · intro h
    obtain ⟨p, hp, hk⟩ := List.mem_map.1 h
    unfold aput
    rw [if_pos (List.any_eq_true.2 ⟨p, hp, by simpa using hk⟩), List.length_map]
  · intro h
    rw [aput_new]
    · simp
    · cases ha : aget l k with
      | none => rfl
      | some v => exact absurd ((aget_isSome_iff l k).1 (by rw [ha]; rfl)) h

theorem ent_len (ss : List Stp) : ∀ k, (ent ss k).length ≤ k ∧ ((ent ss k).length = k ↔ ∀ i j, i < j → j < k → nameAt ss i ≠ nameAt ss j)
  | 0 => ⟨by simp [ent], by simp [ent]⟩
  | k + 1 => by
    obtain ⟨h1, h2⟩ := ent_len ss k
    unfold ent
    obtain ⟨p1, p2⟩ := aput_length (ent ss k) (nameAt ss k) (.int .i64 k)
    by_cases hm : nameAt ss k ∈ (ent ss k).map (·.1)
    · rw [p1 hm]
      refine ⟨by omega, ⟨fun h => by omega, fun h => ?_⟩⟩
      obtain ⟨i, hi, e⟩ := (ent_keys ss k _).1 hm
      exact absurd e (h i k hi (by omega))
    · rw [p2 hm]
      refine ⟨by omega, ⟨fun h i j hij hj => ?_, fun h => ?_⟩⟩
      · rcases Nat.lt_or_ge j k with hjk | hjk
        · exact (h2.1 (by omega)) i j hij hjk
        · have : j = k := by omega
          subst this
          exact fun e => hm ((ent_keys ss j _).2 ⟨i, hij, e⟩)
      · have := h2.2 (fun i j hij hj => h i j hij (by omega))
        omega

theorem nameAt_of {ss : List Stp} {k : Nat} {s : Stp} (h : ss[k]? = some s) : nameAt ss k = s.name := by simp [nameAt, h]

theorem nodup_iff_at (ss : List Stp) : (ss.map (·.name)).Nodup ↔ ∀ i j, i < j → j < ss.length → nameAt ss i ≠ nameAt ss j := by
  rw [List.nodup_iff_pairwise_ne, List.pairwise_iff_getElem]
  constructor
  · intro h i j hij hj
    have := h i j (by simp; omega) (by simpa using hj) hij
    simp only [List.getElem_map] at this
    rw [nameAt_of (List.getElem?_eq_getElem (by omega : i < ss.length)), nameAt_of (List.getElem?_eq_getElem hj)]
    exact this
  · intro h i j hi hj hij
    simp only [List.length_map] at hi hj
    have := h i j hij hj
    rw [nameAt_of (List.getElem?_eq_getElem hi), nameAt_of (List.getElem?_eq_getElem hj)] at this
    simpa using this

theorem ent_full (ss : List Stp) : (ent ss ss.length).length = ss.length ↔ (ss.map (·.name)).Nodup := by rw [nodup_iff_at]; exact (ent_len ss ss.length).2

theorem ent_known (ss : List Stp) (x : ByteArray) : x ∈ (ent ss ss.length).map (·.1) ↔ x ∈ ss.map (·.name) := by
  rw [ent_keys, List.mem_map]
  constructor
  · rintro ⟨i, hi, e⟩
    exact ⟨ss[i], List.getElem_mem _, by rw [← e, nameAt_of (List.getElem?_eq_getElem hi)]⟩
  · rintro ⟨s, hs, e⟩
    obtain ⟨i, hi⟩ := List.getElem?_of_mem hs
    exact ⟨i, (List.getElem?_eq_some_iff.1 hi).1, by rw [nameAt_of hi, e]⟩

/-- What names leaves. -/
def NamesAns (W : World) (ss : List Stp) (e : Ending) (w' : World) : Prop :=
  (NamesOk ss ∧ ∃ b, e = .returned (.tuple #[.map (some b), .bool true]) ∧ MapAt KS.kv w' b (ent ss ss.length) ∧ W.heap.size ≤ b ∧ Mod (fun _ => False) W w') ∨ (¬ NamesOk ss ∧ e = .returned (.tuple #[.map none, .bool false]) ∧ Mod (fun _ => False) W w')

def NRel1 (W : World) (nm : ByteArray) (a : Option Addr) (cap : Nat) (ss : List Stp) (c : Value) (wr : World) : Prop :=
  ∃ k : Nat, k ≤ ss.length ∧ c = .int .i64 k ∧ MapAt KS.kv wr (W.heap.size + 1) (ent ss k) ∧ wr.heap[W.heap.size]? = some (.cells #[.string nm, .slice a ss.length cap] 28 (0, 0)) ∧ Mod (fun _ => False) W wr

def NRel2 (_W wo : World) (ss : List Stp) (c : Value) (wr : World) : Prop :=
  ∃ k : Nat, k ≤ ss.length ∧ c = .int .i64 k ∧ Mod (fun _ => False) wo wr ∧ ∀ i, i < k → ∀ s, ss[i]? = some s → ∀ x ∈ s.after, x ∈ ss.map (·.name)

theorem cells2 {w : World} {b : Nat} {u v : Value} {t : TypeId} (h : w.heap[b]? = some (.cells #[u, v] t (0, 0))) : w.cell? ⟨b, 0, none⟩ = some u ∧ w.cell? ⟨b, 1, none⟩ = some v := by
  refine ⟨?_, ?_⟩ <;> (rw [cell_of_row _ _ _ _ _ _ h]; rfl)

theorem zeroInt (w : World) : (zeroValue 3).run Try.prog w = .ok (.int .i64 0) w := by kernel_rfl

set_option maxRecDepth 100000 in
set_option maxHeartbeats 1000000 in
theorem names_any {W : World} {a : Option Addr} {ss : List Stp} (nm : ByteArray) (cap : Nat) (h : DefAt W a ss) : Calls Try.prog 12 #[.agg #[.string nm, .slice a ss.length cap]] W fun e w' => NamesAns W ss e w' := by
  have hb := h.bnd
  have HD := hid h
  clear h
  have hmm := @run_makeMap Try.prog
  go_enter Try.func12, Try.ntmps12
  go_wp2
  go_loopw [17] (fun c wr => NRel1 W nm a cap ss c wr) (fun c _ => ss.length - (intOf c).toNat)
  case atStart =>
    refine ⟨0, Nat.zero_le _, rfl, ?_, ?_, ((Mod.refl _ _).alloc _).alloc _⟩
    · have := MapAt.made KS.kv (W.alloc (.cells #[.string nm, .slice a ss.length cap] 28))
      simpa [ent] using this
    · exact (Below.heap_alloc _ _ _ (by simp)).trans (heap_alloc_new _ _)
  case round =>
    obtain ⟨k, hk, rfl, hmap, hbox, hm⟩ := hrel
    have Hmap := hid hmap
    have Hbox := hid hbox
    have Hm := hid hm
    clear hmap hbox hm
    by_cases hlt : k < ss.length
    · obtain ⟨s, hs⟩ : ∃ s, ss[k]? = some s := ⟨_, List.getElem?_eq_getElem hlt⟩
      obtain ⟨g, off, rfl⟩ := HD.out.some (by omega)
      obtain ⟨q0, q1, q2, q3, q4, q5, q6, q7, q8⟩ := (HD.out.mod Hm.out (fun _ _ h => h)).cells hs
      have hm0 : Mod (fun _ => False) wr (wr.alloc (.cells #[.string s.name, .string s.verb, .string s.undo, .string s.event, .bool s.final, .int .i64 s.retry, .int .i64 s.every, .int .i64 s.within, .slice s.aa s.after.length s.ac] 31)) := (Mod.refl _ _).alloc _
      have HM0 := hid (Hmap.out.mod hm0 (fun h => h))
      have Hs := hid hs
      have Hm0 := hid hm0
      clear hs hm0
      go_wp2_with (at_mapUpdate; refine wpList_update_any rfl _ _ _ 38 rfl KS Try.underlying38 (W.heap.size + 1) _ s.name (.int .i64 k) rfl rfl rfl HM0.out ?_; intro w2 hat hm2; have Hat := hid hat; have Hm2 := hid hm2; clear hat hm2)
      have hsz := Hm.out.size
      have hl0 := lt_of_heap Hbox.out
      go_roundw
      case rel =>
        refine ⟨k + 1, by omega, by go_num, ?_, ?_, (Hm.out.trans Hm0.out).then Hm2.out (fun i hi h => by omega)⟩
        · unfold ent
          rw [nameAt_of Hs.out]
          exact Hat.out
        · exact (Hm2.out.block _ (Nat.lt_of_lt_of_le hl0 Hm0.out.size) (by omega)).trans ((Hm0.out.block _ hl0 (fun h => h)).trans Hbox.out)
      case measure => simp [intOf]; omega
    · have hkl : k = ss.length := by omega
      subst hkl
      obtain ⟨b0, b1⟩ := cells2 Hbox.out
      by_cases hnd : (ss.map (·.name)).Nodup
      · have e1 : (((ent ss ss.length).length : Int) != (ss.length : Int)) = false := by simp; exact_mod_cast (ent_full ss).2 hnd
        have Hnd := hid hnd
        clear hnd
        generalize hL : (ent ss ss.length).length = L at *
        have HL := hid hL
        clear hL
        go_wp2_with (refine wpList_len_at rfl _ 38 rfl Try.underlying38 (W.heap.size + 1) _ rfl Hmap.out ?_; rw [HL.out])
        obtain ⟨wo, rfl⟩ : ∃ wo : World, wo = wr := ⟨_, rfl⟩
        go_loopw [36] (fun c wr => NRel2 W wo ss c wr) (fun c _ => ss.length - (intOf c).toNat)
        case atStart => exact ⟨0, Nat.zero_le _, rfl, Mod.refl _ _, fun i hi => by omega⟩
        case round =>
          obtain ⟨k, hk, rfl, hmo, hkn⟩ := hrel
          have Hmo := hid hmo
          have Hkn := hid hkn
          clear hmo hkn
          have Hmw := hid (Hm.out.trans Hmo.out)
          by_cases hlt : k < ss.length
          · obtain ⟨s, hs⟩ : ∃ s, ss[k]? = some s := ⟨_, List.getElem?_eq_getElem hlt⟩
            obtain ⟨g, off, rfl⟩ := HD.out.some (by omega)
            have hok := HD.out.all s (List.mem_of_getElem? hs)
            have hbd := hok.bnd
            have HOk := hid hok
            clear hok
            obtain ⟨q0, q1, q2, q3, q4, q5, q6, q7, q8⟩ := (HD.out.mod Hmw.out (fun _ _ h => h)).cells hs
            have hm0 : Mod (fun _ => False) wr (wr.alloc (.cells #[.string s.name, .string s.verb, .string s.undo, .string s.event, .bool s.final, .int .i64 s.retry, .int .i64 s.every, .int .i64 s.within, .slice s.aa s.after.length s.ac] 31)) := (Mod.refl _ _).alloc _
            have Hs := hid hs
            have Hm0 := hid hm0
            clear hs hm0
            go_wp2_with fail
            clear q0 q1 q2 q3 q4 q5 q6 q7 q8
            generalize wr.alloc (.cells #[.string s.name, .string s.verb, .string s.undo, .string s.event, .bool s.final, .int .i64 s.retry, .int .i64 s.every, .int .i64 s.within, .slice s.aa s.after.length s.ac] 31) = W1 at *
            have HMW1 := hid (Hmw.out.trans Hm0.out)
            have HMap1 := hid (Hmap.out.mod (Hmo.out.trans Hm0.out) (fun h => h))
            have HOk1 := hid (HOk.out.mod HMW1.out (fun _ _ h => h))
            go_loop [43] (fun c => ∃ j : Nat, j ≤ s.after.length ∧ c = .int .i64 j ∧ ∀ i, i < j → ∀ x, s.after[i]? = some x → x ∈ ss.map (·.name)) (fun c => s.after.length - (intOf c).toNat)
            case atStart => exact ⟨0, Nat.zero_le _, rfl, fun i hi => by omega⟩
            case round =>
              obtain ⟨j, hj, rfl, hjn⟩ := hrel
              have Hjn := hid hjn
              clear hjn
              by_cases hjl : j < s.after.length
              · obtain ⟨x, hx⟩ : ∃ x, s.after[j]? = some x := ⟨_, List.getElem?_eq_getElem hjl⟩
                obtain ⟨ga, oa, haa⟩ := HOk.out.some (by omega)
                have hc := HOk1.out.cell haa hx
                have Hx := hid hx
                clear hx
                by_cases hkx : x ∈ ss.map (·.name)
                · have ha : (aget (ent ss ss.length) x).isSome = true := (aget_isSome_iff _ _).2 ((ent_known ss x).2 hkx)
                  have Hkx := hid hkx
                  have Ha := hid ha
                  clear hkx ha
                  rw [haa]
                  have HA := hid haa
                  clear haa
                  go_wp2_with (at_lookup; refine wpList_lookup_at rfl _ _ 38 true rfl KS Try.underlying38 (zeroInt _) (W.heap.size + 1) _ x rfl rfl HMap1.out ?_; rw [Ha.out]; simp only [if_true])
                  go_round
                  case rel =>
                    refine ⟨j + 1, by omega, by go_num, fun i hi y hy => ?_⟩
                    rcases Nat.lt_or_ge i j with h | h
                    · exact Hjn.out i h y hy
                    · have : i = j := by omega
                      subst this
                      rw [Hx.out] at hy
                      cases hy
                      exact Hkx.out
                  case measure => simp [intOf]; omega
                · have ha : (aget (ent ss ss.length) x).isSome = false := by
                    cases h : (aget (ent ss ss.length) x).isSome
                    · rfl
                    · exact absurd ((ent_known ss x).1 ((aget_isSome_iff _ _).1 h)) hkx
                  have Hkx := hid hkx
                  have Ha := hid ha
                  clear hkx ha
                  rw [haa]
                  have HA := hid haa
                  clear haa
                  go_wp2_with (at_lookup; refine wpList_lookup_at rfl _ _ 38 true rfl KS Try.underlying38 (zeroInt _) (W.heap.size + 1) _ x rfl rfl HMap1.out ?_; rw [Ha.out]; simp only [if_true])
                  go_ret2
                  exact .inr ⟨fun h => Hkx.out (h.2 s (List.mem_of_getElem? Hs.out) x (List.mem_of_getElem? Hx.out)), rfl, HMW1.out⟩
              · go_wp2
                go_roundw
                case rel =>
                  refine ⟨k + 1, by omega, by go_num, Hmo.out.trans Hm0.out, fun i hi t ht x hx => ?_⟩
                  rcases Nat.lt_or_ge i k with h | h
                  · exact Hkn.out i h t ht x hx
                  · have : i = k := by omega
                    subst this
                    rw [Hs.out] at ht
                    cases ht
                    obtain ⟨j', hj'⟩ := List.getElem?_of_mem hx
                    exact Hjn.out j' (by have := (List.getElem?_eq_some_iff.1 hj').1; omega) x hj'
                case measure => simp [intOf]; omega
          · go_wp2
            go_ret2
            refine .inl ⟨⟨Hnd.out, fun s hs x hx => ?_⟩, _, rfl, Hmap.out.mod Hmo.out (fun h => h), by omega, Hmw.out⟩
            obtain ⟨i, hi⟩ := List.getElem?_of_mem hs
            exact Hkn.out i (by have := (List.getElem?_eq_some_iff.1 hi).1; omega) s hi x hx
      · have e1 : (((ent ss ss.length).length : Int) != (ss.length : Int)) = true := by simp; exact fun h => hnd ((ent_full ss).1 (by exact_mod_cast h))
        have Hnd := hid hnd
        clear hnd
        generalize hL : (ent ss ss.length).length = L at *
        have HL := hid hL
        clear hL
        go_wp2_with (refine wpList_len_at rfl _ 38 rfl Try.underlying38 (W.heap.size + 1) _ rfl Hmap.out ?_; rw [HL.out])
        go_ret2
        exact .inr ⟨fun h => Hnd.out h.1, rfl, Hm.out⟩

end Go.Proofs.Ythbfgeaojgfafaa
