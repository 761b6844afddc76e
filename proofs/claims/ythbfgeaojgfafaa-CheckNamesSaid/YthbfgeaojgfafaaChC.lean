/- Is there a step that a final call does not come behind? -/
import Derived.Test.YthbfgeaojgfafaaChO2
namespace Go.Proofs.Ythbfgeaojgfafaa
open Go Go.RowKit
open Relation (TransGen)

/-- Step k is no final call, and i does not come behind it. -/
def Lacks (ss : List Stp) (i k : Nat) : Prop := ∃ x, ss[k]? = some x ∧ ¬ Fin' x ∧ ¬ TransGen (Ed ss) i k

noncomputable def lackB (ss : List Stp) (i k : Nat) : Bool := @decide (Lacks ss i k) (Classical.propDecidable _)

theorem lackB_of {ss : List Stp} {i k : Nat} {x : Stp} (hk : ss[k]? = some x) (b : Bool) (h : b = true ↔ ¬ Fin' x ∧ ¬ TransGen (Ed ss) i k) : lackB ss i k = b := by
  unfold lackB
  rw [Bool.eq_iff_iff, @decide_eq_true_iff _ (Classical.propDecidable _), h]
  constructor
  · rintro ⟨y, hy, h1⟩; rw [hk] at hy; cases hy; exact h1
  · intro h1; exact ⟨x, hk, h1⟩

section
variable {W w : World} {bb : Nat} {nm : ByteArray} {a : Option Addr} {cap : Nat} {ss : List Stp} {mb g1 g2 : Nat} {sets : List (Option Nat)} {opn : List Bool}

/-- The variables that the closure sees. -/
structure Caps (w : World) (b8 b12 b3 bb i mb : Nat) : Prop where
  p8 : w.cell? ⟨b8, 0, none⟩ = some (.pointer (some ⟨bb, 0, none⟩))
  p12 : w.cell? ⟨b12, 0, none⟩ = some (.int .i64 i)
  p3 : w.cell? ⟨b3, 0, none⟩ = some (.map (some mb))

theorem Caps.ext {w' : World} {b8 b12 b3 bb i mb : Nat} (h : Caps w b8 b12 b3 bb i mb) (hm : Mod (fun _ => False) w w') : Caps w' b8 b12 b3 bb i mb :=
  ⟨(hm.cell (World.block_lt_of_cell? _ _ h.p8) (fun h => h)).trans h.p8, (hm.cell (World.block_lt_of_cell? _ _ h.p12) (fun h => h)).trans h.p12, (hm.cell (World.block_lt_of_cell? _ _ h.p3) (fun h => h)).trans h.p3⟩

set_option maxRecDepth 100000 in
set_option maxHeartbeats 1000000 in
theorem cl_any (ok : NamesOk ss) (h : Beh W w bb nm a cap ss mb g1 g2 sets opn) {b8 b12 b3 i bi k : Nat} (hc : Caps w b8 b12 b3 bb i mb) (hs : sets[i]? = some (some bi)) {x : Stp} (hk : ss[k]? = some x) (hbd : ss.length ≤ 2199023255552) :
    Calls Try.prog 16 #[.agg #[.string x.name, .string x.verb, .string x.undo, .string x.event, .bool x.final, .int .i64 x.retry, .int .i64 x.every, .int .i64 x.within, .slice x.aa x.after.length x.ac], .pointer (some ⟨b8, 0, none⟩), .pointer (some ⟨b12, 0, none⟩), .pointer (some ⟨b3, 0, none⟩)] w fun e w' => e = .returned (.bool (lackB ss i k)) ∧ Mod (fun _ => False) w w' := by
  have hL := lackB_of (i := i) hk
  generalize lackB ss i k = L at *
  have HL := hid hL
  have hi : i < ss.length := by rw [← h.len1]; exact (List.getElem?_eq_some_iff.1 hs).1
  have i1 : (i : Int) < (ss.length : Int) := by omega
  have hmW : Mod (fun _ => False) w (w.alloc (.cells #[.string x.name, .string x.verb, .string x.undo, .string x.event, .bool x.final, .int .i64 x.retry, .int .i64 x.every, .int .i64 x.within, .slice x.aa x.after.length x.ac] 31)) := (Mod.refl _ _).alloc _
  have hB := h.ext hmW
  obtain ⟨p8, p12, p3⟩ := hc.ext hmW
  obtain ⟨c0, c1, c2, c3, c4⟩ := hB.cells
  obtain ⟨d1, d2⟩ := hB.at1 hs
  obtain ⟨_, _, li, hli, hgood⟩ := hB.maps i bi hs
  have lk1 : ∀ n, (Instr.lookup 38 (.map (some mb)) (.string x.name) false).run Try.prog ((w.alloc (.cells #[.string x.name, .string x.verb, .string x.undo, .string x.event, .bool x.final, .int .i64 x.retry, .int .i64 x.every, .int .i64 x.within, .slice x.aa x.after.length x.ac] 31)).drewN n) = .ok (.int .i64 k) ((w.alloc (.cells #[.string x.name, .string x.verb, .string x.undo, .string x.event, .bool x.final, .int .i64 x.retry, .int .i64 x.every, .int .i64 x.within, .slice x.aa x.after.length x.ac] 31)).drewN n) := fun n => by
    have := run_lookup_at KS Try.underlying38 (zeroInt _) (hB.map.mod (S := fun _ => False) ((Mod.refl _ _).drewN n) (fun h => h)) x.name false
    rw [aget_ent ok hk] at this
    exact this
  obtain ⟨cv, hcv, hz⟩ : ∃ cv : Int, (aget li (k : Int)).getD (.int .i64 0) = .int .i64 cv ∧ (cv = 0 ↔ ¬ TransGen (Ed ss) i k) := by
    cases ha : aget li (k : Int) with
    | none =>
      refine ⟨0, rfl, iff_of_true rfl (fun ht => ?_)⟩
      have := (aget_isSome_iff li (k : Int)).2 ((hgood.keys _).2 ⟨k, rfl, ht⟩)
      rw [ha] at this
      cases this
    | some v =>
      obtain ⟨c, h1, h2, h3⟩ := hgood.vals _ (aget_mem ha)
      refine ⟨c, h1, iff_of_false (by omega) (fun hn => hn ?_)⟩
      obtain ⟨k2, e, ht⟩ := (hgood.keys _).1 ((aget_isSome_iff li (k : Int)).1 (by rw [ha]; rfl))
      have : k = k2 := by omega
      subst this
      exact ht
  have lk2 : ∀ n, (Instr.lookup 47 (.map (some bi)) (.int .i64 k) false).run Try.prog ((w.alloc (.cells #[.string x.name, .string x.verb, .string x.undo, .string x.event, .bool x.final, .int .i64 x.retry, .int .i64 x.every, .int .i64 x.within, .slice x.aa x.after.length x.ac] 31)).drewN n) = .ok (.int .i64 cv) ((w.alloc (.cells #[.string x.name, .string x.verb, .string x.undo, .string x.event, .bool x.final, .int .i64 x.retry, .int .i64 x.every, .int .i64 x.within, .slice x.aa x.after.length x.ac] 31)).drewN n) := fun n => by
    have := run_lookup_at KI Try.underlying47 (zeroInt _) (hli.mod (S := fun _ => False) ((Mod.refl _ _).drewN n) (fun h => h)) (k : Int) false
    rw [hcv] at this
    exact this
  have Hz := hid hz
  have Hm := hid hmW
  clear ok h hc hs hk hL hmW hB hli hgood hcv hz c0 c1 c2 c4
  cases he : x.event.toList.isEmpty with
  | true =>
    cases hf : x.final with
    | true =>
      have hLL : L = false := HL.out false (by simp [Fin', he, hf])
      rw [hLL]
      clear hLL
      rw [hf] at lk1 lk2 p8 p12 p3 c3 d1 d2 Hm
      have He := hid he
      go_enter Try.func16, Try.ntmps16
      go_wp2
      go_quiet (fail)
      go_wp2
      go_ret
      exact ⟨rfl, Hm.out.drewN _⟩
    | false =>
      have hLL : L = (cv == 0) := HL.out (cv == 0) (by simp [Fin', he, hf, Hz.out])
      rw [hLL]
      clear hLL
      rw [hf] at lk1 lk2 p8 p12 p3 c3 d1 d2 Hm
      have He := hid he
      go_enter Try.func16, Try.ntmps16
      go_wp2
      go_quiet (fail)
      go_wp2
      go_ret
      exact ⟨rfl, Hm.out.drewN _⟩
  | false =>
    have hLL : L = (cv == 0) := HL.out (cv == 0) (by simp [Fin', he, Hz.out])
    rw [hLL]
    clear hLL
    have He := hid he
    go_enter Try.func16, Try.ntmps16
    go_wp2
    go_quiet (fail)
    go_wp2
    go_ret
    exact ⟨rfl, Hm.out.drewN _⟩

/-- The first step that p holds of. -/
def IdxAns (w : World) (n : Nat) (p : Nat → Bool) (e : Ending) (w' : World) : Prop :=
  ((∃ k, k < n ∧ p k = true ∧ e = .returned (.int .i64 (k : Nat))) ∨ ((∀ k, k < n → p k = false) ∧ e = .returned (.int .i64 (-1)))) ∧ Mod (fun _ => False) w w'

set_option maxRecDepth 100000 in
set_option maxHeartbeats 1000000 in
theorem idx_any (hd : DefAt w a ss) (b8 b12 b3 : Nat) (p : Nat → Bool)
    (hf : ∀ (w1 : World) (k : Nat) (x : Stp), Mod (fun _ => False) w w1 → ss[k]? = some x → Calls Try.prog 16 #[.agg #[.string x.name, .string x.verb, .string x.undo, .string x.event, .bool x.final, .int .i64 x.retry, .int .i64 x.every, .int .i64 x.within, .slice x.aa x.after.length x.ac], .pointer (some ⟨b8, 0, none⟩), .pointer (some ⟨b12, 0, none⟩), .pointer (some ⟨b3, 0, none⟩)] w1 fun e w' => e = .returned (.bool (p k)) ∧ Mod (fun _ => False) w1 w') :
    Calls Try.prog 17 #[.slice a ss.length cap, .func (.func 16) #[] #[.pointer (some ⟨b8, 0, none⟩), .pointer (some ⟨b12, 0, none⟩), .pointer (some ⟨b3, 0, none⟩)]] w fun e w' => IdxAns w ss.length p e w' := by
  have hb := hd.bnd
  have HD := hid hd
  have HF := hid hf
  clear hd hf
  go_enter Try.func17, Try.ntmps17
  go_wp2
  go_loopw [8] (fun c wr => ∃ k : Nat, k ≤ ss.length ∧ c = .int .i64 k ∧ (∀ j, j < k → p j = false) ∧ Mod (fun _ => False) w wr) (fun c _ => ss.length - (intOf c).toNat)
  case atStart => exact ⟨0, Nat.zero_le _, rfl, fun j hj => by omega, Mod.refl _ _⟩
  case round =>
    obtain ⟨k, hk, rfl, hno, hm⟩ := hrel
    have Hno := hid hno
    have Hm := hid hm
    clear hno hm
    by_cases hlt : k < ss.length
    · obtain ⟨s, hs⟩ : ∃ s, ss[k]? = some s := ⟨_, List.getElem?_eq_getElem hlt⟩
      obtain ⟨g, off, rfl⟩ := HD.out.some (by omega)
      obtain ⟨q0, q1, q2, q3, q4, q5, q6, q7, q8⟩ := (HD.out.mod Hm.out (fun _ _ h => h)).cells hs
      have Hs := hid hs
      clear hs
      go_wp2_with fail
      refine (HF.out wr k s Hm.out Hs.out).mono ?_
      rintro e w2 ⟨rfl, hm2⟩
      have Hm2 := hid hm2
      clear hm2
      cases hp : p k with
      | true =>
        have Hp := hid hp
        clear hp
        go_wp2
        go_ret
        exact ⟨.inl ⟨k, hlt, Hp.out, rfl⟩, Hm.out.trans Hm2.out⟩
      | false =>
        have Hp := hid hp
        clear hp
        go_wp2
        go_roundw
        case rel =>
          refine ⟨k + 1, by omega, by go_num, fun j hj => ?_, Hm.out.trans Hm2.out⟩
          rcases Nat.lt_or_ge j k with h | h
          · exact Hno.out j h
          · have : j = k := by omega
            subst this; exact Hp.out
        case measure => simp [intOf]; omega
    · go_wp2
      go_ret
      exact ⟨.inr ⟨fun j hj => Hno.out j (by omega), rfl⟩, Hm.out⟩

/-- Is there a step that p holds of? -/
def ContAns (w : World) (n : Nat) (p : Nat → Bool) (e : Ending) (w' : World) : Prop :=
  ∃ b : Bool, (b = true ↔ ∃ k, k < n ∧ p k = true) ∧ e = .returned (.bool b) ∧ Mod (fun _ => False) w w'

theorem cont_any (hd : DefAt w a ss) (b8 b12 b3 : Nat) (p : Nat → Bool)
    (hf : ∀ (w1 : World) (k : Nat) (x : Stp), Mod (fun _ => False) w w1 → ss[k]? = some x → Calls Try.prog 16 #[.agg #[.string x.name, .string x.verb, .string x.undo, .string x.event, .bool x.final, .int .i64 x.retry, .int .i64 x.every, .int .i64 x.within, .slice x.aa x.after.length x.ac], .pointer (some ⟨b8, 0, none⟩), .pointer (some ⟨b12, 0, none⟩), .pointer (some ⟨b3, 0, none⟩)] w1 fun e w' => e = .returned (.bool (p k)) ∧ Mod (fun _ => False) w1 w') :
    Calls Try.prog 15 #[.slice a ss.length cap, .func (.func 16) #[] #[.pointer (some ⟨b8, 0, none⟩), .pointer (some ⟨b12, 0, none⟩), .pointer (some ⟨b3, 0, none⟩)]] w fun e w' => ContAns w ss.length p e w' := by
  have hb := hd.bnd
  have HI := hid (idx_any (cap := cap) hd b8 b12 b3 p hf)
  clear hd hf
  go_enter Try.func15, Try.ntmps15
  go_wp2_with fail
  refine HI.out.mono ?_
  rintro e w2 ⟨⟨k, hk, hp, rfl⟩ | ⟨hno, rfl⟩, hm⟩
  · have Hp := hid hp
    have Hm := hid hm
    clear hp hm
    have d : decide ((0 : Int) ≤ (k : Int)) = true := by simp
    go_wp2
    go_ret
    exact ⟨true, by simpa using ⟨k, hk, Hp.out⟩, rfl, Hm.out⟩
  · have Hno := hid hno
    have Hm := hid hm
    clear hno hm
    go_wp2
    go_ret
    refine ⟨false, ?_, rfl, Hm.out⟩
    constructor
    · intro h; cases h
    · rintro ⟨k, hk, hp⟩
      rw [Hno.out k hk] at hp
      cases hp
end

end Go.Proofs.Ythbfgeaojgfafaa
