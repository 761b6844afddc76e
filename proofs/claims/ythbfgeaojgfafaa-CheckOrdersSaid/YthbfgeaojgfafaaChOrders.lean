/- It makes no difference to whether a definition may run in which order its steps stand: for every definition and every number; the arguments read afterwards as before. No condition. -/
import Derived.Test.YthbfgeaojgfafaaRows
import Derived.Test.YthbfgeaojgfafaaChG
import Derived.OpenShut
import Derived.Deep.DeepCutAuto
import Derived.Deep.RegionHeld3
import Derived.Deep.DrawnRows
import Derived.IntWalk
import Derived.ShutString
namespace Go.Proofs.Ythbfgeaojgfafaa
open Go Go.RowKit
attribute [local go_sem ↓] Go.wp_at_zero Go.wp_at_succ

namespace CheckOrders

/-- The first k steps of the list turned by q. -/
def turn (ss : List Stp) (q k : Nat) : List Stp := (List.range k).filterMap fun i => ss[(i + q) % ss.length]?

theorem turn_succ {ss : List Stp} {q k : Nat} {s : Stp} (h : ss[(k + q) % ss.length]? = some s) : turn ss q (k + 1) = turn ss q k ++ [s] := by
  unfold turn
  rw [List.range_succ, List.filterMap_append]
  simp [h]

theorem turn_len {ss : List Stp} {q : Nat} (h0 : 0 < ss.length) : ∀ k, (turn ss q k).length = k
  | 0 => rfl
  | k + 1 => by
    have hlt : (k + q) % ss.length < ss.length := Nat.mod_lt _ h0
    rw [turn_succ (List.getElem?_eq_getElem hlt), List.length_append, turn_len h0 k]
    rfl

theorem turn_get {ss : List Stp} {q : Nat} (h0 : 0 < ss.length) {k i : Nat} (hi : i < k) : (turn ss q k)[i]? = ss[(i + q) % ss.length]? := by
  induction k with
  | zero => omega
  | succ k ih =>
    have hlt : (k + q) % ss.length < ss.length := Nat.mod_lt _ h0
    rw [turn_succ (List.getElem?_eq_getElem hlt)]
    rcases Nat.lt_or_ge i k with h | h
    · rw [List.getElem?_append_left (by rw [turn_len h0]; exact h), ih h]
    · have : i = k := by omega
      subst this
      rw [List.getElem?_append_right (by rw [turn_len h0]; exact Nat.le_refl _), turn_len h0, Nat.sub_self, List.getElem?_eq_getElem hlt]
      rfl

theorem like_id (s : Stp) : Like id s s := ⟨rfl, rfl, rfl, rfl, rfl, by simp⟩

/-- Where a step stands in the turned list. -/
theorem mod_back {n q i : Nat} (h0 : 0 < n) (hq : q < n) (hi : i < n) : ((i + (n - q)) % n + q) % n = i := by
  rw [Nat.mod_add_mod, show i + (n - q) + q = i + n by omega, Nat.add_mod_right, Nat.mod_eq_of_lt hi]

theorem mod_inj {n q i j : Nat} (h0 : 0 < n) (hq : q < n) (hi : i < n) (hj : j < n) (h : (i + q) % n = (j + q) % n) : i = j := by
  have h1 : ((i + q) % n + (n - q)) % n = i := by rw [Nat.mod_add_mod, show i + q + (n - q) = i + n by omega, Nat.add_mod_right, Nat.mod_eq_of_lt hi]
  have h2 : ((j + q) % n + (n - q)) % n = j := by rw [Nat.mod_add_mod, show j + q + (n - q) = j + n by omega, Nat.add_mod_right, Nat.mod_eq_of_lt hj]
  rw [← h1, h, h2]

theorem turn_check {ss : List Stp} {q : Nat} (h0 : 0 < ss.length) (hq : q < ss.length) : checkF (turn ss q ss.length) = 0 ↔ checkF ss = 0 := by
  have hlen := turn_len (ss := ss) (q := q) h0 ss.length
  refine check_perm ?_ (fun s hs => ?_) (fun t ht => ?_)
  · rw [nodup_iff_at, nodup_iff_at, hlen]
    have hat : ∀ i, i < ss.length → nameAt (turn ss q ss.length) i = nameAt ss ((i + q) % ss.length) := fun i hi => by unfold nameAt; rw [turn_get h0 hi]
    constructor
    · intro h i j hij hj e
      have hi' : (i + (ss.length - q)) % ss.length < ss.length := Nat.mod_lt _ h0
      have hj' : (j + (ss.length - q)) % ss.length < ss.length := Nat.mod_lt _ h0
      have ei : nameAt (turn ss q ss.length) ((i + (ss.length - q)) % ss.length) = nameAt ss i := by rw [hat _ hi', mod_back h0 hq (by omega)]
      have ej : nameAt (turn ss q ss.length) ((j + (ss.length - q)) % ss.length) = nameAt ss j := by rw [hat _ hj', mod_back h0 hq hj]
      have hne : (i + (ss.length - q)) % ss.length ≠ (j + (ss.length - q)) % ss.length := fun e' => by
        have h1 := mod_back h0 hq (show i < ss.length by omega)
        have h2 := mod_back h0 hq hj
        rw [e', h2] at h1
        omega
      rcases Nat.lt_or_ge ((i + (ss.length - q)) % ss.length) ((j + (ss.length - q)) % ss.length) with hl | hg
      · exact h _ _ hl hj' (by rw [ei, ej]; exact e)
      · exact h _ _ (Nat.lt_of_le_of_ne hg (Ne.symm hne)) hi' (by rw [ei, ej]; exact e.symm)
    · intro h i j hij hj e
      rw [hat i (by omega), hat j hj] at e
      have hi' : (i + q) % ss.length < ss.length := Nat.mod_lt _ h0
      have hj' : (j + q) % ss.length < ss.length := Nat.mod_lt _ h0
      have hne : (i + q) % ss.length ≠ (j + q) % ss.length := fun e' => by
        have := mod_inj h0 hq (by omega) hj e'
        omega
      rcases Nat.lt_or_ge ((i + q) % ss.length) ((j + q) % ss.length) with hl | hg
      · exact h _ _ hl hj' e
      · exact h _ _ (Nat.lt_of_le_of_ne hg (Ne.symm hne)) hi' e.symm
  · obtain ⟨i, hi⟩ := List.getElem?_of_mem hs
    have hil := (List.getElem?_eq_some_iff.1 hi).1
    have hi' : (i + (ss.length - q)) % ss.length < ss.length := Nat.mod_lt _ h0
    refine ⟨s, List.mem_of_getElem? (i := (i + (ss.length - q)) % ss.length) ?_, like_id s⟩
    rw [turn_get h0 hi', mod_back h0 hq hil]
    exact hi
  · obtain ⟨i, hi⟩ := List.getElem?_of_mem ht
    have hil : i < ss.length := by have := (List.getElem?_eq_some_iff.1 hi).1; rwa [hlen] at this
    rw [turn_get h0 hil] at hi
    exact ⟨t, List.mem_of_getElem? hi, like_id t⟩

def Rel (W : World) (tb : Nat) (nm : ByteArray) (ss : List Stp) (q : Nat) (c : Value) (wr : World) : Prop :=
  ∃ (k : Nat) (sa : Option Addr) (cp : Nat), k ≤ ss.length ∧ c = .int .i64 k ∧ Grow W wr tb nm (turn ss q k) sa cp

set_option maxRecDepth 100000 in
set_option maxHeartbeats 1000000 in
theorem walk (W : World) (nm : ByteArray) (a : Option Addr) (cap : Nat) (ss : List Stp) (hd : DefAt W a ss) (_hn : ∀ s ∈ ss, Near s) (hcap : ss.length ≤ cap) (_hmax : cap ≤ maxLen) (n : Int) (hlo : -9223372036854775808 ≤ n) (hhi : n ≤ 9223372036854775807) :
    Calls Try.prog 4 #[.agg #[.string nm, .slice a ss.length cap], .int .i64 n] W fun e w' => e = .returned (.bool true) ∧ Below W.heap.size W w' := by
  have hb := hd.bnd
  have HD := hid hd
  have hm1 : Mod (fun _ => False) W (W.alloc (.cells #[.string nm, .slice a ss.length cap] 28)) := (Mod.refl _ _).alloc _
  have hbox : (W.alloc (.cells #[.string nm, .slice a ss.length cap] 28)).heap[W.heap.size]? = some (.cells #[.string nm, .slice a ss.length cap] 28 (0, 0)) := heap_alloc_new _ _
  have HD1 := hid (hd.mod hm1 (fun _ _ h => h))
  have Hm1 := hid hm1
  have Hbox := hid hbox
  clear hd hm1 hbox _hn _hmax
  by_cases h0 : ss.length = 0
  · have d0 : ((ss.length : Int) == 0) = true := by simp [h0]
    clear h0
    go_enter Try.func4, Try.ntmps4
    go_wp2_with (go_at_call 10; refine (wakes_yes _).mono ?_; rintro e w3 ⟨rfl, hm3⟩; have M3 := hid hm3; clear hm3)
    go_ret
    exact ⟨rfl, (Hm1.out.trans M3.out).below (Nat.le_refl _) (fun _ h => h.elim)⟩
  have d0 : ((ss.length : Int) == 0) = false := by rw [beq_eq_false_iff_ne]; omega
  by_cases h60 : 60 < ss.length
  · have d1 : decide ((60 : Int) < (ss.length : Int)) = true := by simp; omega
    go_enter Try.func4, Try.ntmps4
    go_wp2_with (go_at_call 10; refine (wakes_yes _).mono ?_; rintro e w3 ⟨rfl, hm3⟩; have M3 := hid hm3; clear hm3)
    go_ret
    exact ⟨rfl, (Hm1.out.trans M3.out).below (Nat.le_refl _) (fun _ h => h.elim)⟩
  have d1 : decide ((60 : Int) < (ss.length : Int)) = false := by simp; omega
  have p0 : 0 < ss.length := by omega
  obtain ⟨i0, hi, hz0, hz1, hz2⟩ := info_parts infoStp
  go_enter Try.func4, Try.ntmps4
  go_upto_region 4 with fail
  generalize W.alloc (.cells #[.string nm, .slice a ss.length cap] 28) = W1 at *
  go_cut [1] (fun v wx => wx = W1 ∧ ∃ q : Nat, q < ss.length ∧ v = .int .i64 q)
  case first =>
    go_wp2_with fail
    all_goals
      go_meet
      case rel =>
        refine ⟨rfl, ?_⟩
        first
          | exact ⟨0, p0, rfl⟩
          | exact ⟨(n % (ss.length : Int)).toNat, by have := Int.emod_lt_of_pos n (show (0 : Int) < ss.length by omega); have := Int.emod_nonneg n (show (ss.length : Int) ≠ 0 by omega); omega, by rw [Int.toNat_of_nonneg (Int.emod_nonneg _ (by omega))]⟩
  case rest =>
    obtain ⟨rfl, q, hql, rfl⟩ := hcut
    obtain ⟨v0, v1⟩ := cells2 Hbox.out
    have hWs : W.heap.size < wc.heap.size := lt_of_heap Hbox.out
    have HG0 : Hid (Grow wc (wc.alloc (.cells #[.string nm, .slice none 0 0] 28)) wc.heap.size nm (turn ss q 0) none 0) :=
      ⟨heap_alloc_new _ _, Own.nil _ _ _, blk_none _, Nat.le_refl _, fun k hk => (blk_none k hk).elim, (Mod.refl _ _).alloc _, fun t ht => by simp [turn] at ht⟩
    go_wp2_with fail
    go_loopw [26] (fun c wr => Rel wc wc.heap.size nm ss q c wr) (fun c _ => ss.length - (intOf c).toNat)
    case atStart => exact ⟨0, none, 0, Nat.zero_le _, rfl, HG0.out⟩
    case round =>
      obtain ⟨k, sa, cp, hk, rfl, hG⟩ := hrel
      have hlen := turn_len (ss := ss) (q := q) p0 k
      have HG := hid hG
      clear hG
      have Hb2 := hid ((HG.out.mod.block _ (lt_of_heap Hbox.out) (fun h => h)).trans Hbox.out)
      obtain ⟨x0, x1⟩ := cells2 Hb2.out
      obtain ⟨t0, t1⟩ := HG.out.cells
      by_cases hlt : k < ss.length
      · have hr0 : (k + q) % ss.length < ss.length := Nat.mod_lt _ p0
        obtain ⟨r, hr⟩ : ∃ r, (k + q) % ss.length = r := ⟨_, rfl⟩
        rw [hr] at hr0
        obtain ⟨s, hs⟩ : ∃ s, ss[r]? = some s := ⟨_, List.getElem?_eq_getElem hr0⟩
        have HTS := hid (turn_succ (ss := ss) (q := q) (k := k) (s := s) (by rw [hr]; exact hs))
        obtain ⟨g, off, rfl⟩ := HD1.out.some p0
        obtain ⟨q0, q1, q2, q3, q4, q5, q6, q7, q8⟩ := (HD1.out.mod HG.out.mod (fun _ _ h => h)).cells hs
        have HS := hid (HD1.out.all s (List.mem_of_getElem? hs))
        have e1 : IntKind.i64.wrap ((k : Int) + (q : Int)) = (k : Int) + (q : Int) := IntWalk.i64_in _ (by omega)
        have e3 : ((k : Int) + (q : Int)) % (ss.length : Int) = (r : Int) := by rw [← hr]; push_cast; rfl
        have e2 : ((k : Int) + (q : Int)).tmod (ss.length : Int) = (r : Int) := by rw [Int.tmod_eq_emod_of_nonneg (by omega)]; exact e3
        have e4 : (0 : Int) ≤ (r : Int) := by omega
        have e5 : (r : Int) < (ss.length : Int) := by omega
        rw [hlen] at t1
        clear hr hs hk
        go_upto_region 9 with fail
        have lt0 := World.block_lt_of_cell? _ _ x1
        have lt1 := World.block_lt_of_cell? _ _ t1
        have lt2 := World.block_lt_of_cell? _ _ q0
        simp only at lt0 lt1 lt2
        have hnb0 : ¬ blk sa W.heap.size := fun h => by have := HG.out.los _ h; omega
        have hgw : g < wc.heap.size := HD1.out.lt g p0 (blk_some.2 rfl)
        have hnbg : ¬ blk sa g := fun h => by have := HG.out.los _ h; omega
        have htb : wc.heap.size < wr.heap.size := lt1
        have HK : Hid (∀ w', Mod (fun k => blk sa k ∨ k = wc.heap.size) wr w' → w'.cell? ⟨W.heap.size, 1, none⟩ = some (.slice (some ⟨g, off, none⟩) ss.length cap) ∧ w'.cell? ⟨g, off + r * 9, none⟩ = some (.string s.name) ∧ w'.cell? ⟨g, off + r * 9 + 1, none⟩ = some (.string s.verb) ∧ w'.cell? ⟨g, off + r * 9 + 2, none⟩ = some (.string s.undo) ∧ w'.cell? ⟨g, off + r * 9 + 3, none⟩ = some (.string s.event) ∧ w'.cell? ⟨g, off + r * 9 + 4, none⟩ = some (.bool s.final) ∧ w'.cell? ⟨g, off + r * 9 + 5, none⟩ = some (.int .i64 s.retry) ∧ w'.cell? ⟨g, off + r * 9 + 6, none⟩ = some (.int .i64 s.every) ∧ w'.cell? ⟨g, off + r * 9 + 7, none⟩ = some (.int .i64 s.within) ∧ w'.cell? ⟨g, off + r * 9 + 8, none⟩ = some (.slice s.aa s.after.length s.ac)) := fun w' hm =>
          ⟨(hm.cell lt0 (fun h => h.elim hnb0 (fun h => by simp only at h; omega))).trans x1, (hm.cell lt2 (fun h => h.elim hnbg (fun h => by simp only at h; omega))).trans q0, (hm.cell lt2 (fun h => h.elim hnbg (fun h => by simp only at h; omega))).trans q1, (hm.cell lt2 (fun h => h.elim hnbg (fun h => by simp only at h; omega))).trans q2, (hm.cell lt2 (fun h => h.elim hnbg (fun h => by simp only at h; omega))).trans q3, (hm.cell lt2 (fun h => h.elim hnbg (fun h => by simp only at h; omega))).trans q4, (hm.cell lt2 (fun h => h.elim hnbg (fun h => by simp only at h; omega))).trans q5, (hm.cell lt2 (fun h => h.elim hnbg (fun h => by simp only at h; omega))).trans q6, (hm.cell lt2 (fun h => h.elim hnbg (fun h => by simp only at h; omega))).trans q7, (hm.cell lt2 (fun h => h.elim hnbg (fun h => by simp only at h; omega))).trans q8⟩
        have hm0 : Mod (fun _ => False) wr (wr.alloc (.cells #[.string s.name, .string s.verb, .string s.undo, .string s.event, .bool s.final, .int .i64 s.retry, .int .i64 s.every, .int .i64 s.within, .slice s.aa s.after.length s.ac] 31)).drew := ((Mod.refl _ _).alloc _).drew
        have hW0 : (wr.alloc (.cells #[.string s.name, .string s.verb, .string s.undo, .string s.event, .bool s.final, .int .i64 s.retry, .int .i64 s.every, .int .i64 s.within, .slice s.aa s.after.length s.ac] 31)).drew.heap[wr.heap.size]? = some (.cells #[.string s.name, .string s.verb, .string s.undo, .string s.event, .bool s.final, .int .i64 s.retry, .int .i64 s.every, .int .i64 s.within, .slice s.aa s.after.length s.ac] 31 (0, 0)) := heap_alloc_new _ _
        have HO : Hid (Own (wr.alloc (.cells #[.string s.name, .string s.verb, .string s.undo, .string s.event, .bool s.final, .int .i64 s.retry, .int .i64 s.every, .int .i64 s.within, .slice s.aa s.after.length s.ac] 31)).drew 31 9 sa k cp ((turn ss q k).flatMap Stp.cs)) := by have := HG.out.own.mod hm0 (fun _ _ h => h); rw [hlen] at this; exact this
        have HSrc : Hid (Src (wr.alloc (.cells #[.string s.name, .string s.verb, .string s.undo, .string s.event, .bool s.final, .int .i64 s.retry, .int .i64 s.every, .int .i64 s.within, .slice s.aa s.after.length s.ac] 31)).drew 9 (some ⟨wr.heap.size, 0, none⟩) 1 s.cs) := src_new (cs := s.cs) hW0 rfl
        have HOne := hid (Stp.one s)
        have HL : Hid (∀ w1, Mod (blk sa) (wr.alloc (.cells #[.string s.name, .string s.verb, .string s.undo, .string s.event, .bool s.final, .int .i64 s.retry, .int .i64 s.every, .int .i64 s.within, .slice s.aa s.after.length s.ac] 31)).drew w1 → w1.cell? ⟨wc.heap.size, 1, none⟩ = some (.slice sa k cp) ∧ w1.frozen? ⟨wc.heap.size, 1, none⟩ = false) := fun w1 hm => by have := HG.out.late hm0 hm; rw [hlen] at this; exact this
        have Hm0 := hid hm0
        have Hlen := hid hlen
        have ne1 : wr.heap.size ≠ wc.heap.size := by omega
        have ne2 : wr.heap.size ≠ W.heap.size := by omega
        clear hm0 hW0 hlen
        clear HK
        go_region_law (refine step_append_Own rfl (.tmp 30) (.tmp 40) 26 rfl 31 i0 _ 9 120 Try.underlying26 hi hz0 hz1 hz2 rfl sa k cp _ (by simp [Act.eval]) HO.out (some ⟨wr.heap.size, 0, none⟩) 1 1 _ (by simp [Act.eval]) HSrc.out HOne.out (by unfold maxLen; omega) (by omega) ?_; intro sa' cp' w1 hown1 hm1 hb1 hn1 hr1; obtain ⟨k0, k1⟩ := HL.out w1 hm1; have Hm1a := hid hm1; have Hown1 := hid hown1; have Hb1 := hid hb1; clear hm1 hown1 hb1 hn1 hr1)
        all_goals
          go_wp2_with fail
          go_roundw
          case rel =>
            refine ⟨k + 1, sa', cp', by omega, by go_num, ?_⟩
            rw [HTS.out]
            have := HG.out.grown Hm0.out Hm1a.out (s := s) (sa' := sa') (cap' := cp') (by rw [Hlen.out]; exact Hown1.out) Hb1.out (HS.out.mod HG.out.mod (fun _ _ h => h)) (fun h0 k hk => ⟨fun h => by have := HS.out.lt k h0 hk; have := HG.out.los k h; omega, fun e => by have := HS.out.lt k h0 hk; omega⟩)
            rw [Hlen.out] at this
            exact this
          case measure => simp [intOf]; omega
      · have hkl : k = ss.length := by omega
        subst hkl
        have hiff := turn_check (ss := ss) (q := q) p0 hql
        have C1 : Hid (∀ x : Ext wr, Calls Try.prog 11 #[.agg #[.string nm, .slice sa ss.length cp]] x.val fun e w' => e = .returned (.int .i64 (checkF (turn ss q ss.length))) ∧ Mod (fun _ => False) x.val w') := fun x => by
          have := check_any nm cp ((HG.out.ext x.mod).def (by omega))
          rw [hlen] at this
          exact this
        have C2 : Hid (∀ x : Ext wr, Calls Try.prog 11 #[.agg #[.string nm, .slice a ss.length cap]] x.val fun e w' => e = .returned (.int .i64 (checkF ss)) ∧ Mod (fun _ => False) x.val w') := fun x => check_any nm cap (HD1.out.mod (HG.out.mod.trans x.mod) (fun _ _ h => h))
        rw [hlen] at t1
        have u0 : ∀ x : Ext wr, x.val.cell? ⟨W.heap.size, 0, none⟩ = some (.string nm) := fun x => x.cell x0
        have u1 : ∀ x : Ext wr, x.val.cell? ⟨W.heap.size, 1, none⟩ = some (.slice a ss.length cap) := fun x => x.cell x1
        have u2 : ∀ x : Ext wr, x.val.cell? ⟨wc.heap.size, 0, none⟩ = some (.string nm) := fun x => x.cell t0
        have u3 : ∀ x : Ext wr, x.val.cell? ⟨wc.heap.size, 1, none⟩ = some (.slice sa ss.length cp) := fun x => x.cell t1
        generalize checkF (turn ss q ss.length) = A at *
        generalize checkF ss = B at *
        have hAB : ((A == 0) == (B == 0)) = true := by
          rw [beq_iff_eq, Bool.eq_iff_iff, beq_iff_eq, beq_iff_eq]
          exact hiff
        have HMW := hid (Hm1.out.trans HG.out.mod)
        clear hiff x0 x1 t0 t1 v0 v1 hlen
        go_wp2_with fail
        refine wp_region_ext (by kernel_rfl) (by kernel_rfl) ?_
        repeat (go_big_quiet_step ((first | (go_at_call 10; exact ext_call (wakes_yes _)) | (go_at_call 11; with_reducible exact ext_call (C1.out _)) | (go_at_call 11; with_reducible exact ext_call (C2.out _)))))
        refine wpQuiet_nil ?_
        rintro _ ⟨x, rfl⟩
        go_wp2_with fail
        go_ret
        exact ⟨rfl, (HMW.out.trans x.mod).below (Nat.le_refl _) (fun _ h => h.elim)⟩

open Go.ChangeShapes Go.WideShapes Go.ChangeAt Go.ChangeMaps
theorem own : ownKnob Try.prog.godebug = none := by kernel_rfl
theorem laidOut : laidOutB Try.prog = true := by kernel_rfl

set_option maxRecDepth 100000 in
theorem lifted (os : Os) (started : os.Started) (H : Type) (enc : TypeId × Value → H) :
    ReturnsInHanded {} Try.checked os 4 .any (Rows.checkOrdersSpec.pre6 enc Try.prog Try.f4 Rows.checkOrdersRow.domain false) (Rows.checkOrdersSpec.post enc Try.prog Try.f4 false true false false) := by
  refine returnsInHanded_of_change_sized (C := Try.checked) own started (by kernel_rfl) Try.func4
    (ChangeSpec.witness6 (enc := enc) (C := Try.checked) false ⟨#[], #[.agg #[.string ⟨#[]⟩, .slice none 0 0], .int .i64 0], []⟩ 8 (by kernel_rfl) (by kernel_rfl) (by kernel_rfl) (by kernel_rfl)) ?_
  intro W base args ds gs before hval0 hW hcnd hsz0 _
  have hsz : (DataW.weightsEach Try.prog (Try.f4.params.toList ++ Rows.checkOrdersSpec.plain.varTypes Try.prog) (ds ++ gs)).all (· ≤ reachBytes) = true := hsz0
  clear hsz0
  have hval : ∀ (j : Nat) t v, Try.f4.params[j]? = some t → args[j]? = some v → Value.okWide Try.prog W .any base t v := hval0
  have hW' := hW
  obtain ⟨p, q, hA0, hV, rfl, hfz, hnd⟩ := hW
  have hA : DataW.TrodAll enc Try.prog W 0 (fun _ => true) true Try.f4.params.toList args.toList ds p := hA0
  rw [Try.params4] at hA hval hsz
  obtain ⟨v0, vs0, d0, ds0, p0, q0, hargs, rfl, rfl, h0, r0⟩ := trodAll_cons hA
  obtain ⟨v1, vs1, d1, ds1, p1, q1, rfl, rfl, rfl, h1, r1⟩ := trodAll_cons r0
  obtain ⟨rfl, rfl, rfl⟩ := trodAll_nil r1
  obtain rfl : args = #[v0, v1] := by cases args; simp_all
  obtain ⟨rfl, rfl⟩ := trodVars_none hV
  have lt0 : ∀ x ∈ p0, x.block < W.heap.size := by obtain ⟨m, hm⟩ := h0; exact DataW.trod_lt m _ _ _ hm
  have lt1 : ∀ x ∈ p1, x.block < W.heap.size := by obtain ⟨m, hm⟩ := h1; exact DataW.trod_lt m _ _ _ hm
  have hsz' : (DataW.weightsEach Try.prog [28, 3] [d0, d1]).all (· ≤ reachBytes) = true := hsz
  obtain ⟨x0a, x0b, x0c, x0d, rfl, f0a, f0b, f0c, f0d⟩ := def_of (hval 0 28 v0 rfl rfl) h0 (fits_of_each hsz' (j := 0) rfl rfl)
  obtain ⟨n1, rfl, rfl, rfl, wf1⟩ := open_int Try.underlying3 (hval 1 3 v1 rfl rfl) h1
  have lh1 := wf_i64 wf1
  clear hA0 hval0
  refine (walk W x0a x0b x0c x0d f0a f0b f0c f0d n1 lh1.1 lh1.2).mono fun e W' ⟨he, bel⟩ => ?_
  subst he
  exact ⟨_, rfl, _, _, _, [], _, [], hW', trodAll_mk1 (shut_bool Try.underlying4 _), (trodAll_cons_mk (Below.trod laidOut (by kernel_rfl) (of_decide_eq_true (by kernel_rfl)) h0 bel lt0) (trodAll_cons_mk (Below.trod laidOut (by kernel_rfl) (of_decide_eq_true (by kernel_rfl)) h1 bel lt1) trodAll_mk0)), rfl, bel.frame _, fun h => by cases h⟩

theorem over : Rows.checkOrdersRow.holds Try.pinned (OpenSpec.ofChange Rows.checkOrdersSpec) :=
  OpenClaim.holds_of_wide 4 Try.f4 rfl rfl rfl rfl rfl rfl rfl ⟨rfl, rfl, rfl, rfl, rfl⟩ rfl rfl rfl rfl rfl (by kernel_rfl) Try.func4 (by kernel_rfl)
    (of_decide_eq_true (by kernel_rfl)) (by unfold Func.isWrapper; first | (rw [if_pos (by decide +kernel)]; kernel_rfl) | (rw [if_neg (by decide +kernel)]; exact ⟨rfl, rfl⟩))
    (fun os started H enc _ => lifted os started H enc)

theorem proved : Rows.CheckOrdersSaid := over
#print axioms proved


end CheckOrders

theorem checkOrders_holds : Rows.CheckOrdersSaid := CheckOrders.proved
#print axioms checkOrders_holds

end Go.Proofs.Ythbfgeaojgfafaa
