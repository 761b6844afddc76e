/- The document's disk -/
import Derived.Test.YtbfdmglmolkloaaGreatDoorDk
import Derived.Laws.IdiomStrings
namespace Go.Proofs.YtbfdmglmolkloaaGreatDoor
open Go Go.RowKit

/-- The document's disk: the sectors less their zeros, writes, the highest, whether a cut is set, what is left, the power off. -/
structure Rsk where
  secs : List ByteArray
  done : Int
  high : Int
  set : Bool
  left : Int
  off : Bool

def RefAt (w : World) (b : Nat) (sa : Option Addr) (R : Rsk) : Prop :=
  ∃ cap, w.heap[b]? = some (.cells #[.slice sa R.secs.length cap, .int .i64 R.done, .int .i64 R.high, .bool R.set, .int .i64 R.left, .bool R.off] 58 (0, 0)) ∧ Own w 9 1 sa R.secs.length cap (R.secs.map .string) ∧ ¬ blk sa b

theorem RefAt.lt {w : World} {b : Nat} {sa : Option Addr} {R : Rsk} (h : RefAt w b sa R) : ∀ k, diskF b sa k → k < w.heap.size := by
  obtain ⟨cap, h1, h2, h3⟩ := h
  rintro k (rfl | hk)
  · exact lt_of_heap h1
  · exact h2.lt k hk

theorem RefAt.mod {S : Nat → Prop} {w w' : World} {b : Nat} {sa : Option Addr} {R : Rsk} (h : RefAt w b sa R) (hm : Mod S w w') (hs : ∀ k, diskF b sa k → ¬ S k) : RefAt w' b sa R := by
  obtain ⟨cap, h1, h2, h3⟩ := h
  exact ⟨cap, (hm.block b (lt_of_heap h1) (hs b (Or.inl rfl))).trans h1, h2.mod hm (fun k hk => hs k (Or.inr hk)), h3⟩

theorem RefAt.cells {w : World} {b : Nat} {sa : Option Addr} {R : Rsk} (h : RefAt w b sa R) : ∃ cap, w.cell? ⟨b, 0, none⟩ = some (.slice sa R.secs.length cap) ∧ w.cell? ⟨b, 1, none⟩ = some (.int .i64 R.done) ∧ w.cell? ⟨b, 2, none⟩ = some (.int .i64 R.high) ∧ w.cell? ⟨b, 3, none⟩ = some (.bool R.set) ∧ w.cell? ⟨b, 4, none⟩ = some (.int .i64 R.left) ∧ w.cell? ⟨b, 5, none⟩ = some (.bool R.off) ∧ (∀ o, w.frozen? ⟨b, o, none⟩ = false) ∧ Own w 9 1 sa R.secs.length cap (R.secs.map .string) ∧ ¬ blk sa b ∧ w.heap[b]? = some (.cells #[.slice sa R.secs.length cap, .int .i64 R.done, .int .i64 R.high, .bool R.set, .int .i64 R.left, .bool R.off] 58 (0, 0)) := by
  obtain ⟨cap, h1, h2, h3⟩ := h
  exact ⟨cap, by rw [cell_of_row _ _ _ _ _ _ h1]; rfl, by rw [cell_of_row _ _ _ _ _ _ h1]; rfl, by rw [cell_of_row _ _ _ _ _ _ h1]; rfl, by rw [cell_of_row _ _ _ _ _ _ h1]; rfl, by rw [cell_of_row _ _ _ _ _ _ h1]; rfl, by rw [cell_of_row _ _ _ _ _ _ h1]; rfl, fun o => frozen_of_row _ _ _ _ _ h1, h2, h3, h1⟩

/-- Where the zeros at the end of the first k bytes begin. -/
def bareN (l : List UInt8) : Nat → Nat
  | 0 => 0
  | k + 1 => if (l[k]?).getD 0 = 0 then bareN l k else k + 1

def bareB (s : ByteArray) : ByteArray := s.extract 0 (bareN s.data.toList s.size)

theorem bareN_succ (l : List UInt8) (k : Nat) : bareN l (k + 1) = if (l[k]?).getD 0 = 0 then bareN l k else k + 1 := rfl

theorem bareN_le (l : List UInt8) : ∀ k, bareN l k ≤ k
  | 0 => Nat.le_refl _
  | k + 1 => by
    unfold bareN
    split
    · have := bareN_le l k; omega
    · omega

theorem bareN_zero (l : List UInt8) : ∀ k j, bareN l k ≤ j → j < k → (l[j]?).getD 0 = 0
  | 0, _, _, h => by omega
  | k + 1, j, h1, h2 => by
    unfold bareN at h1
    split at h1
    · rename_i hz
      rcases Nat.lt_or_ge j k with h | h
      · exact bareN_zero l k j h1 h
      · have : j = k := by omega
        subst this; exact hz
    · omega

theorem bareB_small {s : ByteArray} (h : s.size ≤ 1024) : (bareB s).size ≤ 1024 := by
  unfold bareB
  rw [ByteArray.size_extract]
  omega

theorem pad_bare {s : ByteArray} (h : s.size ≤ 1024) : pad (bareB s) = pad s := by
  apply ba_ext
  rw [pad_list, pad_list]
  have hle := bareN_le s.data.toList s.size
  have hz := bareN_zero s.data.toList s.size
  have hsz : s.data.toList.length = s.size := by rw [Array.length_toList]; rfl
  have hb : (bareB s).data.toList = s.data.toList.take (bareN s.data.toList s.size) := by
    unfold bareB
    rw [ByteArray.data_extract, Array.toList_extract, List.extract_eq_take_drop, List.drop_zero, Nat.sub_zero]
  have hbs : (bareB s).size = bareN s.data.toList s.size := by
    have : (bareB s).size = (bareB s).data.toList.length := by rw [Array.length_toList]; rfl
    rw [this, hb, List.length_take]; omega
  rw [hb, hbs]
  generalize bareN s.data.toList s.size = n at *
  apply List.ext_getElem?
  intro j
  rw [List.getElem?_append, List.getElem?_append, List.length_take, hsz, List.getElem?_take, List.getElem?_replicate, List.getElem?_replicate]
  by_cases h1 : j < n
  · rw [if_pos (by omega), if_pos h1, if_pos (by omega)]
  · rw [if_neg (by omega)]
    by_cases h2 : j < s.size
    · rw [if_pos h2, if_pos (by omega)]
      have := hz j (by omega) h2
      rw [List.getElem?_eq_getElem (by omega)] at this ⊢
      simpa using this.symm
    · rw [if_neg h2]
      by_cases h3 : j < 1024
      · rw [if_pos (by omega), if_pos (by omega)]
      · rw [if_neg (by omega), if_neg (by omega)]

theorem get_lit (s : ByteArray) (k : Nat) (h : k < s.size) : (s.data.toList[k]?).getD 0 = s[k] := by
  rw [Array.getElem?_toList, Array.getElem?_eq_getElem h]; rfl

set_option maxRecDepth 100000 in
theorem bare_any (s : ByteArray) (w : World) (hs : s.size ≤ 1024) : Calls Tryz.prog 42 #[.string s] w fun e w' => e = .returned (.string (bareB s)) ∧ w = w' := by
  go_enter Tryz.func42, Tryz.ntmps42
  go_wp2
  go_loop [3] (fun c => ∃ k : Nat, k ≤ s.size ∧ c = .int .i64 k ∧ bareN s.data.toList s.size = bareN s.data.toList k) (fun c => (intOf c).toNat)
  case atStart => exact ⟨s.size, Nat.le_refl _, rfl, rfl⟩
  case round =>
    obtain ⟨k, hk, rfl, hb⟩ := hrel
    cases k with
    | zero =>
      have HB := hid hb
      clear hb
      have c1 : decide ((0 : Int) < 0) = false := by decide
      rw [show ((0 : Nat) : Int) = 0 from rfl]
      go_wp2
      go_ret
      refine ⟨?_, rfl⟩
      unfold bareB
      rw [HB.out]
      have e0 : s.extract 0 (bareN s.data.toList 0) = ByteArray.empty := by
        apply ba_ext
        rw [ByteArray.data_extract, Array.toList_extract, List.extract_eq_take_drop]
        rfl
      rw [e0]
      rfl
    | succ j =>
      have hj : j < s.size := by omega
      have hg := get_lit s j hj
      have c1 : decide ((0 : Int) < (j : Int) + 1) = true := decide_eq_true (by omega)
      rw [show ((j + 1 : Nat) : Int) = (j : Int) + 1 by omega]
      rw [bareN_succ] at hb
      by_cases hz : s[j] = 0
      · rw [hg, if_pos hz] at hb
        have HB := hid hb
        have e1 : ((s[j].toNat : Int) == 0) = true := by rw [hz]; rfl
        clear hb hg hz
        go_wp2
        go_round
        case rel => exact ⟨j, by omega, by go_num, HB.out⟩
        case measure => simp [intOf]
      · rw [hg, if_neg hz] at hb
        have HB := hid hb
        have e1 : ((s[j].toNat : Int) == 0) = false := by
          have : s[j].toNat ≠ 0 := fun h => hz (UInt8.toNat_inj.1 h)
          simp; omega
        clear hb hg hz
        go_wp2
        go_ret
        refine ⟨?_, rfl⟩
        unfold bareB
        rw [HB.out]
        rfl

/-- What the document's Write says and leaves. -/
def rput (R : Rsk) (i : Nat) (s : ByteArray) : Rsk := { R with secs := R.secs.set i (bareB s), done := R.done + 1, high := if R.high < i then (i : Int) else R.high, left := if R.set then R.left - 1 else R.left }
def rwriteF (R : Rsk) (i : Int) (s : ByteArray) : Int × Rsk :=
  if R.off then (12, R) else if i < 0 ∨ R.secs.length ≤ i then (10, R) else if 1024 < s.size then (11, R) else if R.set = true ∧ R.left = 0 then (12, { R with off := true }) else (0, rput R i.toNat s)

theorem rwrite_off {w : World} {b : Nat} {sa : Option Addr} {R : Rsk} (h : RefAt w b sa R) (i : Int) (s : ByteArray) (ho : R.off = true) : Calls Tryz.prog 25 #[.pointer (some ⟨b, 0, none⟩), .int .i64 i, .string s] w fun e w' => e = .returned (.int .i64 12) ∧ w = w' := by
  obtain ⟨cap, h0, h1, h2, h3, h4, h5, fz, _, _, _⟩ := h.cells
  rw [ho] at h5
  clear h ho
  go_enter Tryz.func25, Tryz.ntmps25
  go_wp2
  go_ret
  exact ⟨rfl, rfl⟩

theorem rwrite_at {w : World} {b : Nat} {sa : Option Addr} {R : Rsk} (h : RefAt w b sa R) (i : Int) (s : ByteArray) (ho : R.off = false) (hi : i < 0 ∨ R.secs.length ≤ i) : Calls Tryz.prog 25 #[.pointer (some ⟨b, 0, none⟩), .int .i64 i, .string s] w fun e w' => e = .returned (.int .i64 10) ∧ w = w' := by
  obtain ⟨cap, h0, h1, h2, h3, h4, h5, fz, _, _, _⟩ := h.cells
  rw [ho] at h5
  clear h ho
  by_cases hneg : i < 0
  · have d1 : decide (i < 0) = true := by simpa using hneg
    clear hi
    go_enter Tryz.func25, Tryz.ntmps25
    go_wp2
    go_ret
    exact ⟨rfl, rfl⟩
  · have d1 : decide (i < 0) = false := by simpa using hneg
    have hbig : (R.secs.length : Int) ≤ i := by omega
    have d2 : decide ((R.secs.length : Int) ≤ i) = true := by simpa using hbig
    clear hi
    go_enter Tryz.func25, Tryz.ntmps25
    go_wp2
    go_ret
    exact ⟨rfl, rfl⟩

theorem rwrite_long {w : World} {b : Nat} {sa : Option Addr} {R : Rsk} (h : RefAt w b sa R) (i : Int) (s : ByteArray) (ho : R.off = false) (hi : ¬ (i < 0 ∨ R.secs.length ≤ i)) (hs : 1024 < s.size) (hm : s.size ≤ maxLen) : Calls Tryz.prog 25 #[.pointer (some ⟨b, 0, none⟩), .int .i64 i, .string s] w fun e w' => e = .returned (.int .i64 11) ∧ w = w' := by
  obtain ⟨cap, h0, h1, h2, h3, h4, h5, fz, _, _, _⟩ := h.cells
  rw [ho] at h5
  unfold maxLen at hm
  have d1 : decide (i < 0) = false := by simp; omega
  have d2 : decide ((R.secs.length : Int) ≤ i) = false := by simp; omega
  clear h ho hi
  go_enter Tryz.func25, Tryz.ntmps25
  go_wp2
  go_ret
  exact ⟨rfl, rfl⟩

set_option maxRecDepth 100000 in
theorem rwrite_cut {w : World} {b : Nat} {sa : Option Addr} {R : Rsk} (h : RefAt w b sa R) (i : Int) (s : ByteArray) (ho : R.off = false) (hi : ¬ (i < 0 ∨ R.secs.length ≤ i)) (hs : s.size ≤ 1024) (hset : R.set = true) (hl : R.left = 0) : Calls Tryz.prog 25 #[.pointer (some ⟨b, 0, none⟩), .int .i64 i, .string s] w fun e w' => e = .returned (.int .i64 12) ∧ RefAt w' b sa { R with off := true } ∧ Mod (diskF b sa) w w' := by
  obtain ⟨cap, h0, h1, h2, h3, h4, h5, fz, hown, hne, hrow⟩ := h.cells
  rw [ho] at h5
  rw [hset] at h3
  rw [hl] at h4
  have Hown := hid hown
  have Hne := hid hne
  have Hrow := hid hrow
  have d1 : decide (i < 0) = false := by simp; omega
  have d2 : decide ((R.secs.length : Int) ≤ i) = false := by simp; omega
  clear h ho hi hset hl hown hne hrow
  go_enter Tryz.func25, Tryz.ntmps25
  go_wp2
  go_ret
  have hm : Mod (fun k => k = b) w (w.setCell ⟨b, 5, none⟩ (.bool true)) := Mod.setCell (S := fun k => k = b) (Mod.refl _ _) (fun _ => rfl) _
  refine ⟨rfl, ⟨cap, heap_setCell_same w b 5 _ 58 _ Hrow.out, Hown.out.mod hm (fun k hk h => Hne.out (h ▸ hk)), Hne.out⟩, hm.mono fun k _ h => Or.inl h⟩

/-- What a write leaves, but for the count of the writes that are left. -/
def rput0 (R : Rsk) (i : Nat) (s : ByteArray) : Rsk := { R with secs := R.secs.set i (bareB s), done := R.done + 1, high := if R.high < i then (i : Int) else R.high }

theorem rwrite_mid {w : World} {b g off cap : Nat} {R : Rsk} (hrow : w.heap[b]? = some (.cells #[.slice (some ⟨g, off, none⟩) R.secs.length cap, .int .i64 R.done, .int .i64 R.high, .bool R.set, .int .i64 R.left, .bool R.off] 58 (0, 0))) (hO : Own w 9 1 (some ⟨g, off, none⟩) R.secs.length cap (R.secs.map .string)) (h3 : ¬ blk (some ⟨g, off, none⟩) b) (i : Nat) (hi : i < R.secs.length) (s : ByteArray) :
    let W3 := w.setCell ⟨g, off + i, none⟩ (.string (bareB s))
    let W4 := W3.setCell ⟨b, 1, none⟩ (.int .i64 (R.done + 1))
    W3.cell? ⟨b, 1, none⟩ = some (.int .i64 R.done) ∧ W3.frozen? ⟨b, 1, none⟩ = false ∧ W4.cell? ⟨b, 2, none⟩ = some (.int .i64 R.high) ∧ W4.frozen? ⟨b, 2, none⟩ = false ∧ (R.high < i → RefAt (W4.setCell ⟨b, 2, none⟩ (.int .i64 (i : Int))) b (some ⟨g, off, none⟩) (rput0 R i s) ∧ Mod (diskF b (some ⟨g, off, none⟩)) w (W4.setCell ⟨b, 2, none⟩ (.int .i64 (i : Int)))) ∧ (¬ R.high < i → RefAt W4 b (some ⟨g, off, none⟩) (rput0 R i s) ∧ Mod (diskF b (some ⟨g, off, none⟩)) w W4) := by
  intro W3 W4
  have hgb : b ≠ g := fun h => h3 ⟨_, rfl, h.symm⟩
  have hO3 : Own W3 9 1 (some ⟨g, off, none⟩) R.secs.length cap ((R.secs.set i (bareB s)).map .string) := by
    rw [List.map_set]; exact hO.set i (by omega) (.string (bareB s))
  have hb3 : W3.heap[b]? = w.heap[b]? := heap_setCell_other _ _ _ _ hgb
  have r3 := hb3.trans hrow
  have r4 := heap_setCell_same W3 b 1 _ 58 (.int .i64 (R.done + 1)) r3
  have hlen : (R.secs.set i (bareB s)).length = R.secs.length := List.length_set
  have hm3 : Mod (diskF b (some ⟨g, off, none⟩)) w W3 := Mod.setCell (S := diskF b (some ⟨g, off, none⟩)) (p := ⟨g, off + i, none⟩) (Mod.refl _ _) (fun _ => Or.inr ⟨_, rfl, rfl⟩) _
  have hm4 : Mod (diskF b (some ⟨g, off, none⟩)) w W4 := Mod.setCell (S := diskF b (some ⟨g, off, none⟩)) hm3 (fun _ => Or.inl rfl) _
  have mb : ∀ (w : World) (o : Nat) (v : Value), Mod (fun k => k = b) w (w.setCell ⟨b, o, none⟩ v) := fun w o v => Mod.setCell (S := fun k => k = b) (Mod.refl _ _) (fun _ => rfl) _
  have hO4 : Own W4 9 1 (some ⟨g, off, none⟩) R.secs.length cap ((R.secs.set i (bareB s)).map .string) := hO3.mod (mb W3 1 _) (fun k hk h => h3 (h ▸ hk))
  refine ⟨by rw [cell_of_row _ _ _ _ _ _ r3]; rfl, frozen_of_row _ _ _ _ _ r3, by rw [cell_of_row _ _ _ _ _ _ r4]; rfl, frozen_of_row _ _ _ _ _ r4, fun hh => ⟨?_, Mod.setCell (S := diskF b (some ⟨g, off, none⟩)) hm4 (fun _ => Or.inl rfl) _⟩, fun hh => ⟨?_, hm4⟩⟩
  · refine ⟨cap, ?_, ?_, h3⟩
    · have r5 := heap_setCell_same W4 b 2 _ 58 (.int .i64 (i : Int)) r4
      simp only [rput0, hlen, if_pos hh]
      exact r5
    · simp only [rput0, hlen]
      exact hO4.mod (mb W4 2 _) (fun k hk h => h3 (h ▸ hk))
  · refine ⟨cap, ?_, ?_, h3⟩
    · simp only [rput0, hlen, if_neg hh]
      exact r4
    · simp only [rput0, hlen]
      exact hO4

theorem rput0_eq {R : Rsk} (i : Nat) (s : ByteArray) (h : R.set = false) : rput0 R i s = rput R i s := by
  unfold rput0 rput
  rw [h]
  rfl

theorem rput0_eq1 {R : Rsk} (i : Nat) (s : ByteArray) (h : R.set = true) : rput0 { R with left := R.left - 1 } i s = rput R i s := by
  unfold rput0 rput
  rw [h]
  rfl

set_option maxRecDepth 100000 in
set_option maxHeartbeats 1000000 in
theorem rwrite_ok0 {w : World} {b : Nat} {sa : Option Addr} {R : Rsk} (h : RefAt w b sa R) (i : Nat) (s : ByteArray) (ho : R.off = false) (hi : i < R.secs.length) (hs : s.size ≤ 1024) (hset : R.set = false) (hd : R.done < 4611686018427387904) (hd0 : 0 ≤ R.done) : Calls Tryz.prog 25 #[.pointer (some ⟨b, 0, none⟩), .int .i64 i, .string s] w fun e w' => e = .returned (.int .i64 0) ∧ RefAt w' b sa (rput R i s) ∧ Mod (diskF b sa) w w' := by
  obtain ⟨cap, h0, h1, h2, h3, h4, h5, fz, hown, hne, hrow⟩ := h.cells
  rw [ho] at h5
  rw [hset] at h3
  obtain ⟨g, off, rfl⟩ := Own.some_lit hown (by omega)
  have t1 : w.cell? ⟨g, off + i, none⟩ = _ := Own.one hown hi
  have t2 := hown.frozen (off + i)
  have Hown := hid hown
  have Hne := hid hne
  have Hrow := hid hrow
  have Hset := hid (rput0_eq i s hset)
  have d1 : decide ((i : Int) < 0) = false := decide_eq_false (by omega)
  have i1 : (i : Int) < (R.secs.length : Int) := by omega
  have d2 : decide ((R.secs.length : Int) ≤ (i : Int)) = false := decide_eq_false (by omega)
  have d3 : decide (R.secs.length ≤ i) = false := decide_eq_false (by omega)
  obtain ⟨hh, hhh⟩ : ∃ hh, decide (R.high < (i : Int)) = hh := ⟨_, rfl⟩
  clear h ho hown hne hrow
  cases hh
  all_goals (
    go_enter Tryz.func25, Tryz.ntmps25
    go_wp2_with fail
    go_region_with ((go_at_call 42; refine (bare_any s _ hs).mono ?_; rintro e w' ⟨rfl, rfl⟩))
    all_goals (
      have hm' : Mod (diskF b (some ⟨g, off, none⟩)) w w.drew := (Mod.refl _ _).drew
      obtain ⟨c1, f1, c2, f2, fin1, fin2⟩ := rwrite_mid (w := w.drew) Hrow.out Hown.out Hne.out i hi s
      have F1 := hid fin1
      have F2 := hid fin2
      have Hm := hid hm'
      clear fin1 fin2 hm' h0 h1 h2 h3 h4 h5 fz t1 t2
      rw [← World.setCell_drew]
      generalize w.drew.setCell ⟨g, off + i, none⟩ (.string (bareB s)) = W3 at *
      go_wp2_with fail
      go_ret
      first
        | exact ⟨rfl, Hset.out ▸ (F1.out (of_decide_eq_true hhh)).1, Hm.out.trans (F1.out (of_decide_eq_true hhh)).2⟩
        | exact ⟨rfl, Hset.out ▸ (F2.out (by have := of_decide_eq_false hhh; first | exact this | omega)).1, Hm.out.trans (F2.out (by have := of_decide_eq_false hhh; first | exact this | omega)).2⟩))

set_option maxRecDepth 100000 in
set_option maxHeartbeats 1000000 in
theorem rwrite_ok1 {w : World} {b : Nat} {sa : Option Addr} {R : Rsk} (h : RefAt w b sa R) (i : Nat) (s : ByteArray) (ho : R.off = false) (hi : i < R.secs.length) (hs : s.size ≤ 1024) (hset : R.set = true) (hl : 0 < R.left) (hl1 : R.left ≤ 9223372036854775807) (hd : R.done < 4611686018427387904) (hd0 : 0 ≤ R.done) : Calls Tryz.prog 25 #[.pointer (some ⟨b, 0, none⟩), .int .i64 i, .string s] w fun e w' => e = .returned (.int .i64 0) ∧ RefAt w' b sa (rput R i s) ∧ Mod (diskF b sa) w w' := by
  obtain ⟨cap, h0, h1, h2, h3, h4, h5, fz, hown, hne, hrow⟩ := h.cells
  rw [ho] at h5
  rw [hset] at h3
  obtain ⟨g, off, rfl⟩ := Own.some_lit hown (by omega)
  have hm' : Mod (fun k => k = b) w (w.setCell ⟨b, 4, none⟩ (.int .i64 (R.left - 1))) := Mod.setCell (S := fun k => k = b) (p := ⟨b, 4, none⟩) (Mod.refl _ _) (fun _ => rfl) _
  have hrow' := heap_setCell_same w b 4 _ 58 (.int .i64 (R.left - 1)) hrow
  have hown' := hown.mod hm' (fun k hk h => hne (h ▸ hk))
  have t0 : (w.setCell ⟨b, 4, none⟩ (.int .i64 (R.left - 1))).cell? ⟨b, 0, none⟩ = some (.slice (some ⟨g, off, none⟩) R.secs.length cap) := by rw [cell_of_row _ _ _ _ _ _ hrow']; rfl
  have t1 : (w.setCell ⟨b, 4, none⟩ (.int .i64 (R.left - 1))).cell? ⟨g, off + i, none⟩ = _ := Own.one hown' hi
  have t2 := hown'.frozen (off + i)
  have Hown := hid hown'
  have Hne := hid hne
  have Hrow := hid hrow'
  have HM := hid hm'
  have Hset := hid (rput0_eq1 i s hset)
  have d1 : decide ((i : Int) < 0) = false := decide_eq_false (by omega)
  have d4 : (R.left == 0) = false := by simp; omega
  have i1 : (i : Int) < (R.secs.length : Int) := by omega
  have d2 : decide ((R.secs.length : Int) ≤ (i : Int)) = false := decide_eq_false (by omega)
  have d3 : decide (R.secs.length ≤ i) = false := decide_eq_false (by omega)
  obtain ⟨hh, hhh⟩ : ∃ hh, decide (R.high < (i : Int)) = hh := ⟨_, rfl⟩
  clear h ho hown hne hrow hown' hrow' hm' hset
  cases hh
  all_goals (
    go_enter Tryz.func25, Tryz.ntmps25
    go_wp2_with fail
    generalize w.setCell ⟨b, 4, none⟩ (.int .i64 (R.left - 1)) = W2 at *
    clear h0 h1 h2 h3 h4 h5 fz
    go_region_with ((go_at_call 42; refine (bare_any s _ hs).mono ?_; rintro e w' ⟨rfl, rfl⟩))
    all_goals (
      have hm' : Mod (diskF b (some ⟨g, off, none⟩)) W2 W2.drew := (Mod.refl _ _).drew
      obtain ⟨c1, f1, c2, f2, fin1, fin2⟩ := rwrite_mid (w := W2.drew) (R := { R with left := R.left - 1 }) Hrow.out Hown.out Hne.out i hi s
      have F1 := hid fin1
      have F2 := hid fin2
      have Hm := hid ((HM.out.mono fun k _ (h : k = b) => (Or.inl h : diskF b (some ⟨g, off, none⟩) k)).trans hm')
      clear fin1 fin2 hm' t0 t1 t2
      rw [← World.setCell_drew]
      generalize W2.drew.setCell ⟨g, off + i, none⟩ (.string (bareB s)) = W3 at *
      simp only at c1 f1 c2 f2
      go_wp2_with fail
      go_ret
      first
        | exact ⟨rfl, Hset.out ▸ (F1.out (of_decide_eq_true hhh)).1, Hm.out.trans (F1.out (of_decide_eq_true hhh)).2⟩
        | exact ⟨rfl, Hset.out ▸ (F2.out (by have := of_decide_eq_false hhh; first | exact this | omega)).1, Hm.out.trans (F2.out (by have := of_decide_eq_false hhh; first | exact this | omega)).2⟩))

theorem rwrite_any {w : World} {b : Nat} {sa : Option Addr} {R : Rsk} (h : RefAt w b sa R) (i : Int) (s : ByteArray) (hs : s.size ≤ maxLen) (hl0 : 0 ≤ R.left) (hl1 : R.left ≤ 9223372036854775807) (hd : R.done < 4611686018427387904) (hd0 : 0 ≤ R.done) : Calls Tryz.prog 25 #[.pointer (some ⟨b, 0, none⟩), .int .i64 i, .string s] w fun e w' => e = .returned (.int .i64 (rwriteF R i s).1) ∧ RefAt w' b sa (rwriteF R i s).2 ∧ Mod (diskF b sa) w w' := by
  unfold rwriteF
  cases ho : R.off with
  | true =>
    rw [if_pos rfl]
    refine (rwrite_off h i s ho).mono ?_
    rintro e w' ⟨rfl, rfl⟩
    exact ⟨rfl, h, Mod.refl _ _⟩
  | false =>
    rw [if_neg (by decide)]
    by_cases hi : i < 0 ∨ R.secs.length ≤ i
    · rw [if_pos hi]
      refine (rwrite_at h i s ho hi).mono ?_
      rintro e w' ⟨rfl, rfl⟩
      exact ⟨rfl, h, Mod.refl _ _⟩
    · rw [if_neg hi]
      by_cases hlong : 1024 < s.size
      · rw [if_pos hlong]
        refine (rwrite_long h i s ho hi hlong hs).mono ?_
        rintro e w' ⟨rfl, rfl⟩
        exact ⟨rfl, h, Mod.refl _ _⟩
      · rw [if_neg hlong]
        obtain ⟨j, rfl⟩ : ∃ j : Nat, i = j := ⟨i.toNat, by omega⟩
        cases hset : R.set with
        | false =>
          rw [if_neg (by simp)]
          exact rwrite_ok0 h j s ho (by omega) (by omega) hset hd hd0
        | true =>
          by_cases hl : R.left = 0
          · rw [if_pos ⟨rfl, hl⟩]
            have := rwrite_cut h j s ho hi (by omega) hset hl
            rw [hset] at this
            exact this
          · rw [if_neg (fun h => hl h.2)]
            exact rwrite_ok1 h j s ho (by omega) (by omega) hset (by omega) hl1 hd hd0

end Go.Proofs.YtbfdmglmolkloaaGreatDoor
