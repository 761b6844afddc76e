/- A journal: Len, place, head, Read -/
import Derived.Test.YtbfdmglmolkloaaGreatDoorJrU
import Derived.Test.YtbfdmglmolkloaaGreatDoorBld
import Derived.Deep.RegionHeld3
namespace Go.Proofs.YtbfdmglmolkloaaGreatDoor
open Go Go.RowKit

/-- A journal over a disk. -/
def JAt (w : World) (j d room : Nat) : Prop := w.heap[j]? = some (.cells #[.pointer (some ⟨d, 0, none⟩), .int .i64 (room : Int)] 83 (0, 0))

theorem JAt.lt {w : World} {j d room : Nat} (h : JAt w j d room) : j < w.heap.size := lt_of_heap h
theorem JAt.mod {S : Nat → Prop} {w w' : World} {j d room : Nat} (h : JAt w j d room) (hm : Mod S w w') (hs : ¬ S j) : JAt w' j d room := (hm.block j h.lt hs).trans h
theorem JAt.cells {w : World} {j d room : Nat} (h : JAt w j d room) : w.cell? ⟨j, 0, none⟩ = some (.pointer (some ⟨d, 0, none⟩)) ∧ w.cell? ⟨j, 1, none⟩ = some (.int .i64 (room : Int)) := by
  refine ⟨?_, ?_⟩ <;> (rw [cell_of_row _ _ _ _ _ _ h]; rfl)

theorem jlen_int (room : Nat) (D : Dsk) : max 0 ((D.secs.length : Int) - (room : Int) - 1) = (jlen room D : Int) := by unfold jlen; omega

theorem jlen_any {w : World} {j d room : Nat} {sa : Option Addr} {D : Dsk} (hD : DiskAt w d sa D) (hj : JAt w j d room) (hn : D.secs.length ≤ 16384) (hr : room ≤ 500) :
    Calls Tryz.prog 11 #[.pointer (some ⟨j, 0, none⟩)] w fun e w' => e = .returned (.int .i64 (jlen room D : Int)) ∧ Mod (fun _ => False) w w' := by
  obtain ⟨h0, h1⟩ := hj.cells
  have g0 := fun x : Ext w => x.cell h0
  have g1 := fun x : Ext w => x.cell h1
  have k1 : ∀ x : Ext w, Calls Tryz.prog 31 #[.pointer (some ⟨d, 0, none⟩)] x.val fun e w' => e = .returned (.int .i64 D.secs.length) ∧ x.val = w' := fun x => len_any (hD.mod x.mod (fun _ _ h => h))
  have K1 := hid k1
  have hv := jlen_int room D
  generalize D.secs.length = n at *
  have s1 : IntKind.i64.wrap ((n : Int) - (room : Int)) = (n : Int) - (room : Int) := by rw [IntKind.wrap_i64]; omega
  have s2 : IntKind.i64.wrap ((n : Int) - (room : Int) - 1) = (n : Int) - (room : Int) - 1 := by rw [IntKind.wrap_i64]; omega
  clear hj hD h0 h1 k1
  go_enter Tryz.func11, Tryz.ntmps11
  go_wp2
  refine wp_region_ext (by kernel_rfl) (by kernel_rfl) ?_
  repeat (go_big_quiet_step ((go_at_call 31; exact ext_same (K1.out _))))
  refine wpQuiet_nil ?_
  rintro _ ⟨x, rfl⟩
  go_wp2
  go_ret
  exact ⟨rfl, x.mod⟩

theorem place_any {w : World} {j d room : Nat} (hj : JAt w j d room) (hr : room ≤ 500) (i : Nat) (hi : i ≤ 16384) :
    Calls Tryz.prog 33 #[.pointer (some ⟨j, 0, none⟩), .int .i64 (i : Int)] w fun e w' => e = .returned (.int .i64 ((room + 1 + i : Nat) : Int)) ∧ w = w' := by
  obtain ⟨h0, h1⟩ := hj.cells
  clear hj
  go_enter Tryz.func33, Tryz.ntmps33
  go_wp2
  go_ret
  refine ⟨?_, rfl⟩
  congr 2

theorem cells_ba (l : List UInt8) : Lib.strCells (ba l) = Lib.byteCells l := by
  unfold Lib.strCells Lib.byteCells
  rw [ba_data]
theorem cells_app (a b : List UInt8) : Lib.byteCells (a ++ b) = Lib.byteCells a ++ Lib.byteCells b := by simp [Lib.byteCells]
theorem cells_len (a : List UInt8) : (Lib.byteCells a).length = a.length := by simp [Lib.byteCells]

def nums (l : List Nat) : List Value := l.map fun (n : Nat) => .int .i64 ((n : Nat) : Int)
theorem nums_len (l : List Nat) : (nums l).length = l.length := by simp [nums]
theorem nums_snoc (l : List Nat) (n : Nat) : nums (l ++ [n]) = nums l ++ [.int .i64 (n : Int)] := by simp [nums]

theorem Own.num {w : World} {e : TypeId} {g off n cap : Nat} {l : List Nat} (h : Own w e 1 (some ⟨g, off, none⟩) n cap (nums l)) {i : Nat} (hi : i < l.length) : w.cell? ⟨g, off + i, none⟩ = some (.int .i64 ((l[i] : Nat) : Int)) := by
  have := h.cell i (by have := h.1; rw [nums_len] at this; omega)
  rw [this]
  unfold nums
  rw [List.getD_eq_getElem?_getD, List.getElem?_map, List.getElem?_eq_getElem hi]
  rfl

def hdK (l : List Nat) (k : Nat) : List UInt8 := uvar l.length ++ (l.take k).flatMap uvar
theorem hdK_zero (l : List Nat) : hdK l 0 = uvar l.length := by simp [hdK]
theorem hdK_succ (l : List Nat) (k : Nat) (hk : k < l.length) : hdK l (k + 1) = hdK l k ++ uvar l[k] := by
  unfold hdK
  rw [List.take_succ_eq_append_getElem hk, List.flatMap_append, List.append_assoc]
  simp
theorem hdK_all (l : List Nat) : hdK l l.length = hdL l := by unfold hdK hdL; rw [List.take_length]

theorem hdK_len (l : List Nat) (k : Nat) (hn : ∀ n ∈ l, n ≤ 16384) (hl : l.length ≤ 500) : (hdK l k).length ≤ 10 + 10 * 500 := by
  have h1 := uvar_len10 (n := l.length) (by omega)
  have h2 : ∀ m : List Nat, (∀ n ∈ m, n ≤ 16384) → (m.flatMap uvar).length ≤ 10 * m.length := by
    intro m
    induction m with
    | nil => intro _; simp
    | cons x r ih =>
      intro h
      have a := uvar_len10 (n := x) (by have := h x List.mem_cons_self; omega)
      have b := ih (fun y hy => h y (List.mem_cons_of_mem _ hy))
      rw [List.flatMap_cons, List.length_append, List.length_cons]
      omega
  have h3 := h2 (l.take k) (fun n hm => hn n (List.mem_of_mem_take hm))
  have h4 : (l.take k).length ≤ l.length := by rw [List.length_take]; omega
  unfold hdK
  rw [List.length_append]
  omega

set_option maxRecDepth 100000 in
set_option maxHeartbeats 1000000 in
theorem head_any {w : World} {sa : Option Addr} {cap : Nat} {l : List Nat} (h : Own w 3 1 sa l.length cap (nums l)) (hl : l.length ≤ 500) (hn : ∀ n ∈ l, n ≤ 16384) :
    Calls Tryz.prog 32 #[.slice sa l.length cap] w fun e w' => e = .returned (.string (ba (hdL l))) ∧ Mod (fun _ => False) w w' := by
  have HB0 := hid (Lib.fresh_isBuilder 112 5 w)
  have HO := hid h
  have HL := hid (fun k => hdK_len l k hn hl)
  have HN := hid hn
  clear h hn
  go_enter Tryz.func32, Tryz.ntmps32
  go_wp2_with fail
  have hWm : Mod (fun j => w.heap.size ≤ j) w (w.alloc (.cells #[.pointer none, .slice none 0 0] 112)) := (Mod.refl _ _).alloc _
  generalize w.alloc (.cells #[.pointer none, .slice none 0 0] 112) = W1 at *
  refine (uint_any l.length W1 (by omega)).mono ?_
  rintro e w3 ⟨rfl, hm3⟩
  have HM3 := hid (hWm.trans (hm3.mono fun _ _ h => h.elim))
  have HB3 := hid (isB_ext HB0.out hm3)
  clear hm3 hWm
  go_wp2_with fail
  refine (writeString_any _ _ _ _ _ HB3.out (by rw [ba_size]; have := uvar_len10 (n := l.length) (by omega); simp; omega) HM3.out.size).mono ?_
  rintro e w4 ⟨rfl, hb4, hbl4⟩
  have HM4 := hid (HM3.out.trans (Mod.of_below hbl4))
  have HB4 : Hid (Lib.IsBuilder 112 5 w.heap.size w.heap.size (Lib.byteCells (hdK l 0)) w4) := by
    rw [hdK_zero]
    rw [cells_ba] at hb4
    exact hb4
  clear hb4 hbl4
  go_wp2_with fail
  go_loopw [13] (fun c wr => ∃ k : Nat, k ≤ l.length ∧ c = .int .i64 k ∧ Lib.IsBuilder 112 5 w.heap.size w.heap.size (Lib.byteCells (hdK l k)) wr ∧ Mod (fun j => w.heap.size ≤ j) w wr) (fun c _ => l.length - (intOf c).toNat)
  case atStart => exact ⟨0, Nat.zero_le _, rfl, HB4.out, HM4.out⟩
  case round =>
    obtain ⟨k, hk, rfl, hb, hm⟩ := hrel
    have HB := hid hb
    have HM := hid hm
    clear hb hm
    by_cases hlt : k < l.length
    · obtain ⟨g, off, rfl⟩ := HO.out.some_lit (by omega)
      have hc := (HO.out.mod HM.out (fun j hj h => by have := HO.out.lt j hj; omega)).num hlt
      have hx := HN.out l[k] (List.getElem_mem hlt)
      have HS := hid (hdK_succ l k hlt)
      generalize l[k] = x at *
      go_wp2_with fail
      refine (uint_any x wr (by omega)).mono ?_
      rintro e w5 ⟨rfl, hm5⟩
      have HM5 := hid (HM.out.trans (hm5.mono fun _ _ h => h.elim))
      have HB5 := hid (isB_ext HB.out hm5)
      clear hm5 hc
      go_wp2_with fail
      refine (writeString_any _ _ _ _ _ HB5.out (by rw [cells_len, ba_size]; have := uvar_len10 (n := x) (by omega); have := HL.out k; omega) HM5.out.size).mono ?_
      rintro e w6 ⟨rfl, hb6, hbl6⟩
      have HM6 := hid (HM5.out.trans (Mod.of_below hbl6))
      have HB6 : Hid (Lib.IsBuilder 112 5 w.heap.size w.heap.size (Lib.byteCells (hdK l (k + 1))) w6) := by
        rw [HS.out]
        rw [cells_ba, ← cells_app] at hb6
        exact hb6
      clear hb6 hbl6
      go_wp2_with fail
      go_roundw
      case rel => exact ⟨k + 1, by omega, by go_num, HB6.out, HM6.out⟩
      case measure => simp [intOf]; omega
    · have hke : k = l.length := by omega
      subst hke
      go_wp2_with fail
      refine (string_any _ _ _ _ HB.out HM.out.size).mono ?_
      rintro e w5 ⟨rfl, hb5⟩
      have HM5 := hid (HM.out.trans (Mod.of_below hb5))
      clear hb5
      go_wp2_with fail
      go_ret
      rw [← hdK_all]
      exact ⟨rfl, (Mod.refl _ w).then HM5.out (fun i hi h => by omega)⟩

end Go.Proofs.YtbfdmglmolkloaaGreatDoor
