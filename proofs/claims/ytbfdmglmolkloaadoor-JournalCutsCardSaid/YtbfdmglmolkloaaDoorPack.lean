/- The one form of a number, and of a text -/
import Derived.Test.YtbfdmglmolkloaaDoorBld
import Derived.Test.YtbfdmglmolkloaaDoorPackL
import Derived.Laws.IdiomStrings
namespace Go.Proofs.YtbfdmglmolkloaaDoor
open Go Go.RowKit

/-- A list of bytes as a text. -/
def ba (l : List UInt8) : ByteArray := ⟨l.toArray⟩

theorem ba_ext {a b : ByteArray} (h : a.data.toList = b.data.toList) : a = b := by
  cases a
  cases b
  rw [ByteArray.mk.injEq]
  exact Array.toList_inj.1 h

theorem ba_append (a b : List UInt8) : ba a ++ ba b = ba (a ++ b) := by
  apply ba_ext
  simp [ba, ByteArray.data_append]

theorem ba_size (l : List UInt8) : (ba l).size = l.length := by simp [ba, ByteArray.size]
theorem ba_list (s : ByteArray) : ba s.data.toList = s := by apply ba_ext; simp [ba]
theorem ba_toList (l : List UInt8) : (ba l).toList = l := by rw [ByteArray.toList_eq]; simp [ba]
theorem ba_data (l : List UInt8) : (ba l).data.toList = l := by simp [ba]

theorem or128_fin : ∀ x : Fin 256, bits BinOp.or IntKind.u8 ((x.val : Nat) : Int) 128 = ((x.val % 128 + 128 : Nat) : Int) := by decide +kernel

theorem or128 (m : Nat) : bits BinOp.or IntKind.u8 ((m : Int) % 256) 128 = ((m % 128 + 128 : Nat) : Int) := by
  have h := or128_fin ⟨m % 256, by omega⟩
  simp only at h
  rw [show m % 256 % 128 = m % 128 by omega] at h
  rw [show ((m % 256 : Nat) : Int) = (m : Int) % 256 by omega] at h
  exact h

set_option maxRecDepth 100000 in
set_option maxHeartbeats 1000000 in
theorem uint_any (n : Nat) (w : World) (hn : n < 18446744073709551616) : Calls Tryd.prog 37 #[.int .u64 n] w fun e w' => e = .returned (.string (ba (uvar n))) ∧ Mod (fun _ => False) w w' := by
  have HB0 := hid (Lib.fresh_isBuilder 88 5 w)
  go_enter Tryd.func37, Tryd.ntmps37
  go_wp2
  go_loopw [0] (fun v wr => ∃ (m : Nat) (l : List UInt8), v = .int .u64 m ∧ m ≤ n ∧ l ++ uvar m = uvar n ∧ Lib.IsBuilder 88 5 w.heap.size w.heap.size (Lib.byteCells l) wr ∧ Mod (fun _ => False) w wr) (fun v _ => (intOf v).toNat)
  case atStart => exact ⟨n, [], rfl, Nat.le_refl _, rfl, HB0.out, (Mod.refl _ _).alloc _⟩
  case round =>
    obtain ⟨m, l, rfl, hmn, hl, hB, hm⟩ := hrel
    have HL := hid hl
    have HB := hid hB
    have HM := hid hm
    clear hl hB hm
    by_cases hbig : 127 < m
    · have hu := uvar_big (n := m) (by omega)
      have hlen : (Lib.byteCells l).length + 1 ≤ 140737488355328 := by
        have h1 := uvar_len10 hn
        have h2 := congrArg List.length HL.out
        rw [List.length_append] at h2
        simp only [Lib.byteCells, List.length_map]
        omega
      have hor := or128 m
      have Hu := hid hu
      clear hu
      go_wp2_with fail
      clear hor
      refine (writeByte_any w.heap.size w.heap.size _ _ wr HB.out hlen HM.out.size).mono ?_
      rintro e w1 ⟨rfl, hb1, hbl⟩
      have HB1 := hid hb1
      have HBl := hid hbl
      clear hb1 hbl
      go_wp2_with fail
      go_roundw
      case rel =>
        refine ⟨m / 128, l ++ [UInt8.ofNat (m % 128 + 128)], ?_, by omega, ?_, ?_, HM.out.then (Mod.of_below HBl.out) (fun i hi h => by omega)⟩
        · congr 1
        · rw [List.append_assoc, ← HL.out, Hu.out]; rfl
        · have := HB1.out
          simp only [Lib.byteCells, List.map_append, List.map_cons, List.map_nil] at this ⊢
          rw [ofNat_mod _ (by omega)]
          exact_mod_cast this
      case measure => simp [intOf]; omega
    · have hu := uvar_small (n := m) (by omega)
      have hlen : (Lib.byteCells l).length + 1 ≤ 140737488355328 := by
        have h1 := uvar_len10 hn
        have h2 := congrArg List.length HL.out
        rw [List.length_append] at h2
        simp only [Lib.byteCells, List.length_map]
        omega
      have Hu := hid hu
      clear hu
      go_wp2_with fail
      refine (writeByte_any w.heap.size w.heap.size _ _ wr HB.out hlen HM.out.size).mono ?_
      rintro e w1 ⟨rfl, hb1, hbl⟩
      have hb2 : Lib.IsBuilder 88 5 w.heap.size w.heap.size (Lib.byteCells (uvar n)) w1 := by
        rw [← HL.out, Hu.out]
        simp only [Lib.byteCells, List.map_append, List.map_cons, List.map_nil] at hb1 ⊢
        rw [ofNat_mod _ (by omega)]
        exact hb1
      have HB1 := hid hb2
      have HBl := hid hbl
      have hsz := HM.out.size
      have hsz1 := hbl.size
      clear hb1 hbl hb2
      go_wp2_with fail
      refine (string_any w.heap.size w.heap.size _ w1 HB1.out (by omega)).mono ?_
      rintro e w2 ⟨rfl, hb3⟩
      have HB3 := hid hb3
      clear hb3
      go_wp2_with fail
      go_ret
      exact ⟨rfl, (HM.out.then (Mod.of_below HBl.out) (fun i hi h => by omega)).then (Mod.of_below HB3.out) (fun i hi h => by omega)⟩

/-- A text with its length ahead. -/
def textL (s : ByteArray) : List UInt8 := uvar s.size ++ s.data.toList

theorem textL_len {s : ByteArray} (h : s.size < 18446744073709551616) : (textL s).length ≤ 10 + s.size := by
  have := uvar_len10 h
  have e : s.data.toList.length = s.size := by rw [Array.length_toList]; rfl
  simp only [textL, List.length_append]
  omega


theorem conv_own {w : World} {sa : Option Addr} {cap : Nat} {l : List UInt8} (h : Own w 5 1 sa l.length cap (Lib.byteCells l)) (h0 : 0 < l.length) : (convert 86 9 (.slice sa l.length cap)).run Tryd.prog w = .ok (.string (ba l)) w := by
  rcases h.2.2.2 with ⟨_, hc⟩ | ⟨g, off, cur, rfl, hg, hsz, htk⟩
  · have := h.2.1; omega
  · exact run_convert_bytes_back (P := Tryd.prog) w 86 9 5 ⟨g, off, none⟩ cap l Tryd.underlying86 Tryd.underlying5 Tryd.underlying9 (fun j hj => h.src.2.2 _ rfl j _ (by simp [Lib.byteCells, hj]))



end Go.Proofs.YtbfdmglmolkloaaDoor
