/- The one form of a number, and of a text -/
import Derived.Test.YthdopgejikcfbaaBld
import Derived.Test.YthdopgejikcfbaaPackL
import Derived.Laws.IdiomStrings
namespace Go.Proofs.Ythdopgejikcfbaa
open Go Go.RowKit

/-- A list of bytes as a text. -/
def ba (l : List UInt8) : ByteArray := ⟨l.toArray⟩

theorem ba_ext {a b : ByteArray} (h : a.data.toList = b.data.toList) : a = b := by
  cases a
  cases b
  rw [ByteArray.mk.injEq]
  exact Array.toList_inj.1 h

theorem ba_append (a b : List UInt8) : ba a ++ ba b = ba (a ++ b) := by
  apply ba_ext
  simp [ba, ByteArray.data_append]

theorem ba_size (l : List UInt8) : (ba l).size = l.length := by simp [ba, ByteArray.size]
theorem ba_list (s : ByteArray) : ba s.data.toList = s := by apply ba_ext; simp [ba]
theorem ba_toList (l : List UInt8) : (ba l).toList = l := by rw [ByteArray.toList_eq]; simp [ba]
theorem ba_data (l : List UInt8) : (ba l).data.toList = l := by simp [ba]

theorem or128_fin : ∀ x : Fin 256, bits BinOp.or IntKind.u8 ((x.val : Nat) : Int) 128 = ((x.val % 128 + 128 : Nat) : Int) := by decide +kernel

theorem or128 (m : Nat) : bits BinOp.or IntKind.u8 ((m : Int) % 256) 128 = ((m % 128 + 128 : Nat) : Int) := by
  have h := or128_fin ⟨m % 256, by omega⟩
  simp only at h
  rw [show m % 256 % 128 = m % 128 by omega] at h
  rw [show ((m % 256 : Nat) : Int) = (m : Int) % 256 by omega] at h
  exact h

set_option maxRecDepth 100000 in
set_option maxHeartbeats 1000000 in
theorem uint_any (n : Nat) (w : World) (hn : n < 18446744073709551616) : Calls Try.prog 39 #[.int .u64 n] w fun e w' => e = .returned (.string (ba (uvar n))) ∧ Mod (fun _ => False) w w' := by
  have HB0 := hid (Lib.fresh_isBuilder 68 5 w)
  go_enter Try.func39, Try.ntmps39
  go_wp2
  go_loopw [0] (fun v wr => ∃ (m : Nat) (l : List UInt8), v = .int .u64 m ∧ m ≤ n ∧ l ++ uvar m = uvar n ∧ Lib.IsBuilder 68 5 w.heap.size w.heap.size (Lib.byteCells l) wr ∧ Mod (fun _ => False) w wr) (fun v _ => (intOf v).toNat)
  case atStart => exact ⟨n, [], rfl, Nat.le_refl _, rfl, HB0.out, (Mod.refl _ _).alloc _⟩
  case round =>
    obtain ⟨m, l, rfl, hmn, hl, hB, hm⟩ := hrel
    have HL := hid hl
    have HB := hid hB
    have HM := hid hm
    clear hl hB hm
    by_cases hbig : 127 < m
    · have hu := uvar_big (n := m) (by omega)
      have hlen : (Lib.byteCells l).length + 1 ≤ 140737488355328 := by
        have h1 := uvar_len10 hn
        have h2 := congrArg List.length HL.out
        rw [List.length_append] at h2
        simp only [Lib.byteCells, List.length_map]
        omega
      have hor := or128 m
      have Hu := hid hu
      clear hu
      go_wp2_with fail
      clear hor
      refine (writeByte_any w.heap.size w.heap.size _ _ wr HB.out hlen HM.out.size).mono ?_
      rintro e w1 ⟨rfl, hb1, hbl⟩
      have HB1 := hid hb1
      have HBl := hid hbl
      clear hb1 hbl
      go_wp2_with fail
      go_roundw
      case rel =>
        refine ⟨m / 128, l ++ [UInt8.ofNat (m % 128 + 128)], ?_, by omega, ?_, ?_, HM.out.then (Mod.of_below HBl.out) (fun i hi h => by omega)⟩
        · congr 1
        · rw [List.append_assoc, ← HL.out, Hu.out]; rfl
        · have := HB1.out
          simp only [Lib.byteCells, List.map_append, List.map_cons, List.map_nil] at this ⊢
          rw [ofNat_mod _ (by omega)]
          exact_mod_cast this
      case measure => simp [intOf]; omega
    · have hu := uvar_small (n := m) (by omega)
      have hlen : (Lib.byteCells l).length + 1 ≤ 140737488355328 := by
        have h1 := uvar_len10 hn
        have h2 := congrArg List.length HL.out
        rw [List.length_append] at h2
        simp only [Lib.byteCells, List.length_map]
        omega
      have Hu := hid hu
      clear hu
      go_wp2_with fail
      refine (writeByte_any w.heap.size w.heap.size _ _ wr HB.out hlen HM.out.size).mono ?_
      rintro e w1 ⟨rfl, hb1, hbl⟩
      have hb2 : Lib.IsBuilder 68 5 w.heap.size w.heap.size (Lib.byteCells (uvar n)) w1 := by
        rw [← HL.out, Hu.out]
        simp only [Lib.byteCells, List.map_append, List.map_cons, List.map_nil] at hb1 ⊢
        rw [ofNat_mod _ (by omega)]
        exact hb1
      have HB1 := hid hb2
      have HBl := hid hbl
      have hsz := HM.out.size
      have hsz1 := hbl.size
      clear hb1 hbl hb2
      go_wp2_with fail
      refine (string_any w.heap.size w.heap.size _ w1 HB1.out (by omega)).mono ?_
      rintro e w2 ⟨rfl, hb3⟩
      have HB3 := hid hb3
      clear hb3
      go_wp2_with fail
      go_ret
      exact ⟨rfl, (HM.out.then (Mod.of_below HBl.out) (fun i hi h => by omega)).then (Mod.of_below HB3.out) (fun i hi h => by omega)⟩

/-- A text with its length ahead. -/
def textL (s : ByteArray) : List UInt8 := uvar s.size ++ s.data.toList

theorem textL_len {s : ByteArray} (h : s.size < 18446744073709551616) : (textL s).length ≤ 10 + s.size := by
  have := uvar_len10 h
  have e : s.data.toList.length = s.size := by rw [Array.length_toList]; rfl
  simp only [textL, List.length_append]
  omega

theorem text_any (s : ByteArray) (w : World) (hs : s.size ≤ 140737488351232) : Calls Try.prog 46 #[.string s] w fun e w' => e = .returned (.string (ba (textL s))) ∧ Mod (fun _ => False) w w' := by
  have HU := hid (uint_any s.size w (by omega))
  have hsu : (ba (uvar s.size)).size ≤ 10 := by rw [ba_size]; exact uvar_len10 (by omega)
  go_enter Try.func46, Try.ntmps46
  go_wp2_with (go_at_call 39; refine HU.out.mono ?_; rintro e w1 ⟨rfl, hm⟩; have HM := hid hm; clear hm)
  go_ret
  refine ⟨?_, HM.out⟩
  show Ending.returned (.string (ba (uvar s.size) ++ s)) = _
  rw [← ba_list s, ba_append, ba_list s]
  rfl

theorem conv_own {w : World} {sa : Option Addr} {cap : Nat} {l : List UInt8} (h : Own w 5 1 sa l.length cap (Lib.byteCells l)) (h0 : 0 < l.length) : (convert 66 9 (.slice sa l.length cap)).run Try.prog w = .ok (.string (ba l)) w := by
  rcases h.2.2.2 with ⟨_, hc⟩ | ⟨g, off, cur, rfl, hg, hsz, htk⟩
  · have := h.2.1; omega
  · exact run_convert_bytes_back (P := Try.prog) w 66 9 5 ⟨g, off, none⟩ cap l Try.underlying66 Try.underlying5 Try.underlying9 (fun j hj => h.src.2.2 _ rfl j _ (by simp [Lib.byteCells, hj]))

set_option maxRecDepth 100000 in
set_option maxHeartbeats 1000000 in
theorem ruint_any (n : Nat) (w : World) (hn : n < 18446744073709551616) : Calls Try.prog 27 #[.int .u64 n] w fun e w' => e = .returned (.string (ba (uvar n))) ∧ Mod (fun _ => False) w w' := by
  obtain ⟨i0, hi, hz0, hz1, hz2⟩ := info_parts infoU8
  have HO0 : Hid (Own (w.alloc (.cells #[] 5)) 5 1 (some ⟨w.heap.size, 0, none⟩) 0 0 []) := Own.fresh (heap_alloc_new _ _)
  go_enter Try.func27, Try.ntmps27
  go_wp2
  go_loopw [0, 3] (fun v s wr => ∃ (m : Nat) (l : List UInt8) (sa : Option Addr) (cp : Nat), v = .int .u64 m ∧ m ≤ n ∧ s = .slice sa l.length cp ∧ l ++ uvar m = uvar n ∧ Own wr 5 1 sa l.length cp (Lib.byteCells l) ∧ (∀ k, blk sa k → w.heap.size ≤ k) ∧ Mod (fun _ => False) w wr) (fun v _ _ => (intOf v).toNat)
  case atStart => exact ⟨n, [], _, 0, rfl, Nat.le_refl _, rfl, rfl, HO0.out, fun k hk => by rw [blk_some] at hk; omega, (Mod.refl _ _).alloc _⟩
  case round =>
    obtain ⟨m, l, sa, cp, rfl, hmn, rfl, hl, hO, hbk, hm⟩ := hrel
    have hlen : l.length + 1 ≤ 20 := by
      have h1 := uvar_len10 hn
      have h2 := congrArg List.length hl
      rw [List.length_append] at h2
      omega
    have HL := hid hl
    have HO := hid hO
    have HBk := hid hbk
    have HM := hid hm
    clear hl hO hbk hm
    have HSr : Hid (∀ c : Int, Src (wr.alloc (.cells #[.int .u8 c] 5)) 1 (some ⟨wr.heap.size, 0, none⟩) 1 [.int .u8 c]) := fun c => src_new (heap_alloc_new _ _) rfl
    have HO1 : Hid (∀ c : Int, Own (wr.alloc (.cells #[.int .u8 c] 5)) 5 1 sa l.length cp (Lib.byteCells l)) := fun c => HO.out.mod (S := fun _ => False) ((Mod.refl _ _).alloc _) (fun _ _ h => h)
    have hsz := HM.out.size
    by_cases hbig : 127 < m
    · have Hu := hid (uvar_big (n := m) (by omega))
      go_wp2_with (at_builtin; refine wpList_append_Own rfl (.tmp 7) (.tmp 12) 66 rfl 5 i0 _ 1 1 Try.underlying66 hi hz0 hz1 hz2 rfl sa l.length cp _ rfl (HO1.out _) (some ⟨wr.heap.size, 0, none⟩) 1 1 _ rfl (HSr.out _) (by intro u hu; simp at hu; subst hu; rfl) (by unfold maxLen; omega) (by omega) ?_; intro sa' cp' w5 hown5 hm5 hb5 hn5 hr5; have Hown5 := hid hown5; have Hm5 := hid hm5; have Hb5 := hid hb5; clear hown5 hm5 hb5 hn5 hr5)
      go_roundw
      case rel =>
        refine ⟨m / 128, l ++ [UInt8.ofNat (m % 128 + 128)], sa', cp', ?_, by omega, ?_, ?_, ?_, fun k hk => ?_, ((HM.out.alloc _).then Hm5.out (fun i hi h => ?_))⟩
        · congr 1
        · simp
        · rw [List.append_assoc, ← HL.out, Hu.out]; rfl
        · have := Hown5.out
          simp only [Lib.byteCells, List.map_append, List.map_cons, List.map_nil, List.length_append, List.length_singleton] at this ⊢
          rw [ofNat_mod _ (by omega)]
          exact_mod_cast this
        · rcases Hb5.out k hk with h | h
          · exact HBk.out k h
          · simp at h; omega
        · have := HBk.out i h; omega
      case measure => simp [intOf]; omega
    · have Hu := hid (uvar_small (n := m) (by omega))
      go_wp2_with (at_builtin; refine wpList_append_Own rfl (.tmp 16) (.tmp 19) 66 rfl 5 i0 _ 1 1 Try.underlying66 hi hz0 hz1 hz2 rfl sa l.length cp _ rfl (HO1.out _) (some ⟨wr.heap.size, 0, none⟩) 1 1 _ rfl (HSr.out _) (by intro u hu; simp at hu; subst hu; rfl) (by unfold maxLen; omega) (by omega) ?_; intro sa' cp' w5 hown5 hm5 hb5 hn5 hr5; have hconv : (convert 66 9 (.slice sa' (l.length + 1) cp')).run Try.prog w5 = .ok (.string (ba (uvar n))) w5 := (by have h1 : Own w5 5 1 sa' (l ++ [UInt8.ofNat m]).length cp' (Lib.byteCells (l ++ [UInt8.ofNat m])) := (by simp only [Lib.byteCells, List.map_append, List.map_cons, List.map_nil, List.length_append, List.length_singleton] at hown5 ⊢; rw [ofNat_mod _ (by omega)]; exact hown5); have h2 := conv_own h1 (by simp); rw [← Hu.out, HL.out] at h2; have h3 : (uvar n).length = l.length + 1 := (by rw [← HL.out, Hu.out]; simp); rw [h3] at h2; exact h2); have Hown5 := hid hown5; have Hm5 := hid hm5; have Hb5 := hid hb5; clear hown5 hm5 hb5 hn5 hr5)
      go_wp2_with fail
      go_ret
      exact ⟨rfl, (HM.out.alloc _).then Hm5.out (fun i hi h => by have := HBk.out i h; omega)⟩

theorem rtext_any (s : ByteArray) (w : World) (hs : s.size ≤ 140737488351232) : Calls Try.prog 45 #[.string s] w fun e w' => e = .returned (.string (ba (textL s))) ∧ Mod (fun _ => False) w w' := by
  have HU := hid (ruint_any s.size w (by omega))
  have hsu : (ba (uvar s.size)).size ≤ 10 := by rw [ba_size]; exact uvar_len10 (by omega)
  go_enter Try.func45, Try.ntmps45
  go_wp2_with (go_at_call 27; refine HU.out.mono ?_; rintro e w1 ⟨rfl, hm⟩; have HM := hid hm; clear hm)
  go_ret
  refine ⟨?_, HM.out⟩
  show Ending.returned (.string (ba (uvar s.size) ++ s)) = _
  rw [← ba_list s, ba_append, ba_list s]
  rfl

end Go.Proofs.Ythdopgejikcfbaa
