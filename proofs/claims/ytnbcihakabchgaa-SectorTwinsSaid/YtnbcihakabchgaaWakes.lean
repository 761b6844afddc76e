/- wakes -/
import Derived.Test.YtnbcihakabchgaaDiskN
namespace Go.Proofs.Ytnbcihakabchgaa
open Go Go.RowKit

theorem repeatL_one (b : UInt8) : ∀ c, Lib.repeatL [b] c = List.replicate c b
  | 0 => rfl
  | c + 1 => by rw [Lib.repeatL, repeatL_one b c]; rfl

theorem Z1024_data : Z1024.data.toList = List.replicate 1024 0 := by
  unfold Z1024
  rw [List.toList_toArray, repeatL_one]

theorem pad_size {s : ByteArray} (h : s.size ≤ 1024) : (pad s).size = 1024 := by
  unfold pad
  rw [ByteArray.size_append, ByteArray.size_extract, Z1024_size]
  omega

theorem newD_ok (n : Int) : (newD n).Ok := by
  constructor <;> simp [newD] <;> omega

theorem put_ok {D : Dsk} (ok : D.Ok) (i : Nat) (hi : i < 4611686018427387904) (hw : D.writes < 4611686018427387904) (s : ByteArray) : (D.put i s).Ok := by
  have := ok.l0
  have := ok.l1
  have := ok.h0
  have := ok.h1
  have := ok.w0
  constructor <;> simp only [Dsk.put]
  · simpa using ok.n
  · omega
  · omega
  · split <;> omega
  · split <;> omega
  · split <;> omega
  · split <;> omega

def D2 : Dsk := newD 2
def D3 : Dsk := D2.put 1 ⟨#[97, 98]⟩
theorem D2_eq : D2 = ⟨[⟨#[]⟩, ⟨#[]⟩], 0, 0, 0, false⟩ := rfl

theorem wk_a {w : World} {b : Nat} {sa : Option Addr} (h : DiskAt w b sa D2) : Calls Try.prog 12 #[.pointer (some ⟨b, 0, none⟩), .int .i64 2, .string ⟨#[97]⟩] w fun e w' => e = .returned (.int .i64 10) ∧ DiskAt w' b sa D2 ∧ Mod (diskF b sa) w w' := by
  have := write_any h (newD_ok 2) 2 ⟨#[97]⟩ (by decide)
  rwa [show writeF D2 2 ⟨#[97]⟩ = (10, D2) from by rw [D2_eq]; simp [writeF, readyF]] at this

theorem wk_b {w : World} {b : Nat} {sa : Option Addr} (h : DiskAt w b sa D2) : Calls Try.prog 12 #[.pointer (some ⟨b, 0, none⟩), .int .i64 1, .string ⟨#[97, 98]⟩] w fun e w' => e = .returned (.int .i64 0) ∧ DiskAt w' b sa D3 ∧ Mod (diskF b sa) w w' := by
  have := write_any h (newD_ok 2) 1 ⟨#[97, 98]⟩ (by decide)
  rwa [show writeF D2 1 ⟨#[97, 98]⟩ = (0, D3) from by rw [D3, D2_eq]; simp [writeF, readyF, ByteArray.size]] at this

theorem ba_ext {a b : ByteArray} (h : a.data.toList = b.data.toList) : a = b := by
  cases a; cases b; congr; exact Array.ext' h

theorem pad_list (s : ByteArray) : (pad s).data.toList = s.data.toList ++ List.replicate (1024 - s.size) 0 := by
  unfold pad
  rw [ByteArray.data_append, ByteArray.data_extract, Array.toList_append, Array.toList_extract, Z1024_data, Z1024_size, List.extract_eq_take_drop, List.drop_replicate, List.take_replicate, Nat.min_self]

theorem pad_ab : (pad ⟨#[97, 98]⟩).extract 0 3 = ⟨#[97, 98, 0]⟩ := by
  apply ba_ext
  rw [ByteArray.data_extract, Array.toList_extract, pad_list]
  rfl

theorem pad_full {s : ByteArray} (h : s.size ≤ 1024) : (pad s).toList.isEmpty = false := by
  have hs := pad_size h
  rw [Lib.toList_data]
  cases hl : (pad s).data.toList with
  | nil =>
    have : (pad s).data.size = 0 := by rw [← Array.length_toList, hl]; rfl
    have e : (pad s).size = (pad s).data.size := rfl
    omega
  | cons x r => rfl

/-- What stands in a sector. -/
def full (s : ByteArray) : ByteArray := if s.toList.isEmpty = true then Z1024 else s

theorem full_pad {s : ByteArray} (h : s.size ≤ 1024) : full (pad s) = pad s := by
  unfold full
  rw [if_neg (by rw [pad_full h]; decide)]

theorem readF_eq (D : Dsk) (i : Int) : readF D i = if readyF D i ≠ 0 then (⟨#[]⟩, readyF D i) else (full ((D.secs[i.toNat]?).getD ⟨#[]⟩), 0) := by
  unfold readF full
  split
  · rfl
  · split <;> rfl

theorem wk_c (w : World) (b : Nat) (sa : Option Addr) (h : DiskAt w b sa D3) : Calls Try.prog 15 #[.pointer (some ⟨b, 0, none⟩), .int .i64 1] w fun e w' => e = .returned (.tuple #[.string (pad ⟨#[97, 98]⟩), .int .i64 0]) ∧ DiskAt w' b sa D3 ∧ Mod (diskF b sa) w w' := by
  have := read_any h 1
  have hr : readyF D3 1 = 0 := by rw [D3, D2_eq]; simp [readyF, Dsk.put]
  rwa [show readF D3 1 = (pad ⟨#[97, 98]⟩, 0) from by
    rw [readF_eq, if_neg (by simp [hr])]
    have e1 : (D3.secs[(1 : Int).toNat]?).getD ⟨#[]⟩ = pad ⟨#[97, 98]⟩ := by rw [D3, D2_eq]; simp [Dsk.put]
    rw [e1, full_pad (by decide)]] at this

set_option maxRecDepth 100000 in
theorem wakes_yes (w : World) : Calls Try.prog 10 #[] w fun e w' => e = .returned (.bool true) ∧ Mod (fun _ => False) w w' := by
  have hp : (pad ⟨#[97, 98]⟩).size = 1024 := pad_size (by decide)
  have hq := pad_ab
  have HC := hid wk_c
  have hw : D3.writes = 1 := rfl
  have hh : D3.high = 2 := rfl
  generalize pad ⟨#[97, 98]⟩ = P at *
  go_enter Try.func10, Try.ntmps10
  go_wp2_with fail
  refine (new_any 2).mono ?_
  rintro e w1 ⟨b, sa, rfl, hb, hbk, hd, hm⟩
  have H1 := hid hd
  have M1 := hid hm
  have Hbk := hid hbk
  clear hd hm hbk
  go_wp2_with fail
  refine (wk_a H1.out).mono ?_
  rintro e w2 ⟨rfl, hd, hm⟩
  have H2 := hid hd
  have M2 := hid hm
  clear hd hm
  go_wp2_with fail
  refine (wk_b H2.out).mono ?_
  rintro e w3 ⟨rfl, hd, hm⟩
  have H3 := hid hd
  have M3 := hid hm
  clear hd hm
  go_wp2_with fail
  refine (HC.out _ _ _ H3.out).mono ?_
  rintro e w4 ⟨rfl, hd, hm⟩
  have H4 := hid hd
  have M4 := hid hm
  clear hd hm
  go_wp2_with (first | (go_at_call 14; refine (writes_any H4.out).mono ?_; rintro e w' ⟨rfl, rfl⟩; rw [hw]) | (go_at_call 13; refine (highest_any H4.out (by rw [hh]; decide) (by rw [hh]; decide)).mono ?_; rintro e w' ⟨rfl, rfl⟩; rw [hh]))
  go_ret
  refine ⟨rfl, ?_⟩
  have M : Mod (diskF b sa) w1 w4 := (M2.out.trans M3.out).trans M4.out
  refine (M1.out.then M ?_)
  rintro k hk (rfl | h)
  · omega
  · have := Hbk.out k h; omega

end Go.Proofs.Ytnbcihakabchgaa
