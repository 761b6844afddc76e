/- told and step -/
import Derived.Test.YtnbcihakabchgaaSecRel
import Derived.Deep.RegionHeld3
namespace Go.Proofs.Ytnbcihakabchgaa
open Go Go.RowKit

set_option maxRecDepth 100000 in
theorem told_yes {w : World} {b : Nat} {sa : Option Addr} {D : Dsk} {r : Nat} {ra : Option Addr} {R : Rsk} {t : Nat} (h : Pair w b sa D r ra R t) (ht : t < 1125899906842624) :
    Calls Try.prog 20 #[.pointer (some ⟨b, 0, none⟩), .pointer (some ⟨r, 0, none⟩)] w fun e w' => e = .returned (.bool true) ∧ Mod (fun _ => False) w w' := by
  obtain ⟨cap, h0, h1, h2, h3, h4, h5, _⟩ := h.rf.cells
  have hlen := h.al.len
  have hwr := h.al.wr
  have hhi := h.al.hi
  have hoff := h.al.off
  have ok := h.al.ok h.bn ht
  have g0 := fun x : Ext w => x.cell h0
  have g1 := fun x : Ext w => x.cell h1
  have g2 := fun x : Ext w => x.cell h2
  have g5 := fun x : Ext w => x.cell h5
  have HD : Hid (∀ x : Ext w, DiskAt x.val b sa D) := fun x => h.d.mod x.mod (fun _ _ h => h)
  have k1 : ∀ x : Ext w, Calls Try.prog 22 #[.pointer (some ⟨b, 0, none⟩)] x.val fun e w' => e = .returned (.int .i64 R.secs.length) ∧ x.val = w' := fun x => by rw [← hlen]; exact len_any (HD.out x)
  have k2 : ∀ x : Ext w, Calls Try.prog 14 #[.pointer (some ⟨b, 0, none⟩)] x.val fun e w' => e = .returned (.int .i64 R.done) ∧ x.val = w' := fun x => by rw [← hwr]; exact writes_any (HD.out x)
  have k3 : ∀ x : Ext w, Calls Try.prog 13 #[.pointer (some ⟨b, 0, none⟩)] x.val fun e w' => e = .returned (.int .i64 R.high) ∧ x.val = w' := fun x => by
    have := highest_any (HD.out x) ok.h0 (by have := ok.h1; omega)
    rw [show D.high - 1 = R.high by omega] at this
    exact this
  have k4 : ∀ x : Ext w, Calls Try.prog 17 #[.pointer (some ⟨b, 0, none⟩)] x.val fun e w' => e = .returned (.bool (!R.off)) ∧ x.val = w' := fun x => by rw [← hoff]; exact on_any (HD.out x)
  have K1 := hid k1
  have K2 := hid k2
  have K3 := hid k3
  have K4 := hid k4
  have e1 : ((R.secs.length : Int) == (R.secs.length : Int)) = true := by simp
  have e2 : (R.done == R.done) = true := by simp
  have e3 : (R.high == R.high) = true := by simp
  have e4 : ((!R.off) == !R.off) = true := by simp
  clear h h0 h1 h2 h3 h4 h5 hlen hwr hhi hoff ok k1 k2 k3 k4 HD
  go_enter Try.func20, Try.ntmps20
  go_wp2
  refine wp_region_ext (by kernel_rfl) (by kernel_rfl) ?_
  repeat (go_big_quiet_step ((first | (go_at_call 22; exact ext_same (K1.out _)) | (go_at_call 14; exact ext_same (K2.out _)) | (go_at_call 13; exact ext_same (K3.out _)) | (go_at_call 17; exact ext_same (K4.out _)))))
  refine wpQuiet_nil ?_
  rintro _ ⟨x, rfl⟩
  go_wp2
  go_ret
  exact ⟨rfl, x.mod⟩

/-- What step leaves. -/
def StepAns (w : World) (b : Nat) (sa : Option Addr) (r : Nat) (ra : Option Addr) (t : Nat) (w' : World) : Prop :=
  ∃ D R, Pair w' b sa D r ra R t ∧ Mod (pairF b sa r ra) w w'

theorem cells3 {w : World} {g : Nat} {v0 v1 v2 : Value} {t : TypeId} (h : w.heap[g]? = some (.cells #[v0, v1, v2] t (0, 0))) : w.cell? ⟨g, 0, none⟩ = some v0 ∧ w.cell? ⟨g, 1, none⟩ = some v1 ∧ w.cell? ⟨g, 2, none⟩ = some v2 :=
  ⟨by rw [cell_of_row _ _ _ _ _ _ h]; rfl, by rw [cell_of_row _ _ _ _ _ _ h]; rfl, by rw [cell_of_row _ _ _ _ _ _ h]; rfl⟩

set_option maxRecDepth 100000 in
set_option maxHeartbeats 2000000 in
theorem step_yes {w : World} {b : Nat} {sa : Option Addr} {D : Dsk} {r : Nat} {ra : Option Addr} {R : Rsk} {t : Nat} (h : Pair w b sa D r ra R t) (ht : t < 1125899906842624) (kd i : Int) (s : ByteArray) (hi : i ≤ 9223372036854775807) (hs : s.size ≤ maxLen) :
    Calls Try.prog 21 #[.pointer (some ⟨b, 0, none⟩), .pointer (some ⟨r, 0, none⟩), .agg #[.int .i64 kd, .int .i64 i, .string s]] w fun e w' => e = .returned (.bool true) ∧ StepAns w b sa r ra (t + 1) w' := by
  have hmW : Mod (fun _ => False) w (w.alloc (.cells #[.int .i64 kd, .int .i64 i, .string s] 43)) := (Mod.refl _ _).alloc _
  have hW : (w.alloc (.cells #[.int .i64 kd, .int .i64 i, .string s] 43)).heap[w.heap.size]? = some (.cells #[.int .i64 kd, .int .i64 i, .string s] 43 (0, 0)) := heap_alloc_new _ _
  have HP := hid (h.mod hmW (fun _ _ h => h))
  have hne : ∀ k, pairF b sa r ra k → k ≠ w.heap.size := fun k hk => by have := h.lt k hk; omega
  have HM := hid hmW
  have HW := hid hW
  have HN := hid hne
  have Hs := hid hs
  clear h hmW hW hne hs
  by_cases h1 : kd = 1
  · have c1 : (kd == 1) = true := by simp [h1]
    clear h1
    obtain ⟨o0, o1, o2⟩ := cells3 HW.out
    have hPd : Pair (w.alloc (.cells #[.int .i64 kd, .int .i64 i, .string s] 43)).drew b sa D r ra R t := HP.out.mod (Mod.refl (fun _ => False) _).drew (fun _ _ h => h)
    obtain ⟨wv, wal, wbn⟩ := hPd.al.write hPd.bn ht i s
    have hw1 := write_any hPd.d (hPd.al.ok hPd.bn ht) i s Hs.out
    rw [wv] at hw1
    have hO : ∀ w', Mod (pairF b sa r ra) (w.alloc (.cells #[.int .i64 kd, .int .i64 i, .string s] 43)).drew w' → w'.cell? ⟨w.heap.size, 1, none⟩ = some (.int .i64 i) ∧ w'.cell? ⟨w.heap.size, 2, none⟩ = some (.string s) := fun w' hm => by
      have hl : w.heap.size < (w.alloc (.cells #[.int .i64 kd, .int .i64 i, .string s] 43)).heap.size := lt_of_heap HW.out
      have hx : ¬ pairF b sa r ra w.heap.size := fun hk => HN.out _ hk rfl
      exact ⟨(hm.cell (p := ⟨w.heap.size, 1, none⟩) hl hx).trans o1, (hm.cell (p := ⟨w.heap.size, 2, none⟩) hl hx).trans o2⟩
    have HO := hid hO
    have HW1 := hid hw1
    have HAl := hid (And.intro wal wbn)
    have HPd := hid hPd
    clear hPd wv wal wbn hw1 hO o0
    have v0 : ((rwriteF R i s).1 == (rwriteF R i s).1) = true := by simp
    go_enter Try.func21, Try.ntmps21
    go_wp2_with fail
    generalize w.alloc (.cells #[.int .i64 kd, .int .i64 i, .string s] 43) = W1 at *
    go_region_held3 (fun w' => w'.cell? ⟨w.heap.size, 1, none⟩ = some (.int .i64 i) ∧ w'.cell? ⟨w.heap.size, 2, none⟩ = some (.string s))
      (first | exact ⟨p1, p2⟩ | exact ⟨m1, m2⟩ | go_keep)
      (first
        | (go_at_call 12; refine HW1.out.mono ?_; rintro e w1 ⟨rfl, hd1, hm1⟩; have hm1' : Mod (pairF b sa r ra) W1.drew w1 := hm1.mono fun k _ h => Or.inl h; obtain ⟨m1, m2⟩ := HO.out w1 hm1'; have Hd1 := hid hd1; have Hm1 := hid hm1; have HM1 := hid hm1'; clear hd1 hm1 hm1')
        | (go_at_call 30; refine (rwrite_any (HPd.out.rf.mod Hm1.out (fun k hk h => HPd.out.ne k h hk)) i s Hs.out HPd.out.al.l0 HPd.out.al.l1 (by have := HPd.out.al.w1; omega) HPd.out.al.w0).mono ?_; rintro e w2 ⟨rfl, hd2, hm2⟩; have hm2' : Mod (pairF b sa r ra) W1.drew w2 := HM1.out.trans (hm2.mono fun k _ h => Or.inr h); obtain ⟨p1, p2⟩ := HO.out w2 hm2'; have Hd2 := hid hd2; have Hm2 := hid hm2; have HM2 := hid hm2'; clear hd2 hm2 hm2'))
    go_wp2_with fail
    go_ret
    refine ⟨rfl, (writeF D i s).2, (rwriteF R i s).2, ⟨Hd1.out.mod Hm2.out (fun k hk h => HPd.out.ne k hk h), Hd2.out, HPd.out.ne, HAl.out.1, HAl.out.2⟩, ?_⟩
    exact (((HM.out.mono fun _ _ h => h.elim).drew).trans HM2.out)
  · have c1 : (kd == 1) = false := by simp [h1]
    by_cases h2 : kd = 2
    · have c2 : (kd == 2) = true := by simp [h2]
      clear h1 h2
      have hrd := HP.out.al.read i
      have HR := hid (read_any HP.out.d i)
      rw [hrd] at HR
      clear hrd
      have hO : ∀ w', Mod (diskF b sa) (w.alloc (.cells #[.int .i64 kd, .int .i64 i, .string s] 43)) w' → w'.cell? ⟨w.heap.size, 1, none⟩ = some (.int .i64 i) := fun w' hm => by
        have hl : w.heap.size < (w.alloc (.cells #[.int .i64 kd, .int .i64 i, .string s] 43)).heap.size := lt_of_heap HW.out
        have hx : ¬ diskF b sa w.heap.size := fun hk => HN.out _ (Or.inl hk) rfl
        exact (hm.cell (p := ⟨w.heap.size, 1, none⟩) hl hx).trans (cells3 HW.out).2.1
      have HO := hid hO
      clear hO
      have v1 : ((rreadF R i).2 == (rreadF R i).2) = true := by simp
      go_enter Try.func21, Try.ntmps21
      go_wp2_with fail
      generalize w.alloc (.cells #[.int .i64 kd, .int .i64 i, .string s] 43) = W1 at *
      refine HR.out.mono ?_
      rintro e w1 ⟨rfl, hd1, hm1⟩
      have m1 := HO.out w1 hm1
      have Hd1 := hid hd1
      have Hm1 := hid hm1
      clear hd1 hm1
      have HRR := hid (rread_any (HP.out.rf.mod Hm1.out (fun k hk h => HP.out.ne k h hk)) i HP.out.al.sm)
      generalize (rreadF R i).1 = x at *
      generalize (rreadF R i).2 = y at *
      go_wp2_with (go_at_call 31; refine HRR.out.mono ?_; rintro e w2 ⟨rfl, hm2⟩; have Hm2 := hid hm2; clear hm2)
      go_ret
      refine ⟨rfl, D, R, ⟨Hd1.out.mod Hm2.out (fun k hk h => h), (HP.out.rf.mod Hm1.out (fun k hk h => HP.out.ne k h hk)).mod Hm2.out (fun _ _ h => h), HP.out.ne, HP.out.al.more, HP.out.bn⟩, ?_⟩
      exact ((HM.out.mono fun _ _ h => h.elim).trans (Hm1.out.mono fun k _ h => Or.inl h)).trans (Hm2.out.mono fun _ _ h => h.elim)
    · have c2 : (kd == 2) = false := by simp [h2]
      by_cases h3 : kd = 3
      · have c3 : (kd == 3) = true := by simp [h3]
        clear h1 h2 h3
        have HR := hid (cut_any HP.out.d i)
        have hO : ∀ w', Mod (diskF b sa) (w.alloc (.cells #[.int .i64 kd, .int .i64 i, .string s] 43)) w' → w'.cell? ⟨w.heap.size, 1, none⟩ = some (.int .i64 i) := fun w' hm => by
          have hl : w.heap.size < (w.alloc (.cells #[.int .i64 kd, .int .i64 i, .string s] 43)).heap.size := lt_of_heap HW.out
          have hx : ¬ diskF b sa w.heap.size := fun hk => HN.out _ (Or.inl hk) rfl
          exact (hm.cell (p := ⟨w.heap.size, 1, none⟩) hl hx).trans (cells3 HW.out).2.1
        have HO := hid hO
        clear hO
        go_enter Try.func21, Try.ntmps21
        go_wp2_with fail
        generalize w.alloc (.cells #[.int .i64 kd, .int .i64 i, .string s] 43) = W1 at *
        refine HR.out.mono ?_
        rintro e w1 ⟨rfl, hd1, hm1⟩
        have m1 := HO.out w1 hm1
        have Hd1 := hid hd1
        have Hm1 := hid hm1
        clear hd1 hm1
        have HRR := hid (rcut_any (HP.out.rf.mod Hm1.out (fun k hk h => HP.out.ne k h hk)) i)
        go_wp2_with (go_at_call 32; refine HRR.out.mono ?_; rintro e w2 ⟨rfl, hd2, hm2⟩; have Hd2 := hid hd2; have Hm2 := hid hm2; clear hd2 hm2)
        go_ret
        refine ⟨rfl, _, _, ⟨Hd1.out.mod Hm2.out (fun k hk h => HP.out.ne k hk h), Hd2.out, HP.out.ne, (HP.out.al.cut i hi).1, (HP.out.al.cut i hi).2⟩, ?_⟩
        exact ((HM.out.mono fun _ _ h => h.elim).trans (Hm1.out.mono fun k _ h => Or.inl h)).trans (Hm2.out.mono fun k _ h => Or.inr h)
      · have c3 : (kd == 3) = false := by simp [h3]
        by_cases h4 : kd = 4
        · have c4 : (kd == 4) = true := by simp [h4]
          clear h1 h2 h3 h4
          have HR := hid (start_any HP.out.d)
          go_enter Try.func21, Try.ntmps21
          go_wp2_with fail
          generalize w.alloc (.cells #[.int .i64 kd, .int .i64 i, .string s] 43) = W1 at *
          refine HR.out.mono ?_
          rintro e w1 ⟨rfl, hd1, hm1⟩
          have Hd1 := hid hd1
          have Hm1 := hid hm1
          clear hd1 hm1
          have HRR := hid (rstart_any (HP.out.rf.mod Hm1.out (fun k hk h => HP.out.ne k h hk)))
          go_wp2_with (go_at_call 33; refine HRR.out.mono ?_; rintro e w2 ⟨rfl, hd2, hm2⟩; have Hd2 := hid hd2; have Hm2 := hid hm2; clear hd2 hm2)
          go_ret
          refine ⟨rfl, _, _, ⟨Hd1.out.mod Hm2.out (fun k hk h => HP.out.ne k hk h), Hd2.out, HP.out.ne, HP.out.al.start.1, HP.out.al.start.2⟩, ?_⟩
          exact ((HM.out.mono fun _ _ h => h.elim).trans (Hm1.out.mono fun k _ h => Or.inl h)).trans (Hm2.out.mono fun k _ h => Or.inr h)
        · have c4 : (kd == 4) = false := by simp [h4]
          clear h1 h2 h3 h4
          go_enter Try.func21, Try.ntmps21
          go_wp2_with fail
          go_ret
          exact ⟨rfl, D, R, HP.out.more, HM.out.mono fun _ _ h => h.elim⟩

end Go.Proofs.Ytnbcihakabchgaa
