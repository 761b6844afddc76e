/- merged: Jr Rd Map Map2 -/
import Derived.Test.YtkinkgbmlhiakaaGreatDoorNb03
import Derived.Test.YtkinkgbmlhiakaaGreatDoorNb01
import Derived.Deep.RegionHeld3
import Derived.Maps.RangeRun
import Derived.Maps.RangeWalk
namespace Go.Proofs.YtkinkgbmlhiakaaGreatDoor
section
open Go Go.RowKit
def JAt (w : World) (j d room : Nat) : Prop := w.heap[j]? = some (.cells #[.pointer (some ⟨d, 0, none⟩), .int .i64 (room : Int)] 135 (0, 0))
theorem jDd (room : Nat) (D : Dsk) : max 0 ((D.secs.length : Int) - (room : Int) - 1) = (jlen room D : Int) := by unfold jlen; omega
theorem qJr {w : World} {j d room : Nat} {sa : Option Addr} {D : Dsk} (hD : qAr w d sa D) (hj : JAt w j d room) (hn : D.secs.length <= 16384) (hr : room <= 500) :
  Calls Tryz.prog 27 #[.pointer (some ⟨j, 0, none⟩)] w fun e w' => e = .returned (.int .i64 (jlen room D : Int)) /\ Mod (fun _ => False) w w' := by
 obtain ⟨h0, h1⟩ := hj.cells; have g0 := fun x : Ext w => x.cell h0
 have g1 := fun x : Ext w => x.cell h1
 have k1 : ∀ x : Ext w, Calls Tryz.prog 56 #[.pointer (some ⟨d, 0, none⟩)] x.val fun e w' => e = .returned (.int .i64 D.secs.length) /\ x.val = w' := fun x => jFv (hD.mod x.mod (fun _ _ h => h))
 have K1 := hid k1; have hv := jDd room D; generalize D.secs.length = n at *; have s1 : IntKind.i64.wrap ((n : Int) - (room : Int)) = (n : Int) - (room : Int) := by rw [IntKind.wrap_i64]; omega
 have s2 : IntKind.i64.wrap ((n : Int) - (room : Int) - 1) = (n : Int) - (room : Int) - 1 := by rw [IntKind.wrap_i64]; omega
 clear hj hD h0 h1 k1; go_enter Tryz.func27, Tryz.ntmps27
 go_wp2
 refine qAk (by kernel_rfl) (by kernel_rfl) ?_
 repeat (go_big_quiet_step ((go_at_call 56; exact jDw (K1.out _))))
 refine wpQuiet_nil ?_; rintro _ ⟨x, rfl⟩; go_wp2
 go_ret; exact ⟨rfl, x.mod⟩
theorem qMi {w : World} {j d room : Nat} (hj : JAt w j d room) (hr : room <= 500) (i : Nat) (hi : i <= 16384) :
  Calls Tryz.prog 46 #[.pointer (some ⟨j, 0, none⟩), .int .i64 (i : Int)] w fun e w' => e = .returned (.int .i64 ((room + 1 + i : Nat) : Int)) /\ w = w' := by
 obtain ⟨h0, h1⟩ := hj.cells; clear hj; go_enter Tryz.func46, Tryz.ntmps46
 go_wp2
 go_ret; refine ⟨?_, rfl⟩; congr 2
theorem qGl (l : List UInt8) : Lib.strCells (ba l) = Lib.byteCells l := by
 unfold Lib.strCells Lib.byteCells; rw [qCs]
theorem jAi (a b : List UInt8) : Lib.byteCells (a ++ b) = Lib.byteCells a ++ Lib.byteCells b := by simp [Lib.byteCells]
theorem jAh (a : List UInt8) : (Lib.byteCells a).length = a.length := by simp [Lib.byteCells]
def nums (l : List Nat) : List Value := l.map fun (n : Nat) => .int .i64 ((n : Nat) : Int)
theorem qPk (l : List Nat) (n : Nat) : nums (l ++ [n]) = nums l ++ [.int .i64 (n : Int)] := by simp [nums]
def hdK (l : List Nat) (k : Nat) : List UInt8 := uvar l.length ++ (l.take k).flatMap uvar
theorem jDm (l : List Nat) : hdK l 0 = uvar l.length := by simp [hdK]
theorem jDn (l : List Nat) (k : Nat) (hk : k < l.length) : hdK l (k + 1) = hdK l k ++ uvar l[k] := by
 unfold hdK; rw [List.take_succ_eq_append_getElem hk, List.flatMap_append, List.append_assoc]; simp
theorem qZh (l : List Nat) : hdK l l.length = hdL l := by unfold hdK hdL; rw [List.take_length]
theorem qZg (l : List Nat) (k : Nat) (hn : ∀ n ∈ l, n <= 16384) (hl : l.length <= 500) : (hdK l k).length <= 10 + 10 * 500 := by
 have h1 := qAq (n := l.length) (by omega)
 have h2 : ∀ m : List Nat, (∀ n ∈ m, n <= 16384) -> (m.flatMap uvar).length <= 10 * m.length := by
  intro m; induction m with
  | nil => intro _; simp
  | cons x r ih =>
   intro h; have a := qAq (n := x) (by have := h x List.mem_cons_self; omega)
   have b := ih (fun y hy => h y (List.mem_cons_of_mem _ hy))
   rw [List.flatMap_cons, List.length_append, List.length_cons]; omega
 have h3 := h2 (l.take k) (fun n hm => hn n (List.mem_of_mem_take hm))
 have h4 : (l.take k).length <= l.length := by rw [List.length_take]; omega
 unfold hdK; rw [List.length_append]; omega
set_option maxRecDepth 100000
set_option maxHeartbeats 1000000 in
theorem qTq {w : World} {sa : Option Addr} {cap : Nat} {l : List Nat} (h : Own w 3 1 sa l.length cap (nums l)) (hl : l.length <= 500) (hn : ∀ n ∈ l, n <= 16384) :
  Calls Tryz.prog 72 #[.slice sa l.length cap] w fun e w' => e = .returned (.string (ba (hdL l))) /\ Mod (fun _ => False) w w' := by
 have HB0 := hid (Lib.fresh_isBuilder 208 5 w); have HO := hid h; have HL := hid (fun k => qZg l k hn hl)
 have HN := hid hn; clear h hn; go_enter Tryz.func72, Tryz.ntmps72
 go_wp2_with fail
 have hWm : Mod (fun j => w.heap.size <= j) w (w.alloc (.cells #[.pointer none, .slice none 0 0] 208)) := (Mod.refl _ _).alloc _
 generalize w.alloc (.cells #[.pointer none, .slice none 0 0] 208) = W1 at *; refine (qDt l.length W1 (by omega)).mono ?_
 rintro e w3 ⟨rfl, hm3⟩; have HM3 := hid (hWm.trans (hm3.mono fun _ _ h => h.elim))
 have HB3 := hid (qIo HB0.out hm3); clear hm3 hWm; go_wp2_with fail
 refine (qBr _ _ _ _ _ HB3.out (by rw [qAd]; have := qAq (n := l.length) (by omega); simp; omega) HM3.out.size).mono ?_
 rintro e w4 ⟨rfl, hb4, hbl4⟩; have HM4 := hid (HM3.out.trans (Mod.of_below hbl4)); have HB4 : Hid (Lib.IsBuilder 208 5 w.heap.size w.heap.size (Lib.byteCells (hdK l 0)) w4) := by
  rw [jDm]; rw [qGl] at hb4; exact hb4
 clear hb4 hbl4; go_wp2_with fail
 go_loopw [13] (fun c wr => ∃ k : Nat, k <= l.length /\ c = .int .i64 k /\ Lib.IsBuilder 208 5 w.heap.size w.heap.size (Lib.byteCells (hdK l k)) wr /\ Mod (fun j => w.heap.size <= j) w wr) (fun c _ => l.length - (intOf c).toNat)
 case atStart => exact ⟨0, Nat.zero_le _, rfl, HB4.out, HM4.out⟩
 case round =>
  obtain ⟨k, hk, rfl, hb, hm⟩ := hrel; have HB := hid hb; have HM := hid hm; clear hb hm; by_cases hlt : k < l.length
  ·obtain ⟨g, off, rfl⟩ := HO.out.some_lit (by omega)
   have hc := (HO.out.mod HM.out (fun j hj h => by have := HO.out.lt j hj; omega)).num hlt
   have hx := HN.out l[k] (List.getElem_mem hlt); have HS := hid (jDn l k hlt); generalize l[k] = x at *; go_wp2_with fail
   refine (qDt x wr (by omega)).mono ?_
   rintro e w5 ⟨rfl, hm5⟩; have HM5 := hid (HM.out.trans (hm5.mono fun _ _ h => h.elim))
   have HB5 := hid (qIo HB.out hm5); clear hm5 hc; go_wp2_with fail
   refine (qBr _ _ _ _ _ HB5.out (by rw [jAh, qAd]; have := qAq (n := x) (by omega); have := HL.out k; omega) HM5.out.size).mono ?_
   rintro e w6 ⟨rfl, hb6, hbl6⟩; have HM6 := hid (HM5.out.trans (Mod.of_below hbl6)); have HB6 : Hid (Lib.IsBuilder 208 5 w.heap.size w.heap.size (Lib.byteCells (hdK l (k + 1))) w6) := by
    rw [HS.out]; rw [qGl, <- jAi] at hb6; exact hb6
   clear hb6 hbl6; go_wp2_with fail
   go_roundw
   case rel => exact ⟨k + 1, by omega, by go_num, HB6.out, HM6.out⟩
   case measure => simp [intOf]; omega
  ·have hke : k = l.length := by omega
   subst hke; go_wp2_with fail
   refine (qGf _ _ _ _ HB.out HM.out.size).mono ?_; rintro e w5 ⟨rfl, hb5⟩; have HM5 := hid (HM.out.trans (Mod.of_below hb5)); clear hb5; go_wp2_with fail
   go_ret; rw [<- qZh]; exact ⟨rfl, (Mod.refl _ w).then HM5.out (fun i hi h => by omega)⟩
end
section
open Go Go.RowKit
def ruV (at' : Nat) (x : RU) : Value := if x.e = 0 then .tuple #[.int .u64 (x.v : Int), .int .i64 ((at' : Int) + (x.n : Int)), .int .i64 0] else .tuple #[.int .u64 0, .int .i64 0, .int .i64 (x.e : Int)]
theorem qTf {v x i : Nat} (hv : v < 128 ^ i) (hi : i <= 9) (hx : x < 128) (h9 : i = 9 -> x <= 1) : bits .or .u64 (v : Int) (IntKind.u64.wrap ((x : Int) * ((128 ^ i : Nat) : Int))) = ((v + 128 ^ i * x : Nat) : Int) := by
 have hp : 128 ^ i * x < 18446744073709551616 := by
  by_cases h : i = 9
  ·have := h9 h; subst h; have : 128 ^ 9 * x <= 128 ^ 9 * 1 := Nat.mul_le_mul_left _ this; have h2 : (128 : Nat) ^ 9 * 1 < 18446744073709551616 := by decide
   omega
  ·have h1 : 128 ^ i <= 128 ^ 8 := Nat.pow_le_pow_right (by omega) (by omega)
   have h2 : 128 ^ i * x <= 128 ^ 8 * 127 := Nat.mul_le_mul h1 (by omega)
   have h3 : (128 : Nat) ^ 8 * 127 < 18446744073709551616 := by decide
   omega
 have hv2 : v < 18446744073709551616 := by
  have h1 : 128 ^ i <= 128 ^ 9 := Nat.pow_le_pow_right (by omega) hi
  have h3 : (128 : Nat) ^ 9 < 18446744073709551616 := by decide
  omega
 have e1 : IntKind.u64.wrap ((x : Int) * ((128 ^ i : Nat) : Int)) = ((128 ^ i * x : Nat) : Int) := by
  rw [<- Int.natCast_mul, Nat.mul_comm, IntKind.wrap_u64]; omega
 rw [e1, bits_or_u64_nat _ _ hv2 hp]; congr 1
 rw [Nat.or_comm]; have e2 : (128 : Nat) ^ i = 2 ^ (7 * i) := by rw [show (128 : Nat) = 2 ^ 7 from rfl, <- Nat.pow_mul]
 rw [e2] at hv ⊢; rw [<- Nat.two_pow_add_eq_or_of_lt hv, Nat.add_comm]
theorem jAt (b : Nat) (h : b < 256) : bits .and .u8 (b : Int) 127 = ((b % 128 : Nat) : Int) := by
 have := bits_mask .u8 8 (by decide) wraps_u8 7 (by decide) (b : Int) (by omega) (by omega)
 rw [show (127 : Int) = 2 ^ 7 - 1 from rfl, this]
 rfl
theorem qKb {x : Nat} (h : x < 256) : IntKind.u64.wrap (x : Int) = (x : Int) := by rw [IntKind.wrap_u64]; omega
theorem jFn {v b i : Nat} (hv : v < 128 ^ i) (hi : i < 9) (hb : b < 256) : bits .or .u64 (v : Int) (IntKind.u64.wrap (IntKind.u64.wrap (bits .and .u8 (b : Int) 127) * 2 ^ (7 * i))) = ((v + 128 ^ i * (b % 128) : Nat) : Int) := by
 rw [jAt b hb, qKb (by omega)]
 have := qTf (x := b % 128) hv (by omega) (by omega) (by omega)
 rw [<- this]; congr 3
 rw [show (128 : Nat) ^ i = 2 ^ (7 * i) by rw [show (128 : Nat) = 2 ^ 7 from rfl, <- Nat.pow_mul]]
 simp
theorem jCl {v b : Nat} (hv : v < 128 ^ 9) (hb : b <= 1) : bits .or .u64 (v : Int) (IntKind.u64.wrap (IntKind.u64.wrap (bits .and .u8 (b : Int) 127) * 9223372036854775808)) = ((v + 128 ^ 9 * b : Nat) : Int) := by
 rw [jAt b (by omega), qKb (by omega)]
 have := qTf (x := b % 128) hv (by omega) (by omega) (by omega)
 rw [show b % 128 = b by omega] at this ⊢
 rw [<- this]; rfl
theorem jAs {at' v b i : Nat} {L : List UInt8} {x : RU} (hx : rdU 0 L = ahead v i x) (he : x = ⟨b, 1, 0⟩) : ruV at' (rdU 0 L) = .tuple #[.int .u64 ((v + 128 ^ i * b : Nat) : Int), .int .i64 ((at' : Int) + (i : Int) + 1), .int .i64 0] := by
 rw [hx, he]; unfold ahead ruV; simp only [if_true]; rw [Int.natCast_add i 1, <- Int.add_assoc]; rfl
theorem qOk {at' v i k : Nat} {L : List UInt8} {x : RU} (hx : rdU 0 L = ahead v i x) (he : x = ⟨0, 0, k⟩) (h0 : k ≠ 0) : ruV at' (rdU 0 L) = .tuple #[.int .u64 0, .int .i64 0, .int .i64 (k : Int)] := by
 rw [hx, he]; unfold ahead ruV; simp only [h0, if_false]
set_option maxRecDepth 100000
set_option maxHeartbeats 2000000 in
theorem qEl (s : ByteArray) (at' : Nat) (w : World) (hs : s.size <= maxLen) : Calls Tryz.prog 55 #[.string s, .int .i64 (at' : Int)] w fun e w' => e = .returned (ruV at' (rdU 0 (s.data.toList.drop at'))) /\ w = w' := by
 unfold maxLen at hs; by_cases hlt : at' < s.size
 ·have d1 : decide (s.size <= at') = false := by rw [decide_eq_false_iff_not]; omega
  go_enter Tryz.func55, Tryz.ntmps55
  go_wp2
  go_loop [18, 7] (fun c t => ∃ i v : Nat, i <= 9 /\ c = .int .i64 (i : Int) /\ t = .int .u64 (v : Int) /\ v < 128 ^ i /\ at' + i <= s.size /\ rdU 0 (s.data.toList.drop at') = ahead v i (rdU i (s.data.toList.drop (at' + i)))) (fun c _ => 10 - (intOf c).toNat)
  case atStart => exact ⟨0, 0, by omega, rfl, rfl, by simp, by omega, (qWf _ (jBz _ _)).symm⟩
  case round =>
   obtain ⟨i, v, hi, rfl, rfl, hv, hle, hfin⟩ := hrel; have HF := hid hfin; clear hfin; by_cases hend : at' + i = s.size
   ·have e1 : ((at' : Int) + (i : Int) == (s.size : Int)) = true := by rw [beq_iff_eq]; omega
    have HANS := hid (qOk (at' := at') (k := 20) HF.out (by rw [List.drop_eq_nil_of_le (by simp; exact Nat.le_of_eq hend.symm)]; exact qQw i) (by decide))
    clear hend; go_wp2_with fail
    refine bodyPost_ret (v := .tuple #[.int .u64 0, .int .i64 0, .int .i64 20]) (by simp [results, Tryz.results55, go_sem]) rfl ⟨congrArg Ending.returned HANS.out.symm, rfl⟩
   ·have e1 : ((at' : Int) + (i : Int) == (s.size : Int)) = false := by rw [beq_eq_false_iff_ne]; omega
    have hlt2 : at' + i < s.size := by omega
    have i1 : (at' : Int) + (i : Int) < (s.size : Int) := by omega
    have hb8 := s[at' + i].toNat_lt; have hdr : s.data.toList.drop (at' + i) = s[at' + i] :: s.data.toList.drop (at' + i + 1) := List.drop_eq_getElem_cons (by simpa using hlt2)
    have HD := hid hdr; clear hdr hend; by_cases h9 : i = 9
    ·subst h9; by_cases hbad : 1 < s[at' + 9].toNat
     ·have HANS := hid (qOk (at' := at') (k := 21) HF.out (by rw [HD.out]; exact qQx (.inl ⟨rfl, hbad⟩)) (by decide))
      go_wp2_with fail
      refine bodyPost_ret (v := .tuple #[.int .u64 0, .int .i64 0, .int .i64 21]) (by simp [results, Tryz.results55, go_sem]) rfl ⟨congrArg Ending.returned HANS.out.symm, rfl⟩
     ·by_cases hz : s[at' + 9].toNat = 0
      ·have HANS := hid (qOk (at' := at') (k := 21) HF.out (by rw [HD.out]; exact qQx (.inr ⟨by omega, hz⟩)) (by decide))
       have z : ((s[at' + 9].toNat : Int) == 0) = true := by rw [beq_iff_eq]; omega
       clear hz; go_wp2_with fail
       refine bodyPost_ret (v := .tuple #[.int .u64 0, .int .i64 0, .int .i64 21]) (by simp [results, Tryz.results55, go_sem]) rfl ⟨congrArg Ending.returned HANS.out.symm, rfl⟩
      ·have z : ((s[at' + 9].toNat : Int) == 0) = false := by rw [beq_eq_false_iff_ne]; omega
       have hb : s[at' + 9].toNat < 128 := by omega
       have HANS := hid (jAs (at' := at') HF.out (by rw [HD.out]; exact qKh (by omega) (by omega) (by omega) hb))
       have HO := hid (jCl (b := s[at' + 9].toNat) hv (by omega))
       go_wp2_with fail
       refine bodyPost_ret (v := .tuple #[.int .u64 (bits .or .u64 (v : Int) (IntKind.u64.wrap (IntKind.u64.wrap (bits .and .u8 (s[at' + 9].toNat : Int) 127) * 9223372036854775808))), .int .i64 ((at' : Int) + 9 + 1), .int .i64 0]) (by simp [results, Tryz.results55, go_sem]) rfl ⟨by rw [HANS.out, HO.out]; rfl, rfl⟩
    ·have hi9 : i < 9 := by omega
     by_cases hbad : 0 < i /\ s[at' + i].toNat = 0
     ·obtain ⟨h0, hz⟩ := hbad; have HANS := hid (qOk (at' := at') (k := 21) HF.out (by rw [HD.out]; exact qQx (.inr ⟨h0, hz⟩)) (by decide))
      have z : ((s[at' + i].toNat : Int) == 0) = true := by rw [beq_iff_eq]; omega
      clear hz; go_wp2_with fail
      refine bodyPost_ret (v := .tuple #[.int .u64 0, .int .i64 0, .int .i64 21]) (by simp [results, Tryz.results55, go_sem]) rfl ⟨congrArg Ending.returned HANS.out.symm, rfl⟩
     ·have HN2 := hid hbad; clear hbad; have HO := hid (jFn (b := s[at' + i].toNat) hv hi9 hb8); by_cases hb : s[at' + i].toNat < 128
      ·have HANS := hid (jAs (at' := at') HF.out (by rw [HD.out]; exact qKh (by omega) HN2.out (by omega) hb))
       have HM := hid (Nat.mod_eq_of_lt hb); by_cases h0 : 0 < i
       ·have z : ((s[at' + i].toNat : Int) == 0) = false := by rw [beq_eq_false_iff_ne]; have := HN2.out; omega
        go_wp2_with fail
        refine bodyPost_ret (v := .tuple #[.int .u64 (bits .or .u64 (v : Int) (IntKind.u64.wrap (IntKind.u64.wrap (bits .and .u8 (s[at' + i].toNat : Int) 127) * 2 ^ (7 * i)))), .int .i64 ((at' : Int) + (i : Int) + 1), .int .i64 0]) (by simp [results, Tryz.results55, go_sem]) rfl ⟨by rw [HANS.out, HO.out, HM.out], rfl⟩
       ·go_wp2_with fail
        refine bodyPost_ret (v := .tuple #[.int .u64 (bits .or .u64 (v : Int) (IntKind.u64.wrap (IntKind.u64.wrap (bits .and .u8 (s[at' + i].toNat : Int) 127) * 2 ^ (7 * i)))), .int .i64 ((at' : Int) + (i : Int) + 1), .int .i64 0]) (by simp [results, Tryz.results55, go_sem]) rfl ⟨by rw [HANS.out, HO.out, HM.out], rfl⟩
      ·have HNx : Hid (rdU 0 (s.data.toList.drop at') = ahead (v + 128 ^ i * (s[at' + i].toNat - 128)) (i + 1) (rdU (i + 1) (s.data.toList.drop (at' + (i + 1))))) := hid (by rw [HF.out, HD.out]; exact qWg hi9 hb)
       have HM : Hid (s[at' + i].toNat % 128 = s[at' + i].toNat - 128) := hid (by omega)
       have hv' : v + 128 ^ i * (s[at' + i].toNat - 128) < 128 ^ (i + 1) := by
        rw [Nat.pow_succ]; have : 128 ^ i * (s[at' + i].toNat - 128) <= 128 ^ i * 127 := Nat.mul_le_mul_left _ (by omega)
        omega
       have HV := hid hv'; clear hv'; by_cases h0 : 0 < i
       ·have z : ((s[at' + i].toNat : Int) == 0) = false := by rw [beq_eq_false_iff_ne]; omega
        go_wp2_with fail
        go_round
        case rel => exact ⟨i + 1, v + 128 ^ i * (s[at' + i].toNat - 128), by omega, by go_num, by rw [HO.out, HM.out], HV.out, by omega, HNx.out⟩
        case measure => simp [intOf]; omega
       ·go_wp2_with fail
        go_round
        case rel => exact ⟨i + 1, v + 128 ^ i * (s[at' + i].toNat - 128), by omega, by go_num, by rw [HO.out, HM.out], HV.out, by omega, HNx.out⟩
        case measure => simp [intOf]; omega
 ·have d1 : decide (s.size <= at') = true := by rw [decide_eq_true_iff]; omega
  have HANS : Hid (ruV at' (rdU 0 (s.data.toList.drop at')) = .tuple #[.int .u64 0, .int .i64 0, .int .i64 20]) := by
   rw [List.drop_eq_nil_of_le (by simp; exact Nat.le_of_not_lt hlt), qQw]; rfl
  go_enter Tryz.func55, Tryz.ntmps55
  go_wp2_with fail
  refine bodyPost_ret (v := .tuple #[.int .u64 0, .int .i64 0, .int .i64 20]) (by simp [results, Tryz.results55, go_sem]) rfl ⟨congrArg Ending.returned HANS.out.symm, rfl⟩
end
section
open Go Go.RowKit
theorem qQh (a b : ByteArray) : (a == b) = decide (a = b) := by
 obtain ⟨a⟩ := a; obtain ⟨b⟩ := b; show (a == b) = _; rw [Bool.eq_iff_iff]; simp
theorem qFu {α β : Type} (f : α -> β) : ∀ (l : List α) (i : Nat), (l.eraseIdx i).map f = (l.map f).eraseIdx i
 | [], _ => by simp
 | _ :: _, 0 => by simp
 | a :: l, i + 1 => by simp [qFu f l i]
structure Keys (P : Program) (t : TypeId) (K : Type) [DecidableEq K] where
 d : TypeDesc
 hu : P.underlying t = some d
 kv : K -> Value
 same : ∀ a b, Instr.sameNow d (kv a) (kv b) = some (decide (a = b))
 check : ∀ (e : Bool) (a : K) (w : World), (Instr.checkKey e 10000 t (kv a)).run P w = .ok () w
 bits : ∀ a, Instr.sameBits 10000 (kv a) (kv a) = true
def qRk {P : Program} {t : TypeId} {k : IntKind} (h : P.underlying t = some (.int k)) : Keys P t Int where
 d := .int k
 hu := h
 kv := fun i => .int k i
 same := fun a b => by simp only [Instr.sameNow, if_true]; congr 1
 check := fun e a w => by
  show (Instr.checkKey e (Nat.succ 9999) t (.int k a)).run P w = _; generalize 9999 = n; simp [Instr.checkKey, run_underlying h]
 bits := fun a => by
  show Instr.sameBits (9999 + 1) (.int k a) (.int k a) = true; simp [Instr.sameBits]
def jFd {P : Program} {t : TypeId} (h : P.underlying t = some .string) : Keys P t ByteArray where
 d := .string
 hu := h
 kv := fun s => .string s
 same := fun a b => by simp only [Instr.sameNow, qQh]
 check := fun e a w => by
  show (Instr.checkKey e (Nat.succ 9999) t (.string a)).run P w = _; generalize 9999 = n; simp [Instr.checkKey, run_underlying h]
 bits := fun a => by
  show Instr.sameBits (Nat.succ 9999) (.string a) (.string a) = true; generalize 9999 = n; simp [Instr.sameBits, qQh]
section
variable {K : Type}
def qAy (kv : K -> Value) (w : World) (b : Nat) (l : List (K × Value)) : Prop :=
 ∃ es clock, w.heap[b]? = some (.map es clock) /\ es.toList.map (fun e => (e.key, e.val)) = l.map (fun p => (kv p.1, p.2)) /\ (l.map (·.1)).Nodup /\ (∀ e ∈ es.toList, e.born < clock) /\ (es.toList.map (·.born)).Nodup
theorem qAy.size {kv : K -> Value} {l : List (K × Value)} {es : Array MapEntry} (h : es.toList.map (fun e => (e.key, e.val)) = l.map (fun p => (kv p.1, p.2))) : es.size = l.length := by
 have := congrArg List.length h
 simpa using this
theorem qAy.made (kv : K -> Value) (w : World) : qAy kv (w.alloc (.map #[] 0)) w.heap.size ([] : List (K × Value)) :=
 ⟨#[], 0, heap_alloc_new _ _, rfl, by simp, by simp, by simp⟩
variable [DecidableEq K]
def aget (l : List (K × Value)) (k : K) : Option Value := (l.find? (fun p => p.1 = k)).map (·.2)
def aput (l : List (K × Value)) (k : K) (v : Value) : List (K × Value) := if (l.any fun p => p.1 = k) then l.map (fun p => if p.1 = k then (k, v) else p) else l ++ [(k, v)]
theorem qMq {P : Program} {t : TypeId} (KK : Keys P t K) (k : K) : ∀ (es : List MapEntry) (l : List (K × Value)) (i : Nat), es.map (fun e => (e.key, e.val)) = l.map (fun p => (KK.kv p.1, p.2)) →
  Instr.findNow KK.d (KK.kv k) es i = some ((l.findIdx? (fun p => p.1 = k)).bind fun j => (l[j]?).map fun p => (i + j, p.2))
 | [], [], i, _ => by simp [Instr.findNow]
 | [], _ :: _, _, h => by simp at h
 | _ :: _, [], _, h => by simp at h
 | e :: es, p :: l, i, h => by
  simp only [List.map_cons, List.cons.injEq, Prod.mk.injEq] at h; obtain ⟨⟨h1, h2⟩, h3⟩ := h; simp only [Instr.findNow, h1, KK.same, List.findIdx?_cons]; by_cases hk : k = p.1
  ·subst hk; simp [h2]
  ·have hk' : ¬ p.1 = k := fun h => hk h.symm
   rw [decide_eq_false hk]; simp only [hk', decide_false]; rw [qMq KK k es l (i + 1) h3]; cases hf : l.findIdx? (fun p => decide (p.1 = k)) with
   | none => simp
   | some j =>
    simp
    cases l[j]? with
    | none => rfl
    | some q => simp; omega
theorem qFh {P : Program} {t : TypeId} (KK : Keys P t K) (w : World) (k : K) (es : List MapEntry) (l : List (K × Value)) (h : es.map (fun e => (e.key, e.val)) = l.map (fun p => (KK.kv p.1, p.2))) :
  (Instr.findKey t (KK.kv k) es).run P w = .ok ((l.findIdx? (fun p => p.1 = k)).bind fun j => (l[j]?).map fun p => (j, p.2)) w := by
 simp [Instr.findKey, run_underlying KK.hu, qMq KK k es l 0 h]
theorem qRo (l : List (K × Value)) (k : K) : ((l.findIdx? (fun p => decide (p.1 = k))).bind fun j => (l[j]?).map fun p => (j, p.2)) = ((l.findIdx? (fun p => decide (p.1 = k))).bind fun j => (aget l k).map fun v => (j, v)) := by
 cases hf : l.findIdx? (fun p => decide (p.1 = k)) with
 | none => rfl
 | some j =>
  simp only [Option.bind_some]; unfold aget; rw [List.find?_eq_bind_findIdx?_getElem?, hf]; simp
  rfl
theorem qDc (l : List (K × Value)) (k : K) : aget l k = none ↔ l.findIdx? (fun p => decide (p.1 = k)) = none := by
 unfold aget; rw [Option.map_eq_none_iff, List.find?_eq_none, List.findIdx?_eq_none_iff]; simp
theorem qBj {P : Program} {t kt et : TypeId} (KK : Keys P kt K) (ht : P.underlying t = some (.map kt et)) {w : World} {z : Value} (hz : (zeroValue et).run P w = .ok z w) {b : Nat} {l : List (K × Value)} (h : qAy KK.kv w b l) (k : K) (ok : Bool) :
  (Instr.lookup t (.map (some b)) (KK.kv k) ok).run P w = .ok (if ok then .tuple #[(aget l k).getD z, .bool (aget l k).isSome] else (aget l k).getD z) w := by
 obtain ⟨es, clock, hb, hl, _⟩ := h; have hg : ∀ (f : Obj -> Sem Value), (Sem.getObj b f).run P w = (f (.map es clock)).run P w := fun f => by simp [Sem.run, hb]
 have hf := qFh KK w k es.toList l hl; rw [qRo] at hf; cases ha : aget l k with
 | none =>
  have h0 := (qDc l k).1 ha; rw [h0] at hf; simp only [Option.bind_none] at hf; cases ok <;> simp [Instr.lookup, run_underlying ht, getObj, Sem.run, hb, KK.check, hf, hz]
 | some v =>
  cases h0 : l.findIdx? (fun p => decide (p.1 = k)) with
  | none => rw [(qDc l k).2 h0] at ha; cases ha
  | some j =>
   rw [h0, ha] at hf; simp only [Option.bind_some, Option.map_some] at hf; cases ok <;> simp [Instr.lookup, run_underlying ht, getObj, Sem.run, hb, KK.check, hf]
theorem qJs {w : World} {b : Nat} {o' : Obj} (hb : w.heap[b]? = some o') (o : Obj) : ({ w with heap := w.heap.setIfInBounds b o } : World).heap[b]? = some o := by
 simp [lth hb]
theorem qGs {P : Program} {t kt et : TypeId} (KK : Keys P kt K) (ht : P.underlying t = some (.map kt et)) {w : World} {b : Nat} {l : List (K × Value)} (h : qAy KK.kv w b l) (k : K) (v : Value) (hk : aget l k = none) :
  ∃ w', (Instr.mapUpdate t (.map (some b)) (KK.kv k) v).run P w = .ok () w' /\ qAy KK.kv w' b (l ++ [(k, v)]) /\ Mod (fun j => j = b) w w' := by
 obtain ⟨es, clock, hb, hl, hn, hbo, hbn⟩ := h; have hf := qFh KK w k es.toList l hl; rw [(qDc l k).1 hk] at hf; simp only [Option.bind_none] at hf; have hnot : k ∉ l.map (·.1) := by
  intro hm; obtain ⟨p, hp, rfl⟩ := List.mem_map.1 hm; have := (List.findIdx?_eq_none_iff.1 ((qDc l p.1).1 hk)) p hp; simp at this
 refine ⟨{ w with heap := w.heap.setIfInBounds b (.map (es.push { key := KK.kv k, val := v, born := clock }) (clock + 1)) }, ?_, ?_, ?_⟩
 ·simp [Instr.mapUpdate, run_underlying ht, getObj, setObj, Sem.run, hb, KK.check, hf]
 ·refine ⟨es.push { key := KK.kv k, val := v, born := clock }, clock + 1, qJs hb _, by simp [hl], ?_, ?_, ?_⟩
  ·rw [List.map_append, List.nodup_append]; refine ⟨hn, by simp, fun a ha c hc => ?_⟩
   simp at hc
   subst hc; exact fun h => hnot (h ▸ ha)
  ·intro e he; simp only [Array.toList_push, List.mem_append, List.mem_singleton] at he; rcases he with he | rfl
   ·have := hbo e he; omega
   ·exact Nat.lt_succ_self _
  ·simp only [Array.toList_push, List.map_append, List.map_cons, List.map_nil]; rw [List.nodup_append]; refine ⟨hbn, by simp, fun a ha c hc => ?_⟩
   simp at hc
   subst hc; obtain ⟨e, he, rfl⟩ := List.mem_map.1 ha; have := hbo e he; omega
 ·exact ⟨rfl, rfl, rfl, by simp, fun j _ hj => by simp [Array.getElem?_setIfInBounds]; intro h; exact absurd h.symm hj⟩
theorem qCw {P : Program} {t kt et : TypeId} (ty : TypeId) (KK : Keys P kt K) (ht : P.underlying t = some (.map kt et)) {w : World} {b : Nat} {l : List (K × Value)} (h : qAy KK.kv w b l) (k : K) :
  ∃ w', (Builtin.delete_ #[t, kt] ty #[.map (some b), KK.kv k]).run P w = .ok (.tuple #[]) w' /\ qAy KK.kv w' b (match l.findIdx? (fun p => decide (p.1 = k)) with | some i => l.eraseIdx i | none => l) /\ Mod (fun j => j = b) w w' := by
 obtain ⟨es, clock, hb, hl, hn, hbo, hbn⟩ := h; have hf := qFh KK w k es.toList l hl; have hmod : ∀ o, Mod (fun j => j = b) w { w with heap := w.heap.setIfInBounds b o } := fun o => ⟨rfl, rfl, rfl, by simp, fun j _ hj => by simp [Array.getElem?_setIfInBounds]; intro h; exact absurd h.symm hj⟩
 cases h0 : l.findIdx? (fun p => decide (p.1 = k)) with
 | none =>
  rw [h0] at hf; simp only [Option.bind_none] at hf; refine ⟨{ w with heap := w.heap.setIfInBounds b (.map es clock) }, ?_, ⟨es, clock, qJs hb _, hl, hn, hbo, hbn⟩, hmod _⟩
  simp [Builtin.delete_, run_underlying ht, getObj, setObj, Sem.run, hb, KK.check, hf]
 | some i =>
  obtain ⟨hi, _⟩ := List.findIdx?_eq_some_iff_getElem.1 h0; have he : es.size = l.length := qAy.size hl; rw [h0] at hf; simp only [Option.bind_some, List.getElem?_eq_getElem hi, Option.map_some] at hf; refine ⟨{ w with heap := w.heap.setIfInBounds b (.map (es.eraseIdxIfInBounds i) clock) }, ?_, ⟨es.eraseIdxIfInBounds i, clock, qJs hb _, ?_, ?_, ?_, ?_⟩, hmod _⟩
  ·simp [Builtin.delete_, run_underlying ht, getObj, setObj, Sem.run, hb, KK.check, hf]
  ·rw [Array.toList_eraseIdxIfInBounds, qFu, qFu, hl]
  ·rw [qFu]; exact hn.sublist (List.eraseIdx_sublist _ _)
  ·intro e hm; rw [Array.toList_eraseIdxIfInBounds] at hm; exact hbo e (List.mem_of_mem_eraseIdx hm)
  ·rw [Array.toList_eraseIdxIfInBounds, qFu]; exact hbn.sublist (List.eraseIdx_sublist _ _)
omit [DecidableEq K] in
theorem qLx {P : Program} {t kt et : TypeId} (ty : TypeId) {kv : K -> Value} (ht : P.underlying t = some (.map kt et)) {w : World} {b : Nat} {l : List (K × Value)} (h : qAy kv w b l) :
  (Builtin.len_ #[t] ty #[.map (some b)]).run P w = .ok (.int .i64 l.length) w := by
 obtain ⟨es, clock, hb, hl, _⟩ := h; have he : es.size = l.length := qAy.size hl; simp [Builtin.len_, run_underlying ht, getObj, Sem.run, hb, he, goInt]
section
variable {P : Program} {ops : Array Oper} {rest : List Oper} {o : Oper} {a : Act} {w : World} {Q : Exit -> Act -> World -> Prop}
theorem qFp (hg : o.guard = none) (m x : Operand) (t : TypeId) (ok : Bool) (hop : o.op = Op.lookup t m x ok) {kt et : TypeId} (KK : Keys P kt K) (ht : P.underlying t = some (.map kt et)) {z : Value} (hz : (zeroValue et).run P w = .ok z w)
  (b : Nat) (l : List (K × Value)) (k : K) (hm : a.eval m = .map (some b)) (hx : a.eval x = KK.kv k) (h : qAy KK.kv w b l)
  (hK : wpList P ops Q rest (a.put o.dst (if ok then .tuple #[(aget l k).getD z, .bool (aget l k).isSome] else (aget l k).getD z)) w) : wpList P ops Q (o :: rest) a w := by
 refine wpList_plain hg fun K' hK' => ?_
 unfold Oper.wp; simp [execOp, hop, hm, hx, qBj KK ht hz h k ok, Result.andThen]
 exact hK' _ _ hK
theorem qEs (hg : o.guard = none) (m x v : Operand) (t : TypeId) (hop : o.op = Op.mapUpdate t m x v) {kt et : TypeId} (KK : Keys P kt K) (ht : P.underlying t = some (.map kt et))
  (b : Nat) (l : List (K × Value)) (k : K) (val : Value) (hm : a.eval m = .map (some b)) (hx : a.eval x = KK.kv k) (hv : a.eval v = val) (h : qAy KK.kv w b l) (hn : aget l k = none)
  (hK : ∀ w', qAy KK.kv w' b (l ++ [(k, val)]) -> Mod (fun j => j = b) w w' -> wpList P ops Q rest (a.put o.dst undef) w') : wpList P ops Q (o :: rest) a w := by
 refine wpList_plain hg fun K' hK' => ?_
 obtain ⟨w', hrun, r1, r2⟩ := qGs KK ht h k val hn; unfold Oper.wp; simp [execOp, hop, hm, hx, hv, hrun, Result.andThen]
 exact hK' _ _ (hK w' r1 r2)
end
end
end
section
open Go Go.RowKit
open Go.ChangeMaps (setBlock)
section
variable {K : Type} [DecidableEq K]
theorem qBe (l : List (K × Value)) (k : K) : (aget l k).isSome = true ↔ k ∈ l.map (·.1) := by
 unfold aget; rw [Option.isSome_map, List.find?_isSome]; simp [List.mem_map]
theorem jEi {l : List (K × Value)} {k : K} {v : Value} (h : aget l k = some v) : (k, v) ∈ l := by
 unfold aget at h; rw [Option.map_eq_some_iff] at h; obtain ⟨p, hp, rfl⟩ := h; have h1 := List.mem_of_find?_eq_some hp; have h2 := List.find?_some hp; simp only [decide_eq_true_eq] at h2; subst h2; exact h1
theorem qUa {l : List (K × Value)} {k : K} (h : aget l k = none) (v : Value) : aput l k v = l ++ [(k, v)] := by
 unfold aput; rw [if_neg]; intro hc; rw [List.any_eq_true] at hc; obtain ⟨p, hp, hk⟩ := hc; have h1 := (qBe l k).2 (by simp only [decide_eq_true_eq] at hk; subst hk; exact List.mem_map.2 ⟨p, hp, rfl⟩)
 rw [h] at h1; cases h1
theorem qAs {P : Program} {t kt et : TypeId} (KK : Keys P kt K) (ht : P.underlying t = some (.map kt et)) {w : World} {b : Nat} {l : List (K × Value)} (h : qAy KK.kv w b l) (k : K) (v : Value) :
  ∃ w', (Instr.mapUpdate t (.map (some b)) (KK.kv k) v).run P w = .ok () w' /\ qAy KK.kv w' b (aput l k v) /\ Mod (fun j => j = b) w w' := by
 cases hk : aget l k with
 | none => rw [qUa hk]; exact qGs KK ht h k v hk
 | some v0 =>
  obtain ⟨es, clock, hb, hl, hn, hbo, hbn⟩ := h; have hf := qFh KK w k es.toList l hl; cases h0 : l.findIdx? (fun p => decide (p.1 = k)) with
  | none => rw [(qDc l k).2 h0] at hk; cases hk
  | some i =>
   obtain ⟨hi, hik, _⟩ := List.findIdx?_eq_some_iff_getElem.1 h0; have he : es.size = l.length := qAy.size hl; have hie : i < es.size := by omega
   simp only [decide_eq_true_eq] at hik; rw [h0] at hf; simp only [Option.bind_some, List.getElem?_eq_getElem hi, Option.map_some] at hf; have hkey : es[i].key = KK.kv k := by
    have := congrArg (fun l : List (Value × Value) => l[i]?) hl
    simp only [List.getElem?_map, Array.getElem?_toList, Array.getElem?_eq_getElem hie, List.getElem?_eq_getElem hi, Option.map_some, Option.some.injEq, Prod.mk.injEq] at this; rw [this.1, hik]
   have hany : (l.any fun p => decide (p.1 = k)) = true := List.any_eq_true.2 ⟨l[i], List.getElem_mem hi, by simp [hik]⟩
   have hput : aput l k v = l.map (fun p => if p.1 = k then (k, v) else p) := by unfold aput; rw [if_pos hany]
   have hidx : ∀ j (hj : j < l.length), l[j].1 = k -> j = i := fun j hj hjk => by
    have hn' : (l.map (·.1))[j]? = (l.map (·.1))[i]? := by simp [hj, hi, hjk, hik]
    exact (List.getElem?_inj (by simpa using hj) hn).1 hn'
   refine ⟨{ w with heap := w.heap.setIfInBounds b (.map (es.modify i fun e => { e with key := KK.kv k, val := v }) clock) }, ?_, ?_, ?_⟩
   ·simp [Instr.mapUpdate, Instr.keyThatStays, run_underlying ht, getObj, setObj, Sem.run, hb, KK.check, hf, hie, hkey, KK.bits]
   ·have hkeys : (l.map fun p => if p.1 = k then (k, v) else p).map (·.1) = l.map (·.1) := by
     rw [List.map_map]; apply List.map_congr_left; intro p _; simp only [Function.comp]; split
     ·rename_i h; exact h.symm
     ·rfl
    refine ⟨es.modify i fun e => { e with key := KK.kv k, val := v }, clock, qJs hb _, ?_, by rw [hput, hkeys]; exact hn, ?_, ?_⟩
    ·rw [hput]; apply List.ext_getElem?; intro j; have hlj := congrArg (fun l : List (Value × Value) => l[j]?) hl
     simp only [List.getElem?_map, Array.getElem?_toList] at hlj; simp only [List.getElem?_map, Array.getElem?_toList, Array.getElem?_modify]; by_cases hji : i = j
     ·subst hji; simp [hie, hi, hik]
     ·rw [if_neg hji, hlj]; by_cases hjl : j < l.length
      ·have : l[j].1 ≠ k := fun h => hji (hidx j hjl h).symm
       simp [hjl, this]
      ·simp [List.getElem?_eq_none (Nat.le_of_not_lt hjl)]
    ·intro e hm; obtain ⟨j, hj, rfl⟩ := List.getElem_of_mem hm; rw [Array.getElem_toList, Array.getElem_modify]; have hj' : j < es.size := by simpa using hj
     have hb2 := hbo es[j] (by simp)
     split
     ·exact hb2
     ·exact hb2
    ·have hborn : (es.modify i fun e => { e with key := KK.kv k, val := v }).toList.map (·.born) = es.toList.map (·.born) := by
      apply List.ext_getElem?; intro j; simp only [List.getElem?_map, Array.getElem?_toList, Array.getElem?_modify]; split
      ·cases es[j]? <;> rfl
      ·rfl
     rw [hborn]; exact hbn
   ·exact ⟨rfl, rfl, rfl, by simp, fun j _ hj => by simp [Array.getElem?_setIfInBounds]; intro h; exact absurd h.symm hj⟩
def qGb (kv : K -> Value) (w : World) (b r : Nat) (l : List (K × Value)) (left : K -> Prop) (cnt : Nat) : Prop :=
 ∃ es clock since seen c0, w.heap[b]? = some (.map es clock) /\ es.toList.map (fun e => (e.key, e.val)) = l.map (fun p => (kv p.1, p.2)) /\ (l.map (·.1)).Nodup /\ (∀ e ∈ es.toList, e.born < clock) /\ (es.toList.map (·.born)).Nodup ∧
  w.heap[r]? = some (.mapIter (some b) since seen c0) /\ (∀ x ∈ es.toList, x.born < since) /\ since <= c0 /\ since <= clock /\ (leftOf es seen).size = cnt ∧
  ∀ k, left k ↔ ∃ x ∈ es.toList, x.key = kv k /\ seen.contains x.born = false
omit [DecidableEq K] in
theorem qOe {kv : K -> Value} {es : List MapEntry} {l : List (K × Value)} (h : es.map (fun e => (e.key, e.val)) = l.map (fun p => (kv p.1, p.2))) {x : MapEntry} (hx : x ∈ es) : ∃ p ∈ l, x.key = kv p.1 /\ x.val = p.2 := by
 have : (x.key, x.val) ∈ l.map (fun p => (kv p.1, p.2)) := by rw [<- h]; exact List.mem_map.2 ⟨x, hx, rfl⟩
 obtain ⟨p, hp, he⟩ := List.mem_map.1 this; simp only [Prod.mk.injEq] at he; exact ⟨p, hp, he.1.symm, he.2.symm⟩
omit [DecidableEq K] in
theorem qNs {kv : K -> Value} {es : List MapEntry} {l : List (K × Value)} (h : es.map (fun e => (e.key, e.val)) = l.map (fun p => (kv p.1, p.2))) {p : K × Value} (hp : p ∈ l) : ∃ x ∈ es, x.key = kv p.1 /\ x.val = p.2 := by
 have : (kv p.1, p.2) ∈ es.map (fun e => (e.key, e.val)) := by rw [h]; exact List.mem_map.2 ⟨p, hp, rfl⟩
 obtain ⟨x, hx, he⟩ := List.mem_map.1 this; simp only [Prod.mk.injEq] at he; exact ⟨x, hx, he.1, he.2⟩
theorem qPc {P : Program} {t kt et : TypeId} (KK : Keys P kt K) (ht : P.underlying t = some (.map kt et)) {w : World} {b : Nat} {l : List (K × Value)} (h : qAy KK.kv w b l) :
  ∃ w', (Instr.range t (.map (some b))).run P w = .ok (.pointer (some ⟨w.heap.size, 0, none⟩)) w' /\ qGb KK.kv w' b w.heap.size l (fun k => k ∈ l.map (·.1)) l.length /\ Mod (fun _ => False) w w' := by
 obtain ⟨es, clock, hb, hl, hn, hbo, hbn⟩ := h; refine ⟨_, run_range_map w t kt et b es clock ht hb, ⟨es, clock, clock, #[], clock, (Below.heap_alloc _ _ _ (lth hb)).trans hb, hl, hn, hbo, hbn, heap_alloc_new _ _, hbo, Nat.le_refl _, Nat.le_refl _, ?_, fun k => ?_⟩, (Mod.refl _ _).alloc _⟩
 ·unfold leftOf; rw [Array.filter_eq_self.2 (by simp)]
  exact qAy.size hl
 ·constructor
  ·intro hk; obtain ⟨p, hp, rfl⟩ := List.mem_map.1 hk; obtain ⟨x, hx, h1, _⟩ := qNs hl hp; exact ⟨x, hx, h1, by simp⟩
  ·rintro ⟨x, hx, h1, _⟩; obtain ⟨p, hp, h2, _⟩ := qOe hl hx; rw [h1] at h2; rw [KK.inj h2]; exact List.mem_map.2 ⟨p, hp, rfl⟩
section
variable {P : Program} {ops : Array Oper} {rest : List Oper} {o : Oper} {a : Act} {w : World} {Q : Exit -> Act -> World -> Prop}
theorem qIf (hg : o.guard = none) (m x v : Operand) (t : TypeId) (hop : o.op = Op.mapUpdate t m x v) {kt et : TypeId} (KK : Keys P kt K) (ht : P.underlying t = some (.map kt et))
  (b : Nat) (l : List (K × Value)) (k : K) (val : Value) (hm : a.eval m = .map (some b)) (hx : a.eval x = KK.kv k) (hv : a.eval v = val) (h : qAy KK.kv w b l)
  (hK : ∀ w', qAy KK.kv w' b (aput l k val) -> Mod (fun j => j = b) w w' -> wpList P ops Q rest (a.put o.dst undef) w') : wpList P ops Q (o :: rest) a w := by
 refine wpList_plain hg fun K' hK' => ?_
 obtain ⟨w', hrun, r1, r2⟩ := qAs KK ht h k val; unfold Oper.wp; simp [execOp, hop, hm, hx, hv, hrun, Result.andThen]
 exact hK' _ _ (hK w' r1 r2)
theorem qCe (hg : o.guard = none) (m : Operand) (t : TypeId) (hop : o.op = Op.range t m) {kt et : TypeId} (KK : Keys P kt K) (ht : P.underlying t = some (.map kt et))
  (b : Nat) (l : List (K × Value)) (hm : a.eval m = .map (some b)) (h : qAy KK.kv w b l)
  (hK : ∀ w', qGb KK.kv w' b w.heap.size l (fun k => k ∈ l.map (·.1)) l.length -> Mod (fun _ => False) w w' -> wpList P ops Q rest (a.put o.dst (.pointer (some ⟨w.heap.size, 0, none⟩))) w') : wpList P ops Q (o :: rest) a w := by
 refine wpList_plain hg fun K' hK' => ?_
 obtain ⟨w', hrun, r1, r2⟩ := qPc KK ht h; unfold Oper.wp; simp [execOp, hop, hm, hrun, Result.andThen]
 exact hK' _ _ (hK w' r1 r2)
theorem qCn (hg : o.guard = none) (it : Operand) (hop : o.op = Op.next it false) {kt : TypeId} (KK : Keys P kt K)
  (b r : Nat) (l : List (K × Value)) (left : K -> Prop) (cnt : Nat) (hit : a.eval it = .pointer (some ⟨r, 0, none⟩)) (h : qGb KK.kv w b r l left cnt)
  (hDone : (∀ k, ¬ left k) -> wpList P ops Q rest (a.put o.dst (.tuple #[.bool false])) w)
  (hMore : ∀ k v w' cnt', left k -> (k, v) ∈ l -> qGb KK.kv w' b r l (fun x => left x /\ x ≠ k) cnt' -> cnt' < cnt -> Mod (fun j => j = r) w w' -> (Instr.entry (.pointer (some ⟨r, 0, none⟩))).run P w' = .ok (.tuple #[KK.kv k, v]) w' -> wpList P ops Q rest (a.put o.dst (.tuple #[.bool true, KK.kv k, v])) w') : wpList P ops Q (o :: rest) a w := by
 refine wpList_plain hg fun K' hK' => ?_
 unfold Oper.wp; rcases h.next KK o.type with ⟨hl, hrun⟩ | ⟨k, v, w', cnt', h1, h2, hrun, h3, h4, h5, h6⟩
 ·simp [execOp, hop, hit, hrun, Result.andThen]
  exact hK' _ _ (hDone hl)
 ·simp [execOp, hop, hit, hrun, Result.andThen]
  exact hK' _ _ (hMore k v w' cnt' h1 h2 h3 h4 h5 h6)
end
end
end
end Go.Proofs.YtkinkgbmlhiakaaGreatDoor
