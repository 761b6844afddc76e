/- merged: JrN Node -/
import Derived.Test.YtkinkgbmlhiakaaGreatDoorNb04
import Derived.Test.YtkinkgbmlhiakaaGreatDoorNb01
import Derived.Deep.DeepCutAuto
import Derived.Deep.CutBlock
namespace Go.Proofs.YtkinkgbmlhiakaaGreatDoor
section
open Go Go.RowKit
noncomputable def KU : Keys Tryz.prog 148 Int := qRk Tryz.underlying148
theorem qWm (w : World) : (zeroValue 3).run Tryz.prog w = .ok (.int .i64 0) w := by kernel_rfl
theorem qIp : (Tryz.prog.info? 3).map (fun i => (i.zero, i.size, i.bytes)) = some (some (.int .i64 0), 1, 8) := by kernel_rfl
def qLo (l : List Nat) : List (Int × Value) := l.map fun (n : Nat) => ((n : Int), .int .i64 1)
theorem qMe (l : List Nat) (n : Nat) : qLo (l ++ [n]) = qLo l ++ [((n : Int), .int .i64 1)] := by simp [qLo]
theorem qFe : ∀ (l : List Nat) (x : Nat), aget (qLo l) (x : Int) = if x ∈ l then some (.int .i64 1) else none
 | [], x => by simp [qLo, aget]
 | n :: l, x => by
  have ih := qFe l x; unfold qLo aget at *; rw [List.map_cons, List.find?_cons]; by_cases h : n = x
  ·subst h; simp
  ·have h1 : ¬ ((n : Int) = (x : Int)) := by omega
   have h2 : ¬ x = n := fun e => h e.symm
   simp only [h1, decide_false]; rw [ih]; simp [h2]
def jIq (w : World) (o : Option (List Nat)) (e : Ending) (w' : World) : Prop :=
 Mod (fun _ => False) w w' /\ match o with
  | none => e = .returned (.tuple #[.slice none 0 0, .int .i64 32])
  | some l => ∃ la cap, e = .returned (.tuple #[.slice la l.length cap, .int .i64 0]) /\ Own w' 3 1 la l.length cap (nums l) /\ (∀ k, blk la k -> w.heap.size <= k) /\ l.length <= 500 /\ ∀ n ∈ l, n <= 16384
def jIp (w wr : World) (s : ByteArray) (room len N i a : Nat) (out : List Nat) (la : Option Addr) (cap : Nat) : Prop :=
 numF room len s = qHp len s (N - i) a out /\ out.length = i /\ i <= N /\ a <= s.size /\ (∀ n ∈ out, n <= 16384) /\ Own wr 3 1 la out.length cap (nums out) /\ qAy KU.kv wr w.heap.size (qLo out) /\ (∀ k, blk la k -> w.heap.size < k) /\ Mod (fun _ => False) w wr
theorem jEn {a : Nat} {x : RU} (h : x.e = 0) : ruV a x = .tuple #[.int .u64 (x.v : Int), .int .i64 ((a : Int) + (x.n : Int)), .int .i64 0] := by unfold ruV; rw [if_pos h]
theorem qXm {a : Nat} {x : RU} (h : x.e ≠ 0) : ruV a x = .tuple #[.int .u64 0, .int .i64 0, .int .i64 (x.e : Int)] := by unfold ruV; rw [if_neg h]
theorem qSw (s : ByteArray) (a : Nat) (ha : a <= s.size) (he : (rdU 0 (s.data.toList.drop a)).e = 0) : a + (rdU 0 (s.data.toList.drop a)).n <= s.size /\ (rdU 0 (s.data.toList.drop a)).v < 18446744073709551616 := by
 obtain ⟨h1, h2, h3, h4⟩ := qFr (s.data.toList.drop a) 0; have h5 := h4 (by omega)
 have hl : s.data.toList.length = s.size := rfl; rw [List.length_drop, hl] at h1; have t6 : qEu = 18446744073709551616 := by decide
 rw [Nat.pow_zero, Nat.mul_one, t6] at h5; exact ⟨by omega, h5⟩
set_option maxRecDepth 100000
set_option maxHeartbeats 4000000 in
theorem qRd {w : World} {j d room : Nat} {sa : Option Addr} {D : Dsk} (hD : qAr w d sa D) (hj : JAt w j d room) (hn : D.secs.length <= 16384) (hr : room <= 500) (s : ByteArray) (hs : s.size <= 1048576) :
  Calls Tryz.prog 44 #[.pointer (some ⟨j, 0, none⟩), .string s] w fun e w' => jIq w (numF room (jlen room D) s) e w' := by
 obtain ⟨i0, hi, hz0, hz1, hz2⟩ := info_parts qIp; have HR0 : Hid (Calls Tryz.prog 55 #[.string s, .int .i64 0] w fun e w' => e = .returned (ruV 0 (rdU 0 s.data.toList)) /\ w = w') := hid (qEl s 0 w (by unfold maxLen; omega))
 have HJl := hid (fun (v : World) (hv : Mod (fun _ => False) w v) => qJr (hD.mod hv (fun _ _ h => h)) (hj.mod hv (fun h => h)) hn hr)
 obtain ⟨c0, c1⟩ := hj.cells; have hjl : jlen room D <= 16384 := by unfold jlen; omega
 have HNf : Hid (numF room (jlen room D) s = if (rdU 0 s.data.toList).e = 0 /\ (rdU 0 s.data.toList).v <= room then qHp (jlen room D) s (rdU 0 s.data.toList).v (rdU 0 s.data.toList).n [] else none) := hid rfl
 have hfit := qSw s 0 (Nat.zero_le _); rw [List.drop_zero] at hfit; generalize jlen room D = len at *; generalize rdU 0 s.data.toList = u at *; have HFit := hid hfit; clear hD hj hfit; have hmm := @run_makeMap Tryz.prog; by_cases hu : u.e = 0
 ·rw [jEn hu] at HR0; obtain ⟨f1, f2⟩ := HFit.out hu; have HU := hid hu; clear hu; by_cases hv : u.v <= room
  ·have d1 : decide (room < u.v) = false := by simpa using hv
   have hNf := HNf.out; rw [if_pos ⟨HU.out, hv⟩] at hNf; have HN0 := hid hNf; clear hNf; go_enter Tryz.func44, Tryz.ntmps44
   go_wp2_with fail
   refine HR0.out.mono ?_; rintro e w1 ⟨rfl, rfl⟩; go_wp2_with fail
   go_loopw [7, 9, 31] (fun sat sout si wr => ∃ (i a : Nat) (out : List Nat) (la : Option Addr) (cap : Nat), sat = .int .i64 (a : Int) /\ sout = .slice la out.length cap /\ si = .int .u64 (i : Int) /\ jIp w wr s room len u.v i a out la cap) (fun _ _ si _ => u.v - (intOf si).toNat)
   case atStart =>
    refine ⟨0, u.n, [], none, 0, ?_, rfl, rfl, by rw [Nat.sub_zero]; exact HN0.out, rfl, Nat.zero_le _, by omega, (fun n hn => by cases hn), Own.nil _ _ _, qAy.made KU.kv w, (fun k hk => (qAi k hk).elim), (Mod.refl _ _).alloc _⟩
    congr 1
   case round =>
    obtain ⟨i, a, out, la, cap, rfl, rfl, rfl, hrel⟩ := hrel; obtain ⟨r1, r2, r3, r4, r5, r6, r7, r8, r9⟩ := hrel; have HM := hid r9; have HMap := hid r7; have HO := hid r6; have HB := hid r8; have HOut := hid r5; have HNum := hid r1; have HLen := hid r2; have HRa := hid (qEl s a wr (by unfold maxLen; omega))
    have HFa := hid (qSw s a r4); have HS0 := hid (qYj (len := len) (s := s) (c := u.v - i - 1) (a := a) (out := out)); have HS1 := hid (qVf (len := len) (s := s) (c := u.v - i - 1) (a := a) (out := out)); have ho500 : out.length <= 500 := by omega
    clear r1 r2 r5 r6 r7 r8 r9 c0 c1; by_cases hlt : i < u.v
    ·have HNs : Hid (u.v - i = u.v - i - 1 + 1) := hid (by omega)
     rw [HNs.out] at HNum; obtain ⟨x, hx⟩ : ∃ x, rdU 0 (s.data.toList.drop a) = x := ⟨_, rfl⟩; rw [hx] at HRa HFa HS0 HS1; clear hx; by_cases hxe : x.e = 0
     ·rw [jEn hxe] at HRa; obtain ⟨f3, f4⟩ := HFa.out hxe; by_cases hxl : x.v < len
      ·have d2 : decide (len <= x.v) = false := by simpa using hxl
       have hxn : x.v <= 16384 := by omega
       have HXl := hid hxl; have HXe := hid hxe; clear hxl hxe; go_wp2_with fail
       refine HRa.out.mono ?_; rintro e w1 ⟨rfl, rfl⟩; go_wp2_with fail
       refine (HJl.out _ HM.out).mono ?_; rintro e w2 ⟨rfl, hm2⟩; have HM2 := hid (HM.out.trans hm2); have HMap2 := hid (HMap.out.mod hm2 (fun h => h))
       have HO2 := hid (HO.out.mod hm2 (fun _ _ h => h))
       have hlk := qBj KU Tryz.underlying181 (qWm _) HMap2.out (x.v : Int) false; rw [qFe] at hlk; clear hm2; by_cases hin : x.v ∈ out
       ·rw [if_pos hin] at hlk; have hlk2 : (Instr.lookup 181 (.map (some w.heap.size)) (.int .u64 (x.v : Int)) false).run Tryz.prog w2 = .ok (.int .i64 1) w2 := hlk; have HIn := hid hin; clear hlk hin; go_wp2_with fail
        go_ret2; refine ⟨HM2.out, ?_⟩; rw [HNum.out, HS0.out (fun h => h.2.2 HIn.out)]
        rfl
       ·rw [if_neg hin] at hlk; have hlk2 : (Instr.lookup 181 (.map (some w.heap.size)) (.int .u64 (x.v : Int)) false).run Tryz.prog w2 = .ok (.int .i64 0) w2 := hlk; have HIn := hid hin; have HAg : Hid (aget (qLo out) (x.v : Int) = none) := hid (by rw [qFe, if_neg hin])
        clear hlk hin; have hwm := HM2.out.size; have hml := HMap2.out.lt; go_wp2_with (first
         | (at_mapUpdate; refine qEs rfl _ _ _ 181 rfl KU Tryz.underlying181 w.heap.size _ (x.v : Int) (.int .i64 1) rfl rfl rfl HMap2.out HAg.out ?_; intro w3 hat hm3; have Hat := hid hat; have Hm3 := hid hm3; clear hat hm3; have HO3 := hid (HO2.out.mod Hm3.out (fun k hk h => by have := HB.out k hk; omega)); have HSr : Hid (Src (w3.alloc (.cells #[.int .i64 (x.v : Int)] 3)) 1 (some ⟨w3.heap.size, 0, none⟩) 1 [.int .i64 (x.v : Int)]) := hid (qAu (heap_alloc_new _ _) rfl); have HO4 := hid (HO3.out.mod (S := fun _ => False) ((Mod.refl _ w3).alloc (.cells #[.int .i64 (x.v : Int)] 3)) (fun _ _ h => h)); have HMap4 := hid (Hat.out.mod (S := fun _ => False) ((Mod.refl _ w3).alloc (.cells #[.int .i64 (x.v : Int)] 3)) (fun h => h)); have hsz3 := Hm3.out.size)
         | (at_builtin; refine qAc rfl (.tmp 59) (.tmp 62) 56 rfl 3 i0 _ 1 8 Tryz.underlying56 hi hz0 hz1 hz2 rfl la out.length cap _ rfl HO4.out (some ⟨w3.heap.size, 0, none⟩) 1 1 _ rfl HSr.out (by intro u hu; simp at hu; subst hu; rfl) (by unfold maxLen; omega) (by omega) ?_; intro la' cap' w5 hown5 hm5 hb5 hn5 hr5; have Hown5 := hid hown5; have Hm5 := hid hm5; have Hb5 := hid hb5; clear hown5 hm5 hb5 hn5 hr5))
        go_roundw
        case rel =>
         refine ⟨i + 1, a + x.n, out ++ [x.v], la', cap', ?_, ?_, rfl, ?_, ?_, by omega, by omega, fun n hn => ?_, ?_, ?_, fun k hk => ?_, ?_⟩
         ·congr 1
         ·congr 1; simp
         ·rw [HNum.out, HS1.out HXe.out HXl.out HIn.out]; congr 1
         ·rw [List.length_append, HLen.out]; rfl
         ·rcases List.mem_append.1 hn with h | h
          ·exact HOut.out n h
          ·simp at h; omega
         ·rw [qPk, List.length_append]; exact Hown5.out
         ·rw [qMe]; exact HMap4.out.mod Hm5.out (fun h => by have := HB.out _ h; omega)
         ·rcases Hb5.out k hk with h | h
          ·exact HB.out k h
          ·simp at h; omega
         ·have h1 : Mod (fun k => w.heap.size <= k) w2 (w3.alloc (.cells #[.int .i64 (x.v : Int)] 3)) := (Hm3.out.mono (fun k _ h => by omega)).alloc _
          exact HM2.out.then (h1.trans (Hm5.out.mono (fun k _ h => by have := HB.out k h; omega))) (fun i hi h => by omega)
        case measure => simp [intOf]; omega
      ·have d2 : decide (len <= x.v) = true := by simpa using hxl
       have HXl := hid hxl; clear hxl hxe; go_wp2_with fail
       refine HRa.out.mono ?_; rintro e w1 ⟨rfl, rfl⟩; go_wp2_with fail
       refine (HJl.out _ HM.out).mono ?_; rintro e w2 ⟨rfl, hm2⟩; have HM2 := hid (HM.out.trans hm2); clear hm2; go_wp2_with fail
       go_ret2; refine ⟨HM2.out, ?_⟩; rw [HNum.out, HS0.out (fun h => HXl.out h.2.1)]
       rfl
     ·rw [qXm hxe] at HRa; have e1 : ((x.e : Int) == 0) = false := by rw [beq_eq_false_iff_ne]; omega
      have e2 : ((x.e : Int) != 0) = true := by rw [bne_iff_ne]; omega
      have HXe := hid hxe; clear hxe; go_wp2_with fail
      refine HRa.out.mono ?_; rintro e w1 ⟨rfl, rfl⟩; go_wp2_with fail
      go_ret2; refine ⟨HM.out, ?_⟩; rw [HNum.out, HS0.out (fun h => HXe.out h.1)]
      rfl
    ·have HIe : Hid (i = u.v) := hid (by omega)
     have hsl : ∀ v : World, (Instr.slice 9 (.string s) (some (.int .i64 (a : Int))) none none).run Tryz.prog v = .ok (.string (s.extract a s.size)) v := fun v => by
      have := run_slice_string_l (P := Tryz.prog) v 9 s Tryz.underlying9 .i64 (a : Int) (by omega) (by omega)
      simpa using this
     have hxs : (s.extract a s.size).size <= maxLen := by rw [ByteArray.size_extract]; unfold maxLen; omega
     have HTr := hid (fun v => qSl (s.extract a s.size) v hxs)
     have hnil := qOz (s.extract a s.size); have hdr : (s.extract a s.size).data.toList = s.data.toList.drop a := by
      rw [ByteArray.data_extract, Array.toList_extract, List.extract_eq_take_drop, List.take_of_length_le]; have : s.data.toList.length = s.size := rfl; rw [List.length_drop]; omega
     rw [hdr] at hnil; have HNil := hid hnil; have HNe : Hid (numF room len s = qHp len s 0 a out) := hid (by rw [HNum.out, HIe.out, Nat.sub_self])
     clear hnil hdr hxs; generalize qLk (s.extract a s.size) = tb at *; by_cases hz : AllZ (s.data.toList.drop a)
     ·have ez : tb.toList.isEmpty = true := by rw [ByteArray.toList_eq, HNil.out.2 hz]; rfl
      have HZz := hid hz; clear hz; go_wp2_with fail
      refine (HTr.out wr).mono ?_; rintro e wt ⟨rfl, nq, rfl⟩; go_wp2_with fail
      go_ret2; have hmt : Mod (fun _ => False) wr (wr.drewN nq) := (Mod.refl _ _).drewN nq
      refine ⟨HM.out.trans hmt, ?_⟩; rw [HNe.out, qMd HZz.out]; exact ⟨la, cap, rfl, HO.out.mod hmt (fun _ _ h => h), fun k hk => by have := HB.out k hk; omega, ho500, HOut.out⟩
     ·have ez : tb.toList.isEmpty = false := by
       rw [ByteArray.toList_eq]; cases hl : tb.data.toList with
       | nil => exact absurd (HNil.out.1 hl) hz
       | cons b r => rfl
      have HZz := hid hz; clear hz; go_wp2_with fail
      refine (HTr.out wr).mono ?_; rintro e wt ⟨rfl, nq, rfl⟩; go_wp2_with fail
      go_ret2; refine ⟨HM.out.trans ((Mod.refl _ _).drewN nq), ?_⟩; rw [HNe.out, qYi HZz.out]; rfl
  ·have d1 : decide (room < u.v) = true := by simpa using hv
   have hNf := HNf.out; rw [if_neg (fun h => hv h.2)] at hNf
   have HN0 := hid hNf; clear hNf hv; go_enter Tryz.func44, Tryz.ntmps44
   go_wp2_with fail
   refine HR0.out.mono ?_; rintro e w1 ⟨rfl, rfl⟩; go_wp2_with fail
   go_ret2; refine ⟨Mod.refl _ _, ?_⟩; rw [HN0.out]; rfl
 ·rw [qXm hu] at HR0; have e1 : ((u.e : Int) == 0) = false := by rw [beq_eq_false_iff_ne]; omega
  have e2 : ((u.e : Int) != 0) = true := by rw [bne_iff_ne]; omega
  have hNf := HNf.out; rw [if_neg (fun h => hu h.1)] at hNf
  have HN0 := hid hNf; clear hNf hu; go_enter Tryz.func44, Tryz.ntmps44
  go_wp2_with fail
  refine HR0.out.mono ?_; rintro e w1 ⟨rfl, rfl⟩; go_wp2_with fail
  go_ret2; refine ⟨Mod.refl _ _, ?_⟩; rw [HN0.out]; rfl
end
section
open Go Go.RowKit
structure Nd where
 leaf : Bool
 keys : List ByteArray
 values : List ByteArray
 kids : List Int
 ka : Option Addr
 kc : Nat
 va : Option Addr
 vc : Nat
 ia : Option Addr
 ic : Nat
theorem Lies.one {α : Type} {w : World} {f : α -> Value} {a : Option Addr} {ls : List α} (h : Lies w 1 (fun x => [f x]) a ls) {i : Nat} {x : α} (hi : ls[i]? = .some x) : ∃ g off, a = .some ⟨g, off, none⟩ /\ w.cell? ⟨g, off + i, none⟩ = .some (f x) := by
 obtain ⟨g, off, rfl⟩ := h.some (by have := (List.getElem?_eq_some_iff.1 hi).1; omega)
 refine ⟨g, off, rfl, ?_⟩; have := h.src.2.2 _ rfl i (f x) (by
  have := qJt (f := fun x : α => [f x]) (n := 1) (fun _ => rfl) ls i 0 (by decide)
  rw [Nat.mul_one, Nat.add_zero, hi] at this
  simpa using this)
 rw [Addr.add_lit] at this; exact this
structure NdAt (w : World) (n : Nd) : Prop where
 k : Lies w 1 (fun x => [.string x]) n.ka n.keys
 v : Lies w 1 (fun x => [.string x]) n.va n.values
 i : Lies w 1 (fun x : Int => [.int .i64 x]) n.ia n.kids
 bk : n.keys.length <= 4194304
 bv : n.values.length <= 4194304
 bi : n.kids.length <= 4194304
 sk : ∀ x ∈ n.keys, x.size <= 4194304
 sv : ∀ x ∈ n.values, x.size <= 4194304
 rk : ∀ x ∈ n.kids, -9223372036854775808 <= x /\ x <= 9223372036854775807
structure Ent where
 key : ByteArray
 value : ByteArray
 kid : Int
def emp : ByteArray := ⟨#[]⟩
def qBp (n : Nd) (i : Nat) : ByteArray := if n.leaf then (n.values[i]?).getD emp else emp
def qEj (n : Nd) (i : Nat) : Int := if n.leaf then 0 else (n.kids[i]?).getD 0
def qCm (n : Nd) (i : Nat) : Ent := ⟨(n.keys[i]?).getD emp, qBp n i, qEj n i⟩
def Nd.ents (n : Nd) : List Ent := (List.range n.keys.length).map (qCm n)
def entL (leaf : Bool) (x : Ent) : List UInt8 := qDu x.key ++ (if leaf then qDu x.value else uvar (max 0 x.kid).toNat)
def qAm (leaf : Bool) (es : List Ent) : List UInt8 := (if leaf then 1 else 2) :: (uvar es.length ++ es.flatMap (entL leaf))
theorem qCj (n : Nd) : n.ents.length = n.keys.length := by simp [Nd.ents]
theorem qJa {w : World} {n : Nd} (h : NdAt w n) (i : Nat) : (qBp n i).size <= 4194304 := by
 unfold qBp; split
 ·cases hv : n.values[i]? with
  | none => exact Nat.zero_le _
  | some x => exact h.sv x (List.mem_of_getElem? hv)
 ·exact Nat.zero_le _
theorem qKp {w : World} {n : Nd} (h : NdAt w n) (i : Nat) : -9223372036854775808 <= qEj n i /\ qEj n i <= 9223372036854775807 := by
 unfold qEj; split
 ·omega
 ·cases hv : n.kids[i]? with
  | none => simp
  | some x => exact h.rk x (List.mem_of_getElem? hv)
def Ent.Ok (x : Ent) : Prop := x.key.size <= 4194304 /\ x.value.size <= 4194304 /\ -9223372036854775808 <= x.kid /\ x.kid <= 9223372036854775807
theorem qHv (leaf : Bool) {x : Ent} (h : x.Ok) : (entL leaf x).length <= 8388628 := by
 have h1 := qEv (s := x.key) (by have := h.1; omega)
 have h2 := qEv (s := x.value) (by have := h.2.1; omega)
 have h3 := qAq (n := (max 0 x.kid).toNat) (by have := h.2.2.2; omega)
 have := h.1; have := h.2.1; unfold entL; rw [List.length_append]; split <;> omega
theorem qGj {w : World} {n : Nd} (h : NdAt w n) {i : Nat} (hi : i < n.keys.length) : (qCm n i).Ok := by
 refine ⟨?_, qJa h i, qKp h i⟩; show ((n.keys[i]?).getD emp).size <= _; rw [List.getElem?_eq_getElem hi]; exact h.sk _ (List.getElem_mem _)
theorem qZr {w : World} {n : Nd} (h : NdAt w n) : ∀ x ∈ n.ents, x.Ok := fun x hx => by
 obtain ⟨i, hi, rfl⟩ := List.mem_map.1 hx; exact qGj h (List.mem_range.1 hi)
theorem qRn {leaf : Bool} : ∀ {es : List Ent}, (∀ x ∈ es, x.Ok) -> (es.flatMap (entL leaf)).length <= es.length * 8388628
 | [], _ => by simp
 | x :: r, h => by
  rw [List.flatMap_cons, List.length_append, List.length_cons]; have h1 := qHv leaf (h x List.mem_cons_self); have h2 := qRn (leaf := leaf) (fun y hy => h y (List.mem_cons_of_mem x hy))
  omega
set_option maxRecDepth 100000
theorem qJy {w : World} {n : Nd} (h : NdAt w n) (i : Nat) (_hi : i < 4194304) : Calls Tryz.prog 133 #[.agg #[.bool n.leaf, .slice n.ka n.keys.length n.kc, .slice n.va n.values.length n.vc, .slice n.ia n.kids.length n.ic], .int .i64 i] w fun e w' => e = .returned (.string (qBp n i)) /\ Mod (fun _ => False) w w' := by
 have hbv := h.bv; cases hl : n.leaf with
 | false =>
  have e1 : qBp n i = ⟨#[]⟩ := by unfold qBp; rw [hl]; rfl
  rw [e1]; clear h e1; go_enter Tryz.func133, Tryz.ntmps133
  go_wp2
  go_ret; exact ⟨rfl, (Mod.refl _ _).alloc _⟩
 | true =>
  by_cases hlt : i < n.values.length
  ·obtain ⟨x, hx⟩ : ∃ x, n.values[i]? = some x := ⟨_, List.getElem?_eq_getElem hlt⟩; have e1 : qBp n i = x := by unfold qBp; rw [hl, hx]; rfl
   rw [e1]; have hm : Mod (fun _ => False) w (w.alloc (.cells #[.bool true, .slice n.ka n.keys.length n.kc, .slice n.va n.values.length n.vc, .slice n.ia n.kids.length n.ic] 123)) := (Mod.refl _ _).alloc _
   obtain ⟨g, off, ha, hc⟩ := (h.v.ext hm).one hx; rw [ha] at hc ⊢; have d : decide ((i : Int) < (n.values.length : Int)) = true := by simp; omega
   clear h e1 hm hx; go_enter Tryz.func133, Tryz.ntmps133
   go_wp2
   go_ret; exact ⟨rfl, (Mod.refl _ _).alloc _⟩
  ·have e1 : qBp n i = ⟨#[]⟩ := by unfold qBp; rw [hl, List.getElem?_eq_none (by omega)]; rfl
   rw [e1]; have d : decide ((i : Int) < (n.values.length : Int)) = false := by simp; omega
   clear h e1; go_enter Tryz.func133, Tryz.ntmps133
   go_wp2
   go_ret; exact ⟨rfl, (Mod.refl _ _).alloc _⟩
theorem qRf {w : World} {n : Nd} (h : NdAt w n) (i : Nat) (_hi : i < 4194304) : Calls Tryz.prog 134 #[.agg #[.bool n.leaf, .slice n.ka n.keys.length n.kc, .slice n.va n.values.length n.vc, .slice n.ia n.kids.length n.ic], .int .i64 i] w fun e w' => e = .returned (.int .i64 (qEj n i)) /\ Mod (fun _ => False) w w' := by
 have hbv := h.bi; cases hl : n.leaf with
 | true =>
  have e1 : qEj n i = 0 := by unfold qEj; rw [hl]; rfl
  rw [e1]; clear h e1; go_enter Tryz.func134, Tryz.ntmps134
  go_wp2
  go_ret; exact ⟨rfl, (Mod.refl _ _).alloc _⟩
 | false =>
  by_cases hlt : i < n.kids.length
  ·obtain ⟨x, hx⟩ : ∃ x, n.kids[i]? = some x := ⟨_, List.getElem?_eq_getElem hlt⟩; have e1 : qEj n i = x := by unfold qEj; rw [hl, hx]; rfl
   rw [e1]; have hm : Mod (fun _ => False) w (w.alloc (.cells #[.bool false, .slice n.ka n.keys.length n.kc, .slice n.va n.values.length n.vc, .slice n.ia n.kids.length n.ic] 123)) := (Mod.refl _ _).alloc _
   obtain ⟨g, off, ha, hc⟩ := (h.i.ext hm).one hx; rw [ha] at hc ⊢; have d : decide ((i : Int) < (n.kids.length : Int)) = true := by simp; omega
   clear h e1 hm hx; go_enter Tryz.func134, Tryz.ntmps134
   go_wp2
   go_ret; exact ⟨rfl, (Mod.refl _ _).alloc _⟩
  ·have e1 : qEj n i = 0 := by unfold qEj; rw [hl, List.getElem?_eq_none (by omega)]; rfl
   rw [e1]; have d : decide ((i : Int) < (n.kids.length : Int)) = false := by simp; omega
   clear h e1; go_enter Tryz.func134, Tryz.ntmps134
   go_wp2
   go_ret; exact ⟨rfl, (Mod.refl _ _).alloc _⟩
theorem cl4 {w : World} {b : Nat} {v0 v1 v2 v3 : Value} {t : TypeId} (h : w.heap[b]? = some (.cells #[v0, v1, v2, v3] t (0, 0))) : w.cell? ⟨b, 0, none⟩ = some v0 /\ w.cell? ⟨b, 1, none⟩ = some v1 /\ w.cell? ⟨b, 2, none⟩ = some v2 /\ w.cell? ⟨b, 3, none⟩ = some v3 := by
 refine ⟨?_, ?_, ?_, ?_⟩ <;> (rw [cell_of_row _ _ _ _ _ _ h]; rfl)
set_option maxHeartbeats 1000000 in
theorem qHu {w : World} {n : Nd} (h : NdAt w n) (i : Nat) (hi : i < n.keys.length) : Calls Tryz.prog 135 #[.agg #[.bool n.leaf, .slice n.ka n.keys.length n.kc, .slice n.va n.values.length n.vc, .slice n.ia n.kids.length n.ic], .int .i64 i] w fun e w' => e = .returned (.string (ba (entL n.leaf (qCm n i)))) /\ Mod (fun _ => False) w w' := by
 have hbk := h.bk; obtain ⟨x, hx⟩ : ∃ x, n.keys[i]? = some x := ⟨_, List.getElem?_eq_getElem hi⟩; have hxs := h.sk x (List.mem_of_getElem? hx); have hxv := qJa h i; have hxk := qKp h i; have e1 : (qCm n i).key = x := by unfold qCm; rw [hx]; rfl
 have e2 : (qCm n i).value = qBp n i := rfl; have e3 : (qCm n i).kid = qEj n i := rfl; have hm : Mod (fun _ => False) w (w.alloc (.cells #[.bool n.leaf, .slice n.ka n.keys.length n.kc, .slice n.va n.values.length n.vc, .slice n.ia n.kids.length n.ic] 123)) := (Mod.refl _ _).alloc _
 have hbox : (w.alloc (.cells #[.bool n.leaf, .slice n.ka n.keys.length n.kc, .slice n.va n.values.length n.vc, .slice n.ia n.kids.length n.ic] 123)).heap[w.heap.size]? = some (.cells #[.bool n.leaf, .slice n.ka n.keys.length n.kc, .slice n.va n.values.length n.vc, .slice n.ia n.kids.length n.ic] 123 (0, 0)) := heap_alloc_new _ _; have HN := hid (h.ext hm); have HM := hid hm; have HBox := hid hbox; have he : entL n.leaf (qCm n i) = qDu x ++ (if n.leaf then qDu (qBp n i) else uvar (max 0 (qEj n i)).toNat) := by unfold entL; rw [e1, e2, e3]
 have HE := hid he; clear he; have Hx := hid hx; have i1 : (i : Int) < (n.keys.length : Int) := by omega
 clear h hm hbox hx e1 e2 e3; cases hl : n.leaf with
 | true =>
  rw [hl] at HE HM HN HBox; simp only [if_true] at HE; rw [HE.out]; generalize hV : qBp n i = V at *; have HVc : Hid (∀ y : Ext (w.alloc (.cells #[.bool true, .slice n.ka n.keys.length n.kc, .slice n.va n.values.length n.vc, .slice n.ia n.kids.length n.ic] 123)), Calls Tryz.prog 133 #[.agg #[.bool true, .slice n.ka n.keys.length n.kc, .slice n.va n.values.length n.vc, .slice n.ia n.kids.length n.ic], .int .i64 i] y.val fun e w' => e = .returned (.string V) /\ Mod (fun _ => False) y.val w') := fun y => by
   have := qJy (HN.out.ext y.mod) i (by omega)
   rw [hV, hl] at this; exact this
  have s1 : (ba (qDu x)).size <= 8388628 := by rw [qAd]; have := qEv (s := x) (by omega); omega
  have s2 : (ba (qDu V)).size <= 8388628 := by rw [qAd]; have := qEv (s := V) (by omega); omega
  go_enter Tryz.func135, Tryz.ntmps135
  go_wp2_with fail
  clear hV; generalize w.alloc (.cells #[.bool true, .slice n.ka n.keys.length n.kc, .slice n.va n.values.length n.vc, .slice n.ia n.kids.length n.ic] 123) = W at *; obtain ⟨b0, b1, b2, b3⟩ := cl4 HBox.out; obtain ⟨g, off, ha, hc⟩ := HN.out.k.one Hx.out; rw [ha] at b1 HVc ⊢; have u0 : ∀ y : Ext W, y.val.cell? ⟨w.heap.size, 0, none⟩ = some (.bool true) := fun y => y.cell b0
  have u1 : ∀ y : Ext W, y.val.cell? ⟨w.heap.size, 1, none⟩ = some (.slice (some ⟨g, off, none⟩) n.keys.length n.kc) := fun y => y.cell b1
  have u2 : ∀ y : Ext W, y.val.cell? ⟨w.heap.size, 2, none⟩ = some (.slice n.va n.values.length n.vc) := fun y => y.cell b2
  have u3 : ∀ y : Ext W, y.val.cell? ⟨w.heap.size, 3, none⟩ = some (.slice n.ia n.kids.length n.ic) := fun y => y.cell b3
  have u4 : ∀ y : Ext W, y.val.cell? ⟨g, off + i, none⟩ = some (.string x) := fun y => y.cell hc
  clear b0 b1 b2 b3 hc ha; refine qAk (by kernel_rfl) (by kernel_rfl) ?_
  repeat (go_big_quiet_step ((first | (go_at_call 62; exact qBb (qNe _ _ (by omega))) | (go_at_call 133; exact qBb (HVc.out _)))))
  refine wpQuiet_nil ?_; rintro _ ⟨y, rfl⟩; go_wp2_with fail
  go_ret; refine ⟨?_, HM.out.trans y.mod⟩; rw [<- qBi]; rfl
 | false =>
  rw [hl] at HE HM HN HBox; simp only [Bool.false_eq_true, if_false] at HE; rw [HE.out]; generalize hV : qEj n i = V at *; have HVc : Hid (∀ y : Ext (w.alloc (.cells #[.bool false, .slice n.ka n.keys.length n.kc, .slice n.va n.values.length n.vc, .slice n.ia n.kids.length n.ic] 123)), Calls Tryz.prog 134 #[.agg #[.bool false, .slice n.ka n.keys.length n.kc, .slice n.va n.values.length n.vc, .slice n.ia n.kids.length n.ic], .int .i64 i] y.val fun e w' => e = .returned (.int .i64 V) /\ Mod (fun _ => False) y.val w') := fun y => by
   have := qRf (HN.out.ext y.mod) i (by omega)
   rw [hV, hl] at this; exact this
  obtain ⟨m, hmx⟩ : ∃ m : Nat, max 0 V = m := ⟨(max 0 V).toNat, by omega⟩
  have s1 : (ba (qDu x)).size <= 8388628 := by rw [qAd]; have := qEv (s := x) (by omega); omega
  have s2 : (ba (uvar m)).size <= 10 := by rw [qAd]; exact qAq (by omega)
  rw [show (max 0 V).toNat = m by omega]
  go_enter Tryz.func135, Tryz.ntmps135
  go_wp2_with fail
  clear hV; generalize w.alloc (.cells #[.bool false, .slice n.ka n.keys.length n.kc, .slice n.va n.values.length n.vc, .slice n.ia n.kids.length n.ic] 123) = W at *; obtain ⟨b0, b1, b2, b3⟩ := cl4 HBox.out; obtain ⟨g, off, ha, hc⟩ := HN.out.k.one Hx.out; rw [ha] at b1 HVc ⊢; have u0 : ∀ y : Ext W, y.val.cell? ⟨w.heap.size, 0, none⟩ = some (.bool false) := fun y => y.cell b0
  have u1 : ∀ y : Ext W, y.val.cell? ⟨w.heap.size, 1, none⟩ = some (.slice (some ⟨g, off, none⟩) n.keys.length n.kc) := fun y => y.cell b1
  have u2 : ∀ y : Ext W, y.val.cell? ⟨w.heap.size, 2, none⟩ = some (.slice n.va n.values.length n.vc) := fun y => y.cell b2
  have u3 : ∀ y : Ext W, y.val.cell? ⟨w.heap.size, 3, none⟩ = some (.slice n.ia n.kids.length n.ic) := fun y => y.cell b3
  have u4 : ∀ y : Ext W, y.val.cell? ⟨g, off + i, none⟩ = some (.string x) := fun y => y.cell hc
  clear b0 b1 b2 b3 hc ha; refine qAk (by kernel_rfl) (by kernel_rfl) ?_
  repeat (go_big_quiet_step ((first | (go_at_call 62; exact qBb (qNe _ _ (by omega))) | (go_at_call 134; exact qBb (HVc.out _)) | (go_at_call 67; exact qBb (qDt m _ (by omega))))))
  refine wpQuiet_nil ?_; rintro _ ⟨y, rfl⟩; go_wp2_with fail
  go_ret; refine ⟨?_, HM.out.trans y.mod⟩; rw [<- qBi]; rfl
def jDl (leaf : Bool) (N : Nat) : List UInt8 := (if leaf then 1 else 2) :: uvar N
def upL (n : Nd) (k : Nat) : List UInt8 := jDl n.leaf n.keys.length ++ ((List.range k).map (qCm n)).flatMap (entL n.leaf)
theorem qSj (n : Nd) : upL n 0 = jDl n.leaf n.keys.length := by simp [upL]
theorem qSk (n : Nd) (k : Nat) : upL n (k + 1) = upL n k ++ entL n.leaf (qCm n k) := by
 unfold upL; rw [List.range_succ, List.map_append, List.flatMap_append]; simp
theorem qWv (n : Nd) : upL n n.keys.length = qAm n.leaf n.ents := by
 unfold upL qAm jDl; rw [qCj]; rfl
theorem qWu {w : World} {n : Nd} (h : NdAt w n) {k : Nat} (hk : k <= n.keys.length) : (upL n k).length <= 11 + k * 8388628 := by
 unfold upL jDl; have h1 := qAq (n := n.keys.length) (by have := h.bk; omega)
 have h2 := qRn (leaf := n.leaf) (es := (List.range k).map (qCm n)) (fun x hx => by
  obtain ⟨i, hi, rfl⟩ := List.mem_map.1 hx; exact qGj h (by have := List.mem_range.1 hi; omega))
 rw [List.length_map, List.length_range] at h2; rw [List.length_append, List.length_cons]; omega
theorem qFq (a b : List UInt8) : Lib.byteCells (a ++ b) = Lib.byteCells a ++ Lib.byteCells b := by simp [Lib.byteCells]
theorem qIb (a : List UInt8) : (Lib.byteCells a).length = a.length := by simp [Lib.byteCells]
set_option maxHeartbeats 2000000 in
theorem qVw {w : World} {n : Nd} (h : NdAt w n) (hl : n.leaf = true) : Calls Tryz.prog 105 #[.agg #[.bool true, .slice n.ka n.keys.length n.kc, .slice n.va n.values.length n.vc, .slice n.ia n.kids.length n.ic]] w fun e w' => e = .returned (.string (ba (qAm n.leaf n.ents))) /\ Mod (fun _ => False) w w' := by
 have hbk := h.bk; have hm0 : Mod (fun _ => False) w (w.alloc (.cells #[.bool true, .slice n.ka n.keys.length n.kc, .slice n.va n.values.length n.vc, .slice n.ia n.kids.length n.ic] 123)) := (Mod.refl _ _).alloc _
 have hbox : (w.alloc (.cells #[.bool true, .slice n.ka n.keys.length n.kc, .slice n.va n.values.length n.vc, .slice n.ia n.kids.length n.ic] 123)).heap[w.heap.size]? = some (.cells #[.bool true, .slice n.ka n.keys.length n.kc, .slice n.va n.values.length n.vc, .slice n.ia n.kids.length n.ic] 123 (0, 0)) := heap_alloc_new _ _; have hsz : (w.alloc (.cells #[.bool true, .slice n.ka n.keys.length n.kc, .slice n.va n.values.length n.vc, .slice n.ia n.kids.length n.ic] 123)).heap.size = w.heap.size + 1 := by simp
 have HN := hid h; have HN0 := hid (h.ext hm0); have HM0 := hid hm0; have HBox := hid hbox; have hB0 := Lib.fresh_isBuilder 208 5 (w.alloc (.cells #[.bool true, .slice n.ka n.keys.length n.kc, .slice n.va n.values.length n.vc, .slice n.ia n.kids.length n.ic] 123)); rw [hsz] at hB0; have HB0 := hid hB0; have HSz := hid hsz; have HL := hid hl; have HFin : Hid (∀ k, k < n.keys.length -> (upL n k).length + (entL n.leaf (qCm n k)).length <= 140737488355328) := fun k hk => by
  have h1 := qWu h (k := k) (by omega)
  have h2 := qHv n.leaf (qGj h hk); omega
 clear h hm0 hbox hB0 hsz hl; go_enter Tryz.func105, Tryz.ntmps105
 go_wp2_with fail
 have hWm : Mod (fun j => w.heap.size + 1 <= j) (w.alloc (.cells #[.bool true, .slice n.ka n.keys.length n.kc, .slice n.va n.values.length n.vc, .slice n.ia n.kids.length n.ic] 123)) ((w.alloc (.cells #[.bool true, .slice n.ka n.keys.length n.kc, .slice n.va n.values.length n.vc, .slice n.ia n.kids.length n.ic] 123)).alloc (.cells #[.pointer none, .slice none 0 0] 208)) := (Mod.refl _ _).alloc _
 generalize hWW : (w.alloc (.cells #[.bool true, .slice n.ka n.keys.length n.kc, .slice n.va n.values.length n.vc, .slice n.ia n.kids.length n.ic] 123)).alloc (.cells #[.pointer none, .slice none 0 0] 208) = W1 at *; clear hWW; refine (qCv _ _ _ _ _ HB0.out (by simp) (by have := hWm.size; rw [HSz.out] at this; exact this)).mono ?_
 rintro e w1 ⟨rfl, hb1, hbl1⟩; generalize hWa : w.alloc (.cells #[.bool true, .slice n.ka n.keys.length n.kc, .slice n.va n.values.length n.vc, .slice n.ia n.kids.length n.ic] 123) = Wa at *; have HM1 := hid (hWm.trans (Mod.of_below hbl1)); have HB1 := hid hb1; have up : ∀ w', Mod (fun j => w.heap.size + 1 <= j) Wa w' -> w'.heap[w.heap.size]? = some (.cells #[.bool true, .slice n.ka n.keys.length n.kc, .slice n.va n.values.length n.vc, .slice n.ia n.kids.length n.ic] 123 (0, 0)) := fun w' hm => (hm.block _ (lth HBox.out) (by omega)).trans HBox.out
 have HUp := hid up; obtain ⟨b0, b1, b2, b3⟩ := cl4 (HUp.out w1 HM1.out); clear up hb1 hbl1 hWm hWa
 ·skip
  go_wp2_with fail
  refine (qXr _ _ _ _ HB1.out).mono ?_; rintro e w2 ⟨rfl, hb2, hbl2⟩; have HB2a := hid hb2; have HM2a := hid (HM1.out.trans (Mod.of_below hbl2)); clear hb2 hbl2; go_wp2_with fail
  refine (qCv _ _ _ _ _ HB2a.out (by simp) (by have := HM2a.out.size; rw [HSz.out] at this; exact this)).mono ?_
  rintro e wc ⟨rfl, hb3, hbl3⟩; have HB2 := hid hb3; have HM2 := hid (HM2a.out.trans (Mod.of_below hbl3)); clear hb3 hbl3; obtain ⟨d0, d1, d2, d3⟩ := cl4 (HUp.out wc HM2.out); clear b0 b1 b2 b3; go_wp2_with fail
  refine (qDt n.keys.length wc (by omega)).mono ?_
  rintro e w3 ⟨rfl, hm3⟩; have HM3 := hid (HM2.out.trans (hm3.mono fun _ _ h => h.elim))
  have HB3 := hid (qIo HB2.out hm3); obtain ⟨f0, f1, f2, f3⟩ := cl4 (HUp.out w3 HM3.out); clear hm3 d0 d1 d2 d3; go_wp2_with fail
  refine (qBr _ _ _ _ _ HB3.out (by rw [qAd]; have := qAq (n := n.keys.length) (by omega); simp; omega) (by have := HM3.out.size; rw [HSz.out] at this; exact this)).mono ?_
  rintro e w4 ⟨rfl, hb4, hbl4⟩; have HM4 := hid (HM3.out.trans (Mod.of_below hbl4)); have HB4 : Hid (Lib.IsBuilder 208 5 (w.heap.size + 1) (w.heap.size + 1) (Lib.byteCells (upL n 0)) w4) := by
   rw [qSj, HL.out]; rw [qGl] at hb4; exact hb4
  obtain ⟨g0, g1, g2, g3⟩ := cl4 (HUp.out w4 HM4.out); clear hb4 hbl4 f0 f1 f2 f3; go_wp2_with fail
  go_loopw [19] (fun c wr => ∃ k : Nat, k <= n.keys.length /\ c = .int .i64 k /\ Lib.IsBuilder 208 5 (w.heap.size + 1) (w.heap.size + 1) (Lib.byteCells (upL n k)) wr /\ Mod (fun j => w.heap.size + 1 <= j) Wa wr) (fun c _ => n.keys.length - (intOf c).toNat)
  case atStart => exact ⟨0, Nat.zero_le _, rfl, HB4.out, HM4.out⟩
  case round =>
   obtain ⟨k, hk, rfl, hb, hm⟩ := hrel; have HB := hid hb; have HM := hid hm; obtain ⟨c0, c1, c2, c3⟩ := cl4 (HUp.out wr hm); clear hb hm g0 g1 g2 g3; by_cases hlt : k < n.keys.length
   ·have HE := hid (qHu (HN0.out.mod2 HM.out (fun j hj h => by rw [HSz.out] at hj; omega)) k hlt)
    have HF := hid (HFin.out k hlt); rw [HL.out] at HE; go_wp2_with fail
    refine HE.out.mono ?_; rintro e w5 ⟨rfl, hm5⟩; have HM5 := hid (HM.out.trans (hm5.mono fun _ _ h => h.elim))
    have HB5 := hid (qIo HB.out hm5); clear hm5 c0 c1 c2 c3; go_wp2_with fail
    refine (qBr _ _ _ _ _ HB5.out (by rw [qIb, qAd]; have := HF.out; rw [HL.out] at this; exact this) (by have := HM5.out.size; rw [HSz.out] at this; exact this)).mono ?_
    rintro e w6 ⟨rfl, hb6, hbl6⟩; have HM6 := hid (HM5.out.trans (Mod.of_below hbl6)); have HB6 : Hid (Lib.IsBuilder 208 5 (w.heap.size + 1) (w.heap.size + 1) (Lib.byteCells (upL n (k + 1))) w6) := by
     rw [qSk, HL.out]; rw [qGl, <- qFq] at hb6; exact hb6
    clear hb6 hbl6; go_wp2_with fail
    go_roundw
    case rel => exact ⟨k + 1, by omega, by go_num, HB6.out, HM6.out⟩
    case measure => simp [intOf]; omega
   ·have hke : k = n.keys.length := by omega
    subst hke; go_wp2_with fail
    refine (qGf _ _ _ _ HB.out (by have := HM.out.size; rw [HSz.out] at this; exact this)).mono ?_
    rintro e w5 ⟨rfl, hb5⟩; have HM5 := hid (HM.out.trans (Mod.of_below hb5)); clear hb5; go_wp2_with fail
    go_ret; rw [<- qWv]; exact ⟨rfl, HM0.out.then HM5.out (fun i hi h => by omega)⟩
set_option maxHeartbeats 2000000 in
theorem qRv {w : World} {n : Nd} (h : NdAt w n) (hl : n.leaf = false) : Calls Tryz.prog 105 #[.agg #[.bool false, .slice n.ka n.keys.length n.kc, .slice n.va n.values.length n.vc, .slice n.ia n.kids.length n.ic]] w fun e w' => e = .returned (.string (ba (qAm n.leaf n.ents))) /\ Mod (fun _ => False) w w' := by
 have hbk := h.bk; have hm0 : Mod (fun _ => False) w (w.alloc (.cells #[.bool false, .slice n.ka n.keys.length n.kc, .slice n.va n.values.length n.vc, .slice n.ia n.kids.length n.ic] 123)) := (Mod.refl _ _).alloc _
 have hbox : (w.alloc (.cells #[.bool false, .slice n.ka n.keys.length n.kc, .slice n.va n.values.length n.vc, .slice n.ia n.kids.length n.ic] 123)).heap[w.heap.size]? = some (.cells #[.bool false, .slice n.ka n.keys.length n.kc, .slice n.va n.values.length n.vc, .slice n.ia n.kids.length n.ic] 123 (0, 0)) := heap_alloc_new _ _; have hsz : (w.alloc (.cells #[.bool false, .slice n.ka n.keys.length n.kc, .slice n.va n.values.length n.vc, .slice n.ia n.kids.length n.ic] 123)).heap.size = w.heap.size + 1 := by simp
 have HN := hid h; have HN0 := hid (h.ext hm0); have HM0 := hid hm0; have HBox := hid hbox; have hB0 := Lib.fresh_isBuilder 208 5 (w.alloc (.cells #[.bool false, .slice n.ka n.keys.length n.kc, .slice n.va n.values.length n.vc, .slice n.ia n.kids.length n.ic] 123)); rw [hsz] at hB0; have HB0 := hid hB0; have HSz := hid hsz; have HL := hid hl; have HFin : Hid (∀ k, k < n.keys.length -> (upL n k).length + (entL n.leaf (qCm n k)).length <= 140737488355328) := fun k hk => by
  have h1 := qWu h (k := k) (by omega)
  have h2 := qHv n.leaf (qGj h hk); omega
 clear h hm0 hbox hB0 hsz hl; go_enter Tryz.func105, Tryz.ntmps105
 go_wp2_with fail
 have hWm : Mod (fun j => w.heap.size + 1 <= j) (w.alloc (.cells #[.bool false, .slice n.ka n.keys.length n.kc, .slice n.va n.values.length n.vc, .slice n.ia n.kids.length n.ic] 123)) ((w.alloc (.cells #[.bool false, .slice n.ka n.keys.length n.kc, .slice n.va n.values.length n.vc, .slice n.ia n.kids.length n.ic] 123)).alloc (.cells #[.pointer none, .slice none 0 0] 208)) := (Mod.refl _ _).alloc _
 generalize hWW : (w.alloc (.cells #[.bool false, .slice n.ka n.keys.length n.kc, .slice n.va n.values.length n.vc, .slice n.ia n.kids.length n.ic] 123)).alloc (.cells #[.pointer none, .slice none 0 0] 208) = W1 at *; clear hWW; refine (qCv _ _ _ _ _ HB0.out (by simp) (by have := hWm.size; rw [HSz.out] at this; exact this)).mono ?_
 rintro e w1 ⟨rfl, hb1, hbl1⟩; generalize hWa : w.alloc (.cells #[.bool false, .slice n.ka n.keys.length n.kc, .slice n.va n.values.length n.vc, .slice n.ia n.kids.length n.ic] 123) = Wa at *; have HM1 := hid (hWm.trans (Mod.of_below hbl1)); have HB1 := hid hb1; have up : ∀ w', Mod (fun j => w.heap.size + 1 <= j) Wa w' -> w'.heap[w.heap.size]? = some (.cells #[.bool false, .slice n.ka n.keys.length n.kc, .slice n.va n.values.length n.vc, .slice n.ia n.kids.length n.ic] 123 (0, 0)) := fun w' hm => (hm.block _ (lth HBox.out) (by omega)).trans HBox.out
 have HUp := hid up; obtain ⟨b0, b1, b2, b3⟩ := cl4 (HUp.out w1 HM1.out); clear up hb1 hbl1 hWm hWa
 ·skip
  have HB2 := HB1; have HM2 := HM1; obtain ⟨d0, d1, d2, d3⟩ := cl4 (HUp.out w1 HM2.out); clear b0 b1 b2 b3; go_wp2_with fail
  refine (qDt n.keys.length w1 (by omega)).mono ?_
  rintro e w3 ⟨rfl, hm3⟩; have HM3 := hid (HM2.out.trans (hm3.mono fun _ _ h => h.elim))
  have HB3 := hid (qIo HB2.out hm3); obtain ⟨f0, f1, f2, f3⟩ := cl4 (HUp.out w3 HM3.out); clear hm3 d0 d1 d2 d3; go_wp2_with fail
  refine (qBr _ _ _ _ _ HB3.out (by rw [qAd]; have := qAq (n := n.keys.length) (by omega); simp; omega) (by have := HM3.out.size; rw [HSz.out] at this; exact this)).mono ?_
  rintro e w4 ⟨rfl, hb4, hbl4⟩; have HM4 := hid (HM3.out.trans (Mod.of_below hbl4)); have HB4 : Hid (Lib.IsBuilder 208 5 (w.heap.size + 1) (w.heap.size + 1) (Lib.byteCells (upL n 0)) w4) := by
   rw [qSj, HL.out]; rw [qGl] at hb4; exact hb4
  obtain ⟨g0, g1, g2, g3⟩ := cl4 (HUp.out w4 HM4.out); clear hb4 hbl4 f0 f1 f2 f3; go_wp2_with fail
  go_loopw [19] (fun c wr => ∃ k : Nat, k <= n.keys.length /\ c = .int .i64 k /\ Lib.IsBuilder 208 5 (w.heap.size + 1) (w.heap.size + 1) (Lib.byteCells (upL n k)) wr /\ Mod (fun j => w.heap.size + 1 <= j) Wa wr) (fun c _ => n.keys.length - (intOf c).toNat)
  case atStart => exact ⟨0, Nat.zero_le _, rfl, HB4.out, HM4.out⟩
  case round =>
   obtain ⟨k, hk, rfl, hb, hm⟩ := hrel; have HB := hid hb; have HM := hid hm; obtain ⟨c0, c1, c2, c3⟩ := cl4 (HUp.out wr hm); clear hb hm g0 g1 g2 g3; by_cases hlt : k < n.keys.length
   ·have HE := hid (qHu (HN0.out.mod2 HM.out (fun j hj h => by rw [HSz.out] at hj; omega)) k hlt)
    have HF := hid (HFin.out k hlt); rw [HL.out] at HE; go_wp2_with fail
    refine HE.out.mono ?_; rintro e w5 ⟨rfl, hm5⟩; have HM5 := hid (HM.out.trans (hm5.mono fun _ _ h => h.elim))
    have HB5 := hid (qIo HB.out hm5); clear hm5 c0 c1 c2 c3; go_wp2_with fail
    refine (qBr _ _ _ _ _ HB5.out (by rw [qIb, qAd]; have := HF.out; rw [HL.out] at this; exact this) (by have := HM5.out.size; rw [HSz.out] at this; exact this)).mono ?_
    rintro e w6 ⟨rfl, hb6, hbl6⟩; have HM6 := hid (HM5.out.trans (Mod.of_below hbl6)); have HB6 : Hid (Lib.IsBuilder 208 5 (w.heap.size + 1) (w.heap.size + 1) (Lib.byteCells (upL n (k + 1))) w6) := by
     rw [qSk, HL.out]; rw [qGl, <- qFq] at hb6; exact hb6
    clear hb6 hbl6; go_wp2_with fail
    go_roundw
    case rel => exact ⟨k + 1, by omega, by go_num, HB6.out, HM6.out⟩
    case measure => simp [intOf]; omega
   ·have hke : k = n.keys.length := by omega
    subst hke; go_wp2_with fail
    refine (qGf _ _ _ _ HB.out (by have := HM.out.size; rw [HSz.out] at this; exact this)).mono ?_
    rintro e w5 ⟨rfl, hb5⟩; have HM5 := hid (HM.out.trans (Mod.of_below hb5)); clear hb5; go_wp2_with fail
    go_ret; rw [<- qWv]; exact ⟨rfl, HM0.out.then HM5.out (fun i hi h => by omega)⟩
theorem qQg {w : World} {n : Nd} (h : NdAt w n) : Calls Tryz.prog 105 #[.agg #[.bool n.leaf, .slice n.ka n.keys.length n.kc, .slice n.va n.values.length n.vc, .slice n.ia n.kids.length n.ic]] w fun e w' => e = .returned (.string (ba (qAm n.leaf n.ents))) /\ Mod (fun _ => False) w w' := by
 cases hl : n.leaf with
 | true => have := qVw h hl; rw [hl] at this; exact this
 | false => have := qRv h hl; rw [hl] at this; exact this
theorem qGd {w : World} {n : Nd} (h : NdAt w n) : Calls Tryz.prog 101 #[.agg #[.bool n.leaf, .slice n.ka n.keys.length n.kc, .slice n.va n.values.length n.vc, .slice n.ia n.kids.length n.ic]] w fun e w' => e = .returned (.int .i64 (qAm n.leaf n.ents).length) /\ Mod (fun _ => False) w w' := by
 have hm : Mod (fun _ => False) w (w.alloc (.cells #[.bool n.leaf, .slice n.ka n.keys.length n.kc, .slice n.va n.values.length n.vc, .slice n.ia n.kids.length n.ic] 123)) := (Mod.refl _ _).alloc _
 have HB := hid (qQg (h.ext hm)); have HM := hid hm; have hsz : (ba (qAm n.leaf n.ents)).size = (qAm n.leaf n.ents).length := qAd _; clear h hm; go_enter Tryz.func101, Tryz.ntmps101
 go_wp2_with fail
 refine HB.out.mono ?_; rintro e w1 ⟨rfl, hm1⟩; have HM1 := hid hm1; clear hm1; go_wp2_with fail
 go_ret; exact ⟨rfl, HM.out.trans HM1.out⟩
end
end Go.Proofs.YtkinkgbmlhiakaaGreatDoor
