/- merged: RoKep -/
import Derived.Test.YtkinkgbmlhiakaaGreatDoorNd35
import Derived.Test.YtkinkgbmlhiakaaGreatDoorNd32
namespace Go.Proofs.YtkinkgbmlhiakaaGreatDoor
section
open Go Go.RowKit
noncomputable def KST : Keys Tryz.prog 9 ByteArray := jAa Tryz.underlying9
def oneT (s : ByteArray) : List Value := [.string s]
theorem qPq : (newD 1500).secs.length = 1500 := List.length_replicate ..
def cutS (n : ByteArray) : ByteArray := n.extract 0 (min n.size 20)
theorem jKg (n : ByteArray) : (cutS n).size <= 20 := by unfold cutS; rw [ByteArray.size_extract]; omega
def rowO (s : ByteArray) (o : Option Int) : List Vl := match o with
 | some v => rowS (s, v)
 | none => []
theorem qPa (s : ByteArray) (o : Option Int) (hs : s.size <= 20) (ho : ∀ v, o = some v -> I64 v) : qQq qIg (rowO s o) := by
 cases o with
 | none => exact ⟨Nat.zero_le _, fun x hx => by cases hx⟩
 | some v =>
  have hv := ho v rfl; have hs2 : (s ++ s).size = s.size + s.size := ByteArray.size_append; refine ⟨by show 3 <= _; omega, fun x hx => ?_⟩
  unfold rowO rowS at hx; simp only [List.mem_cons, List.not_mem_nil, or_false] at hx; rcases hx with rfl | rfl | rfl
  ·exact ⟨⟨qJz, qKa, by simp only; omega⟩, by simp only; omega⟩
  ·exact ⟨⟨hv.1, hv.2, qGz⟩, by simp only; decide⟩
  ·exact ⟨⟨qJz, qKa, by simp only; omega⟩, by simp only; omega⟩
theorem qVb {s : ByteArray} {o : Option Int} (hb : qDp s = true) (hs : s.size <= 20) (ho : ∀ v, o = some v -> I64 v) : rowK 107 qIg 1 1 (rowO s o) = o.map (fun v => ⟨kS s, vS (s, v), xS (s, v)⟩) := by
 cases o with
 | none => exact qPb _ _ _ _
 | some v => exact qGn ⟨hb, hs, (ho v rfl).1, (ho v rfl).2⟩
theorem qRe (s : ByteArray) (o : Option Int) : rowK 107 qIg 1 1 (rowO s o) = o.bind fun v => rowK 107 [1, 0, 1] 1 1 (rowS (s, v)) := by
 cases o with
 | none => exact qPb _ _ _ _
 | some v => rfl
theorem jJn {s : ByteArray} {o f : Option Int} (hs : s.size <= 20) (hb : qDp s = true \/ (o = none /\ f = none)) (ho : ∀ v, o = some v -> I64 v) (hf : ∀ v, f = some v -> I64 v) : ¬ RBad (rowK 107 qIg 1 1 (rowO s o)) (rowK 107 qIg 1 1 (rowO s f)) (rowO s o).length (rowO s f).length := by
 rcases hb with hb | ⟨rfl, rfl⟩
 ·rw [qVb hb hs ho, qVb hb hs hf]; rintro (⟨h1, h2⟩ | ⟨h1, h2⟩ | ⟨p, q, h1, h2, h3⟩)
  ·rw [Option.map_eq_none_iff] at h1; subst h1; exact absurd h2 (Nat.lt_irrefl 0)
  ·rw [Option.map_eq_none_iff] at h1; subst h1; exact absurd h2 (Nat.lt_irrefl 0)
  ·obtain ⟨a, _, rfl⟩ := Option.map_eq_some_iff.1 h1; obtain ⟨b, _, rfl⟩ := Option.map_eq_some_iff.1 h2; exact h3 rfl
 ·rintro (⟨_, h2⟩ | ⟨_, h2⟩ | ⟨p, q, h1, _⟩)
  ·exact absurd h2 (Nat.lt_irrefl 0)
  ·exact absurd h2 (Nat.lt_irrefl 0)
  ·have := qPb 107 qIg 1 1; rw [show rowO s none = [] from rfl, this] at h1
   cases h1
theorem k_bad {s : ByteArray} {v : Int} (hb : qDp s = false) (n : Nat) (R : Option PK) : RBad R (rowK 107 qIg 1 1 (rowO s (some v))) n (rowO s (some v)).length :=
 .inr (.inl ⟨jFf (m := (s, v)) hb, (by show 0 < 3; omega)⟩)
theorem jLr {V : World} {a b : Option Addr} {m : SV} (c d : Nat) (h1 : Lies V 2 Vl.cs a (rowS m)) (h2 : Lies V 2 Vl.cs b (rowS m)) : Calls Tryz.prog 22 #[.slice a 3 c, .slice b 3 d] V fun e w' => e = .returned (.bool true) /\ Mod (fun _ => False) V w' :=
 jAm (r := rowS m) c d h1 h2 (by unfold rowS; simp)
theorem qAb {P : Program} {ops : Array Oper} {Q : Exit -> Act -> World -> Prop} {md : Region.Mode} {S : World -> Prop} {i : Nat} {d : Tmp} {oi : Oper} {v : Value} {fuel : Nat} {listed : Array Bool} {a : Act} {w : World} (hi : ops[i]? = some oi) (hd : oi.dst = some d)
  (hs : Region.noSelect ops = true) (hf : Region.free md ops listed i = true) (hr : (Region.ready md ops listed).contains i = true)
  (hQ : ∀ c a w, Q (.panic c) (a.put (some d) v) w -> Q (.panic c) a w) (hy : YieldsIf P ops S oi v a) (hS : S w)
  (h : wpAnyH P md ops Q S fuel (listed.setIfInBounds i true) (a.put (some d) v) w) : wpAnyH P md ops Q S (fuel + 1) listed a w :=
 wpAnyH_take hi hs hf hr (by rw [hd]; exact hQ) hy hS (by rw [hd]; exact h)
theorem jHc (t : TypeId) (a b : ByteArray) : binOp .geq t (.string a) (.string b) = pure (.bool (!Op.bytesLess a.toList b.toList)) := by simp [binOp, Op.stringOp]
namespace RowsKept
set_option maxRecDepth 100000
set_option maxHeartbeats 8000000 in
theorem walk' (W : World) (na : Option Addr) (nc : Nat) (names : List ByteArray) (hl1 : Lies W 1 oneT na names) (h1 : ∀ s ∈ names, s.size <= 1048576) (hn1 : names.length <= 1048576) (va : Option Addr) (vc : Nat) (vals : List Int) (hl2 : Lies W 1 oneI va vals) (h2 : ∀ n ∈ vals, I64 n) (hn2 : vals.length <= 1048576) (ga : Option Addr) (gc : Nat) (gone : List Int) (hl3 : Lies W 1 oneI ga gone) (h3 : ∀ n ∈ gone, I64 n) (hn3 : gone.length <= 1048576) :
  Calls Tryz.prog 6 #[.slice na names.length nc, .slice va vals.length vc, .slice ga gone.length gc] W fun e w' => e = .returned (.bool true) /\ RowKit.Below W.heap.size W w' := by
 have HL1 := hid hl1; have HL2 := hid hl2; have HL3 := hid hl3; have HI1 := hid h1; have HI2 := hid h2; have HI3 := hid h3; have hmm := @run_makeMap Tryz.prog; clear hl1 hl2 hl3 h1 h2 h3; go_enter Tryz.func6, Tryz.ntmps6
 go_upto_region 3 with (go_at_call 9; refine (qXg _).mono ?_; rintro e w0 ⟨rfl, hm0⟩; have HM0 := hid hm0; clear hm0)
 have hbx := box2 w0 (.cells #[.int .i64 1, .int .i64 0, .int .i64 1] 44 (0, 0)) (kobj w0.heap.size); have HMe := hid (HM0.out.trans hbx.1); have HTb := hid hbx.2.2; have HLa : Hid (Lies ((w0.alloc (.cells #[.int .i64 1, .int .i64 0, .int .i64 1] 44 (0, 0))).alloc (kobj w0.heap.size)) 1 oneI (some ⟨w0.heap.size, 0, none⟩) qIg) := hid (qEg (fun _ => rfl) hbx.2.1)
 have hcs : ((w0.alloc (.cells #[.int .i64 1, .int .i64 0, .int .i64 1] 44 (0, 0))).alloc (kobj w0.heap.size)).heap.size = w0.heap.size + 2 := by simp
 clear hbx; go_upto_region 4 with fail
 generalize (w0.alloc (.cells #[.int .i64 1, .int .i64 0, .int .i64 1] 44 (0, 0))).alloc (kobj w0.heap.size) = C at *; have HNw := hid (jJg (w := C) 1500); go_upto_region 5 with (first
  | (go_at_call 8; refine HNw.out.mono ?_; rintro e w1 ⟨d, sa, rfl, hd0, hs0, hD, hm1⟩; have HD0 := hid hd0; have HS0 := hid hs0; have HD := hid hD; have HM1 := hid hm1; clear hd0 hs0 hD hm1)
  | (go_at_call 7; refine (jGx (room := 500) HD.out (by omega) (by omega) (by unfold jlen; rw [qPq]; omega) (by rw [qPq]; omega)).mono ?_; rintro e w2 ⟨B, rfl, hh, hb1, hb2, hb3, hlo, hm2⟩; have HH := hid hh; have HBr := hid hb3; have HNb := hid (qYw hb1 hb2 HD0.out HS0.out HM1.out.size hlo); have HM2 : Hid (Mod (fun k => C.heap.size <= k) C w2) := hid (((HM1.out.mono (fun _ _ e => e.elim)) : Mod (fun k => C.heap.size <= k) C _).trans (hm2.mono (fun k _ e => by rcases e with e | e; (have := HD0.out; omega); (exact HS0.out k e)))); clear hh hb1 hb2 hb3 hlo hm2))
 go_upto_region 8 with fail
 have hmp : qAv Value.string (w2.alloc (.map #[] 0)) w2.heap.size ([] : List (ByteArray × Value)) := qAv.made _ _; have hms : Mod (fun _ => False) w2 (w2.alloc (.map #[] 0)) := (Mod.refl _ _).alloc _
 have hs0 := HM0.out.size; have hs2 := HM2.out.size; have hok : KpOk W B w0.heap.size w2.heap.size := ⟨HBr.out, fun i e => by have := HNb.out i e; omega, fun i e => HH.out.tree.lt' e, hs0, by omega⟩
 have hsh := (qIu HM2.out).trans hms; have hrel0 : qJy W (w2.alloc (.map #[] 0)) B w0.heap.size w2.heap.size 0 newT (newD 1500) 0 [] 0 [] [] := ⟨HH.out.ext hms, jGm, ⟨List.nodup_nil, fun p => ⟨(fun e => by cases e), fun ⟨m, hm, _⟩ => by cases hm⟩⟩, hmp, (hsh.block _ (lth HTb.out) (fun e => e)).trans HTb.out, HLa.out.ext hsh, by omega, by simp, qPq, (HMe.out.trans hsh).mono (fun _ _ e => e.elim)⟩
 have HOk := hid hok; have HRel0 := hid hrel0; clear hmp hms hs0 hs2 hok hsh hrel0 hcs HNw HD HH HNb HM2 HM1 HM0 HTb HLa hmm; go_upto_block 0 with fail
 generalize w2.alloc (.map #[] 0) = E at *; go_cut [12] (fun _ wx => ∃ (i : Nat) (T : TM) (D : Dsk) (k : Nat) (L : List KV) (N : Nat) (M : List SV) (ls : List (ByteArray × Value)), i <= 60 /\ qJy W wx B w0.heap.size w2.heap.size i T D k L N M ls)
 case first =>
  go_wp2_with fail
  go_loopw [12] (fun si wr => ∃ (i : Nat) (T : TM) (D : Dsk) (k : Nat) (L : List KV) (N : Nat) (M : List SV) (ls : List (ByteArray × Value)), i <= 60 /\ si = .int .i64 (i : Int) /\ qJy W wr B w0.heap.size w2.heap.size i T D k L N M ls) (fun si _ => 60 - (intOf si).toNat)
  case atStart => exact ⟨0, _, _, _, _, _, _, _, by omega, rfl, HRel0.out⟩
  case round =>
   obtain ⟨i, T, D, k, L, N, M, ls, hi, rfl, hrel⟩ := hrel; have HRel := hid hrel; clear hrel; by_cases ha : i < names.length
   ·have da : decide (i < names.length) = true := by simpa using ha
    have da1 : decide ((i : Int) < (names.length : Int)) = true := by simpa using ha
    have dan : ¬ names.length <= i := by omega
    by_cases h60 : i < 60
    ·have d60 : decide ((i : Int) < 60) = true := by simp; omega
     obtain ⟨nm, hnm⟩ : ∃ nm, names[i]? = some nm := ⟨_, List.getElem?_eq_getElem ha⟩; have hnsz := HI1.out nm (List.mem_of_getElem? hnm); obtain ⟨g0, off0, rfl⟩ := HL1.out.some (by omega)
     have hlx := HL1.out.ext (qIu HRel.out.mod); have q0 := hlx.cell (fun _ => rfl) hnm (j := 0) rfl
     simp only [Nat.add_zero, Nat.mul_one] at q0; have hsl : ∀ v : World, (Instr.slice 9 (.string nm) none (some (.int .i64 (min (nm.size : Int) 20))) none).run Tryz.prog v = .ok (.string (cutS nm)) v := fun v => by
      have := run_slice_string_h (P := Tryz.prog) v 9 nm Tryz.underlying9 .i64 (min (nm.size : Int) 20) (by omega) (by omega)
      rw [show (min (nm.size : Int) 20).toNat = min nm.size 20 by omega] at this
      exact this
     clear hlx hnm; go_upto_region 12 with fail
     go_region
     have hss := jKg nm; have HRd := hid (HRel.out.ext ((Mod.refl (fun _ => False) wr).drew))
     clear q0 hsl HRel hnsz; generalize cutS nm = s at *; generalize wr.drew = V at *; go_upto_if 69 with fail
     go_cut [14] from 44 to 122 (fun vx wx => ∃ v, vx = .int .i64 v /\ I64 v /\ wx = V)
     case first =>
      by_cases hv : i < vals.length
      ·have dv : decide (i < vals.length) = true := by simpa using hv
       have dv1 : decide ((i : Int) < (vals.length : Int)) = true := by simpa using hv
       have dvn : ¬ vals.length <= i := by omega
       obtain ⟨u, hu⟩ : ∃ u, vals[i]? = some u := ⟨_, List.getElem?_eq_getElem hv⟩; have HU := hid (HI2.out u (List.mem_of_getElem? hu)); obtain ⟨g1, off1, rfl⟩ := HL2.out.some (by omega)
       have q1 := (HL2.out.ext (qIu HRd.out.mod)).cell (fun _ => rfl) hu (j := 0) rfl
       simp only [Nat.add_zero, Nat.mul_one] at q1; clear hu; go_wp2_with fail
       go_meet
       case rel => exact ⟨u, rfl, HU.out, rfl⟩
      ·have dv : decide (i < vals.length) = false := by simpa using hv
       have dv1 : decide ((i : Int) < (vals.length : Int)) = false := by simpa using hv
       go_wp2_with fail
       go_meet
       case rel => exact ⟨(i : Int), rfl, ⟨by omega, by omega⟩, rfl⟩
     case rest =>
      obtain ⟨v, rfl, hv, rfl⟩ := hcut; have HV := hid hv; obtain ⟨O, hO⟩ : ∃ O, mget M s = O := ⟨_, rfl⟩; have HGet : Hid (aget ls s = O.map (Value.int .i64)) := hid (by rw [<- hO]; exact HRd.out.met.get HRd.out.kept.srt s)
      have HO := hid hO; clear hv hO; go_upto_if 80 with (at_lookup; refine qDj rfl _ _ 69 true rfl KST Tryz.underlying69 (qXb _) w2.heap.size _ s rfl rfl HRd.out.map ?_; rw [HGet.out]; simp only [if_true])
      go_cut [15] from 44 to 122 (fun ox wx => ∃ (oa : Option Addr) (oc : Nat), ox = .slice oa (rowO s O).length oc /\ Lies wx 2 Vl.cs oa (rowO s O) /\ Mod (fun _ => False) wc wx)
      case first =>
       cases O with
       | none =>
        go_wp2_with fail
        go_meet
        case rel => exact ⟨none, 0, rfl, qVt _ _ _ _, Mod.refl _ _⟩
       | some u =>
        have HR := hid (fun V : World => qPp s u V (by omega))
        go_wp2_with (go_at_call 21; refine (HR.out _).mono ?_; rintro e w5 ⟨ra, rfl, hr, hm5⟩; have HRr := hid hr; have HM5 := hid hm5; clear hr hm5)
        go_meet
        case rel => exact ⟨ra, 3, rfl, HRr.out, HM5.out⟩
      case rest =>
       obtain ⟨oa, oc, rfl, hol, hmo⟩ := hcut; have HRo := hid (HRd.out.ext hmo); have HOl := hid hol; clear hol hmo HRd HGet; go_upto_region 21 with fail
       go_cut [97] from 44 to 122 (fun cx wx => ∃ b, cx = .bool b /\ wx = wc)
       case first =>
        by_cases hg : i < gone.length
        ·have dg : decide (gone.length <= i) = false := by simpa using hg
         have dg1 : decide ((gone.length : Int) <= (i : Int)) = false := by rw [decide_eq_false_iff_not]; omega
         have dgn : ¬ gone.length <= i := by omega
         obtain ⟨u, hu⟩ : ∃ u, gone[i]? = some u := ⟨_, List.getElem?_eq_getElem hg⟩; obtain ⟨g1, off1, rfl⟩ := HL3.out.some (by omega)
         have q1 := (HL3.out.ext (qIu HRo.out.mod)).cell (fun _ => rfl) hu (j := 0) rfl
         simp only [Nat.add_zero, Nat.mul_one] at q1; clear hu; go_wp2_with fail
         go_meet
         case rel => exact ⟨_, rfl, rfl⟩
        ·have dg : decide (gone.length <= i) = true := by simpa using hg
         have dg1 : decide ((gone.length : Int) <= (i : Int)) = true := by rw [decide_eq_true_iff]; omega
         go_wp2_with fail
         go_meet
         case rel => exact ⟨true, rfl, rfl⟩
       case rest =>
        obtain ⟨b, rfl, rfl⟩ := hcut; go_upto_if 97 with fail
        go_cut [16] from 44 to 122 (fun fx wx => ∃ (fr : Option Int) (fa : Option Addr) (fc : Nat), (∀ u, fr = some u -> u = v) /\ fx = .slice fa (rowO s fr).length fc /\ Lies wx 2 Vl.cs fa (rowO s fr) /\ Mod (fun _ => False) wc wx)
        case first =>
         cases b with
         | false =>
          go_wp2_with fail
          go_meet
          case rel => exact ⟨none, none, 0, (fun u e => by cases e), rfl, qVt _ _ _ _, Mod.refl _ _⟩
         | true =>
          have HR := hid (fun V : World => qPp s v V (by omega))
          go_wp2_with (go_at_call 21; refine (HR.out _).mono ?_; rintro e w5 ⟨ra, rfl, hr, hm5⟩; have HRr := hid hr; have HM5 := hid hm5; clear hr hm5)
          go_meet
          case rel => exact ⟨some v, ra, 3, (fun u e => by cases e; rfl), rfl, HRr.out, HM5.out⟩
        case rest =>
         obtain ⟨fr, fa, fc, hfr, rfl, hfl, hmf⟩ := hcut; have HRf := hid (HRo.out.ext hmf); have HOf := hid (HOl.out.ext hmf); have HFl := hid hfl; have HFr : Hid (∀ u, fr = some u -> I64 u) := hid (fun u e => by rw [hfr u e]; exact HV.out)
         have HFv := hid hfr; have HOk2 : Hid (∀ u, O = some u -> I64 u /\ qDp s = true) := hid (fun u e => by
          have h1 := HO.out; rw [e] at h1; have := HRf.out.kept.ok _ ((qEy HRf.out.kept.srt).1 h1); exact ⟨⟨this.lo, this.hi⟩, this.bare⟩)
         clear hfl hmf hfr HRo HOl; obtain ⟨b0, b1, b2, b3⟩ := row4 HRf.out.tab; by_cases hbad : qDp s = false /\ fr = some v
         ·have HCb := hid (qUa (name := 107) (keys := 1) (idx := 1) (cc := 3) (rc := oc) (fc := fc) HRf.out.la HOf.out HFl.out (by show 3 <= _; omega) (qPa s O hss (fun u e => (HOk2.out u e).1)) (qPa s fr hss HFr.out) (by rw [hbad.2]; exact k_bad hbad.1 _ _))
          clear hbad; go_wp2_with (go_at_call 10; refine HCb.out.mono ?_; rintro e w6 ⟨rfl, hm6⟩; have HM6 := hid hm6; clear hm6)
          go_roundw
          case rel => exact ⟨i + 1, T, D, k, L, N, M, ls, by omega, by go_num, (HRf.out.ext HM6.out).more⟩
          case measure => simp [intOf]; omega
         ·have hcase : qDp s = true \/ (O = none /\ fr = none) := by
           cases hb : qDp s with
           | true => exact .inl rfl
           | false =>
            refine .inr ⟨?_, ?_⟩
            ·cases hO : O with
             | none => rfl
             | some u =>
              have := (HOk2.out u hO).2; rw [hb] at this; cases this
            ·cases hf : fr with
             | none => rfl
             | some u => exact absurd ⟨hb, by rw [hf, HFv.out u hf]⟩ hbad
          have hun := jJn hss hcase (fun u e => (HOk2.out u e).1) HFr.out
          obtain ⟨cs, hcs⟩ : ∃ cs, qGl (rowK 107 qIg 1 1 (rowO s O)) (rowK 107 qIg 1 1 (rowO s fr)) = cs := ⟨_, rfl⟩; have HC := hid (jDl (cc := 3) (rc := oc) (fc := fc) HRf.out.la HOf.out HFl.out (by show 3 <= _; omega) (qPa s O hss (fun u e => (HOk2.out u e).1)) (qPa s fr hss HFr.out) hun hcs)
          have hck := jEj (jAz hun); rw [hcs] at hck; have hks := jBv HRf.out.kept (s := s) fr (fun u e => by
           rcases hcase with hb | ⟨_, hf⟩
           ·exact ⟨hb, hss, (HFr.out u e).1, (HFr.out u e).2⟩
           ·rw [hf] at e; cases e)
          rw [HO.out, <- qRe, <- qRe, hcs] at hks; have HKs := hid hks; have HCk := hid hck; have hc3 := hck.2; have HG : Hid (∀ c ∈ cs, c.key.size <= maxLen /\ c.value.size <= maxLen) := hid (fun c hc => by
           have := qJr hck.1 c hc; have h1 := this.key; have h2 := this.value; unfold maxLen; omega)
          clear hcase hun hcs hck hks hbad; go_upto_region 25 with (go_at_call 10; refine HC.out.mono ?_; rintro e w6 ⟨la6, cp6, rfl, hl6, hm6⟩; have HL6 := hid hl6; have HR6 := hid (HRf.out.ext hm6); clear hl6 hm6)
          have hkk := HR6.out.kk; have hll := HR6.out.ll; have hdd := HR6.out.dd; have hrm := HOk.out.room; have HA := hid (qYk HR6.out.here (by omega) cp6 HL6.out (by omega) HG.out)
          clear b0 b1 b2 b3 HC; go_upto_region 27 with (go_at_call 11; refine HA.out.mono ?_; intro e w7 ha; obtain ⟨rfl, T7, D7, N7, h7, hd7, hm7⟩ := HApp.made HR6.out.here ha HCk.out.1 (by omega) (by omega) hrm (by omega); have HH7 := hid h7; have HD7 := hid hd7; have HM7 := hid hm7; clear ha h7 hd7 hm7)
          have HMap7 : Hid (qAv Value.string w7 w2.heap.size ls) := hid (HR6.out.map.mod HM7.out (fun e => by have := HOk.out.lt _ e; omega))
          have HPut := hid (HR6.out.met.put s v); have HFew := hid (qWo cs (l := L)); clear hkk hll hdd hrm HA; cases fr with
          | none =>
           have hl0 : (rowO s none).length = 0 := rfl; go_wp2_with (refine qGj rfl _ _ 69 9 rfl KST Tryz.underlying69 w2.heap.size _ s rfl rfl HMap7.out ?_; intro w8 hat8 hm8; have HMap8 : Hid (qAv Value.string w8 w2.heap.size (qKz ls s)) := hid hat8; have HM8 := hid hm8; clear hat8 hm8)
           go_roundw
           case rel => exact ⟨i + 1, T7, D7, k + 1002, _, N7, _, _, by omega, by go_num, HR6.out.step HOk.out HM7.out HH7.out HD7.out HM8.out HMap8.out (HR6.out.met.del s) HKs.out (by have := HFew.out; omega)⟩
           case measure => simp [intOf]; omega
          | some u =>
           have hu := HFv.out u rfl; subst hu; have hl3 : (rowO s (some u)).length = 3 := rfl; go_wp2_with (first | (at_mapUpdate; refine qEc rfl _ _ _ 69 rfl KST Tryz.underlying69 w2.heap.size _ s (.int .i64 u) rfl rfl rfl HMap8.out HPut.out.1 ?_; intro w9 hat9 hm9; have HMap9 : Hid (qAv Value.string w9 w2.heap.size (qKz ls s ++ [(s, .int .i64 u)])) := hid hat9; have HM9 := hid (HM8.out.trans hm9); clear hat9 hm9) | (refine qGj rfl _ _ 69 9 rfl KST Tryz.underlying69 w2.heap.size _ s rfl rfl HMap7.out ?_; intro w8 hat8 hm8; have HMap8 : Hid (qAv Value.string w8 w2.heap.size (qKz ls s)) := hid hat8; have HM8 := hid hm8; clear hat8 hm8))
           go_roundw
           case rel => exact ⟨i + 1, T7, D7, k + 1002, _, N7, _, _, by omega, by go_num, HR6.out.step HOk.out HM7.out HH7.out HD7.out HM9.out HMap9.out HPut.out.2 HKs.out (by have := HFew.out; omega)⟩
           case measure => simp [intOf]; omega
    ·have d60 : decide ((i : Int) < 60) = false := by simp; omega
     go_wp2_with fail
     go_meet
     case rel => exact ⟨i, T, D, k, L, N, M, ls, hi, HRel.out⟩
   ·have da : decide (i < names.length) = false := by simpa using ha
    have da1 : decide ((i : Int) < (names.length : Int)) = false := by simpa using ha
    go_wp2_with fail
    go_meet
    case rel => exact ⟨i, T, D, k, L, N, M, ls, hi, HRel.out⟩
 case rest =>
  obtain ⟨i, T, D, k, L, N, M, ls, hi, hrel⟩ := hcut; have hml : M.length <= 180 := by
   have h1 := congrArg List.length (qVz hrel.kept); have h2 := List.length_filter_le (preB (ba (qAe 107 0))) L; have h3 := hrel.ll; rw [List.length_map] at h1; omega
  have HRel := hid hrel; obtain ⟨b0, b1, b2, b3⟩ := row4 hrel.tab; have HA := hid (k_all hrel hi); clear hrel; go_upto_region 31 with (go_at_call 14; refine HA.out.mono ?_; rintro e w4 ⟨hm4, xs, la, cap, rfl, hx4, hlen, hrow⟩; have HR4 := hid (HRel.out.ext hm4); have HX := hid hx4; have HLen := hid hlen; have HRow := hid hrow; clear hm4 hx4 hlen hrow)
  clear b0 b1 b2 b3 HA; have hln := qXs (P := Tryz.prog) 3 Tryz.underlying69 HR4.out.map; rw [HR4.out.met.len HR4.out.kept.srt] at hln; rw [HLen.out]; have dne : ((M.length : Int) != (M.length : Int)) = false := by simp
  go_upto_region 33 with fail
  clear hln dne; go_wp2_with fail
  go_loopw [140] (fun si wr => ∃ i : Nat, i <= M.length /\ si = .int .i64 (i : Int) /\ Mod (fun _ => False) w4 wr) (fun si _ => M.length - (intOf si).toNat)
  case atStart => exact ⟨0, Nat.zero_le _, rfl, Mod.refl _ _⟩
  case round =>
   obtain ⟨i, hil, rfl, hmr⟩ := hrel; have HMr := hid hmr; clear hmr; by_cases hlt : i < M.length
   ·have d0 : decide ((i : Int) < (M.length : Int)) = true := by simp; omega
    have d1 : decide (i < M.length) = true := by simpa using hlt
    have hdi : ¬ M.length <= i := by omega
    obtain ⟨m, hm⟩ : ∃ m, M[i]? = some m := ⟨_, List.getElem?_eq_getElem hlt⟩; obtain ⟨x, hx⟩ : ∃ x, xs[i]? = some x := ⟨_, List.getElem?_eq_getElem (by rw [HLen.out]; exact hlt)⟩
    have hvs := HRow.out i m x hm hx; have hxk := HX.out.ext HMr.out; obtain ⟨g, off, rfl⟩ := hxk.lies.some (by rw [HLen.out]; omega)
    have hr := hxk.rows x (List.mem_of_getElem? hx); rw [hvs] at hr; obtain ⟨g2, o2, hxa⟩ := hr.some (by show 0 < 3; omega)
    rw [hxa] at hr; have q0 : wr.cell? ⟨g, off + i, none⟩ = some (.slice (some ⟨g2, o2, none⟩) 3 x.cap) := by
     have := hxk.lies.cell qOy hx (j := 0) (u := .slice x.a x.vs.length x.cap) rfl; rw [hvs, hxa] at this; simp only [Nat.add_zero, Nat.mul_one] at this; exact this
    have c1 : wr.cell? ⟨g2, o2 + 1, none⟩ = some (.string m.1) := hr.cell qEl (i := 0) (x := ⟨0, m.1⟩) rfl (j := 1) rfl; have HRk := hid (HR4.out.ext HMr.out); have hmm := List.mem_of_getElem? hm; have hmo := HR4.out.kept.ok m hmm; have HGet : Hid (aget ls m.1 = some (.int .i64 m.2)) := hid (by rw [HR4.out.met.get HR4.out.kept.srt, (qEy HR4.out.kept.srt).2 hmm]; rfl)
    have HMo := hid hmo; have HMi := hid hm; have HRx := hid hr; clear hmm hmo hm hr hvs hxa hxk; go_upto_region 37 with (at_lookup; refine qDj rfl _ _ 69 true rfl KST Tryz.underlying69 (qXb _) w2.heap.size _ m.1 rfl rfl HRk.out.map ?_; rw [HGet.out]; simp only [if_true, Option.getD_some, Option.isSome_some])
    clear q0; go_cut [140, 186] from 140 to 231 (fun ix cx wx => ix = .int .i64 (i : Int) /\ cx = .bool false /\ Mod (fun _ => False) wr wx)
    case first =>
     have HKc := hid (fun V : World => qPp m.1 m.2 V (by have := HMo.out.size; omega))
     have HSm := hid (fun (V : World) (ra : Option Addr) (hmv : Mod (fun _ => False) wr V) (hra : Lies V 2 Vl.cs ra (rowS m)) => jLr x.cap 3 (HRx.out.ext hmv) hra)
     by_cases hpos : 0 < i
     ·have dp : decide ((0 : Int) < (i : Int)) = true := by rw [decide_eq_true_iff]; omega
      have dp2 : decide (0 < i) = true := by rw [decide_eq_true_iff]; omega
      obtain ⟨i1, hi1⟩ : ∃ i1, i = i1 + 1 := ⟨i - 1, by omega⟩
      have hlt1 : i1 < M.length := by omega
      obtain ⟨m1, hm1⟩ : ∃ m1, M[i1]? = some m1 := ⟨_, List.getElem?_eq_getElem hlt1⟩; obtain ⟨x1, hx1⟩ : ∃ x1, xs[i1]? = some x1 := ⟨_, List.getElem?_eq_getElem (by rw [HLen.out]; exact hlt1)⟩
      have hvs1 := HRow.out i1 m1 x1 hm1 hx1; have hxk := HX.out.ext HMr.out; have hr1 := hxk.rows x1 (List.mem_of_getElem? hx1); rw [hvs1] at hr1; obtain ⟨g3, o3, hxa1⟩ := hr1.some (by show 0 < 3; omega)
      rw [hxa1] at hr1; have p0 : wr.cell? ⟨g, off + i1, none⟩ = some (.slice (some ⟨g3, o3, none⟩) 3 x1.cap) := by
       have := hxk.lies.cell qOy hx1 (j := 0) (u := .slice x1.a x1.vs.length x1.cap) rfl; rw [hvs1, hxa1] at this; simp only [Nat.add_zero, Nat.mul_one] at this; exact this
      have p1 : wr.cell? ⟨g3, o3 + 1, none⟩ = some (.string m1.1) := hr1.cell qEl (i := 0) (x := ⟨0, m1.1⟩) rfl (j := 1) rfl; have hkl : Op.bytesLess m1.1.toList m.1.toList = true := by
       have h1 := List.pairwise_iff_getElem.1 HR4.out.kept.srt i1 i hlt1 hlt (by omega)
       obtain ⟨_, e1⟩ := List.getElem?_eq_some_iff.1 hm1; obtain ⟨_, e2⟩ := List.getElem?_eq_some_iff.1 HMi.out; rw [e1, e2] at h1; exact h1
      have hw : wrap64 ((i : Int) - 1) = (i1 : Int) := by rw [hi1]; unfold wrap64; omega
      have d4 : decide ((i1 : Int) < (M.length : Int)) = true := by rw [decide_eq_true_iff]; omega
      have d5 : decide (i1 < M.length) = true := by rw [decide_eq_true_iff]; omega
      have hdi1 : ¬ M.length <= i1 := by omega
      have HK1 : Hid (∀ V : World, Mod (fun _ => False) wr V -> V.cell? ⟨g2, o2 + 1, none⟩ = some (.string m.1) /\ V.cell? ⟨g, off + i1, none⟩ = some (.slice (some ⟨g3, o3, none⟩) 3 x1.cap) /\ V.cell? ⟨g3, o3 + 1, none⟩ = some (.string m1.1)) := hid (fun V hm => ⟨(⟨_, hm⟩ : Ext wr).cell c1, (⟨_, hm⟩ : Ext wr).cell p0, (⟨_, hm⟩ : Ext wr).cell p1⟩)
      clear hi1 hm1 hx1 hvs1 hxk hr1 hxa1 hpos; have HMZ : Hid (Mod (fun _ => False) wr wr.drew) := hid (Mod.refl _ wr).drew
      refine wp_region_held_drew (S := (fun w' => w'.cell? ⟨g2, o2 + 1, none⟩ = some (.string m.1) /\ w'.cell? ⟨g, off + i1, none⟩ = some (.slice (some ⟨g3, o3, none⟩) 3 x1.cap) /\ w'.cell? ⟨g3, o3 + 1, none⟩ = some (.string m1.1))) (by kernel_rfl) (HK1.out _ HMZ.out) (fun hHeld => ?_)
      generalize wr.drew = Z at *; refine qAb (i := 0) (d := 154) (v := .bool true) rfl rfl (by kernel_rfl) (by kernel_rfl) (by kernel_rfl) (fun _ _ _ h => h) (Or.inl ⟨by rfl, fun w' _ => by go_simp⟩) (by assumption) ?_
      simp only [Act.put, sTA, sC0, sC1]; refine qAb (i := 1) (d := 155) (v := .bool false) rfl rfl (by kernel_rfl) (by kernel_rfl) (by kernel_rfl) (fun _ _ _ h => h) (Or.inl ⟨by rfl, fun w' _ => by go_simp⟩) (by assumption) ?_
      simp only [Act.put, sTA, sC0, sC1]; refine qAb (i := 2) (d := 156) (v := .bool false) rfl rfl (by kernel_rfl) (by kernel_rfl) (by kernel_rfl) (fun _ _ _ h => h) (Or.inl ⟨by rfl, fun w' _ => by go_simp⟩) (by assumption) ?_
      simp only [Act.put, sTA, sC0, sC1]; refine qAb (i := 3) (d := 157) (v := .slice (some ⟨g2, o2, none⟩) 3 x.cap) rfl rfl (by kernel_rfl) (by kernel_rfl) (by kernel_rfl) (fun _ _ _ h => h) (Or.inl ⟨by simp [Region.wanted, yielded], fun w' _ => by go_simp⟩) (by assumption) ?_
      simp only [Act.put, sTA, sC0, sC1]; refine qAb (i := 4) (d := 158) (v := .func (.func 21) #[] #[]) rfl rfl (by kernel_rfl) (by kernel_rfl) (by kernel_rfl) (fun _ _ _ h => h) (Or.inl ⟨by simp [Region.wanted, yielded], fun w' _ => by go_simp⟩) (by assumption) ?_
      simp only [Act.put, sTA, sC0, sC1]; refine qAb (i := 5) (d := 159) (v := .slice (some ⟨g2, o2, none⟩) 3 x.cap) rfl rfl (by kernel_rfl) (by kernel_rfl) (by kernel_rfl) (fun _ _ _ h => h) (Or.inl ⟨by simp [Region.wanted, yielded], fun w' _ => by go_simp⟩) (by assumption) ?_
      simp only [Act.put, sTA, sC0, sC1]; refine qAb (i := 6) (d := 160) (v := .pointer (some ⟨g2, o2, none⟩)) rfl rfl (by kernel_rfl) (by kernel_rfl) (by kernel_rfl) (fun _ _ _ h => h) (Or.inl ⟨by simp [Region.wanted, yielded], fun w' _ => by go_simp⟩) (by assumption) ?_
      simp only [Act.put, sTA, sC0, sC1]; refine qAb (i := 7) (d := 161) (v := .pointer (some ⟨g2, o2 + 1, none⟩)) rfl rfl (by kernel_rfl) (by kernel_rfl) (by kernel_rfl) (fun _ _ _ h => h) (Or.inl ⟨by simp [Region.wanted, yielded], fun w' _ => by go_simp⟩) (by assumption) ?_
      simp only [Act.put, sTA, sC0, sC1]; refine qAb (i := 8) (d := 162) (v := .string m.1) rfl rfl (by kernel_rfl) (by kernel_rfl) (by kernel_rfl) (fun _ _ _ h => h) (Or.inl ⟨by simp [Region.wanted, yielded], fun w' hSw => by (obtain ⟨s0, s1, s2⟩ := hSw; go_simp)⟩) (by assumption) ?_
      simp only [Act.put, sTA, sC0, sC1]; refine qAb (i := 9) (d := 163) (v := .int .i64 m.2) rfl rfl (by kernel_rfl) (by kernel_rfl) (by kernel_rfl) (fun _ _ _ h => h) (Or.inl ⟨by simp [Region.wanted, yielded], fun w' _ => by go_simp⟩) (by assumption) ?_
      simp only [Act.put, sTA, sC0, sC1]; refine wpAnyH_ready (rs := [10]) (by kernel_rfl) (by simp) (AllReadyH.cons rfl (fun K hK => ?_) AllReadyH.nil)
      go_simp
      (with_reducible refine (HKc.out Z).mono ?_)
      rintro e w6 ⟨ra, rfl, hr6, hm6⟩; have HR6 := hid hr6; have HM6 : Hid (Mod (fun _ => False) wr w6) := hid (HMZ.out.trans hm6)
      clear hr6 hm6; refine hK.out _ _ (HK1.out _ HM6.out) (fun hU => ?_)
      clear hK K hHeld; have hHeld := hU; clear hU; try simp only [Act.put, sTA, sC0, sC1]
      refine wpAnyH_ready (rs := [11]) (by kernel_rfl) (by simp) (AllReadyH.cons rfl (fun K hK => ?_) AllReadyH.nil)
      go_simp
      (with_reducible refine (HSm.out w6 ra HM6.out HR6.out).mono ?_)
      rintro e w7 ⟨rfl, hm7⟩; have HM7 : Hid (Mod (fun _ => False) wr w7) := hid (HM6.out.trans hm7)
      clear hm7; refine hK.out _ _ (HK1.out _ HM7.out) (fun hU => ?_)
      clear hK K hHeld; have hHeld := hU; clear hU; try simp only [Act.put, sTA, sC0, sC1]
      refine qAb (i := 12) (d := 166) (v := .bool false) rfl rfl (by kernel_rfl) (by kernel_rfl) (by kernel_rfl) (fun _ _ _ h => h) (Or.inl ⟨by simp [Region.wanted, yielded], fun w' _ => by go_simp⟩) (by assumption) ?_
      simp only [Act.put, sTA, sC0, sC1]; refine qAb (i := 13) (d := 167) (v := .bool false) rfl rfl (by kernel_rfl) (by kernel_rfl) (by kernel_rfl) (fun _ _ _ h => h) (Or.inl ⟨by rfl, fun w' _ => by go_simp⟩) (by assumption) ?_
      simp only [Act.put, sTA, sC0, sC1]; refine qAb (i := 14) (d := 168) (v := .bool false) rfl rfl (by kernel_rfl) (by kernel_rfl) (by kernel_rfl) (fun _ _ _ h => h) (Or.inl ⟨by rfl, fun w' _ => by go_simp⟩) (by assumption) ?_
      simp only [Act.put, sTA, sC0, sC1]; refine qAb (i := 15) (d := 169) (v := .int .i64 (i : Int)) rfl rfl (by kernel_rfl) (by kernel_rfl) (by kernel_rfl) (fun _ _ _ h => h) (Or.inl ⟨by simp [Region.wanted, yielded], fun w' _ => by go_simp⟩) (by assumption) ?_
      simp only [Act.put, sTA, sC0, sC1]; refine qAb (i := 16) (d := 170) (v := .bool true) rfl rfl (by kernel_rfl) (by kernel_rfl) (by kernel_rfl) (fun _ _ _ h => h) (Or.inl ⟨by simp [Region.wanted, yielded], fun w' _ => by go_simp⟩) (by assumption) ?_
      simp only [Act.put, sTA, sC0, sC1]; refine qAb (i := 17) (d := 171) (v := .bool true) rfl rfl (by kernel_rfl) (by kernel_rfl) (by kernel_rfl) (fun _ _ _ h => h) (Or.inl ⟨by simp [Region.wanted, yielded], fun w' _ => by go_simp⟩) (by assumption) ?_
      simp only [Act.put, sTA, sC0, sC1]; refine qAb (i := 18) (d := 172) (v := .slice (some ⟨g, off, none⟩) M.length cap) rfl rfl (by kernel_rfl) (by kernel_rfl) (by kernel_rfl) (fun _ _ _ h => h) (Or.inl ⟨by simp [Region.wanted, yielded], fun w' _ => by go_simp⟩) (by assumption) ?_
      simp only [Act.put, sTA, sC0, sC1]; refine qAb (i := 19) (d := 173) (v := .int .i64 (i : Int)) rfl rfl (by kernel_rfl) (by kernel_rfl) (by kernel_rfl) (fun _ _ _ h => h) (Or.inl ⟨by simp [Region.wanted, yielded], fun w' _ => by go_simp⟩) (by assumption) ?_
      simp only [Act.put, sTA, sC0, sC1]; refine qAb (i := 20) (d := 174) (v := .int .i64 (i1 : Int)) rfl rfl (by kernel_rfl) (by kernel_rfl) (by kernel_rfl) (fun _ _ _ h => h) (Or.inl ⟨by simp [Region.wanted, yielded], fun w' _ => by (go_simp; simp only [IntWalk.i64_left]; exact hw)⟩) (by assumption) ?_
      simp only [Act.put, sTA, sC0, sC1]; refine qAb (i := 21) (d := 175) (v := .pointer (some ⟨g, off + i1, none⟩)) rfl rfl (by kernel_rfl) (by kernel_rfl) (by kernel_rfl) (fun _ _ _ h => h) (Or.inl ⟨by simp [Region.wanted, yielded], fun w' _ => by go_simp⟩) (by assumption) ?_
      simp only [Act.put, sTA, sC0, sC1]; refine qAb (i := 22) (d := 176) (v := .slice (some ⟨g3, o3, none⟩) 3 x1.cap) rfl rfl (by kernel_rfl) (by kernel_rfl) (by kernel_rfl) (fun _ _ _ h => h) (Or.inl ⟨by simp [Region.wanted, yielded], fun w' hSw => by (obtain ⟨s0, s1, s2⟩ := hSw; go_simp)⟩) (by assumption) ?_
      simp only [Act.put, sTA, sC0, sC1]; refine qAb (i := 23) (d := 177) (v := .pointer (some ⟨g3, o3, none⟩)) rfl rfl (by kernel_rfl) (by kernel_rfl) (by kernel_rfl) (fun _ _ _ h => h) (Or.inl ⟨by simp [Region.wanted, yielded], fun w' _ => by go_simp⟩) (by assumption) ?_
      simp only [Act.put, sTA, sC0, sC1]; refine qAb (i := 24) (d := 178) (v := .pointer (some ⟨g3, o3 + 1, none⟩)) rfl rfl (by kernel_rfl) (by kernel_rfl) (by kernel_rfl) (fun _ _ _ h => h) (Or.inl ⟨by simp [Region.wanted, yielded], fun w' _ => by go_simp⟩) (by assumption) ?_
      simp only [Act.put, sTA, sC0, sC1]; refine qAb (i := 25) (d := 179) (v := .string m1.1) rfl rfl (by kernel_rfl) (by kernel_rfl) (by kernel_rfl) (fun _ _ _ h => h) (Or.inl ⟨by simp [Region.wanted, yielded], fun w' hSw => by (obtain ⟨s0, s1, s2⟩ := hSw; go_simp)⟩) (by assumption) ?_
      simp only [Act.put, sTA, sC0, sC1]; refine qAb (i := 26) (d := 180) (v := .slice (some ⟨g2, o2, none⟩) 3 x.cap) rfl rfl (by kernel_rfl) (by kernel_rfl) (by kernel_rfl) (fun _ _ _ h => h) (Or.inl ⟨by simp [Region.wanted, yielded], fun w' _ => by go_simp⟩) (by assumption) ?_
      simp only [Act.put, sTA, sC0, sC1]; refine qAb (i := 27) (d := 181) (v := .pointer (some ⟨g2, o2, none⟩)) rfl rfl (by kernel_rfl) (by kernel_rfl) (by kernel_rfl) (fun _ _ _ h => h) (Or.inl ⟨by simp [Region.wanted, yielded], fun w' _ => by go_simp⟩) (by assumption) ?_
      simp only [Act.put, sTA, sC0, sC1]; refine qAb (i := 28) (d := 182) (v := .pointer (some ⟨g2, o2 + 1, none⟩)) rfl rfl (by kernel_rfl) (by kernel_rfl) (by kernel_rfl) (fun _ _ _ h => h) (Or.inl ⟨by simp [Region.wanted, yielded], fun w' _ => by go_simp⟩) (by assumption) ?_
      simp only [Act.put, sTA, sC0, sC1]; refine qAb (i := 29) (d := 183) (v := .string m.1) rfl rfl (by kernel_rfl) (by kernel_rfl) (by kernel_rfl) (fun _ _ _ h => h) (Or.inl ⟨by simp [Region.wanted, yielded], fun w' hSw => by (obtain ⟨s0, s1, s2⟩ := hSw; go_simp)⟩) (by assumption) ?_
      simp only [Act.put, sTA, sC0, sC1]; refine qAb (i := 30) (d := 184) (v := .bool false) rfl rfl (by kernel_rfl) (by kernel_rfl) (by kernel_rfl) (fun _ _ _ h => h) (Or.inl ⟨by simp [Region.wanted, yielded], fun w' _ => by (go_simp; rw [jHc, hkl]; rfl)⟩) (by assumption) ?_
      simp only [Act.put, sTA, sC0, sC1]; refine qAb (i := 31) (d := 185) (v := .bool false) rfl rfl (by kernel_rfl) (by kernel_rfl) (by kernel_rfl) (fun _ _ _ h => h) (Or.inl ⟨by simp [Region.wanted, yielded], fun w' _ => by go_simp⟩) (by assumption) ?_
      simp only [Act.put, sTA, sC0, sC1]; refine qAb (i := 32) (d := 186) (v := .bool false) rfl rfl (by kernel_rfl) (by kernel_rfl) (by kernel_rfl) (fun _ _ _ h => h) (Or.inl ⟨by rfl, fun w' _ => by go_simp⟩) (by assumption) ?_
      simp only [Act.put, sTA, sC0, sC1]; refine wpAnyH_done (by kernel_rfl) ?_ _
      clear hHeld; go_wp2_with fail
      go_meet
      case rel => exact ⟨rfl, rfl, HM7.out⟩
     ·have dp : decide ((0 : Int) < (i : Int)) = false := by rw [decide_eq_false_iff_not]; omega
      have dp2 : decide (0 < i) = false := by rw [decide_eq_false_iff_not]; omega
      have HK1 : Hid (∀ V : World, Mod (fun _ => False) wr V -> V.cell? ⟨g2, o2 + 1, none⟩ = some (.string m.1)) := hid (fun V hm => (⟨_, hm⟩ : Ext wr).cell c1)
      clear hpos; have HMZ : Hid (Mod (fun _ => False) wr wr.drew) := hid (Mod.refl _ wr).drew
      refine wp_region_held_drew (S := (fun w' => w'.cell? ⟨g2, o2 + 1, none⟩ = some (.string m.1))) (by kernel_rfl) (HK1.out _ HMZ.out) (fun hHeld => ?_)
      generalize wr.drew = Z at *; refine qAb (i := 0) (d := 154) (v := .bool true) rfl rfl (by kernel_rfl) (by kernel_rfl) (by kernel_rfl) (fun _ _ _ h => h) (Or.inl ⟨by rfl, fun w' _ => by go_simp⟩) (by assumption) ?_
      simp only [Act.put, sTA, sC0, sC1]; refine qAb (i := 1) (d := 155) (v := .bool false) rfl rfl (by kernel_rfl) (by kernel_rfl) (by kernel_rfl) (fun _ _ _ h => h) (Or.inl ⟨by rfl, fun w' _ => by go_simp⟩) (by assumption) ?_
      simp only [Act.put, sTA, sC0, sC1]; refine qAb (i := 2) (d := 156) (v := .bool false) rfl rfl (by kernel_rfl) (by kernel_rfl) (by kernel_rfl) (fun _ _ _ h => h) (Or.inl ⟨by rfl, fun w' _ => by go_simp⟩) (by assumption) ?_
      simp only [Act.put, sTA, sC0, sC1]; refine qAb (i := 3) (d := 157) (v := .slice (some ⟨g2, o2, none⟩) 3 x.cap) rfl rfl (by kernel_rfl) (by kernel_rfl) (by kernel_rfl) (fun _ _ _ h => h) (Or.inl ⟨by simp [Region.wanted, yielded], fun w' _ => by go_simp⟩) (by assumption) ?_
      simp only [Act.put, sTA, sC0, sC1]; refine qAb (i := 4) (d := 158) (v := .func (.func 21) #[] #[]) rfl rfl (by kernel_rfl) (by kernel_rfl) (by kernel_rfl) (fun _ _ _ h => h) (Or.inl ⟨by simp [Region.wanted, yielded], fun w' _ => by go_simp⟩) (by assumption) ?_
      simp only [Act.put, sTA, sC0, sC1]; refine qAb (i := 5) (d := 159) (v := .slice (some ⟨g2, o2, none⟩) 3 x.cap) rfl rfl (by kernel_rfl) (by kernel_rfl) (by kernel_rfl) (fun _ _ _ h => h) (Or.inl ⟨by simp [Region.wanted, yielded], fun w' _ => by go_simp⟩) (by assumption) ?_
      simp only [Act.put, sTA, sC0, sC1]; refine qAb (i := 6) (d := 160) (v := .pointer (some ⟨g2, o2, none⟩)) rfl rfl (by kernel_rfl) (by kernel_rfl) (by kernel_rfl) (fun _ _ _ h => h) (Or.inl ⟨by simp [Region.wanted, yielded], fun w' _ => by go_simp⟩) (by assumption) ?_
      simp only [Act.put, sTA, sC0, sC1]; refine qAb (i := 7) (d := 161) (v := .pointer (some ⟨g2, o2 + 1, none⟩)) rfl rfl (by kernel_rfl) (by kernel_rfl) (by kernel_rfl) (fun _ _ _ h => h) (Or.inl ⟨by simp [Region.wanted, yielded], fun w' _ => by go_simp⟩) (by assumption) ?_
      simp only [Act.put, sTA, sC0, sC1]; refine qAb (i := 8) (d := 162) (v := .string m.1) rfl rfl (by kernel_rfl) (by kernel_rfl) (by kernel_rfl) (fun _ _ _ h => h) (Or.inl ⟨by simp [Region.wanted, yielded], fun w' s0 => by go_simp⟩) (by assumption) ?_
      simp only [Act.put, sTA, sC0, sC1]; refine qAb (i := 9) (d := 163) (v := .int .i64 m.2) rfl rfl (by kernel_rfl) (by kernel_rfl) (by kernel_rfl) (fun _ _ _ h => h) (Or.inl ⟨by simp [Region.wanted, yielded], fun w' _ => by go_simp⟩) (by assumption) ?_
      simp only [Act.put, sTA, sC0, sC1]; refine wpAnyH_ready (rs := [10]) (by kernel_rfl) (by simp) (AllReadyH.cons rfl (fun K hK => ?_) AllReadyH.nil)
      go_simp
      (with_reducible refine (HKc.out Z).mono ?_)
      rintro e w6 ⟨ra, rfl, hr6, hm6⟩; have HR6 := hid hr6; have HM6 : Hid (Mod (fun _ => False) wr w6) := hid (HMZ.out.trans hm6)
      clear hr6 hm6; refine hK.out _ _ (HK1.out _ HM6.out) (fun hU => ?_)
      clear hK K hHeld; have hHeld := hU; clear hU; try simp only [Act.put, sTA, sC0, sC1]
      refine wpAnyH_ready (rs := [11]) (by kernel_rfl) (by simp) (AllReadyH.cons rfl (fun K hK => ?_) AllReadyH.nil)
      go_simp
      (with_reducible refine (HSm.out w6 ra HM6.out HR6.out).mono ?_)
      rintro e w7 ⟨rfl, hm7⟩; have HM7 : Hid (Mod (fun _ => False) wr w7) := hid (HM6.out.trans hm7)
      clear hm7; refine hK.out _ _ (HK1.out _ HM7.out) (fun hU => ?_)
      clear hK K hHeld; have hHeld := hU; clear hU; try simp only [Act.put, sTA, sC0, sC1]
      refine qAb (i := 12) (d := 166) (v := .bool false) rfl rfl (by kernel_rfl) (by kernel_rfl) (by kernel_rfl) (fun _ _ _ h => h) (Or.inl ⟨by simp [Region.wanted, yielded], fun w' _ => by go_simp⟩) (by assumption) ?_
      simp only [Act.put, sTA, sC0, sC1]; refine qAb (i := 13) (d := 167) (v := .bool false) rfl rfl (by kernel_rfl) (by kernel_rfl) (by kernel_rfl) (fun _ _ _ h => h) (Or.inl ⟨by rfl, fun w' _ => by go_simp⟩) (by assumption) ?_
      simp only [Act.put, sTA, sC0, sC1]; refine qAb (i := 14) (d := 168) (v := .bool false) rfl rfl (by kernel_rfl) (by kernel_rfl) (by kernel_rfl) (fun _ _ _ h => h) (Or.inl ⟨by rfl, fun w' _ => by go_simp⟩) (by assumption) ?_
      simp only [Act.put, sTA, sC0, sC1]; refine qAb (i := 15) (d := 169) (v := .int .i64 (i : Int)) rfl rfl (by kernel_rfl) (by kernel_rfl) (by kernel_rfl) (fun _ _ _ h => h) (Or.inl ⟨by simp [Region.wanted, yielded], fun w' _ => by go_simp⟩) (by assumption) ?_
      simp only [Act.put, sTA, sC0, sC1]; refine qAb (i := 16) (d := 170) (v := .bool false) rfl rfl (by kernel_rfl) (by kernel_rfl) (by kernel_rfl) (fun _ _ _ h => h) (Or.inl ⟨by simp [Region.wanted, yielded], fun w' _ => by go_simp⟩) (by assumption) ?_
      simp only [Act.put, sTA, sC0, sC1]; refine qAb (i := 17) (d := 171) (v := .bool false) rfl rfl (by kernel_rfl) (by kernel_rfl) (by kernel_rfl) (fun _ _ _ h => h) (Or.inl ⟨by simp [Region.wanted, yielded], fun w' _ => by go_simp⟩) (by assumption) ?_
      simp only [Act.put, sTA, sC0, sC1]; refine qAb (i := 18) (d := 172) (v := undef) rfl rfl (by kernel_rfl) (by kernel_rfl) (by kernel_rfl) (fun _ _ _ h => h) (Or.inr ⟨by simp [Region.wanted, yielded], rfl⟩) (by assumption) ?_
      simp only [Act.put, sTA, sC0, sC1]; refine qAb (i := 19) (d := 173) (v := undef) rfl rfl (by kernel_rfl) (by kernel_rfl) (by kernel_rfl) (fun _ _ _ h => h) (Or.inr ⟨by simp [Region.wanted, yielded], rfl⟩) (by assumption) ?_
      simp only [Act.put, sTA, sC0, sC1]; refine qAb (i := 20) (d := 174) (v := undef) rfl rfl (by kernel_rfl) (by kernel_rfl) (by kernel_rfl) (fun _ _ _ h => h) (Or.inr ⟨by simp [Region.wanted, yielded], rfl⟩) (by assumption) ?_
      simp only [Act.put, sTA, sC0, sC1]; refine qAb (i := 21) (d := 175) (v := undef) rfl rfl (by kernel_rfl) (by kernel_rfl) (by kernel_rfl) (fun _ _ _ h => h) (Or.inr ⟨by simp [Region.wanted, yielded], rfl⟩) (by assumption) ?_
      simp only [Act.put, sTA, sC0, sC1]; refine qAb (i := 22) (d := 176) (v := undef) rfl rfl (by kernel_rfl) (by kernel_rfl) (by kernel_rfl) (fun _ _ _ h => h) (Or.inr ⟨by simp [Region.wanted, yielded], rfl⟩) (by assumption) ?_
      simp only [Act.put, sTA, sC0, sC1]; refine qAb (i := 23) (d := 177) (v := undef) rfl rfl (by kernel_rfl) (by kernel_rfl) (by kernel_rfl) (fun _ _ _ h => h) (Or.inr ⟨by simp [Region.wanted, yielded], rfl⟩) (by assumption) ?_
      simp only [Act.put, sTA, sC0, sC1]; refine qAb (i := 24) (d := 178) (v := undef) rfl rfl (by kernel_rfl) (by kernel_rfl) (by kernel_rfl) (fun _ _ _ h => h) (Or.inr ⟨by simp [Region.wanted, yielded], rfl⟩) (by assumption) ?_
      simp only [Act.put, sTA, sC0, sC1]; refine qAb (i := 25) (d := 179) (v := undef) rfl rfl (by kernel_rfl) (by kernel_rfl) (by kernel_rfl) (fun _ _ _ h => h) (Or.inr ⟨by simp [Region.wanted, yielded], rfl⟩) (by assumption) ?_
      simp only [Act.put, sTA, sC0, sC1]; refine qAb (i := 26) (d := 180) (v := undef) rfl rfl (by kernel_rfl) (by kernel_rfl) (by kernel_rfl) (fun _ _ _ h => h) (Or.inr ⟨by simp [Region.wanted, yielded], rfl⟩) (by assumption) ?_
      simp only [Act.put, sTA, sC0, sC1]; refine qAb (i := 27) (d := 181) (v := undef) rfl rfl (by kernel_rfl) (by kernel_rfl) (by kernel_rfl) (fun _ _ _ h => h) (Or.inr ⟨by simp [Region.wanted, yielded], rfl⟩) (by assumption) ?_
      simp only [Act.put, sTA, sC0, sC1]; refine qAb (i := 28) (d := 182) (v := undef) rfl rfl (by kernel_rfl) (by kernel_rfl) (by kernel_rfl) (fun _ _ _ h => h) (Or.inr ⟨by simp [Region.wanted, yielded], rfl⟩) (by assumption) ?_
      simp only [Act.put, sTA, sC0, sC1]; refine qAb (i := 29) (d := 183) (v := undef) rfl rfl (by kernel_rfl) (by kernel_rfl) (by kernel_rfl) (fun _ _ _ h => h) (Or.inr ⟨by simp [Region.wanted, yielded], rfl⟩) (by assumption) ?_
      simp only [Act.put, sTA, sC0, sC1]; refine qAb (i := 30) (d := 184) (v := undef) rfl rfl (by kernel_rfl) (by kernel_rfl) (by kernel_rfl) (fun _ _ _ h => h) (Or.inr ⟨by simp [Region.wanted, yielded], rfl⟩) (by assumption) ?_
      simp only [Act.put, sTA, sC0, sC1]; refine qAb (i := 31) (d := 185) (v := .bool false) rfl rfl (by kernel_rfl) (by kernel_rfl) (by kernel_rfl) (fun _ _ _ h => h) (Or.inl ⟨by simp [Region.wanted, yielded], fun w' _ => by go_simp⟩) (by assumption) ?_
      simp only [Act.put, sTA, sC0, sC1]; refine qAb (i := 32) (d := 186) (v := .bool false) rfl rfl (by kernel_rfl) (by kernel_rfl) (by kernel_rfl) (fun _ _ _ h => h) (Or.inl ⟨by rfl, fun w' _ => by go_simp⟩) (by assumption) ?_
      simp only [Act.put, sTA, sC0, sC1]; refine wpAnyH_done (by kernel_rfl) ?_ _
      clear hHeld; go_wp2_with fail
      go_meet
      case rel => exact ⟨rfl, rfl, HM7.out⟩
    case rest =>
     obtain ⟨rfl, rfl, hmc⟩ := hcut; have HM3 := hid (HMr.out.trans hmc); have HR5 := hid (HR4.out.ext HM3.out); clear hmc c1; obtain ⟨b0, b1, b2, b3⟩ := row4 HR5.out.tab; have HF := hid (jLt HR5.out HMo.out.lo HMo.out.hi); go_upto_region 40 with (go_at_call 15; refine HF.out.mono ?_; rintro e w5 ⟨hm5, ys, lb, capb, rfl, hy5, hylen, hyrow⟩; have HM5 := hid (HM3.out.trans hm5); have HY := hid hy5; have HYl := hid hylen; have HYr := hid hyrow; clear hm5 hy5 hylen hyrow)
     clear b0 b1 b2 b3 HF; have HX5 := hid (HX.out.ext HM5.out); rw [HYl.out]; have hgl : (M.filter fun m' => decide (m'.2 = m.2)).length <= 180 := by have := List.length_filter_le (fun m' : SV => decide (m'.2 = m.2)) M; omega
     obtain ⟨gl, hgle⟩ : ∃ gl, (M.filter fun m' => decide (m'.2 = m.2)).length = gl := ⟨_, rfl⟩
     rw [hgle] at hgl HYl; rw [hgle]; have HGl := hid hgle; clear hgle; go_upto_block 3 with fail
     go_wp2_with fail
     go_loopw [29, 197] (fun sn sj wr => ∃ j : Nat, j <= M.length /\ sn = .int .i64 ((((M.take j).filter fun m' => decide (m'.2 = m.2)).length : Nat) : Int) /\ sj = .int .i64 (j : Int) /\ Mod (fun _ => False) w5 wr) (fun _ sj _ => M.length - (intOf sj).toNat)
     case atStart => exact ⟨0, Nat.zero_le _, rfl, rfl, Mod.refl _ _⟩
     case round =>
      obtain ⟨j, hjl, rfl, rfl, hmj⟩ := hrel; have HMj := hid hmj; clear hmj; by_cases hltj : j < M.length
      ·have e0 : decide ((j : Int) < (M.length : Int)) = true := by rw [decide_eq_true_iff]; omega
       have e1 : decide (j < M.length) = true := by rw [decide_eq_true_iff]; omega
       have hdj : ¬ M.length <= j := by omega
       obtain ⟨mj, hmj⟩ : ∃ mj, M[j]? = some mj := ⟨_, List.getElem?_eq_getElem hltj⟩; obtain ⟨y, hy⟩ : ∃ y, xs[j]? = some y := ⟨_, List.getElem?_eq_getElem (by rw [HLen.out]; exact hltj)⟩
       have hvj := HRow.out j mj y hmj hy; have hyk := HX5.out.ext HMj.out; have hrj := hyk.rows y (List.mem_of_getElem? hy); rw [hvj] at hrj; obtain ⟨g4, o4, hya⟩ := hrj.some (by show 0 < 3; omega)
       rw [hya] at hrj; have q0 : wr.cell? ⟨g, off + j, none⟩ = some (.slice (some ⟨g4, o4, none⟩) 3 y.cap) := by
        have := hyk.lies.cell qOy hy (j := 0) (u := .slice y.a y.vs.length y.cap) rfl; rw [hvj, hya] at this; simp only [Nat.add_zero, Nat.mul_one] at this; exact this
       have c2 : wr.cell? ⟨g4, o4 + 2, none⟩ = some (.int .i64 mj.2) := hrj.cell qEl (i := 1) (x := ⟨mj.2, ⟨#[]⟩⟩) rfl (j := 0) rfl; have hmore := qTw (fun m' : SV => decide (m'.2 = m.2)) hmj
       obtain ⟨n, hn⟩ : ∃ n, ((M.take j).filter fun m' => decide (m'.2 = m.2)).length = n := ⟨_, rfl⟩
       rw [hn] at hmore; rw [hn]; by_cases heq : mj.2 = m.2
       ·have deq : (mj.2 == m.2) = true := by simpa using heq
        have hat := qRz (fun m' : SV => decide (m'.2 = m.2)) M j mj hmj (by simpa using heq)
        rw [hn] at hat; rw [if_pos (by simpa using heq)] at hmore
        have hng := (List.getElem?_eq_some_iff.1 hat).1; rw [HGl.out] at hng; obtain ⟨yf, hyf⟩ : ∃ yf, ys[n]? = some yf := ⟨_, List.getElem?_eq_getElem (by rw [HYl.out]; exact hng)⟩
        have hvf := HYr.out n mj yf hat hyf; have hfk := HY.out.ext HMj.out; obtain ⟨g5, o5, rfl⟩ := hfk.lies.some (by rw [HYl.out]; omega)
        have hrf := hfk.rows yf (List.mem_of_getElem? hyf); rw [hvf] at hrf; obtain ⟨g6, o6, hyfa⟩ := hrf.some (by show 0 < 3; omega)
        rw [hyfa] at hrf; have r0 : wr.cell? ⟨g5, o5 + n, none⟩ = some (.slice (some ⟨g6, o6, none⟩) 3 yf.cap) := by
         have := hfk.lies.cell qOy hyf (j := 0) (u := .slice yf.a yf.vs.length yf.cap) rfl; rw [hvf, hyfa] at this; simp only [Nat.add_zero, Nat.mul_one] at this; exact this
        have HSm := hid (jLr yf.cap y.cap hrf hrj); have d6 : decide ((gl : Int) <= (n : Int)) = false := by rw [decide_eq_false_iff_not]; omega
        have d7 : decide (gl <= n) = false := by rw [decide_eq_false_iff_not]; omega
        have hdn : ¬ gl <= n := by omega
        have HMore := hid hmore; clear heq hat hn hmore hvj hyk hrj hya hvf hfk hrf hyfa hyf hy hmj; go_wp2_with (go_at_call 22; refine HSm.out.mono ?_; rintro e w7 ⟨rfl, hm7⟩; have HM7 := hid (HMj.out.trans hm7); clear hm7)
        go_roundw
        case rel => exact ⟨j + 1, by omega, by rw [HMore.out]; go_num, by go_num, HM7.out⟩
        case measure => simp [intOf]; omega
       ·have deq : (mj.2 == m.2) = false := by simpa using heq
        rw [if_neg (by simpa using heq)] at hmore
        have HMore := hid hmore; clear heq hn hmore hvj hyk hrj hya hy hmj; go_wp2_with fail
        go_roundw
        case rel => exact ⟨j + 1, by omega, by rw [HMore.out]; rfl, by go_num, HMj.out⟩
        case measure => simp [intOf]; omega
      ·have hje : j = M.length := by omega
       have e0 : decide ((j : Int) < (M.length : Int)) = false := by rw [decide_eq_false_iff_not]; omega
       have e1 : decide (j < M.length) = false := by rw [decide_eq_false_iff_not]; omega
       have hfull : ((M.take j).filter fun m' => decide (m'.2 = m.2)).length = gl := by rw [hje, List.take_length, HGl.out]
       rw [hfull]; have dnn : ((gl : Int) != (gl : Int)) = false := by simp
       clear hfull hje hltj; go_wp2_with fail
       go_roundw
       case rel => exact ⟨i + 1, by omega, by go_num, HM5.out.trans HMj.out⟩
       case measure => simp [intOf]; omega
   ·have hie : i = M.length := by omega
    have d0 : decide ((i : Int) < (M.length : Int)) = false := by rw [decide_eq_false_iff_not]; omega
    have d1 : decide (i < M.length) = false := by rw [decide_eq_false_iff_not]; omega
    have HFin : Hid (RowKit.Below W.heap.size W wr) := hid ((qIu (HR4.out.ext HMr.out).mod).below (Nat.le_refl _) (fun _ e => e.elim))
    clear hie hlt; go_wp2_with fail
    go_ret; exact ⟨rfl, HFin.out⟩
end RowsKept
end
end Go.Proofs.YtkinkgbmlhiakaaGreatDoor
