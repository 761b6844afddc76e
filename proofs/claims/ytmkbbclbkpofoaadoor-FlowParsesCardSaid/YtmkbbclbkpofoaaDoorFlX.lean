/- Flow: the document's line: number -/
import Derived.Test.YtmkbbclbkpofoaaDoorFlU
namespace Go.Proofs.YtmkbbclbkpofoaaDoor
open Go Go.RowKit

theorem form_rest {l : List UInt8} {j : Nat} {b : UInt8} (h : l[j]? = some b) (hb : digB b = false) : formN l = false := by
  have : l.all digB = false := by
    rw [List.all_eq_false]
    exact ⟨b, List.mem_of_getElem? h, by rw [hb]; exact Bool.false_ne_true⟩
  unfold formN
  rw [this]
  rfl
theorem form_long {l : List UInt8} (h : 4 < l.length) : formN l = false := by
  unfold formN
  rw [decide_eq_false (by omega : ¬ l.length ≤ 4), Bool.and_false, Bool.false_and]
theorem form_zero {l : List UInt8} (h : l.head? = some 48) (h2 : 1 < l.length) : formN l = false := by
  unfold formN
  rw [h, decide_eq_true h2]
  simp
theorem form_yes {l : List UInt8} (h : l.all digB = true) (h2 : l.length ≤ 4) (h3 : ¬ (l.head? = some 48 ∧ 1 < l.length)) : formN l = true := by
  unfold formN
  rw [h, decide_eq_true h2]
  by_cases h4 : l.head? = some 48
  · rw [decide_eq_false (fun h5 => h3 ⟨h4, h5⟩), Bool.and_false]
    rfl
  · rw [beq_eq_false_iff_ne.2 h4]
    rfl

/-- The digits so far. -/
structure NumAt (l : List UInt8) (i : Nat) : Prop where
  le : i ≤ l.length
  four : i ≤ 4
  all : (l.take i).all digB = true
  lt : accN (l.take i) < 10 ^ i
theorem NumAt.small {l : List UInt8} {i : Nat} (h : NumAt l i) : accN (l.take i) ≤ 9999 := by
  have h1 := h.lt
  have h2 : 10 ^ i ≤ 10 ^ 4 := Nat.pow_le_pow_right (by decide) h.four
  have h3 : 10 ^ 4 = 10000 := by decide
  omega
theorem NumAt.next {l : List UInt8} {i : Nat} {b : UInt8} (h : NumAt l i) (hb : l[i]? = some b) (hd : digB b = true) (h4 : ¬ 3 < i) : NumAt l (i + 1) ∧ accN (l.take (i + 1)) = accN (l.take i) * 10 + (b.toNat - 48) := by
  have ht : l.take (i + 1) = l.take i ++ [b] := by rw [List.take_add_one, hb]; rfl
  have ha : accN (l.take (i + 1)) = accN (l.take i) * 10 + (b.toNat - 48) := by rw [ht, accN_snoc]
  have hlt := (List.getElem?_eq_some_iff.1 hb).1
  refine ⟨⟨by omega, by omega, ?_, ?_⟩, ha⟩
  · rw [ht, List.all_append, h.all, List.all_cons, hd]; rfl
  · rw [ha, Nat.pow_succ]
    have := h.lt
    unfold digB at hd
    simp only [Bool.and_eq_true, decide_eq_true_eq] at hd
    omega

theorem numQ_bad {a b : Int} {s : ByteArray} {r : Fs} (h : numS a b s = none) : runQ (numP a b) 0 (.good (s :: r)) = (0, .bad 102) := by unfold runQ; simp only; rw [num_bad h]
theorem numQ_ok {a b n : Int} {s : ByteArray} {r : Fs} (h : numS a b s = some n) : runQ (numP a b) 0 (.good (s :: r)) = (n, .good r) := by unfold runQ; simp only; rw [num_ok h]

set_option maxRecDepth 100000 in
set_option maxHeartbeats 8000000 in
theorem rnum_any {w : World} {L fc p : Nat} {fa : Option Addr} {f : Fs} {e : Int} (least most : Int) (h0 : 0 ≤ least) (h1 : most ≤ 100) (h : LA w L fa fc f p e) : Calls Tryd.prog 32 #[.pointer (some ⟨L, 0, none⟩), .int .i64 least, .int .i64 most] w fun e' w' => LQ (.int .i64) L fa fc f w (runQ (numP least most) 0 (rep f p e)) e' w' := by
  obtain ⟨b0, b1, b2, f1, f2⟩ := row3 h.box
  have hle := h.le
  have hln := h.len
  have HH := hid h
  by_cases he : e = 0
  case neg =>
    have e1 : (e == 0) = false := beq_eq_false_iff_ne.2 he
    have HR := hid (rep_bad f p he)
    have HV : Hid (runQ (numP least most) 0 (rep f p e) = (0, .bad e)) := hid (by rw [HR.out]; rfl)
    rw [HV.out]
    clear h he
    go_enter Tryd.func32, Tryd.ntmps32
    go_wp2_with fail
    go_ret
    exact ⟨rfl, Mod.refl _ _, p, e, HH.out, HR.out⟩
  case pos =>
    subst he
    rw [rep_good]
    have HE := hid (fun n : Nat => h.ext ((Mod.refl _ w).drewN n))
    by_cases hp : p < f.length
    case neg =>
      have i1 : (f.length : Int) ≤ (p : Int) := by omega
      have hd : f.drop p = [] := List.drop_eq_nil_of_le (by omega)
      have HV : Hid (runQ (numP least most) 0 (.good (f.drop p)) = (0, .bad 102)) := hid (by rw [hd]; rfl)
      rw [HV.out]
      clear h hd
      go_enter Tryd.func32, Tryd.ntmps32
      go_upto_region 3 with fail
      go_quiet (fail)
      go_wp2_with fail
      go_ret
      exact ⟨rfl, ((Mod.refl _ _).drewN _).trans (setL _ _ _ _), p, 102, (HE.out _).fault 102, rep_bad f p (by decide)⟩
    case pos =>
      have i1 : ¬ (f.length : Int) ≤ (p : Int) := by omega
      have i2 : (p : Int) < (f.length : Int) := by omega
      obtain ⟨g, off, s, hfa, hd, hs, q0, hgL, hfs⟩ := h.open hp
      have HS := hid hfs
      subst hfa
      obtain ⟨hsz, hs0⟩ := h.sz s hs
      have hlen : s.data.toList.length = s.size := by simp
      have HBad : Hid (¬ (formN s.data.toList = true ∧ least ≤ (accN s.data.toList : Int) ∧ (accN s.data.toList : Int) ≤ most) → runQ (numP least most) 0 (.good (s :: f.drop (p + 1))) = (0, .bad 102)) := hid (fun hf => numQ_bad (num_doc_none h0 h1 hf))
      have HOk : Hid (formN s.data.toList = true → least ≤ (accN s.data.toList : Int) → (accN s.data.toList : Int) ≤ most → runQ (numP least most) 0 (.good (s :: f.drop (p + 1))) = ((accN s.data.toList : Int), .good (f.drop (p + 1)))) := hid (fun hf ha hb => numQ_ok (num_doc h1 (fun e => by rw [e] at hlen; simp at hlen; omega) hf ha hb))
      have hN0 : NumAt s.data.toList 0 := ⟨Nat.zero_le _, Nat.zero_le _, rfl, by rw [List.take_zero]; decide⟩
      have HN0 := hid hN0
      rw [hd]
      generalize runQ (numP least most) 0 (.good (s :: f.drop (p + 1))) = x at *
      clear h hd hfs hN0
      go_enter Tryd.func32, Tryd.ntmps32
      go_upto_region 3 with fail
      go_quiet (fail)
      have HE1 := hid (HE.out nq)
      have HM1 : Hid (Mod (fun k => k = L) w (w.drewN nq)) := hid ((Mod.refl _ _).drewN nq)
      generalize w.drewN nq = V at *
      clear b0 b1 b2 f1 f2 q0
      obtain ⟨b0, b1, b2, f1, f2⟩ := row3 HE1.out.box
      have q0 := HE1.out.at' HS.out
      go_wp2_with fail
      go_quiet (fail)
      have HE2 := hid (HE1.out.ext ((Mod.refl _ V).drewN nq))
      have HM2 := hid (HM1.out.drewN nq)
      generalize V.drewN nq = V2 at *
      clear b0 b1 b2 f1 f2 q0
      go_upto_region 9 with fail
      go_loopw [8, 9] (fun sn si wr => ∃ i : Nat, sn = .int .i64 ((accN (s.data.toList.take i) : Nat) : Int) ∧ si = .int .i64 (i : Int) ∧ NumAt s.data.toList i ∧ wr = V2) (fun _ si _ => s.size - (intOf si).toNat)
      case atStart => exact ⟨0, rfl, rfl, HN0.out, rfl⟩
      case round =>
        obtain ⟨i, rfl, rfl, hn, rfl⟩ := hrel
        have HN := hid hn
        have hsm := hn.small
        have hil := hn.le
        have hi4 := hn.four
        rw [hlen] at hil
        clear hn
        obtain ⟨b0, b1, b2, f1, f2⟩ := row3 HE2.out.box
        generalize hm : accN (s.data.toList.take i) = m at *
        have HM := hid hm
        clear hm
        by_cases hlt : i < s.size
        case pos =>
          have HG := hid (get_list s i hlt)
          have HDg : Hid (digB s[i] = (decide (48 ≤ s[i].toNat) && decide (s[i].toNat ≤ 57))) := hid rfl
          by_cases g1 : s[i].toNat < 48
          · have q1 : (s[i].toNat : Int) < 48 := by omega
            have HX := hid (HBad.out (fun hf => by
              have := form_rest HG.out (by rw [HDg.out, decide_eq_false (by omega), Bool.false_and])
              rw [this] at hf
              exact Bool.false_ne_true hf.1))
            go_wp2_with fail
            go_ret
            rw [HX.out]
            exact ⟨rfl, HM2.out.trans (setL _ _ _ _), p, 102, HE2.out.fault 102, rep_bad f p (by decide)⟩
          · have q1 : ¬ (s[i].toNat : Int) < 48 := by omega
            by_cases g2 : 57 < s[i].toNat
            · have q2 : (57 : Int) < (s[i].toNat : Int) := by omega
              have HX := hid (HBad.out (fun hf => by
                have := form_rest HG.out (by rw [HDg.out, decide_eq_false (by omega : ¬ s[i].toNat ≤ 57), Bool.and_false])
                rw [this] at hf
                exact Bool.false_ne_true hf.1))
              go_wp2_with fail
              go_ret
              rw [HX.out]
              exact ⟨rfl, HM2.out.trans (setL _ _ _ _), p, 102, HE2.out.fault 102, rep_bad f p (by decide)⟩
            · have q2 : ¬ (57 : Int) < (s[i].toNat : Int) := by omega
              by_cases g3 : 3 < i
              · have q3 : (3 : Int) < (i : Int) := by omega
                have HX := hid (HBad.out (fun hf => by
                  have := form_long (l := s.data.toList) (by omega)
                  rw [this] at hf
                  exact Bool.false_ne_true hf.1))
                go_wp2_with fail
                go_ret
                rw [HX.out]
                exact ⟨rfl, HM2.out.trans (setL _ _ _ _), p, 102, HE2.out.fault 102, rep_bad f p (by decide)⟩
              · have q3 : ¬ (3 : Int) < (i : Int) := by omega
                have HX := hid (HN.out.next HG.out (by rw [HDg.out, decide_eq_true (by omega), decide_eq_true (by omega)]; rfl) g3)
                go_wp2_with fail
                go_roundw
                case rel =>
                  refine ⟨i + 1, ?_, by go_num, HX.out.1, trivial⟩
                  rw [HX.out.2, HM.out]
                  go_num
                case measure => simp [intOf]; omega
        case neg =>
          have hie : i = s.size := by omega
          subst hie
          have HT : Hid (accN s.data.toList = m) := hid (by rw [← HM.out, List.take_of_length_le (by omega)])
          have HAll : Hid (s.data.toList.all digB = true) := hid (by have := HN.out.all; rwa [List.take_of_length_le (by omega)] at this)
          rw [HT.out] at HBad HOk
          have HH0 : Hid (s.data.toList.head? = some s[0]) := hid (by rw [List.head?_eq_getElem?]; exact get_list s 0 hs0)
          by_cases hz : s[0] = 48 ∧ 1 < s.size
          · have z1 : ((s[0].toNat : Int) == 48) = true := by rw [hz.1]; rfl
            have z2 : (1 : Int) < (s.size : Int) := by omega
            have HX := hid (HBad.out (fun hf => by
              have := form_zero (l := s.data.toList) (by rw [HH0.out, hz.1]) (by omega)
              rw [this] at hf
              exact Bool.false_ne_true hf.1))
            go_wp2_with fail
            go_ret
            rw [HX.out]
            exact ⟨rfl, HM2.out.trans (setL _ _ _ _), p, 102, HE2.out.fault 102, rep_bad f p (by decide)⟩
          · have HF : Hid (formN s.data.toList = true) := hid (form_yes HAll.out (by omega) (fun hh => hz ⟨by have := hh.1; rw [HH0.out] at this; exact Option.some.inj this, by omega⟩))
            by_cases hlo : (m : Int) < least
            · have HX := hid (HBad.out (fun hf => by omega))
              by_cases hz1 : s[0] = 48
              · have z1 : ((s[0].toNat : Int) == 48) = true := by rw [hz1]; rfl
                have z2 : ¬ (1 : Int) < (s.size : Int) := fun h => hz ⟨hz1, by omega⟩
                clear hz
                go_wp2_with fail
                go_ret
                rw [HX.out]
                exact ⟨rfl, HM2.out.trans (setL _ _ _ _), p, 102, HE2.out.fault 102, rep_bad f p (by decide)⟩
              · have z1 : ((s[0].toNat : Int) == 48) = false := by
                  have : s[0].toNat ≠ (48 : UInt8).toNat := fun h => hz1 (UInt8.toNat_inj.1 h)
                  have h46 : (48 : UInt8).toNat = 48 := rfl
                  simp; omega
                clear hz
                go_wp2_with fail
                go_ret
                rw [HX.out]
                exact ⟨rfl, HM2.out.trans (setL _ _ _ _), p, 102, HE2.out.fault 102, rep_bad f p (by decide)⟩
            · by_cases hhi : most < (m : Int)
              · have HX := hid (HBad.out (fun hf => by omega))
                by_cases hz1 : s[0] = 48
                · have z1 : ((s[0].toNat : Int) == 48) = true := by rw [hz1]; rfl
                  have z2 : ¬ (1 : Int) < (s.size : Int) := fun h => hz ⟨hz1, by omega⟩
                  clear hz
                  go_wp2_with fail
                  go_ret
                  rw [HX.out]
                  exact ⟨rfl, HM2.out.trans (setL _ _ _ _), p, 102, HE2.out.fault 102, rep_bad f p (by decide)⟩
                · have z1 : ((s[0].toNat : Int) == 48) = false := by
                    have : s[0].toNat ≠ (48 : UInt8).toNat := fun h => hz1 (UInt8.toNat_inj.1 h)
                    have h46 : (48 : UInt8).toNat = 48 := rfl
                    simp; omega
                  clear hz
                  go_wp2_with fail
                  go_ret
                  rw [HX.out]
                  exact ⟨rfl, HM2.out.trans (setL _ _ _ _), p, 102, HE2.out.fault 102, rep_bad f p (by decide)⟩
              · have HX := hid (HOk.out HF.out (by omega) (by omega))
                by_cases hz1 : s[0] = 48
                · have z1 : ((s[0].toNat : Int) == 48) = true := by rw [hz1]; rfl
                  have z2 : ¬ (1 : Int) < (s.size : Int) := fun h => hz ⟨hz1, by omega⟩
                  clear hz
                  go_wp2_with fail
                  go_ret
                  rw [HX.out]
                  exact ⟨rfl, HM2.out.trans (setL _ _ _ _), p + 1, 0, HE2.out.next hp, rep_good f (p + 1)⟩
                · have z1 : ((s[0].toNat : Int) == 48) = false := by
                    have : s[0].toNat ≠ (48 : UInt8).toNat := fun h => hz1 (UInt8.toNat_inj.1 h)
                    have h46 : (48 : UInt8).toNat = 48 := rfl
                    simp; omega
                  clear hz
                  go_wp2_with fail
                  go_ret
                  rw [HX.out]
                  exact ⟨rfl, HM2.out.trans (setL _ _ _ _), p + 1, 0, HE2.out.next hp, rep_good f (p + 1)⟩

end Go.Proofs.YtmkbbclbkpofoaaDoor
