/- merged: Dec -/
import Derived.Test.YtgbcibdfeeiilaaGreatDoorMe15
import Derived.Deep.DeepCutAuto
namespace Go.Proofs.YtgbcibdfeeiilaaGreatDoor
section
open Go Go.RowKit
def qKw (V : World) (s : ByteArray) (leaf : Bool) (L B cnt a0 : Nat) (sat se si : Value) (wr : World) : Prop :=
 ∃ i a e : Nat, sat = .int .i64 (a : Int) /\ se = .int .i64 (e : Int) /\ si = .int .u64 (i : Int) /\ i <= 1048577 /\ Mod (fun k => L <= k) V wr ∧
  ((e = 0 /\ decP s = qKt leaf s (qFh leaf s cnt a0) /\ ∃ es m, Has m leaf es /\ Hold wr L B m /\ es.length = i /\ i <= cnt /\ a <= s.size /\ es.length <= a /\ (∀ x ∈ es, x.Ok) /\ pre es (qFh leaf s (cnt - i) a) = qFh leaf s cnt a0) \/ (e ≠ 0 /\ i <= 1048577 /\ decP s = none))
theorem jFe {m : Nd} {es : List Ent} (h : Has m true es) (t v : ByteArray) (a1 a2 : Option Addr) (c1 c2 : Nat) : Has { { m with keys := m.keys ++ [t], ka := a1, kc := c1 } with values := m.values ++ [v], va := a2, vc := c2 } true (es ++ [⟨t, v, 0⟩]) :=
 ⟨h.l, by simp [h.k], by simp [h.v], by simp [h.i]⟩
theorem jAw {m : Nd} {es : List Ent} (h : Has m false es) (t : ByteArray) (k : Int) (a1 a2 : Option Addr) (c1 c2 : Nat) : Has { { m with keys := m.keys ++ [t], ka := a1, kc := c1 } with kids := m.kids ++ [k], ia := a2, ic := c2 } false (es ++ [⟨t, emp, k⟩]) :=
 ⟨h.l, by simp [h.k], by simp [h.v], by simp [h.i]⟩
theorem qEm {w V wr : World} (h : Mod (fun _ => False) w V) (h2 : Mod (fun k => w.heap.size + 1 <= k) V wr) : Mod (fun _ => False) w wr := h.then h2 (fun i hi e => by omega)
theorem qDg {w X : World} (h : Mod (fun _ => False) w X) : qOt w none (.returned (.tuple #[.agg #[.bool false, .slice none 0 0, .slice none 0 0, .slice none 0 0], .int .i64 40])) ((((X.setCell ⟨w.heap.size, 0, none⟩ (.bool false)).setCell ⟨w.heap.size, 1, none⟩ (.slice none 0 0)).setCell ⟨w.heap.size, 2, none⟩ (.slice none 0 0)).setCell ⟨w.heap.size, 3, none⟩ (.slice none 0 0)) :=
 ⟨(((h.setCell (fun h => absurd h (Nat.lt_irrefl _)) _).setCell (fun h => absurd h (Nat.lt_irrefl _)) _).setCell (fun h => absurd h (Nat.lt_irrefl _)) _).setCell (fun h => absurd h (Nat.lt_irrefl _)) _, rfl⟩
theorem qSb (L : List UInt8) : encV true L = .tuple #[.string (ba L), .int .i64 0] := rfl
theorem qOm (L : List UInt8) : encV false L = .tuple #[.string ⟨#[]⟩, .int .i64 40] := rfl
theorem qUo {w X : World} {leaf : Bool} {es : List Ent} {m : Nd} (h : Mod (fun _ => False) w X) (hh : Has m leaf es) (ho : Hold X (w.heap.size + 1) (w.heap.size + 1) m) (he : qDi m = true) (hok : ∀ x ∈ es, x.Ok) (hl : es.length <= 1048576) :
  qOt w (some (leaf, es)) (.returned (.tuple #[.agg #[.bool m.leaf, .slice m.ka m.keys.length m.kc, .slice m.va m.values.length m.vc, .slice m.ia m.kids.length m.ic], .int .i64 0])) ((((X.setCell ⟨w.heap.size, 0, none⟩ (.bool m.leaf)).setCell ⟨w.heap.size, 1, none⟩ (.slice m.ka m.keys.length m.kc)).setCell ⟨w.heap.size, 2, none⟩ (.slice m.va m.values.length m.vc)).setCell ⟨w.heap.size, 3, none⟩ (.slice m.ia m.kids.length m.ic)) := by
 refine ⟨(((h.setCell (fun h => absurd h (Nat.lt_irrefl _)) _).setCell (fun h => absurd h (Nat.lt_irrefl _)) _).setCell (fun h => absurd h (Nat.lt_irrefl _)) _).setCell (fun h => absurd h (Nat.lt_irrefl _)) _, m, hh, rfl, ?_, fun b hb => by have := (ho.bs b hb).1; omega, he, hok, hl⟩
 exact ho.gd.ext (S := fun k => k = w.heap.size) (Mod.setCell (S := fun k => k = w.heap.size) (Mod.setCell (S := fun k => k = w.heap.size) (Mod.setCell (S := fun k => k = w.heap.size) (Mod.setCell (S := fun k => k = w.heap.size) (Mod.refl _ _) (fun _ => rfl) _) (fun _ => rfl) _) (fun _ => rfl) _) (fun _ => rfl) _) (fun b hb e => by have := (ho.bs b hb).1; omega)
theorem jHb {s : ByteArray} {a : Nat} (h : (rdT s a).e = 0) : rtV (rdT s a) = .tuple #[.string (rdT s a).t, .int .i64 ((rdT s a).n : Int), .int .i64 0] := by unfold rtV; rw [h]; rfl
theorem qZd {s : ByteArray} {a : Nat} (h : (rdT s a).e ≠ 0) : rtV (rdT s a) = .tuple #[.string ⟨#[]⟩, .int .i64 0, .int .i64 ((rdT s a).e : Int)] := by
 unfold rtV rdT rtOf at *; by_cases h1 : (rdU 0 (s.data.toList.drop a)).e = 0
 ·rw [if_pos h1] at h ⊢; by_cases h2 : s.size < a + (rdU 0 (s.data.toList.drop a)).n + (rdU 0 (s.data.toList.drop a)).v
  ·rw [if_pos h2]; rfl
  ·rw [if_neg h2] at h; exact absurd rfl h
 ·rw [if_neg h1]; rfl
set_option maxRecDepth 100000
set_option maxHeartbeats 8000000 in
theorem jFp {s : ByteArray} (w : World) (hs : s.size <= 1048576) (h0 : 0 < s.size) (hb : s[0].toNat = 1) : Calls Tryz.prog 92 #[.string s] w fun e w' => qOt w (decP s) e w' := by
 obtain ⟨i0, hi0, hz0, hz1, hz2⟩ := info_parts qKf; obtain ⟨j0, hj0, hy0, hy1, hy2⟩ := info_parts qGb; have hsm : s.size <= maxLen := by unfold maxLen; omega
 have HU : Hid (∀ v, Calls Tryz.prog 66 #[.string s, .int .i64 1] v fun e w' => e = .returned (ruV 1 (rdU 0 (s.data.toList.drop 1))) /\ v = w') := hid (fun v => qCg s 1 v hsm)
 have HUa : Hid (∀ (a : Nat) v, Calls Tryz.prog 66 #[.string s, .int .i64 (a : Int)] v fun e w' => e = .returned (ruV a (rdU 0 (s.data.toList.drop a))) /\ v = w') := hid (fun a v => qCg s a v hsm)
 have HT : Hid (∀ (a : Nat) v, Calls Tryz.prog 119 #[.string s, .int .i64 (a : Int)] v fun e w' => e = .returned (rtV (rdT s a)) /\ v = w') := hid (fun a v => qKp s a v hsm)
 have hl : s.data.toList = s[0] :: (s.extract 1 s.size).data.toList := qGo h0; have hdec : decP s = qMu true s := qMt hl (by rw [hb]; decide) (by rw [hb]; rfl)
 have e0 : s.toList.isEmpty = false := by rw [ByteArray.toList_eq, hl]; rfl
 have HDec := hid hdec; have z1 : ((s[0].toNat : Int) == 1) = true := by rw [hb]; rfl
 have z2 : ((s[0].toNat : Int) == 2) = false := by rw [hb]; rfl
 have z3 : ((s[0].toNat : Int) != 1) = false := by rw [hb]; rfl
 have z4 : ((s[0].toNat : Int) != 2) = true := by rw [hb]; rfl
 have hsz : (w.alloc (.cells #[.bool false, .slice none 0 0, .slice none 0 0, .slice none 0 0] 116)).heap.size = w.heap.size + 1 := by simp
 have hmV : Mod (fun _ => False) w ((w.alloc (.cells #[.bool false, .slice none 0 0, .slice none 0 0, .slice none 0 0] 116)).alloc (.cells #[.bool true, .slice none 0 0, .slice none 0 0, .slice none 0 0] 116)) := ((Mod.refl _ _).alloc _).alloc _
 have hR : ((w.alloc (.cells #[.bool false, .slice none 0 0, .slice none 0 0, .slice none 0 0] 116)).alloc (.cells #[.bool true, .slice none 0 0, .slice none 0 0, .slice none 0 0] 116)).heap[w.heap.size]? = some (.cells #[.bool false, .slice none 0 0, .slice none 0 0, .slice none 0 0] 116 (0, 0)) := (Below.heap_alloc _ _ _ (by rw [hsz]; omega)).trans (heap_alloc_new _ _)
 have hB : Bx ((w.alloc (.cells #[.bool false, .slice none 0 0, .slice none 0 0, .slice none 0 0] 116)).alloc (.cells #[.bool true, .slice none 0 0, .slice none 0 0, .slice none 0 0] 116)) (w.heap.size + 1) (cn true []) := by have := heap_alloc_new (w.alloc (.cells #[.bool false, .slice none 0 0, .slice none 0 0, .slice none 0 0] 116)) (.cells #[.bool true, .slice none 0 0, .slice none 0 0, .slice none 0 0] 116); rw [hsz] at this; exact this
 have HMV := hid hmV; have HR := hid hR; have HB := hid hB; have HSV : Hid (((w.alloc (.cells #[.bool false, .slice none 0 0, .slice none 0 0, .slice none 0 0] 116)).alloc (.cells #[.bool true, .slice none 0 0, .slice none 0 0, .slice none 0 0] 116)).heap.size = w.heap.size + 2) := hid (by simp)
 clear hb hl hdec hsz hmV hR hB; go_enter Tryz.func92, Tryz.ntmps92
 go_wp2_with fail
 generalize ((w.alloc (.cells #[.bool false, .slice none 0 0, .slice none 0 0, .slice none 0 0] 116)).alloc (.cells #[.bool true, .slice none 0 0, .slice none 0 0, .slice none 0 0] 116)) = V at *; refine (HU.out V).mono ?_; rintro e w0 ⟨rfl, rfl⟩; obtain ⟨cnt, a0, er, hru, hcase⟩ := qUs 1 (rdU 0 (s.data.toList.drop 1)); rw [hru]; have hin := qKq s 1; have HStart : Hid (qKw V s true (w.heap.size + 1) (w.heap.size + 1) cnt a0 (.int .i64 (a0 : Int)) (.int .i64 (er : Int)) (.int .u64 0) V) := by
  refine ⟨0, a0, er, rfl, rfl, rfl, by omega, Mod.refl _ _, ?_⟩
  rcases hcase with ⟨h1, h2, h3, h4⟩ | ⟨h1, h2, _, _⟩
  ·obtain ⟨i1, i2, i3⟩ := hin h2; refine .inl ⟨h1, by rw [HDec.out, h3, h4]; unfold qMu; rw [if_pos h2], [], cn true [], ⟨rfl, rfl, rfl, rfl⟩, ⟨HB.out, ⟨Own.nil _ _ _, Own.nil _ _ _, Own.nil _ _ _, fun b h => (qAl b h).elim, fun b h => (qAl b h).elim, fun b h => (qAl b h).elim⟩, (fun b h => by rcases h with h | h | h <;> exact (qAl b h).elim), by omega⟩, rfl, by omega, by omega, by simp, (fun x hx => by cases hx), ?_⟩
   rw [qZl, Nat.sub_zero]
  ·exact .inr ⟨h1, by omega, by rw [HDec.out]; unfold qMu; rw [if_neg (by omega)]⟩
 clear hru hin hcase; go_wp2_with fail
 go_loopw [6, 7, 8] (fun p e i wr => qKw V s true (w.heap.size + 1) (w.heap.size + 1) cnt a0 p e i wr) (fun _ _ i _ => 1048577 - (intOf i).toNat)
 case atStart => exact HStart.out
 case round =>
  obtain ⟨i, a, e, rfl, rfl, rfl, hi, hmr, hcs⟩ := hrel; have HRr : Hid (wr.heap[w.heap.size]? = some (.cells #[.bool false, .slice none 0 0, .slice none 0 0, .slice none 0 0] 116 (0, 0))) := hid ((hmr.block _ (by rw [HSV.out]; omega) (by omega)).trans HR.out)
  have HMr := hid hmr; clear hmr; rcases hcs with ⟨he, hgood, es, m, hh, ho, hl, hic, has, hle, hok, hpre⟩ | ⟨he, hi2, hnone⟩
  ·subst he; have HGood := hid hgood; have HH := hid hh; have HO := hid ho; have HOk := hid hok; have HPre := hid hpre; have HL := hid hl; have hln := hh.len_le; obtain ⟨b0, b1, b2, b3⟩ := ho.box.cells; have hi5 : i <= 1048576 := by omega
   have hi5 : i <= 1048576 := by omega
   have hb1' : m.keys.length <= 1048576 := by omega
   have hb2' : m.values.length <= 1048576 := by omega
   have hb3' : m.kids.length <= 1048576 := by omega
   rw [hh.l] at b0; clear hh ho hok hpre hl hln hgood; by_cases hlt : i < cnt
   ·have d1 : decide (i < cnt) = true := by rw [decide_eq_true_iff]; exact hlt
    have HOa : Hid (Own (wr.alloc (.cells #[.string (rdT s a).t] 9)) 9 1 m.ka m.keys.length m.kc (m.keys.flatMap scs)) := hid (HO.out.gd.k.mod (S := fun _ => False) ((Mod.refl _ _).alloc _) (fun _ _ h => h))
    have HSa : Hid (Src (wr.alloc (.cells #[.string (rdT s a).t] 9)) 1 (some ⟨wr.heap.size, 0, none⟩) 1 [.string (rdT s a).t]) := hid (qBr (heap_alloc_new _ _) rfl); have HX : Hid (∀ w5, Mod (blk m.ka) (wr.alloc (.cells #[.string (rdT s a).t] 9)) w5 -> Bx w5 (w.heap.size + 1) m) := hid (fun w5 h5 => (HO.out.box.mod (S := fun _ => False) ((Mod.refl _ _).alloc _) (fun h => h)).mod h5 (fun h => (HO.out.bs _ (.inl h)).2 rfl))
    go_wp2_with fail
    refine (HT.out a wr).mono ?_; rintro e wx ⟨rfl, rfl⟩; by_cases hk : (rdT s a).e = 0
    ·rw [jHb hk]; have hkin := qRe s a hk; have HK := hid hk; clear hk; go_upto_region 13 with (at_builtin; refine qAe rfl (.tmp 54) (.tmp 56) 69 rfl 9 i0 _ 1 16 Tryz.underlying69 hi0 hz0 hz1 hz2 rfl m.ka m.keys.length m.kc _ rfl HOa.out (some ⟨wr.heap.size, 0, none⟩) 1 1 _ rfl HSa.out (by intro u hu; simp at hu; subst hu; rfl) (by unfold maxLen; omega) (by omega) ?_; intro a' c' w5 hown5 hm5 hb5 hn5 hr5; have hx5 := HX.out w5 hm5; obtain ⟨c0, c1, c2, c3⟩ := cl4 hx5; have f1 := frozen_of_row _ _ 1 _ _ hx5; have HOwn5 := hid hown5; have HM5 := hid hm5; have HB5 := hid hb5; clear hown5 hm5 hb5 hn5 hr5 hx5)
     obtain ⟨ho1, hm1⟩ := HO.out.key (x := (rdT s a).t) HOwn5.out HM5.out HB5.out; have HR1 := hid ((hm1.block _ (lth HRr.out) (by omega)).trans HRr.out)
     have HO1 := hid ho1; have HM1 := hid (HMr.out.trans hm1); obtain ⟨d0, d1', d2, d3⟩ := ho1.box.cells; simp only at d0 d1' d2 d3; rw [HH.out.l] at d0; clear ho1 hm1 c0 c1 c2 c3 f1 b0 b1 b2 b3; generalize w5.setCell ⟨w.heap.size + 1, 1, none⟩ (.slice a' (m.keys.length + 1) c') = w6 at *; go_wp2_with fail
     refine (HT.out (rdT s a).n w6).mono ?_; rintro e wx ⟨rfl, rfl⟩; by_cases hv : (rdT s (rdT s a).n).e = 0
     ·rw [jHb hv]; have hvin := qRe s _ hv; have HRead : Hid (qFm true s a = some (⟨(rdT s a).t, (rdT s (rdT s a).n).t, 0⟩, (rdT s (rdT s a).n).n)) := hid (by unfold qFm; rw [if_pos HK.out]; simp only [if_true]; rw [if_pos hv])
      clear hv; have HOb : Hid (Own (w6.alloc (.cells #[.string (rdT s (rdT s a).n).t] 9)) 9 1 m.va m.values.length m.vc (m.values.flatMap scs)) := hid (HO1.out.gd.v.mod (S := fun _ => False) ((Mod.refl _ _).alloc _) (fun _ _ h => h))
      have HSb : Hid (Src (w6.alloc (.cells #[.string (rdT s (rdT s a).n).t] 9)) 1 (some ⟨w6.heap.size, 0, none⟩) 1 [.string (rdT s (rdT s a).n).t]) := hid (qBr (heap_alloc_new _ _) rfl); have HX2 : Hid (∀ w7, Mod (blk m.va) (w6.alloc (.cells #[.string (rdT s (rdT s a).n).t] 9)) w7 -> Bx w7 (w.heap.size + 1) { m with keys := m.keys ++ [(rdT s a).t], ka := a', kc := c' }) := hid (fun w7 h7 => (HO1.out.box.mod (S := fun _ => False) ((Mod.refl _ _).alloc _) (fun h => h)).mod h7 (fun h => (HO1.out.bs _ (.inr <| .inl h)).2 rfl))
      go_upto_region 7 with (at_builtin; refine qAe rfl (.tmp 69) (.tmp 71) 69 rfl 9 i0 _ 1 16 Tryz.underlying69 hi0 hz0 hz1 hz2 rfl m.va m.values.length m.vc _ rfl HOb.out (some ⟨w6.heap.size, 0, none⟩) 1 1 _ rfl HSb.out (by intro u hu; simp at hu; subst hu; rfl) (by unfold maxLen; omega) (by omega) ?_; intro a2 c2 w7 hown7 hm7 hb7 hn7 hr7; obtain ⟨c0, c1, c2', c3⟩ := (HX2.out w7 hm7).cells; simp only at c0 c1 c2' c3; have f1 := frozen_of_row _ _ 2 _ _ (HX2.out w7 hm7); have HOwn7 := hid hown7; have HM7 := hid hm7; have HB7 := hid hb7; clear hown7 hm7 hb7 hn7 hr7)
      obtain ⟨ho2, hm2⟩ := HO1.out.value (x := (rdT s (rdT s a).n).t) HOwn7.out HM7.out HB7.out; have HR2 := hid ((hm2.block _ (lth HR1.out) (by omega)).trans HR1.out)
      have HO2 := hid ho2; have HM2 := hid (HM1.out.trans hm2); clear ho2 hm2 c0 c1 c2' c3 f1 d0 d1' d2 d3; generalize w7.setCell ⟨w.heap.size + 1, 2, none⟩ (.slice a2 (m.values.length + 1) c2) = w8 at *; have hlen := HL.out; have HNext : Hid (qKw V s true (w.heap.size + 1) (w.heap.size + 1) cnt a0 (.int .i64 ((rdT s (rdT s a).n).n : Int)) (.int .i64 0) (.int .u64 ((i : Int) + 1)) w8) := hid (by
       refine ⟨i + 1, (rdT s (rdT s a).n).n, 0, rfl, rfl, rfl, by omega, HM2.out, .inl ⟨rfl, HGood.out, es ++ [⟨(rdT s a).t, (rdT s (rdT s a).n).t, 0⟩], _, jFe HH.out _ _ _ _ _ _, HO2.out, by simp; omega, by omega, by omega, by simp; omega, fun y hy => ?_, ?_⟩⟩
       ·rcases List.mem_append.1 hy with h | h
        ·exact HOk.out y h
        ·rw [List.mem_singleton.1 h]; exact ⟨by have := hkin.2.2; show (rdT s a).t.size <= _; omega, by have := hvin.2.2; show (rdT s (rdT s a).n).t.size <= _; omega, by show (-9223372036854775808 : Int) <= 0; omega, by show (0 : Int) <= 9223372036854775807; omega⟩
       ·rw [<- HPre.out, show cnt - i = (cnt - (i + 1)) + 1 by omega, qVd HRead.out])
      clear hlen; go_wp2_with fail
      go_roundw
      case rel => exact HNext.out
      case measure => simp [intOf]; omega
     ·rw [qZd hv]; have HRead : Hid (qFm true s a = none) := hid (by unfold qFm; rw [if_pos HK.out]; simp only [if_true]; rw [if_neg hv])
      have HE := hid hv; have hne : ((((rdT s (rdT s a).n).e : Nat) : Int) == 0) = false := by rw [beq_eq_false_iff_ne]; omega
      clear hv; have HOb : Hid (Own (w6.alloc (.cells #[.string ⟨#[]⟩] 9)) 9 1 m.va m.values.length m.vc (m.values.flatMap scs)) := hid (HO1.out.gd.v.mod (S := fun _ => False) ((Mod.refl _ _).alloc _) (fun _ _ h => h))
      have HSb : Hid (Src (w6.alloc (.cells #[.string ⟨#[]⟩] 9)) 1 (some ⟨w6.heap.size, 0, none⟩) 1 [.string ⟨#[]⟩]) := hid (qBr (heap_alloc_new _ _) rfl); have HX2 : Hid (∀ w7, Mod (blk m.va) (w6.alloc (.cells #[.string ⟨#[]⟩] 9)) w7 -> Bx w7 (w.heap.size + 1) { m with keys := m.keys ++ [(rdT s a).t], ka := a', kc := c' }) := hid (fun w7 h7 => (HO1.out.box.mod (S := fun _ => False) ((Mod.refl _ _).alloc _) (fun h => h)).mod h7 (fun h => (HO1.out.bs _ (.inr <| .inl h)).2 rfl))
      go_upto_region 7 with (at_builtin; refine qAe rfl (.tmp 69) (.tmp 71) 69 rfl 9 i0 _ 1 16 Tryz.underlying69 hi0 hz0 hz1 hz2 rfl m.va m.values.length m.vc _ rfl HOb.out (some ⟨w6.heap.size, 0, none⟩) 1 1 _ rfl HSb.out (by intro u hu; simp at hu; subst hu; rfl) (by unfold maxLen; omega) (by omega) ?_; intro a2 c2 w7 hown7 hm7 hb7 hn7 hr7; obtain ⟨c0, c1, c2', c3⟩ := (HX2.out w7 hm7).cells; simp only at c0 c1 c2' c3; have f1 := frozen_of_row _ _ 2 _ _ (HX2.out w7 hm7); have HOwn7 := hid hown7; have HM7 := hid hm7; have HB7 := hid hb7; clear hown7 hm7 hb7 hn7 hr7)
      obtain ⟨ho2, hm2⟩ := HO1.out.value (x := ⟨#[]⟩) HOwn7.out HM7.out HB7.out; have HR2 := hid ((hm2.block _ (lth HR1.out) (by omega)).trans HR1.out)
      have HO2 := hid ho2; have HM2 := hid (HM1.out.trans hm2); clear ho2 hm2 c0 c1 c2' c3 f1 d0 d1' d2 d3; generalize w7.setCell ⟨w.heap.size + 1, 2, none⟩ (.slice a2 (m.values.length + 1) c2) = w8 at *; have HNext : Hid (qKw V s true (w.heap.size + 1) (w.heap.size + 1) cnt a0 (.int .i64 0) (.int .i64 ((rdT s (rdT s a).n).e : Int)) (.int .u64 ((i : Int) + 1)) w8) := hid (by
       refine ⟨i + 1, 0, (rdT s (rdT s a).n).e, rfl, rfl, rfl, by omega, HM2.out, .inr ⟨HE.out, by omega, ?_⟩⟩
       rw [HGood.out, <- HPre.out, show cnt - i = (cnt - (i + 1)) + 1 by omega, qLf HRead.out]; rfl)
      go_wp2_with fail
      go_roundw
      case rel => exact HNext.out
      case measure => simp [intOf]; omega
    ·rw [qZd hk]; have hne : ((((rdT s a).e : Nat) : Int) != 0) = true := by rw [bne_iff_ne]; omega
     have HN : Hid (decP s = none) := hid (by
      rw [HGood.out, <- HPre.out, show cnt - i = (cnt - (i + 1)) + 1 by omega, qLf (by unfold qFm; rw [if_neg hk])]; rfl)
     clear hk b0 b1 b2 b3; have hz := qDg (qEm HMV.out HMr.out); have hg := (set4 (set4 (set4 (set4 HRr.out (.bool false)).1 (.slice none 0 0)).2.1 (.slice none 0 0)).2.2.1 (.slice none 0 0)).2.2.2; have HZ := hid hz; have HG4 := hid hg; clear hz hg; obtain ⟨r0, r1, r2, r3⟩ := cl4 HRr.out; have q0 := frozen_of_row _ _ 0 _ _ HRr.out; have q1 := frozen_of_row _ _ 1 _ _ HRr.out; have q2 := frozen_of_row _ _ 2 _ _ HRr.out; have q3 := frozen_of_row _ _ 3 _ _ HRr.out; go_wp2_with fail
     obtain ⟨g0, g1, g2, g3⟩ := cl4 HG4.out; clear r0 r1 r2 r3 q0 q1 q2 q3; generalize ((((wr.setCell ⟨w.heap.size, 0, none⟩ (.bool false)).setCell ⟨w.heap.size, 1, none⟩ (.slice none 0 0)).setCell ⟨w.heap.size, 2, none⟩ (.slice none 0 0)).setCell ⟨w.heap.size, 3, none⟩ (.slice none 0 0)) = ZZ at *; exact bodyPost_ret (v := .tuple #[.agg #[.bool false, .slice none 0 0, .slice none 0 0, .slice none 0 0], .int .i64 40]) (by simp [results, Tryz.results92, go_sem, g0, g1, g2, g3]) rfl (by rw [HN.out]; exact HZ.out)
   ·have d1 : decide (i < cnt) = false := by rw [decide_eq_false_iff_not]; exact hlt
    have HI3 : Hid (i = cnt) := hid (by omega)
    have HRead : Hid (qFh true s cnt a0 = some (es, a)) := hid (by rw [<- HPre.out, HI3.out, Nat.sub_self]; unfold qFh pre; simp)
    have hsl : ∀ v : World, (Instr.slice 9 (.string s) (some (.int .i64 (a : Int))) none none).run Tryz.prog v = .ok (.string (s.extract a s.size)) v := fun v => by
     have := run_slice_string_l (P := Tryz.prog) v 9 s Tryz.underlying9 .i64 (a : Int) (by omega) (by omega)
     simpa using this
    have hxs : (s.extract a s.size).size <= maxLen := by rw [ByteArray.size_extract]; omega
    have HTr := hid (fun v => qIr (s.extract a s.size) v hxs)
    have hnil := qGm (s.extract a s.size); have hdr : (s.extract a s.size).data.toList = s.data.toList.drop a := by
     rw [ByteArray.data_extract, Array.toList_extract, List.extract_eq_take_drop, List.take_of_length_le]; have : s.data.toList.length = s.size := rfl; rw [List.length_drop]; omega
    rw [hdr] at hnil; have HNil := hid hnil; clear hnil hdr hxs; generalize qKx (s.extract a s.size) = tb at *; have hEs : es.length <= 1048576 := by have := HL.out; omega
    by_cases hz : AllZ (s.data.toList.drop a)
    ·have ez : tb.toList.isEmpty = true := by rw [ByteArray.toList_eq, HNil.out.2 hz]; rfl
     have HZz := hid hz; clear hz; go_wp2_with fail
     refine (HTr.out wr).mono ?_; rintro e wt ⟨rfl, nq, rfl⟩; have hmt : Mod (fun _ => False) wr (wr.drewN nq) := (Mod.refl _ _).drewN nq
     have HRt := hid ((hmt.block _ (lth HRr.out) (fun h => h)).trans HRr.out)
     have HOt := hid (HO.out.ext hmt); have HMt := hid (HMr.out.trans (hmt.mono (fun _ _ h => h.elim)))
     clear hmt b0 b1 b2 b3; generalize wr.drewN nq = wt at *; have HEn := hid (qKi (HH.out.ok HOt.out.gd (by omega) HOk.out))
     obtain ⟨b0, b1, b2, b3⟩ := HOt.out.box.cells; go_wp2_with fail
     refine HEn.out.mono ?_; rintro e wE ⟨rfl, hmE⟩; have HRE := hid ((hmE.block _ (lth HRt.out) (fun h => h)).trans HRt.out)
     have HOE := hid (HOt.out.ext hmE); have HME := hid (HMt.out.trans (hmE.mono (fun _ _ h => h.elim)))
     clear hmE b0 b1 b2 b3; cases hE : qDi m with
     | false =>
      rw [qOm]; have HN : Hid (decP s = none) := hid (by rw [HGood.out, HRead.out]; exact qSa (fun h => by rw [<- HH.out.cn_enc, hE] at h; cases h.2))
      clear hE; have hz := qDg (qEm HMV.out HME.out); have hg := (set4 (set4 (set4 (set4 HRE.out (.bool false)).1 (.slice none 0 0)).2.1 (.slice none 0 0)).2.2.1 (.slice none 0 0)).2.2.2; have HZ := hid hz; have HG4 := hid hg; clear hz hg; obtain ⟨r0, r1, r2, r3⟩ := cl4 HRE.out; have q0 := frozen_of_row _ _ 0 _ _ HRE.out; have q1 := frozen_of_row _ _ 1 _ _ HRE.out; have q2 := frozen_of_row _ _ 2 _ _ HRE.out; have q3 := frozen_of_row _ _ 3 _ _ HRE.out; go_wp2_with fail
      obtain ⟨g0, g1, g2, g3⟩ := cl4 HG4.out; clear r0 r1 r2 r3 q0 q1 q2 q3; generalize ((((wE.setCell ⟨w.heap.size, 0, none⟩ (.bool false)).setCell ⟨w.heap.size, 1, none⟩ (.slice none 0 0)).setCell ⟨w.heap.size, 2, none⟩ (.slice none 0 0)).setCell ⟨w.heap.size, 3, none⟩ (.slice none 0 0)) = ZZ at *; exact bodyPost_ret (v := .tuple #[.agg #[.bool false, .slice none 0 0, .slice none 0 0, .slice none 0 0], .int .i64 40]) (by simp [results, Tryz.results92, go_sem, g0, g1, g2, g3]) rfl (by rw [HN.out]; exact HZ.out)
     | true =>
      rw [qSb]; have HN : Hid (decP s = some (true, es)) := hid (by rw [HGood.out, HRead.out]; exact qQb HZz.out (by rw [<- HH.out.cn_enc]; exact hE))
      have hz := qUo (qEm HMV.out HME.out) HH.out HOE.out hE HOk.out hEs; have hg := (set4 (set4 (set4 (set4 HRE.out (.bool m.leaf)).1 (.slice m.ka m.keys.length m.kc)).2.1 (.slice m.va m.values.length m.vc)).2.2.1 (.slice m.ia m.kids.length m.ic)).2.2.2; have HZ := hid hz; have HG4 := hid hg; clear hz hg hE; obtain ⟨b0, b1, b2, b3⟩ := HOE.out.box.cells; obtain ⟨r0, r1, r2, r3⟩ := cl4 HRE.out; have q0 := frozen_of_row _ _ 0 _ _ HRE.out; have q1 := frozen_of_row _ _ 1 _ _ HRE.out; have q2 := frozen_of_row _ _ 2 _ _ HRE.out; have q3 := frozen_of_row _ _ 3 _ _ HRE.out; go_wp2_with fail
      obtain ⟨g0, g1, g2, g3⟩ := cl4 HG4.out; clear r0 r1 r2 r3 q0 q1 q2 q3 b0 b1 b2 b3; generalize ((((wE.setCell ⟨w.heap.size, 0, none⟩ (.bool m.leaf)).setCell ⟨w.heap.size, 1, none⟩ (.slice m.ka m.keys.length m.kc)).setCell ⟨w.heap.size, 2, none⟩ (.slice m.va m.values.length m.vc)).setCell ⟨w.heap.size, 3, none⟩ (.slice m.ia m.kids.length m.ic)) = ZZ at *; exact bodyPost_ret (v := .tuple #[.agg #[.bool m.leaf, .slice m.ka m.keys.length m.kc, .slice m.va m.values.length m.vc, .slice m.ia m.kids.length m.ic], .int .i64 0]) (by simp [results, Tryz.results92, go_sem, g0, g1, g2, g3]) rfl (by rw [HN.out]; exact HZ.out)
    ·have ez : tb.toList.isEmpty = false := by
      rw [ByteArray.toList_eq]; cases h : tb.data.toList with
      | nil => exact absurd (HNil.out.1 h) hz
      | cons _ _ => rfl
     have HN : Hid (decP s = none) := hid (by rw [HGood.out, HRead.out]; exact qSa (fun h => hz h.1))
     clear hz; go_wp2_with fail
     refine (HTr.out wr).mono ?_; rintro e wt ⟨rfl, nq, rfl⟩; have hmt : Mod (fun _ => False) wr (wr.drewN nq) := (Mod.refl _ _).drewN nq
     have HRt := hid ((hmt.block _ (lth HRr.out) (fun h => h)).trans HRr.out)
     have HMt := hid (HMr.out.trans (hmt.mono (fun _ _ h => h.elim)))
     clear hmt b0 b1 b2 b3; generalize wr.drewN nq = wt at *; have hz := qDg (qEm HMV.out HMt.out); have hg := (set4 (set4 (set4 (set4 HRt.out (.bool false)).1 (.slice none 0 0)).2.1 (.slice none 0 0)).2.2.1 (.slice none 0 0)).2.2.2; have HZ := hid hz; have HG4 := hid hg; clear hz hg; obtain ⟨r0, r1, r2, r3⟩ := cl4 HRt.out; have q0 := frozen_of_row _ _ 0 _ _ HRt.out; have q1 := frozen_of_row _ _ 1 _ _ HRt.out; have q2 := frozen_of_row _ _ 2 _ _ HRt.out; have q3 := frozen_of_row _ _ 3 _ _ HRt.out; go_wp2_with fail
     obtain ⟨g0, g1, g2, g3⟩ := cl4 HG4.out; clear r0 r1 r2 r3 q0 q1 q2 q3; generalize ((((wt.setCell ⟨w.heap.size, 0, none⟩ (.bool false)).setCell ⟨w.heap.size, 1, none⟩ (.slice none 0 0)).setCell ⟨w.heap.size, 2, none⟩ (.slice none 0 0)).setCell ⟨w.heap.size, 3, none⟩ (.slice none 0 0)) = ZZ at *; exact bodyPost_ret (v := .tuple #[.agg #[.bool false, .slice none 0 0, .slice none 0 0, .slice none 0 0], .int .i64 40]) (by simp [results, Tryz.results92, go_sem, g0, g1, g2, g3]) rfl (by rw [HN.out]; exact HZ.out)
  ·have hne : ((e : Int) != 0) = true := by rw [bne_iff_ne]; omega
   have hne2 : ((e : Int) == 0) = false := by rw [beq_eq_false_iff_ne]; omega
   have HN := hid hnone; clear hnone he; by_cases hlt : i < cnt
   ·have d1 : decide (i < cnt) = true := by rw [decide_eq_true_iff]; exact hlt
    have hz := qDg (qEm HMV.out HMr.out); have hg := (set4 (set4 (set4 (set4 HRr.out (.bool false)).1 (.slice none 0 0)).2.1 (.slice none 0 0)).2.2.1 (.slice none 0 0)).2.2.2; have HZ := hid hz; have HG4 := hid hg; clear hz hg; obtain ⟨r0, r1, r2, r3⟩ := cl4 HRr.out; have q0 := frozen_of_row _ _ 0 _ _ HRr.out; have q1 := frozen_of_row _ _ 1 _ _ HRr.out; have q2 := frozen_of_row _ _ 2 _ _ HRr.out; have q3 := frozen_of_row _ _ 3 _ _ HRr.out; go_wp2_with fail
    obtain ⟨g0, g1, g2, g3⟩ := cl4 HG4.out; clear r0 r1 r2 r3 q0 q1 q2 q3; generalize ((((wr.setCell ⟨w.heap.size, 0, none⟩ (.bool false)).setCell ⟨w.heap.size, 1, none⟩ (.slice none 0 0)).setCell ⟨w.heap.size, 2, none⟩ (.slice none 0 0)).setCell ⟨w.heap.size, 3, none⟩ (.slice none 0 0)) = ZZ at *; exact bodyPost_ret (v := .tuple #[.agg #[.bool false, .slice none 0 0, .slice none 0 0, .slice none 0 0], .int .i64 40]) (by simp [results, Tryz.results92, go_sem, g0, g1, g2, g3]) rfl (by rw [HN.out]; exact HZ.out)
   ·have d1 : decide (i < cnt) = false := by rw [decide_eq_false_iff_not]; exact hlt
    have hz := qDg (qEm HMV.out HMr.out); have hg := (set4 (set4 (set4 (set4 HRr.out (.bool false)).1 (.slice none 0 0)).2.1 (.slice none 0 0)).2.2.1 (.slice none 0 0)).2.2.2; have HZ := hid hz; have HG4 := hid hg; clear hz hg; obtain ⟨r0, r1, r2, r3⟩ := cl4 HRr.out; have q0 := frozen_of_row _ _ 0 _ _ HRr.out; have q1 := frozen_of_row _ _ 1 _ _ HRr.out; have q2 := frozen_of_row _ _ 2 _ _ HRr.out; have q3 := frozen_of_row _ _ 3 _ _ HRr.out; go_wp2_with fail
    obtain ⟨g0, g1, g2, g3⟩ := cl4 HG4.out; clear r0 r1 r2 r3 q0 q1 q2 q3; generalize ((((wr.setCell ⟨w.heap.size, 0, none⟩ (.bool false)).setCell ⟨w.heap.size, 1, none⟩ (.slice none 0 0)).setCell ⟨w.heap.size, 2, none⟩ (.slice none 0 0)).setCell ⟨w.heap.size, 3, none⟩ (.slice none 0 0)) = ZZ at *; exact bodyPost_ret (v := .tuple #[.agg #[.bool false, .slice none 0 0, .slice none 0 0, .slice none 0 0], .int .i64 40]) (by simp [results, Tryz.results92, go_sem, g0, g1, g2, g3]) rfl (by rw [HN.out]; exact HZ.out)
set_option maxHeartbeats 8000000 in
theorem jBn {s : ByteArray} (w : World) (hs : s.size <= 1048576) (h0 : 0 < s.size) (hb : s[0].toNat = 2) : Calls Tryz.prog 92 #[.string s] w fun e w' => qOt w (decP s) e w' := by
 obtain ⟨i0, hi0, hz0, hz1, hz2⟩ := info_parts qKf; obtain ⟨j0, hj0, hy0, hy1, hy2⟩ := info_parts qGb; have hsm : s.size <= maxLen := by unfold maxLen; omega
 have HU : Hid (∀ v, Calls Tryz.prog 66 #[.string s, .int .i64 1] v fun e w' => e = .returned (ruV 1 (rdU 0 (s.data.toList.drop 1))) /\ v = w') := hid (fun v => qCg s 1 v hsm)
 have HUa : Hid (∀ (a : Nat) v, Calls Tryz.prog 66 #[.string s, .int .i64 (a : Int)] v fun e w' => e = .returned (ruV a (rdU 0 (s.data.toList.drop a))) /\ v = w') := hid (fun a v => qCg s a v hsm)
 have HT : Hid (∀ (a : Nat) v, Calls Tryz.prog 119 #[.string s, .int .i64 (a : Int)] v fun e w' => e = .returned (rtV (rdT s a)) /\ v = w') := hid (fun a v => qKp s a v hsm)
 have hl : s.data.toList = s[0] :: (s.extract 1 s.size).data.toList := qGo h0; have hdec : decP s = qMu false s := qMt hl (by rw [hb]; decide) (by rw [hb]; rfl)
 have e0 : s.toList.isEmpty = false := by rw [ByteArray.toList_eq, hl]; rfl
 have HDec := hid hdec; have z1 : ((s[0].toNat : Int) == 1) = false := by rw [hb]; rfl
 have z2 : ((s[0].toNat : Int) == 2) = true := by rw [hb]; rfl
 have z3 : ((s[0].toNat : Int) != 1) = true := by rw [hb]; rfl
 have z4 : ((s[0].toNat : Int) != 2) = false := by rw [hb]; rfl
 have hsz : (w.alloc (.cells #[.bool false, .slice none 0 0, .slice none 0 0, .slice none 0 0] 116)).heap.size = w.heap.size + 1 := by simp
 have hmV : Mod (fun _ => False) w ((w.alloc (.cells #[.bool false, .slice none 0 0, .slice none 0 0, .slice none 0 0] 116)).alloc (.cells #[.bool false, .slice none 0 0, .slice none 0 0, .slice none 0 0] 116)) := ((Mod.refl _ _).alloc _).alloc _
 have hR : ((w.alloc (.cells #[.bool false, .slice none 0 0, .slice none 0 0, .slice none 0 0] 116)).alloc (.cells #[.bool false, .slice none 0 0, .slice none 0 0, .slice none 0 0] 116)).heap[w.heap.size]? = some (.cells #[.bool false, .slice none 0 0, .slice none 0 0, .slice none 0 0] 116 (0, 0)) := (Below.heap_alloc _ _ _ (by rw [hsz]; omega)).trans (heap_alloc_new _ _)
 have hB : Bx ((w.alloc (.cells #[.bool false, .slice none 0 0, .slice none 0 0, .slice none 0 0] 116)).alloc (.cells #[.bool false, .slice none 0 0, .slice none 0 0, .slice none 0 0] 116)) (w.heap.size + 1) (cn false []) := by have := heap_alloc_new (w.alloc (.cells #[.bool false, .slice none 0 0, .slice none 0 0, .slice none 0 0] 116)) (.cells #[.bool false, .slice none 0 0, .slice none 0 0, .slice none 0 0] 116); rw [hsz] at this; exact this
 have HMV := hid hmV; have HR := hid hR; have HB := hid hB; have HSV : Hid (((w.alloc (.cells #[.bool false, .slice none 0 0, .slice none 0 0, .slice none 0 0] 116)).alloc (.cells #[.bool false, .slice none 0 0, .slice none 0 0, .slice none 0 0] 116)).heap.size = w.heap.size + 2) := hid (by simp)
 clear hb hl hdec hsz hmV hR hB; go_enter Tryz.func92, Tryz.ntmps92
 go_wp2_with fail
 generalize ((w.alloc (.cells #[.bool false, .slice none 0 0, .slice none 0 0, .slice none 0 0] 116)).alloc (.cells #[.bool false, .slice none 0 0, .slice none 0 0, .slice none 0 0] 116)) = V at *; refine (HU.out V).mono ?_; rintro e w0 ⟨rfl, rfl⟩; obtain ⟨cnt, a0, er, hru, hcase⟩ := qUs 1 (rdU 0 (s.data.toList.drop 1)); rw [hru]; have hin := qKq s 1; have HStart : Hid (qKw V s false (w.heap.size + 1) (w.heap.size + 1) cnt a0 (.int .i64 (a0 : Int)) (.int .i64 (er : Int)) (.int .u64 0) V) := by
  refine ⟨0, a0, er, rfl, rfl, rfl, by omega, Mod.refl _ _, ?_⟩
  rcases hcase with ⟨h1, h2, h3, h4⟩ | ⟨h1, h2, _, _⟩
  ·obtain ⟨i1, i2, i3⟩ := hin h2; refine .inl ⟨h1, by rw [HDec.out, h3, h4]; unfold qMu; rw [if_pos h2], [], cn false [], ⟨rfl, rfl, rfl, rfl⟩, ⟨HB.out, ⟨Own.nil _ _ _, Own.nil _ _ _, Own.nil _ _ _, fun b h => (qAl b h).elim, fun b h => (qAl b h).elim, fun b h => (qAl b h).elim⟩, (fun b h => by rcases h with h | h | h <;> exact (qAl b h).elim), by omega⟩, rfl, by omega, by omega, by simp, (fun x hx => by cases hx), ?_⟩
   rw [qZl, Nat.sub_zero]
  ·exact .inr ⟨h1, by omega, by rw [HDec.out]; unfold qMu; rw [if_neg (by omega)]⟩
 clear hru hin hcase; go_wp2_with fail
 go_loopw [6, 7, 8] (fun p e i wr => qKw V s false (w.heap.size + 1) (w.heap.size + 1) cnt a0 p e i wr) (fun _ _ i _ => 1048577 - (intOf i).toNat)
 case atStart => exact HStart.out
 case round =>
  obtain ⟨i, a, e, rfl, rfl, rfl, hi, hmr, hcs⟩ := hrel; have HRr : Hid (wr.heap[w.heap.size]? = some (.cells #[.bool false, .slice none 0 0, .slice none 0 0, .slice none 0 0] 116 (0, 0))) := hid ((hmr.block _ (by rw [HSV.out]; omega) (by omega)).trans HR.out)
  have HMr := hid hmr; clear hmr; rcases hcs with ⟨he, hgood, es, m, hh, ho, hl, hic, has, hle, hok, hpre⟩ | ⟨he, hi2, hnone⟩
  ·subst he; have HGood := hid hgood; have HH := hid hh; have HO := hid ho; have HOk := hid hok; have HPre := hid hpre; have HL := hid hl; have hln := hh.len_le; obtain ⟨b0, b1, b2, b3⟩ := ho.box.cells; have hi5 : i <= 1048576 := by omega
   have hi5 : i <= 1048576 := by omega
   have hb1' : m.keys.length <= 1048576 := by omega
   have hb2' : m.values.length <= 1048576 := by omega
   have hb3' : m.kids.length <= 1048576 := by omega
   rw [hh.l] at b0; clear hh ho hok hpre hl hln hgood; by_cases hlt : i < cnt
   ·have d1 : decide (i < cnt) = true := by rw [decide_eq_true_iff]; exact hlt
    have HOa : Hid (Own (wr.alloc (.cells #[.string (rdT s a).t] 9)) 9 1 m.ka m.keys.length m.kc (m.keys.flatMap scs)) := hid (HO.out.gd.k.mod (S := fun _ => False) ((Mod.refl _ _).alloc _) (fun _ _ h => h))
    have HSa : Hid (Src (wr.alloc (.cells #[.string (rdT s a).t] 9)) 1 (some ⟨wr.heap.size, 0, none⟩) 1 [.string (rdT s a).t]) := hid (qBr (heap_alloc_new _ _) rfl); have HX : Hid (∀ w5, Mod (blk m.ka) (wr.alloc (.cells #[.string (rdT s a).t] 9)) w5 -> Bx w5 (w.heap.size + 1) m) := hid (fun w5 h5 => (HO.out.box.mod (S := fun _ => False) ((Mod.refl _ _).alloc _) (fun h => h)).mod h5 (fun h => (HO.out.bs _ (.inl h)).2 rfl))
    go_wp2_with fail
    refine (HT.out a wr).mono ?_; rintro e wx ⟨rfl, rfl⟩; by_cases hk : (rdT s a).e = 0
    ·rw [jHb hk]; have hkin := qRe s a hk; have HK := hid hk; clear hk; go_upto_region 13 with (at_builtin; refine qAe rfl (.tmp 54) (.tmp 56) 69 rfl 9 i0 _ 1 16 Tryz.underlying69 hi0 hz0 hz1 hz2 rfl m.ka m.keys.length m.kc _ rfl HOa.out (some ⟨wr.heap.size, 0, none⟩) 1 1 _ rfl HSa.out (by intro u hu; simp at hu; subst hu; rfl) (by unfold maxLen; omega) (by omega) ?_; intro a' c' w5 hown5 hm5 hb5 hn5 hr5; have hx5 := HX.out w5 hm5; obtain ⟨c0, c1, c2, c3⟩ := cl4 hx5; have f1 := frozen_of_row _ _ 1 _ _ hx5; have HOwn5 := hid hown5; have HM5 := hid hm5; have HB5 := hid hb5; clear hown5 hm5 hb5 hn5 hr5 hx5)
     obtain ⟨ho1, hm1⟩ := HO.out.key (x := (rdT s a).t) HOwn5.out HM5.out HB5.out; have HR1 := hid ((hm1.block _ (lth HRr.out) (by omega)).trans HRr.out)
     have HO1 := hid ho1; have HM1 := hid (HMr.out.trans hm1); obtain ⟨d0, d1', d2, d3⟩ := ho1.box.cells; simp only at d0 d1' d2 d3; rw [HH.out.l] at d0; clear ho1 hm1 c0 c1 c2 c3 f1 b0 b1 b2 b3; generalize w5.setCell ⟨w.heap.size + 1, 1, none⟩ (.slice a' (m.keys.length + 1) c') = w6 at *; go_wp2_with fail
     refine (HUa.out (rdT s a).n w6).mono ?_; rintro e wx ⟨rfl, rfl⟩; by_cases hv : (rdU 0 (s.data.toList.drop (rdT s a).n)).e = 0
     ·obtain ⟨u1, u2, u3⟩ := qKq s (rdT s a).n hv; have hru : ruV (rdT s a).n (rdU 0 (s.data.toList.drop (rdT s a).n)) = .tuple #[.int .u64 ((rdU 0 (s.data.toList.drop (rdT s a).n)).v : Int), .int .i64 (((rdT s a).n + (rdU 0 (s.data.toList.drop (rdT s a).n)).n : Nat) : Int), .int .i64 0] := by unfold ruV; rw [if_pos hv, Int.natCast_add]
      rw [hru]; have hmin : ((min (rdU 0 (s.data.toList.drop (rdT s a).n)).v 16384 : Nat) : Int) = min ((rdU 0 (s.data.toList.drop (rdT s a).n)).v : Int) 16384 := by omega
      have HRead : Hid (qFm false s a = some (⟨(rdT s a).t, emp, min ((rdU 0 (s.data.toList.drop (rdT s a).n)).v : Int) 16384⟩, (rdT s a).n + (rdU 0 (s.data.toList.drop (rdT s a).n)).n)) := hid (by unfold qFm; rw [if_pos HK.out]; simp only [Bool.false_eq_true, if_false]; rw [if_pos hv, hmin])
      clear hv hru hmin; generalize (rdU 0 (s.data.toList.drop (rdT s a).n)) = uu at *; have HOb : Hid (Own (w6.alloc (.cells #[.int .i64 (min (uu.v : Int) 16384)] 3)) 3 1 m.ia m.kids.length m.ic (m.kids.flatMap ics)) := hid (HO1.out.gd.i.mod (S := fun _ => False) ((Mod.refl _ _).alloc _) (fun _ _ h => h))
      have HSb : Hid (Src (w6.alloc (.cells #[.int .i64 (min (uu.v : Int) 16384)] 3)) 1 (some ⟨w6.heap.size, 0, none⟩) 1 [.int .i64 (min (uu.v : Int) 16384)]) := hid (qBr (heap_alloc_new _ _) rfl); have HX2 : Hid (∀ w7, Mod (blk m.ia) (w6.alloc (.cells #[.int .i64 (min (uu.v : Int) 16384)] 3)) w7 -> Bx w7 (w.heap.size + 1) { m with keys := m.keys ++ [(rdT s a).t], ka := a', kc := c' }) := hid (fun w7 h7 => (HO1.out.box.mod (S := fun _ => False) ((Mod.refl _ _).alloc _) (fun h => h)).mod h7 (fun h => (HO1.out.bs _ (.inr <| .inr h)).2 rfl))
      go_upto_region 7 with (at_builtin; refine qAe rfl (.tmp 82) (.tmp 86) 35 rfl 3 j0 _ 1 8 Tryz.underlying35 hj0 hy0 hy1 hy2 rfl m.ia m.kids.length m.ic _ rfl HOb.out (some ⟨w6.heap.size, 0, none⟩) 1 1 _ rfl HSb.out (by intro u hu; simp at hu; subst hu; rfl) (by unfold maxLen; omega) (by omega) ?_; intro a2 c2 w7 hown7 hm7 hb7 hn7 hr7; obtain ⟨c0, c1, c2', c3⟩ := (HX2.out w7 hm7).cells; simp only at c0 c1 c2' c3; have f1 := frozen_of_row _ _ 3 _ _ (HX2.out w7 hm7); have HOwn7 := hid hown7; have HM7 := hid hm7; have HB7 := hid hb7; clear hown7 hm7 hb7 hn7 hr7)
      obtain ⟨ho2, hm2⟩ := HO1.out.kid (x := min (uu.v : Int) 16384) HOwn7.out HM7.out HB7.out; have HR2 := hid ((hm2.block _ (lth HR1.out) (by omega)).trans HR1.out)
      have HO2 := hid ho2; have HM2 := hid (HM1.out.trans hm2); clear ho2 hm2 c0 c1 c2' c3 f1 d0 d1' d2 d3; generalize w7.setCell ⟨w.heap.size + 1, 3, none⟩ (.slice a2 (m.kids.length + 1) c2) = w8 at *; have hlen := HL.out; have HNext : Hid (qKw V s false (w.heap.size + 1) (w.heap.size + 1) cnt a0 (.int .i64 (((rdT s a).n + uu.n : Nat) : Int)) (.int .i64 0) (.int .u64 ((i : Int) + 1)) w8) := hid (by
       refine ⟨i + 1, ((rdT s a).n + uu.n), 0, rfl, rfl, rfl, by omega, HM2.out, .inl ⟨rfl, HGood.out, es ++ [⟨(rdT s a).t, emp, min (uu.v : Int) 16384⟩], _, jAw HH.out _ _ _ _ _ _, HO2.out, by simp; omega, by omega, by omega, by simp; omega, fun y hy => ?_, ?_⟩⟩
       ·rcases List.mem_append.1 hy with h | h
        ·exact HOk.out y h
        ·rw [List.mem_singleton.1 h]; exact ⟨by have := hkin.2.2; show (rdT s a).t.size <= _; omega, by show (0 : Nat) <= 4194304; omega, by show _ <= min (uu.v : Int) 16384; omega, by show min (uu.v : Int) 16384 <= _; omega⟩
       ·rw [<- HPre.out, show cnt - i = (cnt - (i + 1)) + 1 by omega, qVd HRead.out])
      clear hlen; go_wp2_with fail
      go_roundw
      case rel => exact HNext.out
      case measure => simp [intOf]; omega
     ·have hru : ruV (rdT s a).n (rdU 0 (s.data.toList.drop (rdT s a).n)) = .tuple #[.int .u64 0, .int .i64 0, .int .i64 ((rdU 0 (s.data.toList.drop (rdT s a).n)).e : Int)] := by unfold ruV; rw [if_neg hv]
      rw [hru]; have HRead : Hid (qFm false s a = none) := hid (by unfold qFm; rw [if_pos HK.out]; simp only [Bool.false_eq_true, if_false]; rw [if_neg hv])
      have HE := hid hv; have hne : ((((rdU 0 (s.data.toList.drop (rdT s a).n)).e : Nat) : Int) == 0) = false := by rw [beq_eq_false_iff_ne]; omega
      clear hv hru; have HOb : Hid (Own (w6.alloc (.cells #[.int .i64 0] 3)) 3 1 m.ia m.kids.length m.ic (m.kids.flatMap ics)) := hid (HO1.out.gd.i.mod (S := fun _ => False) ((Mod.refl _ _).alloc _) (fun _ _ h => h))
      have HSb : Hid (Src (w6.alloc (.cells #[.int .i64 0] 3)) 1 (some ⟨w6.heap.size, 0, none⟩) 1 [.int .i64 0]) := hid (qBr (heap_alloc_new _ _) rfl); have HX2 : Hid (∀ w7, Mod (blk m.ia) (w6.alloc (.cells #[.int .i64 0] 3)) w7 -> Bx w7 (w.heap.size + 1) { m with keys := m.keys ++ [(rdT s a).t], ka := a', kc := c' }) := hid (fun w7 h7 => (HO1.out.box.mod (S := fun _ => False) ((Mod.refl _ _).alloc _) (fun h => h)).mod h7 (fun h => (HO1.out.bs _ (.inr <| .inr h)).2 rfl))
      go_upto_region 7 with (at_builtin; refine qAe rfl (.tmp 82) (.tmp 86) 35 rfl 3 j0 _ 1 8 Tryz.underlying35 hj0 hy0 hy1 hy2 rfl m.ia m.kids.length m.ic _ rfl HOb.out (some ⟨w6.heap.size, 0, none⟩) 1 1 _ rfl HSb.out (by intro u hu; simp at hu; subst hu; rfl) (by unfold maxLen; omega) (by omega) ?_; intro a2 c2 w7 hown7 hm7 hb7 hn7 hr7; obtain ⟨c0, c1, c2', c3⟩ := (HX2.out w7 hm7).cells; simp only at c0 c1 c2' c3; have f1 := frozen_of_row _ _ 3 _ _ (HX2.out w7 hm7); have HOwn7 := hid hown7; have HM7 := hid hm7; have HB7 := hid hb7; clear hown7 hm7 hb7 hn7 hr7)
      obtain ⟨ho2, hm2⟩ := HO1.out.kid (x := 0) HOwn7.out HM7.out HB7.out; have HR2 := hid ((hm2.block _ (lth HR1.out) (by omega)).trans HR1.out)
      have HO2 := hid ho2; have HM2 := hid (HM1.out.trans hm2); clear ho2 hm2 c0 c1 c2' c3 f1 d0 d1' d2 d3; generalize w7.setCell ⟨w.heap.size + 1, 3, none⟩ (.slice a2 (m.kids.length + 1) c2) = w8 at *; have HNext : Hid (qKw V s false (w.heap.size + 1) (w.heap.size + 1) cnt a0 (.int .i64 0) (.int .i64 ((rdU 0 (s.data.toList.drop (rdT s a).n)).e : Int)) (.int .u64 ((i : Int) + 1)) w8) := hid (by
       refine ⟨i + 1, 0, (rdU 0 (s.data.toList.drop (rdT s a).n)).e, rfl, rfl, rfl, by omega, HM2.out, .inr ⟨HE.out, by omega, ?_⟩⟩
       rw [HGood.out, <- HPre.out, show cnt - i = (cnt - (i + 1)) + 1 by omega, qLf HRead.out]; rfl)
      go_wp2_with fail
      go_roundw
      case rel => exact HNext.out
      case measure => simp [intOf]; omega
    ·rw [qZd hk]; have hne : ((((rdT s a).e : Nat) : Int) != 0) = true := by rw [bne_iff_ne]; omega
     have HN : Hid (decP s = none) := hid (by
      rw [HGood.out, <- HPre.out, show cnt - i = (cnt - (i + 1)) + 1 by omega, qLf (by unfold qFm; rw [if_neg hk])]; rfl)
     clear hk b0 b1 b2 b3; have hz := qDg (qEm HMV.out HMr.out); have hg := (set4 (set4 (set4 (set4 HRr.out (.bool false)).1 (.slice none 0 0)).2.1 (.slice none 0 0)).2.2.1 (.slice none 0 0)).2.2.2; have HZ := hid hz; have HG4 := hid hg; clear hz hg; obtain ⟨r0, r1, r2, r3⟩ := cl4 HRr.out; have q0 := frozen_of_row _ _ 0 _ _ HRr.out; have q1 := frozen_of_row _ _ 1 _ _ HRr.out; have q2 := frozen_of_row _ _ 2 _ _ HRr.out; have q3 := frozen_of_row _ _ 3 _ _ HRr.out; go_wp2_with fail
     obtain ⟨g0, g1, g2, g3⟩ := cl4 HG4.out; clear r0 r1 r2 r3 q0 q1 q2 q3; generalize ((((wr.setCell ⟨w.heap.size, 0, none⟩ (.bool false)).setCell ⟨w.heap.size, 1, none⟩ (.slice none 0 0)).setCell ⟨w.heap.size, 2, none⟩ (.slice none 0 0)).setCell ⟨w.heap.size, 3, none⟩ (.slice none 0 0)) = ZZ at *; exact bodyPost_ret (v := .tuple #[.agg #[.bool false, .slice none 0 0, .slice none 0 0, .slice none 0 0], .int .i64 40]) (by simp [results, Tryz.results92, go_sem, g0, g1, g2, g3]) rfl (by rw [HN.out]; exact HZ.out)
   ·have d1 : decide (i < cnt) = false := by rw [decide_eq_false_iff_not]; exact hlt
    have HI3 : Hid (i = cnt) := hid (by omega)
    have HRead : Hid (qFh false s cnt a0 = some (es, a)) := hid (by rw [<- HPre.out, HI3.out, Nat.sub_self]; unfold qFh pre; simp)
    have hsl : ∀ v : World, (Instr.slice 9 (.string s) (some (.int .i64 (a : Int))) none none).run Tryz.prog v = .ok (.string (s.extract a s.size)) v := fun v => by
     have := run_slice_string_l (P := Tryz.prog) v 9 s Tryz.underlying9 .i64 (a : Int) (by omega) (by omega)
     simpa using this
    have hxs : (s.extract a s.size).size <= maxLen := by rw [ByteArray.size_extract]; omega
    have HTr := hid (fun v => qIr (s.extract a s.size) v hxs)
    have hnil := qGm (s.extract a s.size); have hdr : (s.extract a s.size).data.toList = s.data.toList.drop a := by
     rw [ByteArray.data_extract, Array.toList_extract, List.extract_eq_take_drop, List.take_of_length_le]; have : s.data.toList.length = s.size := rfl; rw [List.length_drop]; omega
    rw [hdr] at hnil; have HNil := hid hnil; clear hnil hdr hxs; generalize qKx (s.extract a s.size) = tb at *; have hEs : es.length <= 1048576 := by have := HL.out; omega
    by_cases hz : AllZ (s.data.toList.drop a)
    ·have ez : tb.toList.isEmpty = true := by rw [ByteArray.toList_eq, HNil.out.2 hz]; rfl
     have HZz := hid hz; clear hz; go_wp2_with fail
     refine (HTr.out wr).mono ?_; rintro e wt ⟨rfl, nq, rfl⟩; have hmt : Mod (fun _ => False) wr (wr.drewN nq) := (Mod.refl _ _).drewN nq
     have HRt := hid ((hmt.block _ (lth HRr.out) (fun h => h)).trans HRr.out)
     have HOt := hid (HO.out.ext hmt); have HMt := hid (HMr.out.trans (hmt.mono (fun _ _ h => h.elim)))
     clear hmt b0 b1 b2 b3; generalize wr.drewN nq = wt at *; have HEn := hid (qKi (HH.out.ok HOt.out.gd (by omega) HOk.out))
     obtain ⟨b0, b1, b2, b3⟩ := HOt.out.box.cells; go_wp2_with fail
     refine HEn.out.mono ?_; rintro e wE ⟨rfl, hmE⟩; have HRE := hid ((hmE.block _ (lth HRt.out) (fun h => h)).trans HRt.out)
     have HOE := hid (HOt.out.ext hmE); have HME := hid (HMt.out.trans (hmE.mono (fun _ _ h => h.elim)))
     clear hmE b0 b1 b2 b3; cases hE : qDi m with
     | false =>
      rw [qOm]; have HN : Hid (decP s = none) := hid (by rw [HGood.out, HRead.out]; exact qSa (fun h => by rw [<- HH.out.cn_enc, hE] at h; cases h.2))
      clear hE; have hz := qDg (qEm HMV.out HME.out); have hg := (set4 (set4 (set4 (set4 HRE.out (.bool false)).1 (.slice none 0 0)).2.1 (.slice none 0 0)).2.2.1 (.slice none 0 0)).2.2.2; have HZ := hid hz; have HG4 := hid hg; clear hz hg; obtain ⟨r0, r1, r2, r3⟩ := cl4 HRE.out; have q0 := frozen_of_row _ _ 0 _ _ HRE.out; have q1 := frozen_of_row _ _ 1 _ _ HRE.out; have q2 := frozen_of_row _ _ 2 _ _ HRE.out; have q3 := frozen_of_row _ _ 3 _ _ HRE.out; go_wp2_with fail
      obtain ⟨g0, g1, g2, g3⟩ := cl4 HG4.out; clear r0 r1 r2 r3 q0 q1 q2 q3; generalize ((((wE.setCell ⟨w.heap.size, 0, none⟩ (.bool false)).setCell ⟨w.heap.size, 1, none⟩ (.slice none 0 0)).setCell ⟨w.heap.size, 2, none⟩ (.slice none 0 0)).setCell ⟨w.heap.size, 3, none⟩ (.slice none 0 0)) = ZZ at *; exact bodyPost_ret (v := .tuple #[.agg #[.bool false, .slice none 0 0, .slice none 0 0, .slice none 0 0], .int .i64 40]) (by simp [results, Tryz.results92, go_sem, g0, g1, g2, g3]) rfl (by rw [HN.out]; exact HZ.out)
     | true =>
      rw [qSb]; have HN : Hid (decP s = some (false, es)) := hid (by rw [HGood.out, HRead.out]; exact qQb HZz.out (by rw [<- HH.out.cn_enc]; exact hE))
      have hz := qUo (qEm HMV.out HME.out) HH.out HOE.out hE HOk.out hEs; have hg := (set4 (set4 (set4 (set4 HRE.out (.bool m.leaf)).1 (.slice m.ka m.keys.length m.kc)).2.1 (.slice m.va m.values.length m.vc)).2.2.1 (.slice m.ia m.kids.length m.ic)).2.2.2; have HZ := hid hz; have HG4 := hid hg; clear hz hg hE; obtain ⟨b0, b1, b2, b3⟩ := HOE.out.box.cells; obtain ⟨r0, r1, r2, r3⟩ := cl4 HRE.out; have q0 := frozen_of_row _ _ 0 _ _ HRE.out; have q1 := frozen_of_row _ _ 1 _ _ HRE.out; have q2 := frozen_of_row _ _ 2 _ _ HRE.out; have q3 := frozen_of_row _ _ 3 _ _ HRE.out; go_wp2_with fail
      obtain ⟨g0, g1, g2, g3⟩ := cl4 HG4.out; clear r0 r1 r2 r3 q0 q1 q2 q3 b0 b1 b2 b3; generalize ((((wE.setCell ⟨w.heap.size, 0, none⟩ (.bool m.leaf)).setCell ⟨w.heap.size, 1, none⟩ (.slice m.ka m.keys.length m.kc)).setCell ⟨w.heap.size, 2, none⟩ (.slice m.va m.values.length m.vc)).setCell ⟨w.heap.size, 3, none⟩ (.slice m.ia m.kids.length m.ic)) = ZZ at *; exact bodyPost_ret (v := .tuple #[.agg #[.bool m.leaf, .slice m.ka m.keys.length m.kc, .slice m.va m.values.length m.vc, .slice m.ia m.kids.length m.ic], .int .i64 0]) (by simp [results, Tryz.results92, go_sem, g0, g1, g2, g3]) rfl (by rw [HN.out]; exact HZ.out)
    ·have ez : tb.toList.isEmpty = false := by
      rw [ByteArray.toList_eq]; cases h : tb.data.toList with
      | nil => exact absurd (HNil.out.1 h) hz
      | cons _ _ => rfl
     have HN : Hid (decP s = none) := hid (by rw [HGood.out, HRead.out]; exact qSa (fun h => hz h.1))
     clear hz; go_wp2_with fail
     refine (HTr.out wr).mono ?_; rintro e wt ⟨rfl, nq, rfl⟩; have hmt : Mod (fun _ => False) wr (wr.drewN nq) := (Mod.refl _ _).drewN nq
     have HRt := hid ((hmt.block _ (lth HRr.out) (fun h => h)).trans HRr.out)
     have HMt := hid (HMr.out.trans (hmt.mono (fun _ _ h => h.elim)))
     clear hmt b0 b1 b2 b3; generalize wr.drewN nq = wt at *; have hz := qDg (qEm HMV.out HMt.out); have hg := (set4 (set4 (set4 (set4 HRt.out (.bool false)).1 (.slice none 0 0)).2.1 (.slice none 0 0)).2.2.1 (.slice none 0 0)).2.2.2; have HZ := hid hz; have HG4 := hid hg; clear hz hg; obtain ⟨r0, r1, r2, r3⟩ := cl4 HRt.out; have q0 := frozen_of_row _ _ 0 _ _ HRt.out; have q1 := frozen_of_row _ _ 1 _ _ HRt.out; have q2 := frozen_of_row _ _ 2 _ _ HRt.out; have q3 := frozen_of_row _ _ 3 _ _ HRt.out; go_wp2_with fail
     obtain ⟨g0, g1, g2, g3⟩ := cl4 HG4.out; clear r0 r1 r2 r3 q0 q1 q2 q3; generalize ((((wt.setCell ⟨w.heap.size, 0, none⟩ (.bool false)).setCell ⟨w.heap.size, 1, none⟩ (.slice none 0 0)).setCell ⟨w.heap.size, 2, none⟩ (.slice none 0 0)).setCell ⟨w.heap.size, 3, none⟩ (.slice none 0 0)) = ZZ at *; exact bodyPost_ret (v := .tuple #[.agg #[.bool false, .slice none 0 0, .slice none 0 0, .slice none 0 0], .int .i64 40]) (by simp [results, Tryz.results92, go_sem, g0, g1, g2, g3]) rfl (by rw [HN.out]; exact HZ.out)
  ·have hne : ((e : Int) != 0) = true := by rw [bne_iff_ne]; omega
   have hne2 : ((e : Int) == 0) = false := by rw [beq_eq_false_iff_ne]; omega
   have HN := hid hnone; clear hnone he; by_cases hlt : i < cnt
   ·have d1 : decide (i < cnt) = true := by rw [decide_eq_true_iff]; exact hlt
    have hz := qDg (qEm HMV.out HMr.out); have hg := (set4 (set4 (set4 (set4 HRr.out (.bool false)).1 (.slice none 0 0)).2.1 (.slice none 0 0)).2.2.1 (.slice none 0 0)).2.2.2; have HZ := hid hz; have HG4 := hid hg; clear hz hg; obtain ⟨r0, r1, r2, r3⟩ := cl4 HRr.out; have q0 := frozen_of_row _ _ 0 _ _ HRr.out; have q1 := frozen_of_row _ _ 1 _ _ HRr.out; have q2 := frozen_of_row _ _ 2 _ _ HRr.out; have q3 := frozen_of_row _ _ 3 _ _ HRr.out; go_wp2_with fail
    obtain ⟨g0, g1, g2, g3⟩ := cl4 HG4.out; clear r0 r1 r2 r3 q0 q1 q2 q3; generalize ((((wr.setCell ⟨w.heap.size, 0, none⟩ (.bool false)).setCell ⟨w.heap.size, 1, none⟩ (.slice none 0 0)).setCell ⟨w.heap.size, 2, none⟩ (.slice none 0 0)).setCell ⟨w.heap.size, 3, none⟩ (.slice none 0 0)) = ZZ at *; exact bodyPost_ret (v := .tuple #[.agg #[.bool false, .slice none 0 0, .slice none 0 0, .slice none 0 0], .int .i64 40]) (by simp [results, Tryz.results92, go_sem, g0, g1, g2, g3]) rfl (by rw [HN.out]; exact HZ.out)
   ·have d1 : decide (i < cnt) = false := by rw [decide_eq_false_iff_not]; exact hlt
    have hz := qDg (qEm HMV.out HMr.out); have hg := (set4 (set4 (set4 (set4 HRr.out (.bool false)).1 (.slice none 0 0)).2.1 (.slice none 0 0)).2.2.1 (.slice none 0 0)).2.2.2; have HZ := hid hz; have HG4 := hid hg; clear hz hg; obtain ⟨r0, r1, r2, r3⟩ := cl4 HRr.out; have q0 := frozen_of_row _ _ 0 _ _ HRr.out; have q1 := frozen_of_row _ _ 1 _ _ HRr.out; have q2 := frozen_of_row _ _ 2 _ _ HRr.out; have q3 := frozen_of_row _ _ 3 _ _ HRr.out; go_wp2_with fail
    obtain ⟨g0, g1, g2, g3⟩ := cl4 HG4.out; clear r0 r1 r2 r3 q0 q1 q2 q3; generalize ((((wr.setCell ⟨w.heap.size, 0, none⟩ (.bool false)).setCell ⟨w.heap.size, 1, none⟩ (.slice none 0 0)).setCell ⟨w.heap.size, 2, none⟩ (.slice none 0 0)).setCell ⟨w.heap.size, 3, none⟩ (.slice none 0 0)) = ZZ at *; exact bodyPost_ret (v := .tuple #[.agg #[.bool false, .slice none 0 0, .slice none 0 0, .slice none 0 0], .int .i64 40]) (by simp [results, Tryz.results92, go_sem, g0, g1, g2, g3]) rfl (by rw [HN.out]; exact HZ.out)
set_option maxHeartbeats 4000000 in
theorem qVx {s : ByteArray} (w : World) (hn : decP s = none) (h : s.size = 0 \/ ∃ h0 : 0 < s.size, s[0].toNat ≠ 1 /\ s[0].toNat ≠ 2) : Calls Tryz.prog 92 #[.string s] w fun e w' => qOt w (decP s) e w' := by
 have HN := hid hn; have hm : Mod (fun _ => False) w (w.alloc (.cells #[.bool false, .slice none 0 0, .slice none 0 0, .slice none 0 0] 116)) := (Mod.refl _ _).alloc _
 have hr : (w.alloc (.cells #[.bool false, .slice none 0 0, .slice none 0 0, .slice none 0 0] 116)).heap[w.heap.size]? = some (.cells #[.bool false, .slice none 0 0, .slice none 0 0, .slice none 0 0] 116 (0, 0)) := heap_alloc_new _ _; have HM := hid hm; have HR := hid hr; clear hm hr hn; rcases h with h | ⟨h0, h1, h2⟩
 ·have e0 : s.toList.isEmpty = true := by rw [ByteArray.toList_eq, List.eq_nil_of_length_eq_zero (l := s.data.toList) h]; rfl
  clear h; go_enter Tryz.func92, Tryz.ntmps92
  go_upto_region 1 with fail
  generalize w.alloc (.cells #[.bool false, .slice none 0 0, .slice none 0 0, .slice none 0 0] 116) = X at *; have HZ := hid (qDg HM.out); have HG4 := hid (set4 (set4 (set4 (set4 HR.out (.bool false)).1 (.slice none 0 0)).2.1 (.slice none 0 0)).2.2.1 (.slice none 0 0)).2.2.2; obtain ⟨r0, r1, r2, r3⟩ := cl4 HR.out; have q0 := frozen_of_row _ _ 0 _ _ HR.out; have q1 := frozen_of_row _ _ 1 _ _ HR.out; have q2 := frozen_of_row _ _ 2 _ _ HR.out; have q3 := frozen_of_row _ _ 3 _ _ HR.out; go_wp2_with fail
  obtain ⟨g0, g1, g2, g3⟩ := cl4 HG4.out; clear r0 r1 r2 r3 q0 q1 q2 q3; generalize ((((X.setCell ⟨w.heap.size, 0, none⟩ (.bool false)).setCell ⟨w.heap.size, 1, none⟩ (.slice none 0 0)).setCell ⟨w.heap.size, 2, none⟩ (.slice none 0 0)).setCell ⟨w.heap.size, 3, none⟩ (.slice none 0 0)) = ZZ at *; exact bodyPost_ret (v := .tuple #[.agg #[.bool false, .slice none 0 0, .slice none 0 0, .slice none 0 0], .int .i64 40]) (by simp [results, Tryz.results92, go_sem, g0, g1, g2, g3]) rfl (by rw [HN.out]; exact HZ.out)
 ·have e0 : s.toList.isEmpty = false := by rw [ByteArray.toList_eq, qGo h0]; rfl
  have z1 : ((s[0].toNat : Int) != 1) = true := by rw [bne_iff_ne]; omega
  have z2 : ((s[0].toNat : Int) != 2) = true := by rw [bne_iff_ne]; omega
  clear h1 h2; go_enter Tryz.func92, Tryz.ntmps92
  go_upto_region 1 with fail
  generalize w.alloc (.cells #[.bool false, .slice none 0 0, .slice none 0 0, .slice none 0 0] 116) = X at *; have HZ := hid (qDg HM.out); have HG4 := hid (set4 (set4 (set4 (set4 HR.out (.bool false)).1 (.slice none 0 0)).2.1 (.slice none 0 0)).2.2.1 (.slice none 0 0)).2.2.2; obtain ⟨r0, r1, r2, r3⟩ := cl4 HR.out; have q0 := frozen_of_row _ _ 0 _ _ HR.out; have q1 := frozen_of_row _ _ 1 _ _ HR.out; have q2 := frozen_of_row _ _ 2 _ _ HR.out; have q3 := frozen_of_row _ _ 3 _ _ HR.out; go_wp2_with fail
  obtain ⟨g0, g1, g2, g3⟩ := cl4 HG4.out; clear r0 r1 r2 r3 q0 q1 q2 q3; generalize ((((X.setCell ⟨w.heap.size, 0, none⟩ (.bool false)).setCell ⟨w.heap.size, 1, none⟩ (.slice none 0 0)).setCell ⟨w.heap.size, 2, none⟩ (.slice none 0 0)).setCell ⟨w.heap.size, 3, none⟩ (.slice none 0 0)) = ZZ at *; exact bodyPost_ret (v := .tuple #[.agg #[.bool false, .slice none 0 0, .slice none 0 0, .slice none 0 0], .int .i64 40]) (by simp [results, Tryz.results92, go_sem, g0, g1, g2, g3]) rfl (by rw [HN.out]; exact HZ.out)
theorem jBo {s : ByteArray} (w : World) (hs : s.size <= 1048576) : Calls Tryz.prog 92 #[.string s] w fun e w' => qOt w (decP s) e w' := by
 by_cases h0 : 0 < s.size
 ·by_cases h1 : s[0].toNat = 1
  ·exact jFp w hs h0 h1
  ·by_cases h2 : s[0].toNat = 2
   ·exact jBn w hs h0 h2
   ·refine qVx w (qSd fun b r h => ?_) (.inr ⟨h0, h1, h2⟩)
    rw [qGo h0] at h; injection h with h3 _
    rw [<- h3]; omega
 ·refine qVx w (qSd fun b r h => ?_) (.inl (by omega))
  have : s.data.toList.length = s.size := rfl; rw [h] at this; simp at this
  omega
end
end Go.Proofs.YtgbcibdfeeiilaaGreatDoor
