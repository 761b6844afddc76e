/- One call of a script: commits and reads -/
import Derived.Test.YtbfdmglmolkloaaGreatDoorJpS
namespace Go.Proofs.YtbfdmglmolkloaaGreatDoor
open Go Go.RowKit

set_option maxRecDepth 100000 in
set_option maxHeartbeats 4000000 in
theorem step_commit {W w : World} {wb b r : Nat} {sa ra : Option Addr} {D : Dsk} {R : Rsk} {t : Nat} {jp kp : Option Addr} (h : WW W w wb b r sa ra D R t jp kp) (ht : t < 288230376151700000) (room : Int) (o : JOp) (ho : JOk W o) (hk : o.kd = 1) :
    Calls Tryz.prog 8 #[.pointer (some ⟨wb, 0, none⟩), .int .i64 room, .agg o.vs.toArray] w fun e w' => e = .returned (.bool true) ∧ StepsTo W wb b r sa ra (t + 1002) w' := by
  obtain ⟨i0, hi, hz0, hz1, hz2⟩ := info_parts infoChg
  obtain ⟨kd, n, ca, cc, cs, data⟩ := o
  obtain ⟨hc, _, hl, _⟩ := ho
  simp only [JOp.vs] at hc hl hk ⊢
  subst hk
  have hma : Mod (fun _ => False) w (w.alloc (.cells #[.int .i64 1, .int .i64 n, .slice ca cs.length cc, .string data] 36)) := (Mod.refl _ _).alloc _
  have hcb : (w.alloc (.cells #[.int .i64 1, .int .i64 n, .slice ca cs.length cc, .string data] 36)).heap[w.heap.size]? = some (.cells #[.int .i64 1, .int .i64 n, .slice ca cs.length cc, .string data] 36 (0, 0)) := heap_alloc_new _ _
  have HA := hid (h.ext hma)
  have HLt := hid h.lt
  have hgn : ¬ pairF b sa r ra w.heap.size := fun e => by
    have := h.lt w.heap.size (.inr e)
    omega
  have HUp := hid (fun v hv => stand (h.ext hma) hcb hgn v hv)
  have HCv := hid (fun (v : World) (hv : Mod (pairF b sa r ra) (w.alloc (.cells #[.int .i64 1, .int .i64 n, .slice ca cs.length cc, .string data] 36)) v) => (⟨hc.l.old (S := fun k => W.heap.size ≤ k) ((h.ext hma).m.then hv (fun k _ e => h.own k (.inr e))) (fun _ h => h), hc.s, hc.p⟩ : ChAt v ca cs))
  have HSz := hid hma.size
  have hb24 : cs.length * 24 ≤ 140737488355328 := by omega
  have hn : cs.length ≤ 5864062014634 := by omega
  clear hgn hma hcb h hc
  rcases HA.out.jk with ⟨rfl, rfl⟩ | ⟨j, k, rm, rfl, rfl, hrm, hj, hk, hfj, hfk⟩
  · obtain ⟨⟨z0, z1, z2, z3⟩, y0, y1, y2, y3⟩ := HUp.out _ (Mod.refl _ _)
    go_enter Tryz.func8, Tryz.ntmps8
    go_wp2_with fail
    generalize w.alloc (.cells #[.int .i64 1, .int .i64 n, .slice ca cs.length cc, .string data] 36) = A at *
    have g1 := fun x : Ext A => x.cell z1
    have g2 := fun x : Ext A => x.cell y2
    refine wp_region_ext (by kernel_rfl) (by kernel_rfl) ?_
    repeat (go_big_quiet_step ((go_at_call 12; exact ext_same (commit_none _ _))))
    refine wpQuiet_nil ?_
    rintro _ ⟨x, rfl⟩
    clear g1 g2
    go_wp2_with fail
    go_ret
    exact ⟨rfl, _, _, _, _, (HA.out.ext x.mod).up (by omega)⟩
  · obtain ⟨b1, b2⟩ := commit_both (room := rm) HA.out.both cs hrm (by omega)
    have HB := hid (b2.up (m := t + 1002) (by omega))
    have HOne := hid (one_chgs cs)
    have HCm := hid (fun (v : World) (ga : Option Addr) (gc : Nat) (hv : DiskAt v b sa D) (hjv : JAt v j b rm) (hcv : ChAt v ga cs) (hap : 0 < cs.length → ∀ k, blk ga k → ¬ diskF b sa k) => commit_any hv hjv (fun e => hfj (.inr (.inl e))) (HA.out.both.bud (by omega)) (by omega) hrm gc hcv hap (by unfold maxLen; omega))
    have HRc := hid (fun (v : World) (la : Option Addr) (lc : Nat) (hv : RefAt v r ra R) (hkv : RJAt v k r rm) (hcv : ChAt v la cs) (hap : 0 < cs.length → ∀ k, blk la k → ¬ diskF r ra k) => rcommit_any hv hkv (fun e => hfk (.inr (.inr e))) HA.out.both.rb (by omega) hrm lc hcv hap (by unfold maxLen; omega))
    have HRf := hid (fun (v : World) (hcv : ChAt v ca cs) => ref_any cc hcv hl)
    have HJv := hid (fun (v : World) (hv : Mod (pairF b sa r ra) (w.alloc (.cells #[.int .i64 1, .int .i64 n, .slice ca cs.length cc, .string data] 36)) v) => And.intro (hj.mod hv (fun e => hfj (.inr e))) (hk.mod hv (fun e => hfk (.inr e))))
    have he : (commitF rm cs D).1 = (rcommitF rm cs R).1 := b1
    rw [he] at HCm
    generalize (commitF rm cs D).2 = D' at *
    generalize rcommitF rm cs R = q at *
    have e1 : (q.1 == q.1) = true := by simp
    clear b1 b2 he hj hk hfj hfk hl
    obtain ⟨⟨a0, a1, a2, a3⟩, f0, f1, f2, f3⟩ := HUp.out _ (Mod.refl _ _)
    go_enter Tryz.func8, Tryz.ntmps8
    go_wp2_with fail
    generalize w.alloc (.cells #[.int .i64 1, .int .i64 n, .slice ca cs.length cc, .string data] 36) = A at *
    clear a0 a1 a2 a3 f0 f1 f2 f3
    have hmA : Mod (pairF b sa r ra) A A.drew := (Mod.refl _ _).drew
    have HmA := hid hmA
    have HSr := hid (HCv.out A.drew hmA).l.src
    clear hmA
    obtain ⟨⟨z0, z1, z2, z3⟩, y0, y1, y2, y3⟩ := HUp.out A.drew HmA.out
    go_region_held3 (fun w' => w'.cell? ⟨wb, 1, none⟩ = some (.pointer (some ⟨j, 0, none⟩)) ∧ w'.cell? ⟨wb, 3, none⟩ = some (.pointer (some ⟨k, 0, none⟩)) ∧ w'.cell? ⟨w.heap.size, 2, none⟩ = some (.slice ca cs.length cc))
      (first | exact ⟨u1, u3, u6⟩ | exact ⟨s1, s3, s6⟩ | exact ⟨x1, x3, x6⟩ | exact ⟨p1, p3, p6⟩ | exact ⟨z1, z3, y2⟩ | go_keep)
      (first
        | (refine step_append_Own rfl (.const (.slice none 0 0)) (.tmp 33) 34 rfl 65 i0 _ 2 24 Tryz.underlying34 hi hz0 hz1 hz2 rfl none 0 0 [] (by simp [Act.eval]) (Own.nil _ _ _) ca cs.length cc (cs.flatMap Chg.cs) (by simp [Act.eval]) HSr.out HOne.out (by unfold maxLen; omega) (by rw [Nat.zero_add]; exact hb24) ?_; intro ga gc w4 hown hm4 hb4 _ _; simp only [Nat.zero_add, List.nil_append] at hown; have HOg := hid hown; have HM4 : Hid (Mod (fun _ => False) A.drew w4) := hid (hm4.mono (fun k _ h => (blk_none k h).elim)); have HB4 := hid hb4; clear hown hm4 hb4; have HmB : Hid (Mod (pairF b sa r ra) A w4) := hid (HmA.out.trans (HM4.out.mono (fun _ _ h => h.elim))); obtain ⟨⟨p0, p1, p2, p3⟩, p4, p5, p6, p7⟩ := HUp.out w4 HmB.out; have HD4 := hid ((HA.out.d.mod (Mod.refl (fun _ => False) A).drew (fun _ _ h => h)).mod HM4.out (fun _ _ h => h)); have HGd : Hid (0 < cs.length → ∀ k, blk ga k → ¬ diskF b sa k) := hid (fun _ k hk hf => (HB4.out k hk).elim (fun h => blk_none k h) (fun h => by have h1 := HLt.out k (.inr (.inl hf)); have h2 := HSz.out; have h3 : A.drew.heap.size = A.heap.size := rfl; omega)); have HCg : Hid (ChAt w4 ga cs) := hid ⟨HOg.out.lies, (HCv.out w4 HmB.out).s, (HCv.out w4 HmB.out).p⟩; rw [Nat.zero_add])
        | (go_at_call 12; (with_reducible refine (HCm.out w4 ga gc HD4.out (HJv.out w4 HmB.out).1 HCg.out HGd.out).mono ?_); rintro e w5 ⟨rfl, hd5, hm5⟩; have HD5 := hid hd5; have HmC : Hid (Mod (diskF b sa) A w5) := hid ((((Mod.refl (diskF b sa) A).drew).trans (HM4.out.mono (fun _ _ h => h.elim))).trans hm5); have HmC2 : Hid (Mod (pairF b sa r ra) A w5) := hid (HmC.out.mono (fun _ _ h => .inl h)); obtain ⟨⟨x0, x1, x2, x3⟩, x4, x5, x6, x7⟩ := HUp.out w5 HmC2.out; clear hd5 hm5)
        | (go_at_call 17; (with_reducible refine (HRf.out w5 (HCv.out w5 HmC2.out)).mono ?_); rintro e w6 ⟨la, lc, rfl, hc6, hb6, hm6⟩; have HC6 := hid hc6; have HD6 := hid (HD5.out.mod hm6 (fun _ _ h => h)); have HmD : Hid (Mod (diskF b sa) A w6) := hid (HmC.out.trans (hm6.mono (fun _ _ h => h.elim))); have HmD2 : Hid (Mod (pairF b sa r ra) A w6) := hid (HmD.out.mono (fun _ _ h => .inl h)); have HR6 := hid (HA.out.rf.mod HmD.out (fun k hk h => HA.out.ne k h hk)); have HLd : Hid (0 < cs.length → ∀ k, blk la k → ¬ diskF r ra k) := hid (fun _ k hk hf => by have h1 := HLt.out k (.inr (.inr hf)); have h2 := HSz.out; have h3 := HmC.out.size; have h4 := hb6 k hk; omega); obtain ⟨⟨s0, s1, s2, s3⟩, s4, s5, s6, s7⟩ := HUp.out w6 HmD2.out; clear hc6 hb6 hm6)
        | (go_at_call 16; (with_reducible refine (HRc.out w6 la lc HR6.out (HJv.out w6 HmD2.out).2 HC6.out HLd.out).mono ?_); rintro e w7 ⟨rfl, hd7, hm7⟩; have HD7 := hid hd7; have HM7 := hid hm7; obtain ⟨⟨u0, u1, u2, u3⟩, u4, u5, u6, u7⟩ := HUp.out w7 (HmD2.out.trans (hm7.mono (fun _ _ h => .inr h))); clear hd7 hm7))
    go_wp2_with fail
    go_ret
    exact ⟨rfl, _, _, _, _, HA.out.two HD6.out HmD.out HD7.out HM7.out HB.out⟩

set_option maxRecDepth 100000 in
set_option maxHeartbeats 4000000 in
theorem step_read {W w : World} {wb b r : Nat} {sa ra : Option Addr} {D : Dsk} {R : Rsk} {t : Nat} {jp kp : Option Addr} (h : WW W w wb b r sa ra D R t jp kp) (room : Int) (o : JOp) (hk : o.kd = 2) :
    Calls Tryz.prog 8 #[.pointer (some ⟨wb, 0, none⟩), .int .i64 room, .agg o.vs.toArray] w fun e w' => e = .returned (.bool true) ∧ StepsTo W wb b r sa ra (t + 1002) w' := by
  obtain ⟨kd, n, ca, cc, cs, data⟩ := o
  simp only [JOp.vs] at hk ⊢
  subst hk
  have hma : Mod (fun _ => False) w (w.alloc (.cells #[.int .i64 2, .int .i64 n, .slice ca cs.length cc, .string data] 36)) := (Mod.refl _ _).alloc _
  have hcb : (w.alloc (.cells #[.int .i64 2, .int .i64 n, .slice ca cs.length cc, .string data] 36)).heap[w.heap.size]? = some (.cells #[.int .i64 2, .int .i64 n, .slice ca cs.length cc, .string data] 36 (0, 0)) := heap_alloc_new _ _
  have HA := hid (h.ext hma)
  have hgn : ¬ pairF b sa r ra w.heap.size := fun e => by
    have := h.lt w.heap.size (.inr e)
    omega
  have HUp := hid (fun v hv => stand (h.ext hma) hcb hgn v hv)
  clear hgn hma hcb h
  rcases HA.out.jk with ⟨rfl, rfl⟩ | ⟨j, k, rm, rfl, rfl, hrm, hj, hk, hfj, hfk⟩
  · obtain ⟨⟨z0, z1, z2, z3⟩, y0, y1, y2, y3⟩ := HUp.out _ (Mod.refl _ _)
    go_enter Tryz.func8, Tryz.ntmps8
    go_wp2_with fail
    generalize w.alloc (.cells #[.int .i64 2, .int .i64 n, .slice ca cs.length cc, .string data] 36) = A at *
    have g1 := fun x : Ext A => x.cell z1
    have g2 := fun x : Ext A => x.cell y1
    refine wp_region_ext (by kernel_rfl) (by kernel_rfl) ?_
    repeat (go_big_quiet_step ((go_at_call 13; exact ext_same (jread_none _ _))))
    refine wpQuiet_nil ?_
    rintro _ ⟨x, rfl⟩
    clear g1 g2 z0 z1 z2 z3 y0 y1 y2 y3
    obtain ⟨⟨z0, z1, z2, z3⟩, y0, y1, y2, y3⟩ := HUp.out x.val (x.mod.mono (fun _ _ h => h.elim))
    have HX := hid (HA.out.ext x.mod)
    generalize x.val = X at *
    go_wp2_with fail
    refine (jlen_none X).mono ?_
    rintro e w3 ⟨rfl, rfl⟩
    go_wp2_with fail
    go_ret
    exact ⟨rfl, _, _, _, _, HX.out.up (by omega)⟩
  · have HRj := hid (HA.out.both)
    have hrj := readJ_both (room := rm) HRj.out n
    have hjl := HRj.out.jlen rm
    have hsm : D.secs.length ≤ 16384 := HRj.out.1.small
    have HJr := hid (fun (v : World) (hv : DiskAt v b sa D) (hjv : JAt v j b rm) => jread_any hv hjv (fun e => hfj (.inr (.inl e))) hsm hrm n)
    have HRr := hid (fun (v : World) (hv : RefAt v r ra R) (hkv : RJAt v k r rm) => rjread_any hv hkv HRj.out.rb.n hrm HRj.out.rb.sm n)
    have HJl := hid (fun (v : World) (hv : DiskAt v b sa D) (hjv : JAt v j b rm) => jlen_any hv hjv hsm hrm)
    have HRl := hid (fun (v : World) (hv : RefAt v r ra R) (hkv : RJAt v k r rm) => rlen_any hv hkv HRj.out.rb.n hrm)
    rw [hrj] at HJr
    rw [hjl] at HJl
    have HJv := hid (fun (v : World) (hv : Mod (pairF b sa r ra) (w.alloc (.cells #[.int .i64 2, .int .i64 n, .slice ca cs.length cc, .string data] 36)) v) => And.intro (hj.mod hv (fun e => hfj (.inr e))) (hk.mod hv (fun e => hfk (.inr e))))
    generalize rreadJ rm R n = q at *
    generalize rjlen rm R = J at *
    obtain ⟨q1, q2⟩ := q
    have e1 : (q1.toList == q1.toList) = true := by simp
    have e2 : (q2 == q2) = true := by simp
    have e3 : ((J : Int) == (J : Int)) = true := by simp
    clear hrj hjl hsm hj hk hfj hfk
    obtain ⟨⟨a0, a1, a2, a3⟩, f0, f1, f2, f3⟩ := HUp.out _ (Mod.refl _ _)
    go_enter Tryz.func8, Tryz.ntmps8
    go_wp2_with fail
    generalize w.alloc (.cells #[.int .i64 2, .int .i64 n, .slice ca cs.length cc, .string data] 36) = A at *
    clear a0 a1 a2 a3 f0 f1 f2 f3
    have HmA : Hid (Mod (pairF b sa r ra) A A.drew) := hid (Mod.refl _ _).drew
    have HDa := hid (HA.out.d.mod (Mod.refl (fun _ => False) A).drew (fun _ _ h => h))
    obtain ⟨⟨z0, z1, z2, z3⟩, y0, y1, y2, y3⟩ := HUp.out A.drew HmA.out
    go_region_held3 (fun w' => w'.cell? ⟨wb, 1, none⟩ = some (.pointer (some ⟨j, 0, none⟩)) ∧ w'.cell? ⟨w.heap.size, 1, none⟩ = some (.int .i64 n))
      (first | exact ⟨x1, x5⟩ | exact ⟨z1, y1⟩ | go_keep)
      ((go_at_call 13; (with_reducible refine (HJr.out A.drew HDa.out (HJv.out A.drew HmA.out).1).mono ?_); rintro e w2 ⟨rfl, hd2, hm2⟩; have HD2 := hid hd2; have HM2 : Hid (Mod (diskF b sa) A w2) := hid (((Mod.refl _ A).drew).trans hm2); have HmB : Hid (Mod (pairF b sa r ra) A w2) := hid (HM2.out.mono (fun _ _ h => .inl h)); obtain ⟨⟨x0, x1, x2, x3⟩, x4, x5, x6, x7⟩ := HUp.out w2 HmB.out; clear hd2 hm2))
    have HR2 := hid (HA.out.rf.mod HM2.out (fun k hk h => HA.out.ne k h hk))
    have HW2 := hid (HA.out.two HD2.out HM2.out HR2.out (Mod.refl _ _) HRj.out)
    clear z0 z1 z2 z3 y0 y1 y2 y3
    go_wp2_with fail
    have g1 := fun x : Ext w2 => x.cell x1
    have g3 := fun x : Ext w2 => x.cell x3
    have g5 := fun x : Ext w2 => x.cell x5
    have HK := hid (fun x : Ext w2 => HRr.out x.val (HR2.out.mod x.mod (fun _ _ h => h)) (HJv.out x.val (HmB.out.trans (x.mod.mono (fun _ _ h => h.elim)))).2)
    refine wp_region_ext (by kernel_rfl) (by kernel_rfl) ?_
    repeat (go_big_quiet_step ((go_at_call 18; exact ext_call (HK.out _))))
    refine wpQuiet_nil ?_
    rintro _ ⟨x, rfl⟩
    have HmC : Hid (Mod (pairF b sa r ra) A x.val) := hid (HmB.out.trans (x.mod.mono (fun _ _ h => h.elim)))
    have HDx := hid (HD2.out.mod x.mod (fun _ _ h => h))
    have HRx := hid (HR2.out.mod x.mod (fun _ _ h => h))
    have HWx := hid (HW2.out.ext x.mod)
    clear g1 g3 g5 HK x0 x1 x2 x3 x4 x5 x6 x7
    generalize x.val = X at *
    obtain ⟨⟨x0, x1, x2, x3⟩, x4, x5, x6, x7⟩ := HUp.out X HmC.out
    go_wp2_with fail
    have g1 := fun x : Ext X => x.cell x1
    have g3 := fun x : Ext X => x.cell x3
    have HKj := hid (fun x : Ext X => HJl.out x.val (HDx.out.mod x.mod (fun _ _ h => h)) (HJv.out x.val (HmC.out.trans (x.mod.mono (fun _ _ h => h.elim)))).1)
    have HKr := hid (fun x : Ext X => HRl.out x.val (HRx.out.mod x.mod (fun _ _ h => h)) (HJv.out x.val (HmC.out.trans (x.mod.mono (fun _ _ h => h.elim)))).2)
    refine wp_region_ext (by kernel_rfl) (by kernel_rfl) ?_
    repeat (go_big_quiet_step ((first | (go_at_call 11; exact ext_call (HKj.out _)) | (go_at_call 19; exact ext_call (HKr.out _)))))
    refine wpQuiet_nil ?_
    rintro _ ⟨z, rfl⟩
    clear g1 g3
    go_wp2_with fail
    go_ret
    exact ⟨rfl, _, _, _, _, (HWx.out.ext z.mod).up (by omega)⟩

theorem step_any {W w : World} {wb b r : Nat} {sa ra : Option Addr} {D : Dsk} {R : Rsk} {t : Nat} {jp kp : Option Addr} (h : WW W w wb b r sa ra D R t jp kp) (ht : t < 288230376151700000) (room : Int) (o : JOp) (ho : JOk W o) :
    Calls Tryz.prog 8 #[.pointer (some ⟨wb, 0, none⟩), .int .i64 room, .agg o.vs.toArray] w fun e w' => e = .returned (.bool true) ∧ StepsTo W wb b r sa ra (t + 1002) w' := by
  by_cases h1 : o.kd = 1
  · exact step_commit h ht room o ho h1
  · by_cases h2 : o.kd = 2
    · exact step_read h room o h2
    · exact step_cut h ht room o ho (by omega)

end Go.Proofs.YtbfdmglmolkloaaGreatDoor
