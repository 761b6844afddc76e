/- One call of a script, as the document has it -/
import Derived.Test.YtbfdmglmolkloaaGreatDoorJpW
import Derived.BigQuiet
namespace Go.Proofs.YtbfdmglmolkloaaGreatDoor
open Go Go.RowKit

theorem infoChg : (Tryz.prog.info? 65).map (fun i => (i.zero, i.size, i.bytes)) = some (some (.agg #[.int .i64 0, .string ⟨#[]⟩]), 2, 24) := by kernel_rfl
theorem one_chgs (cs : List Chg) : ∀ u ∈ cs.flatMap Chg.cs, u.oneCell' = true := flat_one (f := Chg.cs) (fun x u hu => by
  simp only [Chg.cs, List.mem_cons, List.mem_nil_iff, or_false] at hu
  rcases hu with rfl | rfl <;> rfl) cs

/-- One call of a script. -/
structure JOp where
  kd : Int
  n : Int
  ca : Option Addr
  cc : Nat
  cs : List Chg
  data : ByteArray
def JOp.vs (o : JOp) : List Value := [.int .i64 o.kd, .int .i64 o.n, .slice o.ca o.cs.length o.cc, .string o.data]
theorem jop_len (o : JOp) : o.vs.length = 4 := rfl
structure JOk (W : World) (o : JOp) : Prop where
  c : ChAt W o.ca o.cs
  n1 : o.n ≤ 9223372036854775807
  l : o.cs.length * 24 ≤ 140737488351232
  s : o.data.size ≤ 140737488351232

/-- What step leaves. -/
def StepsTo (W : World) (wb b r : Nat) (sa ra : Option Addr) (t : Nat) (w' : World) : Prop := ∃ D R jp kp, WW W w' wb b r sa ra D R t jp kp

theorem WW.up {W w : World} {wb b r : Nat} {sa ra : Option Addr} {D : Dsk} {R : Rsk} {t m : Nat} {jp kp : Option Addr} (h : WW W w wb b r sa ra D R t jp kp) (hm : t ≤ m) : WW W w wb b r sa ra D R m jp kp :=
  ⟨h.row, h.d, h.rf, h.both.up hm, h.ne, h.nb, h.nr, h.jk, h.own, h.m⟩

/-- The cells of the world and of the call stand. -/
def Stand (v : World) (wb b r g : Nat) (jp kp : Option Addr) (v0 v1 v2 v3 : Value) : Prop :=
  (v.cell? ⟨wb, 0, none⟩ = some (.pointer (some ⟨b, 0, none⟩)) ∧ v.cell? ⟨wb, 1, none⟩ = some (.pointer jp) ∧ v.cell? ⟨wb, 2, none⟩ = some (.pointer (some ⟨r, 0, none⟩)) ∧ v.cell? ⟨wb, 3, none⟩ = some (.pointer kp)) ∧
  v.cell? ⟨g, 0, none⟩ = some v0 ∧ v.cell? ⟨g, 1, none⟩ = some v1 ∧ v.cell? ⟨g, 2, none⟩ = some v2 ∧ v.cell? ⟨g, 3, none⟩ = some v3

theorem stand {W A : World} {wb b r g : Nat} {sa ra : Option Addr} {D : Dsk} {R : Rsk} {t : Nat} {jp kp : Option Addr} {v0 v1 v2 v3 : Value} {T : TypeId} (h : WW W A wb b r sa ra D R t jp kp) (hg : A.heap[g]? = some (.cells #[v0, v1, v2, v3] T (0, 0))) (hn : ¬ pairF b sa r ra g)
    (v : World) (hv : Mod (pairF b sa r ra) A v) : Stand v wb b r g jp kp v0 v1 v2 v3 := by
  obtain ⟨a0, a1, a2, a3, _⟩ := row_cells ((hv.block _ (lt_of_heap h.row) (fun e => e.elim h.nb h.nr)).trans h.row)
  obtain ⟨b0, b1, b2, b3, _⟩ := row_cells ((hv.block _ (lt_of_heap hg) hn).trans hg)
  exact ⟨⟨a0, a1, a2, a3⟩, b0, b1, b2, b3⟩

set_option maxRecDepth 100000 in
set_option maxHeartbeats 4000000 in
theorem step_cut {W w : World} {wb b r : Nat} {sa ra : Option Addr} {D : Dsk} {R : Rsk} {t : Nat} {jp kp : Option Addr} (h : WW W w wb b r sa ra D R t jp kp) (ht : t < 288230376151700000) (room : Int) (o : JOp) (ho : JOk W o) (hk : o.kd = 3 ∨ o.kd = 4 ∨ o.kd = 5 ∨ (o.kd ≠ 1 ∧ o.kd ≠ 2 ∧ o.kd ≠ 3 ∧ o.kd ≠ 4 ∧ o.kd ≠ 5)) :
    Calls Tryz.prog 8 #[.pointer (some ⟨wb, 0, none⟩), .int .i64 room, .agg o.vs.toArray] w fun e w' => e = .returned (.bool true) ∧ StepsTo W wb b r sa ra (t + 1002) w' := by
  obtain ⟨kd, n, ca, cc, cs, data⟩ := o
  obtain ⟨_, hn1, _, hds⟩ := ho
  simp only [JOp.vs] at hn1 hds hk ⊢
  have hma : Mod (fun _ => False) w (w.alloc (.cells #[.int .i64 kd, .int .i64 n, .slice ca cs.length cc, .string data] 36)) := (Mod.refl _ _).alloc _
  have hcb : (w.alloc (.cells #[.int .i64 kd, .int .i64 n, .slice ca cs.length cc, .string data] 36)).heap[w.heap.size]? = some (.cells #[.int .i64 kd, .int .i64 n, .slice ca cs.length cc, .string data] 36 (0, 0)) := heap_alloc_new _ _
  have HA := hid (h.ext hma)
  have hgn : ¬ pairF b sa r ra w.heap.size := fun e => by
    have := h.lt w.heap.size (.inr e)
    omega
  have HUp := hid (fun v hv => stand (h.ext hma) hcb hgn v hv)
  have HSz := hid hma.size
  clear h hgn hma hcb
  have hdm : data.size ≤ maxLen := by unfold maxLen; omega
  rcases hk with hk | hk | hk | ⟨k1, k2, k3, k4, k5⟩
  · subst hk
    have HC := hid (fun v (hv : DiskAt v b sa D) => cut_any hv n)
    have HR := hid (fun v (hv : RefAt v r ra R) => rcut_any hv n)
    have HB : Hid (Both (D.cut n) { R with set := true, left := max 0 n } (t + 1002)) := hid (Both.up (t := t + 1) (HA.out.both.1.cut n hn1) (by omega))
    go_enter Tryz.func8, Tryz.ntmps8
    go_wp2_with fail
    generalize w.alloc (.cells #[.int .i64 3, .int .i64 n, .slice ca cs.length cc, .string data] 36) = A at *
    obtain ⟨⟨z0, z1, z2, z3⟩, y0, y1, y2, y3⟩ := HUp.out A.drew (Mod.refl _ _).drew
    go_region_held3 (fun w' => w'.cell? ⟨wb, 0, none⟩ = some (.pointer (some ⟨b, 0, none⟩)) ∧ w'.cell? ⟨w.heap.size, 1, none⟩ = some (.int .i64 n))
      (first | exact ⟨x0, x5⟩ | exact ⟨z0, y1⟩ | go_keep)
      ((go_at_call 20; (with_reducible refine (HC.out _ (HA.out.d.mod (Mod.refl (fun _ => False) A).drew (fun _ _ h => h))).mono ?_); rintro e w2 ⟨rfl, hd2, hm2⟩; have HD2 := hid hd2; have HM2 : Hid (Mod (diskF b sa) A w2) := hid (((Mod.refl _ A).drew).trans hm2); obtain ⟨⟨x0, x1, x2, x3⟩, x4, x5, x6, x7⟩ := HUp.out w2 (HM2.out.mono (fun _ _ h => .inl h)); clear hd2 hm2))
    have HR2 := hid (HA.out.rf.mod HM2.out (fun k hk h => HA.out.ne k h hk))
    go_wp2_with fail
    have HM3 : Hid (Mod (diskF b sa) A w2.drew) := hid HM2.out.drew
    obtain ⟨⟨z0, z1, z2, z3⟩, y0, y1, y2, y3⟩ := HUp.out w2.drew (HM3.out.mono (fun _ _ h => .inl h))
    clear x0 x1 x2 x3 x4 x5 x6 x7
    go_region_held3 (fun w' => w'.cell? ⟨wb, 2, none⟩ = some (.pointer (some ⟨r, 0, none⟩)) ∧ w'.cell? ⟨w.heap.size, 1, none⟩ = some (.int .i64 n))
      (first | exact ⟨x2, x5⟩ | exact ⟨z2, y1⟩ | go_keep)
      ((go_at_call 21; (with_reducible refine (HR.out _ (HR2.out.mod (Mod.refl (fun _ => False) w2).drew (fun _ _ h => h))).mono ?_); rintro e w4 ⟨rfl, hd4, hm4⟩; have HD4 := hid hd4; have HM4 := hid hm4; obtain ⟨⟨x0, x1, x2, x3⟩, x4, x5, x6, x7⟩ := HUp.out w4 ((HM3.out.mono (fun _ _ h => .inl h)).trans (hm4.mono (fun _ _ h => .inr h))); clear hd4 hm4))
    go_wp2_with fail
    go_ret
    exact ⟨rfl, _, _, _, _, HA.out.two (HD2.out.mod (Mod.refl (fun _ => False) w2).drew (fun _ _ h => h)) HM3.out HD4.out HM4.out HB.out⟩
  · subst hk
    have HS := hid (fun v (hv : DiskAt v b sa D) => start_any hv)
    have HR := hid (fun v (hv : RefAt v r ra R) => rstart_any hv)
    have HOp := hid (fun v (hv : WW W v wb b r sa ra { D with off := false, left := 0 } { R with off := false, set := false } (t + 1) jp kp) => wopen_yes hv (by omega) room)
    have HB : Hid (Both { D with off := false, left := 0 } { R with off := false, set := false } (t + 1)) := hid HA.out.both.1.start
    obtain ⟨⟨z0, z1, z2, z3⟩, y0, y1, y2, y3⟩ := HUp.out _ (Mod.refl _ _)
    go_enter Tryz.func8, Tryz.ntmps8
    go_wp2_with fail
    generalize w.alloc (.cells #[.int .i64 4, .int .i64 n, .slice ca cs.length cc, .string data] 36) = A at *
    refine (HS.out A HA.out.d).mono ?_
    rintro e w2 ⟨rfl, hd2, hm2⟩
    have HD2 := hid hd2
    have HM2 := hid hm2
    have HR2 := hid (HA.out.rf.mod hm2 (fun k hk h => HA.out.ne k h hk))
    clear z0 z1 z2 z3 y0 y1 y2 y3 hd2 hm2
    obtain ⟨⟨z0, z1, z2, z3⟩, y0, y1, y2, y3⟩ := HUp.out w2 (HM2.out.mono (fun _ _ h => .inl h))
    go_wp2_with fail
    refine (HR.out w2 HR2.out).mono ?_
    rintro e w3 ⟨rfl, hd3, hm3⟩
    have HW3 := hid (HA.out.two HD2.out HM2.out hd3 hm3 HB.out)
    clear hd3 hm3
    go_wp2_with fail
    refine (HOp.out w3 HW3.out).mono ?_
    rintro e w4 ⟨rfl, D', R', jp', kp', hw4⟩
    have HW4 := hid hw4
    clear hw4
    go_wp2_with fail
    go_ret
    exact ⟨rfl, _, _, _, _, HW4.out.up (by omega)⟩
  · subst hk
    obtain ⟨b1, b2⟩ := HA.out.both.write (by omega) n data
    have HC := hid (fun v (hv : DiskAt v b sa D) => write_any hv (HA.out.both.1.ok HA.out.both.2 (by omega)) n data hdm)
    have HR := hid (fun v (hv : RefAt v r ra R) => rw_any hv HA.out.both.rb (by omega) n data hdm)
    have HB := hid (b2.up (m := t + 1002) (by omega))
    have he : (writeF D n data).1 = (rwriteF R n data).1 := b1
    rw [he] at HC
    generalize (writeF D n data).2 = D' at *
    generalize rwriteF R n data = q at *
    have e1 : (q.1 == q.1) = true := by simp
    clear b1 b2 he
    go_enter Tryz.func8, Tryz.ntmps8
    go_wp2_with fail
    generalize w.alloc (.cells #[.int .i64 5, .int .i64 n, .slice ca cs.length cc, .string data] 36) = A at *
    obtain ⟨⟨z0, z1, z2, z3⟩, y0, y1, y2, y3⟩ := HUp.out A.drew (Mod.refl _ _).drew
    go_region_held3 (fun w' => w'.cell? ⟨wb, 0, none⟩ = some (.pointer (some ⟨b, 0, none⟩)) ∧ w'.cell? ⟨wb, 2, none⟩ = some (.pointer (some ⟨r, 0, none⟩)) ∧ w'.cell? ⟨w.heap.size, 1, none⟩ = some (.int .i64 n) ∧ w'.cell? ⟨w.heap.size, 3, none⟩ = some (.string data))
      (first | exact ⟨u0, u2, u5, u7⟩ | exact ⟨x0, x2, x5, x7⟩ | exact ⟨z0, z2, y1, y3⟩ | go_keep)
      (first
        | (go_at_call 24; (with_reducible refine (HC.out _ (HA.out.d.mod (Mod.refl (fun _ => False) A).drew (fun _ _ h => h))).mono ?_); rintro e w2 ⟨rfl, hd2, hm2⟩; have HD2 := hid hd2; have HM2 : Hid (Mod (diskF b sa) A w2) := hid (((Mod.refl _ A).drew).trans hm2); obtain ⟨⟨x0, x1, x2, x3⟩, x4, x5, x6, x7⟩ := HUp.out w2 (HM2.out.mono (fun _ _ h => .inl h)); clear hd2 hm2)
        | (go_at_call 25; (with_reducible refine (HR.out _ (HA.out.rf.mod HM2.out (fun k hk h => absurd hk (HA.out.ne k h)))).mono ?_); rintro e w4 ⟨rfl, hd4, hm4⟩; have HD4 := hid hd4; have HM4 := hid hm4; obtain ⟨⟨u0, u1, u2, u3⟩, u4, u5, u6, u7⟩ := HUp.out w4 ((HM2.out.mono (fun _ _ h => .inl h)).trans (hm4.mono (fun _ _ h => .inr h))); clear hd4 hm4))
    go_wp2_with fail
    go_ret
    exact ⟨rfl, _, _, _, _, HA.out.two HD2.out HM2.out HD4.out HM4.out HB.out⟩
  · have d1 : (kd == 1) = false := by simpa using k1
    have d2 : (kd == 2) = false := by simpa using k2
    have d3 : (kd == 3) = false := by simpa using k3
    have d4 : (kd == 4) = false := by simpa using k4
    have d5 : (kd == 5) = false := by simpa using k5
    clear k1 k2 k3 k4 k5
    go_enter Tryz.func8, Tryz.ntmps8
    go_wp2_with fail
    go_ret
    exact ⟨rfl, _, _, _, _, HA.out.up (by omega)⟩

end Go.Proofs.YtbfdmglmolkloaaGreatDoor
