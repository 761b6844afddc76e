/- holds, whatever it finds; copy between lists of the call's own -/
import Derived.Test.YtbfdmglmolkloaaDoorJrK
import Derived.Laws.CopyRow
namespace Go.Proofs.YtbfdmglmolkloaaDoor
open Go Go.RowKit

/-- What holds answers: where they hold, yes. -/
def HoldsAns (room : Nat) (D : Dsk) (ws : List ByteArray) (e : Ending) : Prop := ∃ r : Bool, e = .returned (.bool r) ∧ (Holds room D ws → r = true)

set_option maxRecDepth 100000 in
set_option maxHeartbeats 2000000 in
theorem holds_any {W w : World} {b j room k0 : Nat} {sa : Option Addr} {D : Dsk} (h : JS W w b sa j room D) (hb : Lit D k0) (hr : room ≤ 500) {na : Option Addr} {cap : Nat} {ws : List ByteArray} (hw : Own w 9 1 na ws.length cap (ws.map .string)) (hna : ∀ k, blk na k → ¬ diskF b sa k) (hwl0 : ws.length = jlen room D) (hws : ∀ x ∈ ws, x.size ≤ 1024) :
    Calls Tryd.prog 16 #[.pointer (some ⟨j, 0, none⟩), .slice na ws.length cap] w fun e w' => HoldsAns room D ws e ∧ JS W w' b sa j room D ∧ Mod (diskF b sa) w w' := by
  have hwl := hwl0
  clear hwl0
  have hn := hb.b.n
  have HJ := hid h
  have HO := hid hw
  have HNa := hid hna
  have HRd := hid (fun (v : World) (hv : JS W v b sa j room D) => hv.read hn hr)
  have HV : Hid (∀ (i : Nat), i < ws.length → readJ room D (i : Int) = (sec D (room + 1 + i), 0)) := hid (fun i hi => by
    unfold readJ
    rw [if_neg (by omega)]
    unfold jlen at hwl
    exact hb.read (room + 1 + i) (by omega))
  have HSz := hid (fun i => sec_size hb.b i)
  have HWs := hid hws
  have hlen : ws.length ≤ 16384 := by unfold jlen at hwl; omega
  clear h hw hna hb hws hwl
  go_enter Tryd.func16, Tryd.ntmps16
  go_wp2_with fail
  go_loopw [12] (fun c wr => ∃ k : Nat, k ≤ ws.length ∧ c = .int .i64 (k : Int) ∧ JS W wr b sa j room D ∧ Mod (diskF b sa) w wr) (fun c _ => ws.length - (intOf c).toNat)
  case atStart => exact ⟨0, Nat.zero_le _, rfl, HJ.out, Mod.refl _ _⟩
  case round =>
    obtain ⟨k, hk, rfl, hj, hm⟩ := hrel
    have HJk := hid hj
    have HMk := hid hm
    clear hj hm
    by_cases hlt : k < ws.length
    · obtain ⟨x, hx⟩ : ∃ x, ws[k]? = some x := ⟨_, List.getElem?_eq_getElem hlt⟩
      have hxe : ws[k] = x := by rw [List.getElem?_eq_getElem hlt] at hx; exact Option.some.inj hx
      obtain ⟨g, off, rfl⟩ := HO.out.some_lit (by omega)
      have hc := (HO.out.mod HMk.out HNa.out).str hlt
      rw [hxe] at hc
      have hxs := HWs.out x (List.mem_of_getElem? hx)
      have HBad : Hid (sec D (room + 1 + k) ≠ pad x → ¬ Holds room D ws) := hid (fun hne hh => hne (hh.2 k x hx).2)
      have hP1024 := HSz.out (room + 1 + k)
      have HR := hid (HRd.out wr HJk.out (k : Int))
      rw [HV.out k hlt] at HR
      generalize sec D (room + 1 + k) = P at *
      have HXk := hid hx
      clear hx hxe
      by_cases hp : P.size = 1024
      · have hsl : ∀ v : World, (Instr.slice 9 (.string P) none (some (.int .i64 (x.size : Int))) none).run Tryd.prog v = .ok (.string (P.extract 0 x.size)) v := fun v => by
          have := run_slice_string_h (P := Tryd.prog) v 9 P Tryd.underlying9 .i64 (x.size : Int) (by omega) (by omega)
          rw [this]
          rw [show ((x.size : Int)).toNat = x.size by omega]
        by_cases hex : P.extract 0 x.size = x
        · rw [hex] at hsl
          clear hex
          go_wp2_with fail
          refine HR.out.mono ?_
          rintro e w1 ⟨rfl, hj1, hm1⟩
          have HJ1 := hid hj1
          have HM1 := hid (HMk.out.trans hm1)
          clear hj1 hm1 hc
          go_wp2_with fail
          obtain ⟨u, rfl⟩ : ∃ u : World, u = wr := ⟨_, rfl⟩
          go_loop [9] (fun c => ∃ q : Nat, x.size ≤ q ∧ q ≤ 1024 ∧ c = .int .i64 (q : Int)) (fun c => 1024 - (intOf c).toNat)
          case atStart => exact ⟨x.size, Nat.le_refl _, hxs, rfl⟩
          case round =>
            obtain ⟨q, hq1, hq2, rfl⟩ := hrel
            by_cases hql : q < 1024
            · have hqp : q < P.size := by omega
              by_cases hz : P[q] = 0
              · go_wp2_with fail
                go_round
                case rel => exact ⟨q + 1, by omega, by omega, by go_num⟩
                case measure => simp [intOf]; omega
              · have hz2 : (((P[q]).toNat : Int) == 0) = false := by
                  rw [beq_eq_false_iff_ne]
                  intro h
                  exact hz (UInt8.toNat_inj.1 (by show (P[q]).toNat = 0; omega))
                have hz3 : (((P[q]).toNat : Int) != 0) = true := by
                  rw [bne_iff_ne]
                  intro h
                  exact hz (UInt8.toNat_inj.1 (by show (P[q]).toNat = 0; omega))
                have HNo : Hid (¬ Holds room D ws) := hid (HBad.out (fun hpp => by
                  subst hpp
                  exact hz (pad_at hxs q hq1 hqp)))
                clear hz
                go_wp2_with fail
                go_ret
                exact ⟨⟨false, rfl, fun h => absurd h HNo.out⟩, HJ1.out, HM1.out⟩
            · have hqe : ¬ q < P.size := by omega
              go_wp2_with fail
              go_roundw
              case rel => exact ⟨k + 1, by omega, by go_num, HJ1.out, HM1.out⟩
              case measure => simp [intOf]; omega
        · have HNo : Hid (¬ Holds room D ws) := hid (HBad.out (fun hpp => by
            subst hpp
            exact hex (pad_take hxs)))
          have hnl : (P.extract 0 x.size).toList ≠ x.toList := fun h => hex (ba_ext (by rw [ByteArray.toList_eq, ByteArray.toList_eq] at h; exact h))
          have hne1 : ((P.extract 0 x.size).toList == x.toList) = false := beq_eq_false_iff_ne.2 hnl
          have hne2 : (!(P.extract 0 x.size).toList == x.toList) = true := by rw [hne1]; rfl
          clear hnl
          clear hex
          go_wp2_with fail
          refine HR.out.mono ?_
          rintro e w1 ⟨rfl, hj1, hm1⟩
          have HJ1 := hid hj1
          have HM1 := hid (HMk.out.trans hm1)
          clear hj1 hm1 hc
          go_wp2_with fail
          go_ret
          exact ⟨⟨false, rfl, fun h => absurd h HNo.out⟩, HJ1.out, HM1.out⟩
      · have HNo : Hid (¬ Holds room D ws) := hid (HBad.out (fun hpp => by
          subst hpp
          exact hp (pad_size hxs)))
        have hp2 : ((P.size : Int) == 1024) = false := by rw [beq_eq_false_iff_ne]; omega
        have hp3 : ((P.size : Int) != 1024) = true := by rw [bne_iff_ne]; omega
        clear hp
        go_wp2_with fail
        refine HR.out.mono ?_
        rintro e w1 ⟨rfl, hj1, hm1⟩
        have HJ1 := hid hj1
        have HM1 := hid (HMk.out.trans hm1)
        clear hj1 hm1 hc
        go_wp2_with fail
        go_ret
        exact ⟨⟨false, rfl, fun h => absurd h HNo.out⟩, HJ1.out, HM1.out⟩
    · have hke : k = ws.length := by omega
      subst hke
      go_wp2_with fail
      go_ret
      exact ⟨⟨true, rfl, fun _ => rfl⟩, HJk.out, HMk.out⟩

/-- copy between two owned lists of one length. -/
theorem run_copy_Own {P : Program} (w : World) (T ty e : TypeId) (hu : P.underlying T = some (.slice e)) (hs : (P.info? e).map (·.size) = some 1) {g off n cap : Nat} {ys : List Value} (hown : Own w e 1 (some ⟨g, off, none⟩) n cap ys) {a : Addr} {c : Nat} {xs : List Value} (hsrc : Src w 1 (some a) n xs) (h1 : ∀ v ∈ xs, v.oneCell' = true) :
    ∃ w', (Builtin.copy_ #[T, T] ty #[.slice (some ⟨g, off, none⟩) n cap, .slice (some a) n c]).run P w = .ok (goInt n) w' ∧ Own w' e 1 (some ⟨g, off, none⟩) n cap xs ∧ Mod (fun k => k = g) w w' := by
  have hxl : xs.length = n := by rw [hsrc.1, Nat.mul_one]
  rcases hown.2.2.2 with ⟨h, _⟩ | ⟨g', off', cur, h, hg, hsz, htk⟩
  · cases h
  · cases h
    have hle := hown.2.1
    have hr := run_copy_row (P := P) w T T ty e g off n cap a n c cur e xs hu hs hg (by rw [hxl]; simp) (fun j v hj => hsrc.2.2 a rfl j v hj) (by omega) h1
    rw [hxl] at hr
    have hcl : cur.toList.length = cur.size := Array.length_toList
    refine ⟨_, hr, ⟨hsrc.1, hown.2.1, hown.2.2.1, .inr ⟨g, off, _, rfl, setRow_heap w g cur _ e _ hg, ?_, ?_⟩⟩, ⟨rfl, rfl, rfl, by simp, fun k _ hk => setRow_other w g k _ hk⟩⟩
    · simp only [List.size_toArray, List.length_append, List.length_take, List.length_drop]
      omega
    · rw [List.append_assoc, List.drop_append_of_le_length (by simp only [List.length_take]; omega), List.drop_take]
      rw [show off - off = 0 by omega, List.take_zero, List.nil_append, Nat.mul_one, ← hxl, List.take_left]

theorem wpList_copy_Own {P : Program} {ops : Array Oper} {rest : List Oper} {o : Oper} {a : Act} {w : World} {Q : Exit → Act → World → Prop} (hg : o.guard = none) (d s : Operand) (T : TypeId) (hop : o.op = Op.call { callee := Callee.builtin Builtin.copy, args := #[d, s], argTypes := #[T, T] })
    (e : TypeId) (hu : P.underlying T = some (.slice e)) (hs : (P.info? e).map (·.size) = some 1) (g off n cap : Nat) (ys : List Value) (hd : a.eval d = .slice (some ⟨g, off, none⟩) n cap) (hown : Own w e 1 (some ⟨g, off, none⟩) n cap ys)
    (ad : Addr) (c : Nat) (xs : List Value) (hx : a.eval s = .slice (some ad) n c) (hsrc : Src w 1 (some ad) n xs) (h1 : ∀ v ∈ xs, v.oneCell' = true)
    (hK : ∀ w', Own w' e 1 (some ⟨g, off, none⟩) n cap xs → Mod (fun k => k = g) w w' → wpList P ops Q rest (a.put o.dst (goInt n)) w') : wpList P ops Q (o :: rest) a w := by
  have hw : Region.wanted o (yielded ops a.tmps) = true := by simp [Region.wanted, hg]
  obtain ⟨w', hrun, r1, r2⟩ := run_copy_Own (P := P) w T o.type e hu hs hown (c := c) hsrc h1
  unfold wpList
  rw [if_pos hw]
  refine .inl ?_
  unfold Oper.wp
  simp [execOp, hop, resolve, invoke, builtin, hd, hx, hrun, Result.andThen]
  exact hK w' r1 r2

/-- The disk's switches. -/
theorem JS.cut {W w : World} {b j room : Nat} {sa : Option Addr} {D : Dsk} (h : JS W w b sa j room D) (n : Int) : Calls Tryd.prog 19 #[.pointer (some ⟨b, 0, none⟩), .int .i64 n] w fun e w' => e = .returned (.tuple #[]) ∧ JS W w' b sa j room (D.cut n) ∧ Mod (diskF b sa) w w' := by
  refine (cut_any h.d n).mono ?_
  rintro e w' ⟨rfl, hd, hm⟩
  exact ⟨rfl, h.step hd hm, hm⟩
theorem JS.start {W w : World} {b j room : Nat} {sa : Option Addr} {D : Dsk} (h : JS W w b sa j room D) : Calls Tryd.prog 21 #[.pointer (some ⟨b, 0, none⟩)] w fun e w' => e = .returned (.tuple #[]) ∧ JS W w' b sa j room { D with off := false, left := 0 } ∧ Mod (diskF b sa) w w' := by
  refine (start_any h.d).mono ?_
  rintro e w' ⟨rfl, hd, hm⟩
  exact ⟨rfl, h.step hd hm, hm⟩
theorem JS.on {W w : World} {b j room : Nat} {sa : Option Addr} {D : Dsk} (h : JS W w b sa j room D) : Calls Tryd.prog 20 #[.pointer (some ⟨b, 0, none⟩)] w fun e w' => e = .returned (.bool (!D.off)) ∧ w = w' := on_any h.d

/-- Open of a journal, whatever becomes of it: the one that was there stays. -/
theorem JS.reopen {W w : World} {b j room k0 : Nat} {sa : Option Addr} {D : Dsk} (h : JS W w b sa j room D) (hb : Bud D k0) (hk0 : k0 ≤ 2305843009213693952) (h1 : 1 ≤ room) (hr : room ≤ 500) :
    Calls Tryd.prog 10 #[.pointer (some ⟨b, 0, none⟩), .int .i64 (room : Int)] w fun e w' => JS W w' b sa j room (openF room D).2 ∧ Mod (diskF b sa) w w' ∧
      (((openF room D).1 = 0 ∧ ∃ j', e = .returned (.tuple #[.pointer (some ⟨j', 0, none⟩), .int .i64 0]) ∧ JS W w' b sa j' room (openF room D).2) ∨ ((openF room D).1 ≠ 0 ∧ e = .returned (.tuple #[.pointer none, .int .i64 (openF room D).1]))) := by
  have hlt := h.d.lt
  have hsz := h.m.size
  refine (open_any h.d hb hk0 h1 hr).mono ?_
  rintro e w' ⟨a1, a2, ⟨a3, j', rfl, a4, a5⟩ | ⟨a3, rfl⟩⟩
  · exact ⟨h.step a1 a2, a2, .inl ⟨a3, j', rfl, ⟨a1, h.f, h.m.then a2 (fun i _ hi => h.f i hi), a4, fun hf => by have := hlt j' hf; omega, by omega⟩⟩⟩
  · exact ⟨h.step a1 a2, a2, .inr ⟨a3, rfl⟩⟩

end Go.Proofs.YtbfdmglmolkloaaDoor
