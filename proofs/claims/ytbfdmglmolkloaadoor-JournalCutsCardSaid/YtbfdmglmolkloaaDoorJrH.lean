/- Journals whose disk's memory is named; holds -/
import Derived.Test.YtbfdmglmolkloaaDoorJrW
namespace Go.Proofs.YtbfdmglmolkloaaDoor
open Go Go.RowKit

/-- A disk and a journal over it, with the block of its sectors. -/
structure JS (W w : World) (b : Nat) (sa : Option Addr) (j room : Nat) (D : Dsk) : Prop where
  d : DiskAt w b sa D
  f : ∀ k, diskF b sa k → W.heap.size ≤ k
  m : Mod (fun k => W.heap.size ≤ k) W w
  ja : JAt w j b room
  na : ¬ diskF b sa j
  oa : W.heap.size ≤ j

theorem JSt.js {W w : World} {b j room : Nat} {D : Dsk} (h : JSt W w b j room D) : ∃ sa, JS W w b sa j room D := by
  obtain ⟨sa, h1, h2, h3, h4, h5, h6⟩ := h
  exact ⟨sa, h1, h2, h3, h4, h5, h6⟩
theorem JS.st {W w : World} {b j room : Nat} {sa : Option Addr} {D : Dsk} (h : JS W w b sa j room D) : JSt W w b j room D := ⟨sa, h.d, h.f, h.m, h.ja, h.na, h.oa⟩
theorem JS.step {W w w' : World} {b j room : Nat} {sa : Option Addr} {D D' : Dsk} (h : JS W w b sa j room D) (hd : DiskAt w' b sa D') (hm : Mod (diskF b sa) w w') : JS W w' b sa j room D' :=
  ⟨hd, h.f, h.m.then hm (fun i _ hi => h.f i hi), h.ja.mod hm h.na, h.na, h.oa⟩
theorem JS.ext {W w w' : World} {b j room : Nat} {sa : Option Addr} {D : Dsk} (h : JS W w b sa j room D) (hm : Mod (fun _ => False) w w') : JS W w' b sa j room D :=
  h.step (h.d.mod hm (fun _ _ h => h)) (hm.mono (fun _ _ h => h.elim))
/-- Where other memory of the call's own was written. -/
theorem JS.keep {W w w' : World} {S : Nat → Prop} {b j room : Nat} {sa : Option Addr} {D : Dsk} (h : JS W w b sa j room D) (hm : Mod S w w') (h1 : ∀ k, S k → W.heap.size ≤ k) (h2 : ∀ k, diskF b sa k → ¬ S k) (h3 : ¬ S j) : JS W w' b sa j room D :=
  ⟨h.d.mod hm h2, h.f, h.m.then hm (fun i _ hi => h1 i hi), h.ja.mod hm h3, h.na, h.oa⟩

theorem JS.len {W w : World} {b j room : Nat} {sa : Option Addr} {D : Dsk} (h : JS W w b sa j room D) (hn : D.secs.length ≤ 16384) (hr : room ≤ 500) : Calls Tryd.prog 14 #[.pointer (some ⟨j, 0, none⟩)] w fun e w' => e = .returned (.int .i64 (jlen room D : Int)) ∧ JS W w' b sa j room D ∧ Mod (fun _ => False) w w' := by
  refine (jlen_any h.d h.ja hn hr).mono ?_
  rintro e w' ⟨rfl, hm⟩
  exact ⟨rfl, h.ext hm, hm⟩

theorem JS.read {W w : World} {b j room : Nat} {sa : Option Addr} {D : Dsk} (h : JS W w b sa j room D) (hn : D.secs.length ≤ 16384) (hr : room ≤ 500) (i : Int) : Calls Tryd.prog 11 #[.pointer (some ⟨j, 0, none⟩), .int .i64 i] w fun e w' => e = .returned (.tuple #[.string (readJ room D i).1, .int .i64 (readJ room D i).2]) ∧ JS W w' b sa j room D ∧ Mod (diskF b sa) w w' := by
  refine (jread_any h.d h.ja h.na hn hr i).mono ?_
  rintro e w' ⟨rfl, hd, hm⟩
  exact ⟨rfl, h.step hd hm, hm⟩

theorem JS.commit {W w : World} {b j room k0 : Nat} {sa : Option Addr} {D : Dsk} (h : JS W w b sa j room D) (hb : Bud D k0) (hk0 : k0 ≤ 1152921504606846976) (hr : room ≤ 500) {a : Option Addr} (cap0 : Nat) {cs : List Chg} (hc : ChAt w a cs) (hap : 0 < cs.length → ∀ k, blk a k → ¬ diskF b sa k) (hlen : cs.length ≤ maxLen) :
    Calls Tryd.prog 13 #[.pointer (some ⟨j, 0, none⟩), .slice a cs.length cap0] w fun e w' => e = .returned (.int .i64 (commitF room cs D).1) ∧ JS W w' b sa j room (commitF room cs D).2 ∧ Mod (diskF b sa) w w' := by
  refine (commit_any h.d h.ja h.na hb hk0 hr cap0 hc hap hlen).mono ?_
  rintro e w' ⟨rfl, hd, hm⟩
  exact ⟨rfl, h.step hd hm, hm⟩

theorem JS.writes {W w : World} {b j room : Nat} {sa : Option Addr} {D : Dsk} (h : JS W w b sa j room D) : Calls Tryd.prog 15 #[.pointer (some ⟨b, 0, none⟩)] w fun e w' => e = .returned (.int .i64 D.writes) ∧ w = w' := writes_any h.d

/-- One more journal over the same disk. -/
theorem JS.open {W w : World} {b j room k0 : Nat} {sa : Option Addr} {D : Dsk} (h : JS W w b sa j room D) (hb : Lit D k0) (hk0 : k0 ≤ 2305843009213693952) (h1 : 1 ≤ room) (hr : room ≤ 500) (h0 : 0 < D.secs.length) (hc : Clear D) :
    Calls Tryd.prog 10 #[.pointer (some ⟨b, 0, none⟩), .int .i64 (room : Int)] w fun e w' => ∃ j', e = .returned (.tuple #[.pointer (some ⟨j', 0, none⟩), .int .i64 0]) ∧ JS W w' b sa j' room D ∧ Mod (diskF b sa) w w' := by
  have e := open_lit (room := room) hb h0 hc
  have hlt := h.d.lt
  have hsz := h.m.size
  refine (open_any h.d hb.b hk0 h1 hr).mono ?_
  rw [e]
  rintro e w' ⟨a1, a2, ⟨_, j', rfl, a4, a5⟩ | ⟨a3, _⟩⟩
  · exact ⟨j', rfl, ⟨a1, h.f, h.m.then a2 (fun i _ hi => h.f i hi), a4, fun hf => by have := hlt j' hf; omega, by omega⟩, a2⟩
  · exact absurd rfl a3

theorem pad_at {x : ByteArray} (hx : x.size ≤ 1024) (q : Nat) (hq : x.size ≤ q) (h : q < (pad x).size) : (pad x)[q] = 0 := by
  have hl := pad_list x
  have e1 : (pad x)[q] = (pad x).data.toList[q]'(by simpa using h) := by rw [Array.getElem_toList]; rfl
  rw [e1]
  have hn : x.data.toList.length = x.size := rfl
  have h2 : (pad x).data.toList[q]? = some 0 := by
    rw [hl, List.getElem?_append_right (by omega), List.getElem?_replicate, if_pos]
    have := pad_size hx
    omega
  have h3 := List.getElem?_eq_getElem (l := (pad x).data.toList) (i := q) (by simpa using h)
  rw [h3] at h2
  exact Option.some.inj h2

theorem Own.str {w : World} {e : TypeId} {g off n cap : Nat} {ss : List ByteArray} (h : Own w e 1 (some ⟨g, off, none⟩) n cap (ss.map .string)) {i : Nat} (hi : i < ss.length) : w.cell? ⟨g, off + i, none⟩ = some (.string ss[i]) := h.one hi

/-- What a journal must hold. -/
def Holds (room : Nat) (D : Dsk) (ws : List ByteArray) : Prop := ws.length = jlen room D ∧ ∀ (i : Nat) (x : ByteArray), ws[i]? = some x → x.size ≤ 1024 ∧ sec D (room + 1 + i) = pad x

set_option maxRecDepth 100000 in
set_option maxHeartbeats 2000000 in
theorem holds_yes {W w : World} {b j room k0 : Nat} {sa : Option Addr} {D : Dsk} (h : JS W w b sa j room D) (hb : Lit D k0) (hr : room ≤ 500) {na : Option Addr} {cap : Nat} {ws : List ByteArray} (hw : Own w 9 1 na ws.length cap (ws.map .string)) (hna : ∀ k, blk na k → ¬ diskF b sa k) (hh : Holds room D ws) :
    Calls Tryd.prog 16 #[.pointer (some ⟨j, 0, none⟩), .slice na ws.length cap] w fun e w' => e = .returned (.bool true) ∧ JS W w' b sa j room D ∧ Mod (diskF b sa) w w' := by
  have hn := hb.b.n
  have HJ := hid h
  have HO := hid hw
  have HNa := hid hna
  have HRd := hid (fun (v : World) (hv : JS W v b sa j room D) => hv.read hn hr)
  have HV : Hid (∀ (i : Nat) (x : ByteArray), ws[i]? = some x → x.size ≤ 1024 ∧ readJ room D (i : Int) = (pad x, 0)) := hid (fun i x hi => by
    obtain ⟨a1, a2⟩ := hh.2 i x hi
    have hil := (List.getElem?_eq_some_iff.1 hi).1
    have hl := hh.1
    refine ⟨a1, ?_⟩
    unfold readJ
    rw [if_neg (by omega)]
    unfold jlen at hl
    have := hb.read (room + 1 + i) (by omega)
    rw [a2] at this
    exact this)
  have hlen : ws.length ≤ 16384 := by have := hh.1; unfold jlen at this; omega
  clear h hw hna hh hb
  go_enter Tryd.func16, Tryd.ntmps16
  go_wp2_with fail
  go_loopw [12] (fun c wr => ∃ k : Nat, k ≤ ws.length ∧ c = .int .i64 (k : Int) ∧ JS W wr b sa j room D ∧ Mod (diskF b sa) w wr) (fun c _ => ws.length - (intOf c).toNat)
  case atStart => exact ⟨0, Nat.zero_le _, rfl, HJ.out, Mod.refl _ _⟩
  case round =>
    obtain ⟨k, hk, rfl, hj, hm⟩ := hrel
    have HJk := hid hj
    have HMk := hid hm
    clear hj hm
    by_cases hlt : k < ws.length
    · obtain ⟨x, hx⟩ : ∃ x, ws[k]? = some x := ⟨_, List.getElem?_eq_getElem hlt⟩
      have hxe : ws[k] = x := by rw [List.getElem?_eq_getElem hlt] at hx; exact Option.some.inj hx
      obtain ⟨g, off, rfl⟩ := HO.out.some_lit (by omega)
      have hc := (HO.out.mod HMk.out HNa.out).str hlt
      rw [hxe] at hc
      obtain ⟨hxs, hv⟩ := HV.out k x hx
      have hps := pad_size hxs
      have htk := pad_take hxs
      have HAt := hid (fun q hq h => pad_at hxs q hq h)
      have HR := hid (HRd.out wr HJk.out (k : Int))
      rw [hv] at HR
      generalize pad x = P at *
      have hsl : ∀ v : World, (Instr.slice 9 (.string P) none (some (.int .i64 (x.size : Int))) none).run Tryd.prog v = .ok (.string x) v := fun v => by
        have := run_slice_string_h (P := Tryd.prog) v 9 P Tryd.underlying9 .i64 (x.size : Int) (by omega) (by omega)
        rw [this]
        rw [show ((x.size : Int)).toNat = x.size by omega, htk]
      clear hx hxe hv htk
      go_wp2_with fail
      refine HR.out.mono ?_
      rintro e w1 ⟨rfl, hj1, hm1⟩
      have HJ1 := hid hj1
      have HM1 := hid (HMk.out.trans hm1)
      clear hj1 hm1 hc
      go_wp2_with fail
      obtain ⟨u, rfl⟩ : ∃ u : World, u = wr := ⟨_, rfl⟩
      go_loop [9] (fun c => ∃ q : Nat, x.size ≤ q ∧ q ≤ 1024 ∧ c = .int .i64 (q : Int)) (fun c => 1024 - (intOf c).toNat)
      case atStart => exact ⟨x.size, Nat.le_refl _, hxs, rfl⟩
      case round =>
        obtain ⟨q, hq1, hq2, rfl⟩ := hrel
        by_cases hql : q < 1024
        · have hqp : q < P.size := by omega
          have hz := HAt.out q hq1 hqp
          go_wp2_with fail
          go_round
          case rel => exact ⟨q + 1, by omega, by omega, by go_num⟩
          case measure => simp [intOf]; omega
        · have hqe : ¬ q < P.size := by omega
          go_wp2_with fail
          go_roundw
          case rel => exact ⟨k + 1, by omega, by go_num, HJ1.out, HM1.out⟩
          case measure => simp [intOf]; omega
    · have hke : k = ws.length := by omega
      subst hke
      go_wp2_with fail
      go_ret
      exact ⟨rfl, HJk.out, HMk.out⟩

end Go.Proofs.YtbfdmglmolkloaaDoor
