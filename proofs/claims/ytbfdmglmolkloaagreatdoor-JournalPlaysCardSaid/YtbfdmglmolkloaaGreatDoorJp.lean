/- The document's journal: Len, head, Read, numbers -/
import Derived.Test.YtbfdmglmolkloaaGreatDoorJpL
import Derived.Test.YtbfdmglmolkloaaGreatDoorJrC
import Derived.Test.YtbfdmglmolkloaaGreatDoorRdR
namespace Go.Proofs.YtbfdmglmolkloaaGreatDoor
open Go Go.RowKit

/-- The document's journal over its disk. -/
def RJAt (w : World) (k r room : Nat) : Prop := w.heap[k]? = some (.cells #[.pointer (some ⟨r, 0, none⟩), .int .i64 (room : Int)] 93 (0, 0))
theorem RJAt.lt {w : World} {j d room : Nat} (h : RJAt w j d room) : j < w.heap.size := lt_of_heap h
theorem RJAt.mod {S : Nat → Prop} {w w' : World} {j d room : Nat} (h : RJAt w j d room) (hm : Mod S w w') (hs : ¬ S j) : RJAt w' j d room := (hm.block j h.lt hs).trans h
theorem RJAt.cells {w : World} {j d room : Nat} (h : RJAt w j d room) : w.cell? ⟨j, 0, none⟩ = some (.pointer (some ⟨d, 0, none⟩)) ∧ w.cell? ⟨j, 1, none⟩ = some (.int .i64 (room : Int)) := by
  refine ⟨?_, ?_⟩ <;> (rw [cell_of_row _ _ _ _ _ _ h]; rfl)

set_option maxRecDepth 100000 in
theorem rlen_any {w : World} {k r room : Nat} {ra : Option Addr} {R : Rsk} (hR : RefAt w r ra R) (hk : RJAt w k r room) (hn : R.secs.length ≤ 16384) (hr : room ≤ 500) :
    Calls Tryz.prog 19 #[.pointer (some ⟨k, 0, none⟩)] w fun e w' => e = .returned (.int .i64 (rjlen room R : Int)) ∧ Mod (fun _ => False) w w' := by
  obtain ⟨h0, h1⟩ := hk.cells
  obtain ⟨cap, c0, _⟩ := hR.cells
  by_cases hlt : (R.secs.length : Int) - (room : Int) - 1 < 0
  · have hv : rjlen room R = 0 := by unfold rjlen; omega
    rw [hv]
    have d1 : decide ((R.secs.length : Int) - (room : Int) - 1 < 0) = true := by simpa using hlt
    generalize R.secs.length = n at *
    have s1 : IntKind.i64.wrap ((n : Int) - (room : Int)) = (n : Int) - (room : Int) := by rw [IntKind.wrap_i64]; omega
    have s2 : IntKind.i64.wrap ((n : Int) - (room : Int) - 1) = (n : Int) - (room : Int) - 1 := by rw [IntKind.wrap_i64]; omega
    clear hR hk hv hlt
    go_enter Tryz.func19, Tryz.ntmps19
    go_wp2
    go_quiet (fail)
    go_wp2
    go_ret
    exact ⟨rfl, (Mod.refl _ _).drewN _⟩
  · have hv : (R.secs.length : Int) - (room : Int) - 1 = (rjlen room R : Int) := by unfold rjlen; omega
    have d1 : decide ((R.secs.length : Int) - (room : Int) - 1 < 0) = false := by simpa using hlt
    generalize R.secs.length = n at *
    generalize rjlen room R = J at *
    have s1 : IntKind.i64.wrap ((n : Int) - (room : Int)) = (n : Int) - (room : Int) := by rw [IntKind.wrap_i64]; omega
    have s2 : IntKind.i64.wrap ((n : Int) - (room : Int) - 1) = (n : Int) - (room : Int) - 1 := by rw [IntKind.wrap_i64]; omega
    have HV := hid hv
    clear hR hk hlt hv
    go_enter Tryz.func19, Tryz.ntmps19
    go_wp2
    go_quiet (fail)
    go_wp2
    go_ret
    rw [← HV.out]
    exact ⟨rfl, (Mod.refl _ _).drewN _⟩

/-- Texts that the document reads. -/
def RSm (R : Rsk) : Prop := ∀ i : Nat, ((R.secs[i]?).getD ⟨#[]⟩).size ≤ 1024

set_option maxRecDepth 100000 in
set_option maxHeartbeats 1000000 in
theorem rjread_any {w : World} {k r room : Nat} {ra : Option Addr} {R : Rsk} (hR : RefAt w r ra R) (hk : RJAt w k r room) (hn : R.secs.length ≤ 16384) (hr : room ≤ 500) (hsm : RSm R) (i : Int) :
    Calls Tryz.prog 18 #[.pointer (some ⟨k, 0, none⟩), .int .i64 i] w fun e w' => e = .returned (.tuple #[.string (rreadJ room R i).1, .int .i64 (rreadJ room R i).2]) ∧ Mod (fun _ => False) w w' := by
  by_cases h0 : i < 0
  · have e : rreadJ room R i = (⟨#[]⟩, 10) := by unfold rreadJ; rw [if_pos (.inl h0)]
    rw [e]
    have d0 : decide (i < 0) = true := by simpa using h0
    clear hk hR
    go_enter Tryz.func18, Tryz.ntmps18
    go_wp2
    go_ret2
    exact ⟨rfl, Mod.refl _ _⟩
  · have d0 : decide (i < 0) = false := by simpa using h0
    have HJl := hid (rlen_any hR hk hn hr)
    have HJ := hid hk
    have HR := hid hR
    by_cases h1 : (rjlen room R : Int) ≤ i
    · have e : rreadJ room R i = (⟨#[]⟩, 10) := by unfold rreadJ; rw [if_pos (.inr h1)]
      rw [e]
      have d1 : decide ((rjlen room R : Int) ≤ i) = true := by simpa using h1
      clear hk hR
      go_enter Tryz.func18, Tryz.ntmps18
      go_wp2_with fail
      refine HJl.out.mono ?_
      rintro e w1 ⟨rfl, hm⟩
      have HM := hid hm
      clear hm
      go_wp2
      go_ret2
      exact ⟨rfl, HM.out⟩
    · have e : rreadJ room R i = rreadF R ((room : Int) + 1 + i) := by unfold rreadJ; rw [if_neg (by omega)]
      rw [e]
      have d1 : decide ((rjlen room R : Int) ≤ i) = false := by simpa using h1
      have hi : i ≤ 16384 := by unfold rjlen at h1; omega
      have hi0 : 0 ≤ i := by omega
      have HRa := hid (fun (v : World) (h : RefAt v r ra R) => rread_any h ((room : Int) + 1 + i) hsm)
      generalize rreadF R ((room : Int) + 1 + i) = q at *
      clear hk hR e hsm
      go_enter Tryz.func18, Tryz.ntmps18
      go_wp2_with fail
      refine HJl.out.mono ?_
      rintro e w1 ⟨rfl, hm⟩
      have HK := hid (fun x : Ext w1 => HRa.out x.val (HR.out.mod (hm.trans x.mod) (fun _ _ h => h)))
      have HM := hid hm
      obtain ⟨y0, y1⟩ := (HJ.out.mod hm (fun h => h)).cells
      have g0 := fun x : Ext w1 => x.cell y0
      have g1 := fun x : Ext w1 => x.cell y1
      have s1 : IntKind.i64.wrap ((room : Int) + 1) = (room : Int) + 1 := by rw [IntKind.wrap_i64]; omega
      have s2 : IntKind.i64.wrap ((room : Int) + 1 + i) = (room : Int) + 1 + i := by rw [IntKind.wrap_i64]; omega
      clear hm y0 y1
      go_wp2_with fail
      refine wp_region_ext (by kernel_rfl) (by kernel_rfl) ?_
      repeat (go_big_quiet_step ((go_at_call 28; exact ext_call (HK.out _))))
      refine wpQuiet_nil ?_
      rintro _ ⟨x, rfl⟩
      go_wp2_with fail
      go_ret2
      exact ⟨rfl, HM.out.trans x.mod⟩

theorem places_get {cs : List Chg} {k : Nat} {c : Chg} (h : cs[k]? = some c) : ∃ hk : k < (places cs).length, (places cs)[k] = c.pos.toNat := by
  have hk := (List.getElem?_eq_some_iff.1 h).1
  refine ⟨by rw [places_len]; exact hk, ?_⟩
  unfold places
  rw [List.getElem_map, (List.getElem?_eq_some_iff.1 h).2]

set_option maxRecDepth 100000 in
set_option maxHeartbeats 1000000 in
theorem rhead_any {w : World} {a : Option Addr} (cap : Nat) {cs : List Chg} (h : Lies w 2 Chg.cs a cs) (hl : cs.length ≤ 500) (hp : ∀ c ∈ cs, 0 ≤ c.pos ∧ c.pos ≤ 16384) :
    Calls Tryz.prog 36 #[.slice a cs.length cap] w fun e w' => e = .returned (.string (ba (hdL (places cs)))) ∧ Mod (fun _ => False) w w' := by
  have HL := hid h
  have HP := hid hp
  have HK := hid (fun k => hdK_len (places cs) k (fun n hn => by
    obtain ⟨c, hc, rfl⟩ := List.mem_map.1 hn
    have := hp c hc
    omega) (by rw [places_len]; exact hl))
  clear h hp
  go_enter Tryz.func36, Tryz.ntmps36
  go_wp2_with fail
  refine (ruint_any cs.length w (by omega)).mono ?_
  rintro e w1 ⟨rfl, hm1⟩
  have HM1 := hid hm1
  have H0 : Hid (ba (uvar cs.length) = ba (hdK (places cs) 0)) := hid (by rw [hdK_zero, places_len])
  clear hm1
  rw [H0.out]
  go_wp2_with fail
  go_loopw [3, 4] (fun s c wr => ∃ k : Nat, k ≤ cs.length ∧ c = .int .i64 (k : Int) ∧ s = .string (ba (hdK (places cs) k)) ∧ Mod (fun _ => False) w wr) (fun _ c _ => cs.length - (intOf c).toNat)
  case atStart => exact ⟨0, Nat.zero_le _, rfl, rfl, HM1.out⟩
  case round =>
    obtain ⟨k, hk, rfl, rfl, hm⟩ := hrel
    have HM := hid hm
    clear hm
    by_cases hlt : k < cs.length
    · obtain ⟨x, hx⟩ : ∃ x, cs[k]? = some x := ⟨_, List.getElem?_eq_getElem hlt⟩
      obtain ⟨g, off, rfl⟩ := HL.out.some (by omega)
      have q0 := (HL.out.ext HM.out).cell chg_len hx (j := 0) rfl
      simp only [Nat.add_zero] at q0
      obtain ⟨p1, p2⟩ := HP.out x (List.mem_of_getElem? hx)
      obtain ⟨hpk, hpe⟩ := places_get hx
      have HS : Hid (hdK (places cs) (k + 1) = hdK (places cs) k ++ uvar x.pos.toNat) := hid (by rw [hdK_succ _ _ hpk, hpe])
      have HB := hid (HK.out k)
      obtain ⟨pos, data⟩ := x
      simp only at q0 p1 p2 HS
      obtain ⟨p, rfl⟩ := Int.eq_ofNat_of_zero_le p1
      have hpn : ((p : Int)).toNat = p := by omega
      rw [hpn] at HS
      clear hx hpk hpe hpn
      go_wp2_with fail
      refine (ruint_any p wr (by omega)).mono ?_
      rintro e w2 ⟨rfl, hm2⟩
      have HM2 := hid (HM.out.trans hm2)
      have hu : (ba (uvar p)).size ≤ 10 := by rw [ba_size]; exact uvar_len10 (by omega)
      have hb : (ba (hdK (places cs) k)).size ≤ 5010 := by rw [ba_size]; exact HB.out
      clear hm2 q0
      go_wp2_with fail
      go_roundw
      case rel => exact ⟨k + 1, by omega, by go_num, by rw [HS.out, ← ba_append], HM2.out⟩
      case measure => simp [intOf]; omega
    · have hke : k = cs.length := by omega
      subst hke
      have HA : Hid (hdK (places cs) cs.length = hdL (places cs)) := hid (by have := hdK_all (places cs); rwa [places_len] at this)
      go_wp2_with fail
      go_ret
      rw [HA.out]
      exact ⟨rfl, HM.out⟩

end Go.Proofs.YtbfdmglmolkloaaGreatDoor
