/- alike -/
import Derived.Test.YtppemlofjbblfaaBusRT
import Derived.Deep.QuietTactic
import Derived.BigQuiet
namespace Go.Proofs.Ytppemlofjbblfaa
open Go Go.RowKit

theorem quiet_same {P : Program} {f : FuncId} {args : Array Value} {w : World} {n : Nat} {v : Value}
    (h : Calls P f args (w.drewN n) fun e w' => e = .returned v ∧ w.drewN n = w') : Calls P f args (w.drewN n) fun e w'' => e = .returned v ∧ ∃ m, w'' = w.drewN m :=
  h.mono fun _ _ ⟨he, hm⟩ => ⟨he, n, hm.symm⟩

theorem BusAt.drewN {T E : TypeId} {w : World} {b : Nat} {sa : Option Addr} {cap : Nat} {ls : List Let} {next : Int} (h : BusAt T E w b sa cap ls next) (n : Nat) : BusAt T E (w.drewN n) b sa cap ls next := h

set_option maxRecDepth 100000 in
set_option maxHeartbeats 400000 in
theorem alike_yes {b r : Nat} {sa ra : Option Addr} {cap rcap : Nat} {next : Int} {w : World} {ls : List Let} (hbus : BusAt 58 28 w b sa cap ls next) (hrb : BusAt 47 50 w r ra rcap ls next) (hl : ls.length ≤ 4096) :
    Calls Try.prog 21 #[.pointer (some ⟨b, 0, none⟩), .pointer (some ⟨r, 0, none⟩)] w fun e w' => e = .returned (.bool true) ∧ Mod (fun _ => False) w w' := by
  have Hl := hid (list_any hbus (by omega))
  have Hbus := hid hbus
  have Hrb := hid hrb
  clear hbus hrb
  have e1 : (((ls.length : Nat) : Int) != ((ls.length : Nat) : Int)) = false := by simp
  have e2 : (next != next) = false := by simp
  go_enter Try.func21, Try.ntmps21
  go_wp2_with (go_at_call 12; refine Hl.out.mono ?_; rintro e w1 ⟨la, lc, rfl, hown1, hm1, hbk1⟩; have Hown1 := hid hown1; have Hm1 := hid hm1; clear hown1 hm1 hbk1)
  have Hb1 := hid (Hbus.out.mod Hm1.out (fun _ _ h => h))
  have Hr1 := hid (Hrb.out.mod Hm1.out (fun _ _ h => h))
  obtain ⟨r0, r1, _, _⟩ := Hr1.out.cells
  go_quiet ((first | (go_at_call 15; exact quiet_same (len_any (Hb1.out.drewN _))) | (go_at_call 16; exact quiet_same (next_any (Hb1.out.drewN _)))))
  go_wp2
  obtain ⟨W, HW⟩ : ∃ W, Hid (W = w1.drewN nq) := ⟨_, rfl⟩
  rw [← HW.out]
  go_loopw [38] (fun c wr => ∃ k : Nat, k ≤ ls.length ∧ c = .int .i64 k ∧ Mod (fun _ => False) W wr) (fun c _ => ls.length - (intOf c).toNat)
  case atStart => exact ⟨0, Nat.zero_le _, rfl, Mod.refl _ _⟩
  case round =>
    obtain ⟨k, hk, rfl, hm⟩ := hrel
    have hwr : Mod (fun _ => False) w1 wr := ((Mod.refl _ _).drewN nq).trans (HW.out ▸ hm)
    clear r0 r1
    by_cases hlt : k < ls.length
    · obtain ⟨⟨x0, x1, x2, x3, x4, x5, x6, xs⟩, hx⟩ : ∃ x, ls[k]? = some x := ⟨_, List.getElem?_eq_getElem hlt⟩
      obtain ⟨g, off, rfl⟩ := own_some Hown1.out (by omega)
      obtain ⟨rg, roff, rfl⟩ := own_some Hr1.out.2.1 (by omega)
      have Hlate : Hid (∀ w', Mod (fun _ => False) w1 w' → w'.cell? ⟨r, 0, none⟩ = some (.slice (some ⟨rg, roff, none⟩) ls.length rcap) ∧ _ ∧ _) := fun w' hm' => ⟨(Hr1.out.mod hm' (fun _ _ h => h)).cells.1, let_cells (Hr1.out.mod hm' (fun _ _ h => h)).2.1 hx, let_cells (Hown1.out.mod hm' (fun _ _ h => h)) hx⟩
      have HE := Hlate
      have hE : ∀ x : Ext wr, Mod (fun _ => False) w1 x.val := fun x => hwr.trans x.mod
      have t0 := fun x : Ext wr => (Hlate.out x.val (hE x)).1
      have d0 := fun x : Ext wr => (Hlate.out x.val (hE x)).2.1.1
      have d1 := fun x : Ext wr => (Hlate.out x.val (hE x)).2.1.2.1
      have d2 := fun x : Ext wr => (Hlate.out x.val (hE x)).2.1.2.2.1
      have d3 := fun x : Ext wr => (Hlate.out x.val (hE x)).2.1.2.2.2.1
      have d4 := fun x : Ext wr => (Hlate.out x.val (hE x)).2.1.2.2.2.2.1
      have d5 := fun x : Ext wr => (Hlate.out x.val (hE x)).2.1.2.2.2.2.2.1
      have d6 := fun x : Ext wr => (Hlate.out x.val (hE x)).2.1.2.2.2.2.2.2.1
      have d7 := fun x : Ext wr => (Hlate.out x.val (hE x)).2.1.2.2.2.2.2.2.2
      have q0 := fun x : Ext wr => (Hlate.out x.val (hE x)).2.2.1
      have q1 := fun x : Ext wr => (Hlate.out x.val (hE x)).2.2.2.1
      have q2 := fun x : Ext wr => (Hlate.out x.val (hE x)).2.2.2.2.1
      have q3 := fun x : Ext wr => (Hlate.out x.val (hE x)).2.2.2.2.2.1
      have q4 := fun x : Ext wr => (Hlate.out x.val (hE x)).2.2.2.2.2.2.1
      have q5 := fun x : Ext wr => (Hlate.out x.val (hE x)).2.2.2.2.2.2.2.1
      have q6 := fun x : Ext wr => (Hlate.out x.val (hE x)).2.2.2.2.2.2.2.2.1
      have q7 := fun x : Ext wr => (Hlate.out x.val (hE x)).2.2.2.2.2.2.2.2.2
      have Hm := hid hm
      have Hwr := hid hwr
      clear hm hx hwr hE HE
      go_wp2
      refine wp_region_ext (by kernel_rfl) (by kernel_rfl) ?_
      repeat (go_big_quiet_step ((go_at_call 19; exact ext_call (ref_any _ _ _ _ _ _ _ _ _))))
      refine wpQuiet_nil ?_
      rintro _ ⟨x, rfl⟩
      go_wp2
      go_roundw
      case rel => exact ⟨k + 1, by omega, by go_num, Hm.out.trans x.mod⟩
      case measure => simp [intOf]; omega
    · have Hm := hid (Hm1.out.trans hwr)
      clear hm hwr
      go_wp2
      go_ret
      exact ⟨rfl, Hm.out⟩

end Go.Proofs.Ytppemlofjbblfaa
