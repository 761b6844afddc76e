/- A sector holds what the last write that was taken put there, whole: for every list of texts; the argument reads afterwards as before. No condition. -/
import Derived.Test.YtnbcihakabchgaaRows
import Derived.Test.YtnbcihakabchgaaDiskP
import Derived.Test.YtnbcihakabchgaaOpen1
import Derived.OpenShut
import Derived.ShutString
namespace Go.Proofs.Ytnbcihakabchgaa
open Go Go.RowKit

namespace SectorLast

/-- What holds at every round's head. -/
def Rel (W : World) (b m : Nat) (l c : Value) (wr : World) : Prop :=
  ∃ (k : Nat) (D : Dsk) (s : ByteArray), k ≤ m ∧ c = .int .i64 k ∧ l = .string s ∧ St W wr b D ∧ D.secs.length = 1 ∧ Up D k ∧ full ((D.secs[0]?).getD ⟨#[]⟩) = pad s ∧ s.size ≤ 1024

set_option maxRecDepth 100000 in
set_option maxHeartbeats 2000000 in
theorem walk (W : World) (a : Option Addr) (cap : Nat) (ns : List Txt) (hsrc : Src W 1 a ns.length (ns.flatMap fun n => [.string n.1])) (hsp : 0 < ns.length → ∀ x, a = some x → x.spot = none) (hlt : ∀ k, 0 < ns.length → blk a k → k < W.heap.size) (hr : ns.length * 16 ≤ 140737488351232) :
    Calls Try.prog 5 #[.slice a ns.length cap] W fun e w' => e = .returned (.bool true) ∧ Below W.heap.size W w' := by
  have Hsrc := hid hsrc
  have Hlt := hid hlt
  clear hsrc hlt
  go_enter Try.func5, Try.ntmps5
  go_wp2_with (first | (go_at_call 10; refine (wakes_yes _).mono ?_; rintro e w1 ⟨rfl, hm1⟩; have M1 := hid hm1; clear hm1) | (go_at_call 11; refine (st_new (W := W) (M1.out.mono fun _ _ h => h.elim) 1).mono ?_; rintro e w2 ⟨b, rfl, _, hst⟩; have S0 := hid hst; clear hst))
  go_loopw [4, 14] (fun l c wr => Rel W b ns.length l c wr) (fun _ c _ => ns.length - (intOf c).toNat)
  case atStart => exact ⟨0, newD 1, ⟨#[]⟩, Nat.zero_le _, rfl, rfl, S0.out, rfl, up_new 1, by rw [pad_nil]; exact full_nil, by decide⟩
  case round =>
    obtain ⟨k, D, s, hk, rfl, rfl, hst, h1, hup, hfull, hs⟩ := hrel
    have Hst := hid hst
    by_cases hlt : k < ns.length
    · obtain ⟨⟨x, hx1⟩, hx⟩ : ∃ x, ns[k]? = some x := ⟨_, List.getElem?_eq_getElem hlt⟩
      obtain ⟨aa, rfl⟩ : ∃ aa, a = some aa := by
        cases a with
        | none => have := Hsrc.out.2.1 rfl; omega
        | some aa => exact ⟨aa, rfl⟩
      obtain ⟨g, off, sp⟩ := aa
      have hs' := hsp (by omega) _ rfl
      simp only at hs'
      subst hs'
      have q0 : wr.cell? ⟨g, off + k, none⟩ = some (.string x) := hst.cell (Hsrc.out.one (f := fun n : Txt => .string n.1) hx)
      have HW := hid (st_write hst (hup.ok (by omega) (by omega)) 0 x hx1)
      have hwu := writeF_up hup.off hup.left 0 x
      rw [if_neg (by rw [h1]; omega)] at hwu
      unfold maxLen at hx1
      clear hst
      by_cases hlong : 1024 < x.size
      · rw [if_pos hlong] at hwu
        rw [hwu] at HW
        have d1 : decide (x.size ≤ 1024) = false := by simp; omega
        have d2 : decide ((x.size : Int) ≤ 1024) = false := by simp; omega
        have hrd : readF D 0 = (pad s, 0) := by rw [readF_up hup 0 (by omega) (by omega)]; rw [← hfull]; rfl
        have HR := hid hrd
        have Hpx := hid (pad_take hs)
        have p2 : (pad s).size = 1024 := pad_size hs
        have Hkeep := hid (And.intro h1 (And.intro hup.more (And.intro hfull hs)))
        clear hwu hrd hfull h1 hup
        generalize hP : pad s = P at *
        have p1 : P.extract 0 s.size = s := Hpx.out
        have HP := hid hP
        clear hP
        go_wp2_with (first | (go_at_call 12; refine HW.out.mono ?_; rintro e w3 ⟨rfl, hst⟩; have S3 := hid hst; clear hst) | (go_at_call 15; refine (st_read S3.out 0).mono ?_; rintro e w4 ⟨rfl, hst⟩; have S4 := hid hst; clear hst; rw [HR.out]))
        go_roundw
        case rel => exact ⟨k + 1, D, s, by omega, by go_num, rfl, S4.out, Hkeep.out.1, Hkeep.out.2.1, by rw [HP.out]; exact Hkeep.out.2.2.1, Hkeep.out.2.2.2⟩
        case measure => simp [intOf]; omega
      · rw [if_neg hlong] at hwu
        rw [hwu] at HW
        have hxs : x.size ≤ 1024 := by omega
        have d1 : decide (x.size ≤ 1024) = true := by simp; omega
        have d2 : decide ((x.size : Int) ≤ 1024) = true := by simp; omega
        have hup' := hup.put 0 (by omega) x
        have hpf : full (((D.put 0 x).secs[0]?).getD ⟨#[]⟩) = pad x := by rw [put_full D 0 0 x (by omega) hxs, if_pos rfl]
        have h1' : (D.put 0 x).secs.length = 1 := by rw [put_len]; exact h1
        have hrd : readF (D.put 0 x) 0 = (pad x, 0) := by rw [readF_up hup' 0 (by omega) (by omega), ← hpf]; rfl
        have HR := hid hrd
        have Hpx := hid (pad_take hxs)
        have p2 : (pad x).size = 1024 := pad_size hxs
        have Hkeep := hid (And.intro h1' (And.intro hup' (And.intro hpf hxs)))
        have z0 : (0 : Int).toNat = 0 := rfl
        rw [z0] at HW
        clear hwu hrd hfull h1 hup hup' hpf h1' z0
        generalize D.put 0 x = D' at *
        generalize hP : pad x = P at *
        have p1 : P.extract 0 x.size = x := Hpx.out
        have HP := hid hP
        clear hP
        go_wp2_with (first | (go_at_call 12; refine HW.out.mono ?_; rintro e w3 ⟨rfl, hst⟩; have S3 := hid hst; clear hst) | (go_at_call 15; refine (st_read S3.out 0).mono ?_; rintro e w4 ⟨rfl, hst⟩; have S4 := hid hst; clear hst; rw [HR.out]))
        go_roundw
        case rel => exact ⟨k + 1, D', x, by omega, by go_num, rfl, S4.out, Hkeep.out.1, Hkeep.out.2.1, by rw [HP.out]; exact Hkeep.out.2.2.1, Hkeep.out.2.2.2⟩
        case measure => simp [intOf]; omega
    · clear hst hfull h1 hup
      go_wp2
      go_ret
      exact ⟨rfl, Hst.out.below⟩

open Go.ChangeShapes Go.WideShapes Go.ChangeAt
theorem own : ownKnob Try.prog.godebug = none := by kernel_rfl
theorem laidOut : laidOutB Try.prog = true := by kernel_rfl

set_option maxRecDepth 100000 in
theorem lifted (os : Os) (started : os.Started) (H : Type) (enc : TypeId × Value → H) :
    ReturnsInHanded {} Try.checked os 5 .any (Rows.sectorLastSpec.pre6 enc Try.prog Try.f5 Rows.sectorLastRow.domain false) (Rows.sectorLastSpec.post enc Try.prog Try.f5 false true false false) := by
  refine returnsInHanded_of_change_sized (C := Try.checked) own started (by kernel_rfl) Try.func5
    (ChangeSpec.witness6 (enc := enc) (C := Try.checked) false ⟨#[], #[.slice none 0 0], []⟩ 8 (by kernel_rfl) (by kernel_rfl) (by kernel_rfl) (by kernel_rfl)) ?_
  intro W base args ds gs before hval0 hW hcnd hsz0 _
  have hsz : (DataW.weightsEach Try.prog (Try.f5.params.toList ++ Rows.sectorLastSpec.plain.varTypes Try.prog) (ds ++ gs)).all (· ≤ reachBytes) = true := hsz0
  clear hsz0
  have hval : ∀ (j : Nat) t v, Try.f5.params[j]? = some t → args[j]? = some v → Value.okWide Try.prog W .any base t v := hval0
  have hW' := hW
  obtain ⟨p, q, hA0, hV, rfl, hfz, hnd⟩ := hW
  have hA : DataW.TrodAll enc Try.prog W 0 (fun _ => true) true Try.f5.params.toList args.toList ds p := hA0
  rw [Try.params5] at hA hval hsz
  obtain ⟨v0, vs0, d0, ds0, p0, q0, hargs, rfl, rfl, h0, r0⟩ := trodAll_cons hA
  obtain ⟨rfl, rfl, rfl⟩ := trodAll_nil r0
  obtain rfl : args = #[v0] := by cases args; simp_all
  obtain ⟨rfl, rfl⟩ := trodVars_none hV
  have lt0 : ∀ x ∈ p0, x.block < W.heap.size := by obtain ⟨m, hm⟩ := h0; exact DataW.trod_lt m _ _ _ hm
  have hsz' : (DataW.weightsEach Try.prog [30] [d0]).all (· ≤ reachBytes) = true := hsz
  obtain ⟨a0, len0, cap0, rfl⟩ := okWide_slice Try.underlying30 (hval 0 30 v0 rfl rfl)
  obtain ⟨os0, rfl, o01, o02, o03, _⟩ := open_txts h0
  have o04 := slice_reach hsz' (j := 0) rfl rfl Try.underlying30 h0
  have o05 : Try.prog.bytesOf 9 = 16 := by kernel_rfl
  rw [o05] at o04
  clear hA0 hval0
  refine (walk W a0 cap0 os0 o01 o02 o03 o04).mono fun e W' ⟨he, bel⟩ => ?_
  subst he
  exact ⟨_, rfl, _, _, _, [], _, [], hW', trodAll_mk1 (shut_bool Try.underlying4 _), (trodAll_cons_mk (Below.trod laidOut (by kernel_rfl) (of_decide_eq_true (by kernel_rfl)) h0 bel lt0) trodAll_mk0), rfl, bel.frame _, fun h => by cases h⟩

theorem over : Rows.sectorLastRow.holds Try.pinned (OpenSpec.ofChange Rows.sectorLastSpec) :=
  OpenClaim.holds_of_wide 5 Try.f5 rfl rfl rfl rfl rfl rfl rfl ⟨rfl, rfl, rfl, rfl, rfl⟩ rfl rfl rfl rfl rfl (by kernel_rfl) Try.func5 (by kernel_rfl)
    (of_decide_eq_true (by kernel_rfl)) (by unfold Func.isWrapper; first | (rw [if_pos (by decide +kernel)]; kernel_rfl) | (rw [if_neg (by decide +kernel)]; exact ⟨rfl, rfl⟩))
    (fun os started H enc _ => lifted os started H enc)

theorem proved : Rows.SectorLastSaid := over
#print axioms proved


end SectorLast

theorem sectorLast_holds : Rows.SectorLastSaid := SectorLast.proved
#print axioms sectorLast_holds

end Go.Proofs.Ytnbcihakabchgaa
