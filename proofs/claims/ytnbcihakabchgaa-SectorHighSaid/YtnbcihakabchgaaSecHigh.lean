/- The highest sector is the greatest that a write was done to, and the writes are counted: for every list of places; the argument reads afterwards as before. No condition. -/
import Derived.Test.YtnbcihakabchgaaRows
import Derived.Test.YtnbcihakabchgaaDiskS
import Derived.Test.YtnbcihakabchgaaOpen1
import Derived.OpenShut
import Derived.ShutString
namespace Go.Proofs.Ytnbcihakabchgaa
open Go Go.RowKit

namespace SectorHigh

def X1 : ByteArray := ⟨#[120]⟩

/-- What holds at every round's head. -/
def Rel (W : World) (b m : Nat) (h n c : Value) (wr : World) : Prop :=
  ∃ (k : Nat) (D : Dsk), k ≤ m ∧ c = .int .i64 k ∧ h = .int .i64 (D.high - 1) ∧ n = .int .i64 D.writes ∧ St W wr b D ∧ D.secs.length = 50 ∧ D.off = false ∧ D.left = 0 ∧ 0 ≤ D.writes ∧ D.writes ≤ k ∧ 0 ≤ D.high ∧ D.high ≤ 50

set_option maxRecDepth 100000 in
set_option maxHeartbeats 2000000 in
theorem walk (W : World) (a : Option Addr) (cap : Nat) (ns : List Num) (hsrc : Src W 1 a ns.length (ns.flatMap fun n => [.int .i64 n.1])) (hsp : 0 < ns.length → ∀ x, a = some x → x.spot = none) (hlt : ∀ k, 0 < ns.length → blk a k → k < W.heap.size) (hr : ns.length * 8 ≤ 140737488351232) :
    Calls Try.prog 3 #[.slice a ns.length cap] W fun e w' => e = .returned (.bool true) ∧ Below W.heap.size W w' := by
  have Hsrc := hid hsrc
  have Hlt := hid hlt
  clear hsrc hlt
  go_enter Try.func3, Try.ntmps3
  go_wp2_with (first | (go_at_call 10; refine (wakes_yes _).mono ?_; rintro e w1 ⟨rfl, hm1⟩; have M1 := hid hm1; clear hm1) | (go_at_call 11; refine (st_new (W := W) (M1.out.mono fun _ _ h => h.elim) 50).mono ?_; rintro e w2 ⟨b, rfl, _, hst⟩; have S0 := hid hst; clear hst))
  go_loopw [4, 5, 14] (fun h n c wr => Rel W b ns.length h n c wr) (fun _ _ c _ => ns.length - (intOf c).toNat)
  case atStart => exact ⟨0, newD 50, Nat.zero_le _, rfl, rfl, rfl, S0.out, rfl, rfl, rfl, by decide, by decide, by decide, by decide⟩
  case round =>
    obtain ⟨k, D, hk, rfl, rfl, rfl, hst, h50, hoff, hleft, hw0, hw1, hh0, hh1⟩ := hrel
    have Hst := hid hst
    by_cases hlt : k < ns.length
    · obtain ⟨⟨x, hx0, hx1⟩, hx⟩ : ∃ x, ns[k]? = some x := ⟨_, List.getElem?_eq_getElem hlt⟩
      obtain ⟨aa, rfl⟩ : ∃ aa, a = some aa := by
        cases a with
        | none => have := Hsrc.out.2.1 rfl; omega
        | some aa => exact ⟨aa, rfl⟩
      obtain ⟨g, off, sp⟩ := aa
      have hs := hsp (by omega) _ rfl
      simp only at hs
      subst hs
      have q0 : wr.cell? ⟨g, off + k, none⟩ = some (.int .i64 x) := hst.cell (Hsrc.out.one (f := fun n : Num => .int .i64 n.1) hx)
      have ok : D.Ok := ⟨by omega, hw0, by omega, hh0, by omega, by omega, by omega⟩
      have HW := hid (st_write hst ok x ⟨#[120]⟩ (by decide))
      have Hup := hid (writeF_up hoff hleft x ⟨#[120]⟩)
      clear hst
      by_cases hin : 0 ≤ x ∧ x < 50
      · have d1 : decide (0 ≤ x) = true := by simp [hin.1]
        have d2 : decide (x < 50) = true := by simp [hin.2]
        have e1 : writeF D x ⟨#[120]⟩ = (0, D.put x.toNat ⟨#[120]⟩) := by
          rw [Hup.out, if_neg (by rw [h50]; omega), if_neg (by decide)]
        rw [e1] at HW
        have p1 : (D.put x.toNat ⟨#[120]⟩).writes = D.writes + 1 := rfl
        have p2 : (D.put x.toNat ⟨#[120]⟩).high - 1 = max (D.high - 1) x := by
          simp only [Dsk.put]; split <;> omega
        have p3 : (D.put x.toNat ⟨#[120]⟩).secs.length = 50 := by simp [Dsk.put, h50]
        have p4 : (D.put x.toNat ⟨#[120]⟩).off = false := hoff
        have p5 : (D.put x.toNat ⟨#[120]⟩).left = 0 := by simp [Dsk.put, hleft]
        have ok' := hid (put_ok ok x.toNat (by omega) (by omega) ⟨#[120]⟩)
        have P1 := hid p1
        have P2 := hid p2
        have P := hid (And.intro p3 (And.intro p4 p5))
        clear e1 p1 p2 p3 p4 p5 hoff hleft h50
        generalize D.put x.toNat ⟨#[120]⟩ = D' at *
        have f1 : (max (D.high - 1) x != max (D.high - 1) x) = false := by simp
        have f2 : (D.writes + 1 != D.writes + 1) = false := by simp
        go_wp2_with (first | (go_at_call 12; refine HW.out.mono ?_; rintro e w3 ⟨rfl, hst⟩; have S3 := hid hst; clear hst) | (go_at_call 13; refine (st_highest S3.out ok'.out).mono ?_; rintro e w' ⟨rfl, rfl⟩; rw [P2.out]) | (go_at_call 14; refine (st_writes S3.out).mono ?_; rintro e w' ⟨rfl, rfl⟩; rw [P1.out]))
        go_roundw
        case rel => exact ⟨k + 1, D', by omega, by go_num, by rw [P2.out], by rw [P1.out], S3.out, P.out.1, P.out.2.1, P.out.2.2, by rw [P1.out]; omega, by rw [P1.out]; omega, by have := P2.out; omega, by have := P2.out; omega⟩
        case measure => simp [intOf]; omega
      · have e1 : writeF D x ⟨#[120]⟩ = (10, D) := by
          rw [Hup.out, if_pos (by rw [h50]; omega)]
        rw [e1] at HW
        have okD := hid ok
        have H50 := hid h50
        have Hof := hid hoff
        have Hle := hid hleft
        clear e1 ok h50 hoff hleft
        have f1 : (D.high - 1 != D.high - 1) = false := by simp
        have f2 : (D.writes != D.writes) = false := by simp
        by_cases hx2 : 0 ≤ x
        all_goals (
          first
            | (have d1 : decide (0 ≤ x) = true := by simp [hx2]
               have d2 : decide (x < 50) = false := by simp; omega
               skip)
            | (have d1 : decide (0 ≤ x) = false := by simp; omega)
          go_wp2_with (first | (go_at_call 12; refine HW.out.mono ?_; rintro e w3 ⟨rfl, hst⟩; have S3 := hid hst; clear hst) | (go_at_call 13; refine (st_highest S3.out okD.out).mono ?_; rintro e w' ⟨rfl, rfl⟩) | (go_at_call 14; refine (st_writes S3.out).mono ?_; rintro e w' ⟨rfl, rfl⟩))
          go_roundw
          case rel => exact ⟨k + 1, D, by omega, by go_num, rfl, rfl, S3.out, H50.out, Hof.out, Hle.out, hw0, by omega, hh0, hh1⟩
          case measure => simp [intOf]; omega)
    · clear hst h50 hoff hleft
      go_wp2
      go_ret
      exact ⟨rfl, Hst.out.below⟩

open Go.ChangeShapes Go.WideShapes Go.ChangeAt
theorem own : ownKnob Try.prog.godebug = none := by kernel_rfl
theorem laidOut : laidOutB Try.prog = true := by kernel_rfl

set_option maxRecDepth 100000 in
theorem lifted (os : Os) (started : os.Started) (H : Type) (enc : TypeId × Value → H) :
    ReturnsInHanded {} Try.checked os 3 .any (Rows.sectorHighSpec.pre6 enc Try.prog Try.f3 Rows.sectorHighRow.domain false) (Rows.sectorHighSpec.post enc Try.prog Try.f3 false true false false) := by
  refine returnsInHanded_of_change_sized (C := Try.checked) own started (by kernel_rfl) Try.func3
    (ChangeSpec.witness6 (enc := enc) (C := Try.checked) false ⟨#[], #[.slice none 0 0], []⟩ 8 (by kernel_rfl) (by kernel_rfl) (by kernel_rfl) (by kernel_rfl)) ?_
  intro W base args ds gs before hval0 hW hcnd hsz0 _
  have hsz : (DataW.weightsEach Try.prog (Try.f3.params.toList ++ Rows.sectorHighSpec.plain.varTypes Try.prog) (ds ++ gs)).all (· ≤ reachBytes) = true := hsz0
  clear hsz0
  have hval : ∀ (j : Nat) t v, Try.f3.params[j]? = some t → args[j]? = some v → Value.okWide Try.prog W .any base t v := hval0
  have hW' := hW
  obtain ⟨p, q, hA0, hV, rfl, hfz, hnd⟩ := hW
  have hA : DataW.TrodAll enc Try.prog W 0 (fun _ => true) true Try.f3.params.toList args.toList ds p := hA0
  rw [Try.params3] at hA hval hsz
  obtain ⟨v0, vs0, d0, ds0, p0, q0, hargs, rfl, rfl, h0, r0⟩ := trodAll_cons hA
  obtain ⟨rfl, rfl, rfl⟩ := trodAll_nil r0
  obtain rfl : args = #[v0] := by cases args; simp_all
  obtain ⟨rfl, rfl⟩ := trodVars_none hV
  have lt0 : ∀ x ∈ p0, x.block < W.heap.size := by obtain ⟨m, hm⟩ := h0; exact DataW.trod_lt m _ _ _ hm
  have hsz' : (DataW.weightsEach Try.prog [22] [d0]).all (· ≤ reachBytes) = true := hsz
  obtain ⟨a0, len0, cap0, rfl⟩ := okWide_slice Try.underlying22 (hval 0 22 v0 rfl rfl)
  obtain ⟨os0, rfl, o01, o02, o03, _⟩ := open_nums h0
  have o04 := slice_reach hsz' (j := 0) rfl rfl Try.underlying22 h0
  have o05 : Try.prog.bytesOf 3 = 8 := by kernel_rfl
  rw [o05] at o04
  clear hA0 hval0
  refine (walk W a0 cap0 os0 o01 o02 o03 o04).mono fun e W' ⟨he, bel⟩ => ?_
  subst he
  exact ⟨_, rfl, _, _, _, [], _, [], hW', trodAll_mk1 (shut_bool Try.underlying4 _), (trodAll_cons_mk (Below.trod laidOut (by kernel_rfl) (of_decide_eq_true (by kernel_rfl)) h0 bel lt0) trodAll_mk0), rfl, bel.frame _, fun h => by cases h⟩

theorem over : Rows.sectorHighRow.holds Try.pinned (OpenSpec.ofChange Rows.sectorHighSpec) :=
  OpenClaim.holds_of_wide 3 Try.f3 rfl rfl rfl rfl rfl rfl rfl ⟨rfl, rfl, rfl, rfl, rfl⟩ rfl rfl rfl rfl rfl (by kernel_rfl) Try.func3 (by kernel_rfl)
    (of_decide_eq_true (by kernel_rfl)) (by unfold Func.isWrapper; first | (rw [if_pos (by decide +kernel)]; kernel_rfl) | (rw [if_neg (by decide +kernel)]; exact ⟨rfl, rfl⟩))
    (fun os started H enc _ => lifted os started H enc)

theorem proved : Rows.SectorHighSaid := over
#print axioms proved


end SectorHigh

theorem sectorHigh_holds : Rows.SectorHighSaid := SectorHigh.proved
#print axioms sectorHigh_holds

end Go.Proofs.Ytnbcihakabchgaa
