/- With the power off every write and read is refused, and nothing has changed when it is on again: for every list of texts and every further cut; the arguments read afterwards as before. No condition. -/
import Derived.Test.YtnbcihakabchgaaRows
import Derived.Test.YtnbcihakabchgaaDiskP
import Derived.Test.YtnbcihakabchgaaOpen1
import Derived.OpenShut
import Derived.ShutString
namespace Go.Proofs.Ytnbcihakabchgaa
open Go Go.RowKit

namespace SectorOff

def kept : ByteArray := ⟨#[107, 101, 112, 116]⟩
def A1 : Dsk := (newD 3).put 1 kept
def A2 : Dsk := A1.cut 0
def A3 : Dsk := { A2 with off := true }

theorem up1 : Up A1 1 := (up_new 3).put 1 (by decide) kept
theorem len1 : A1.secs.length = 3 := by unfold A1; rw [put_len]; rfl
theorem ok1 : A1.Ok := up1.ok (by rw [len1]; decide) (by decide)
theorem ok2 : A2.Ok := ⟨ok1.n, ok1.w0, ok1.w1, ok1.h0, ok1.h1, by decide, by decide⟩
theorem ok3 : A3.Ok := ⟨ok1.n, ok1.w0, ok1.w1, ok1.h0, ok1.h1, by decide, by decide⟩
theorem fw1 : writeF (newD 3) 1 kept = (0, A1) := by
  rw [writeF_up rfl rfl, if_neg (by decide), if_neg (by decide)]; rfl
theorem fw2 : writeF A2 0 ⟨#[]⟩ = (12, A3) := by
  unfold writeF
  have h : readyF A2 0 = 0 := by unfold readyF; rw [if_neg (by show ¬ (false = true); decide), if_neg]; show ¬ ((0 : Int) < 0 ∨ (A1.secs.length : Int) ≤ 0); rw [len1]; decide
  rw [if_neg (by rw [h]; decide), if_neg (by decide), if_pos (by rfl)]
  rfl
theorem fw3 (i : Int) (s : ByteArray) : writeF A3 i s = (12, A3) := by
  unfold writeF
  have h : readyF A3 i = 12 := rfl
  rw [if_pos (by rw [h]; decide), h]
theorem fr3 (i : Int) : readF A3 i = (⟨#[]⟩, 12) := by
  unfold readF
  have h : readyF A3 i = 12 := rfl
  rw [if_pos (by rw [h]; decide), h]
theorem fr1 : readF A1 1 = (pad kept, 0) := by
  rw [readF_up up1 1 (by decide) (by rw [len1]; decide)]
  have := put_full (newD 3) 1 1 kept (by decide) (by decide)
  rw [if_pos rfl] at this
  exact congrArg (fun x => (x, (0 : Int))) this
theorem fw4 : (writeF A1 0 ⟨#[120]⟩).1 = 0 := by
  rw [writeF_up up1.off up1.left, if_neg (by rw [len1]; decide), if_neg (by decide)]
theorem back (n : Int) : ({ A3.cut n with off := false, left := 0 } : Dsk) = A1 := rfl
theorem kept_pad : (pad kept).extract 0 5 = ⟨#[107, 101, 112, 116, 0]⟩ := by
  apply ba_ext
  rw [ByteArray.data_extract, Array.toList_extract, pad_list]
  rfl

def Rel (W : World) (b m : Nat) (c : Value) (wr : World) : Prop :=
  ∃ k : Nat, k ≤ m ∧ c = .int .i64 k ∧ St W wr b A3

set_option maxRecDepth 100000 in
set_option maxHeartbeats 2000000 in
theorem walk (W : World) (a : Option Addr) (cap : Nat) (ns : List Txt) (hsrc : Src W 1 a ns.length (ns.flatMap fun n => [.string n.1])) (hsp : 0 < ns.length → ∀ x, a = some x → x.spot = none) (hlt : ∀ k, 0 < ns.length → blk a k → k < W.heap.size) (hr : ns.length * 16 ≤ 140737488351232) (again : Int) (hlo : -9223372036854775808 ≤ again) (hhi : again ≤ 9223372036854775807) :
    Calls Try.prog 7 #[.slice a ns.length cap, .int .i64 again] W fun e w' => e = .returned (.bool true) ∧ Below W.heap.size W w' := by
  have Hsrc := hid hsrc
  have Hlt := hid hlt
  clear hsrc hlt
  have hon : A3.off = true := rfl
  go_enter Try.func7, Try.ntmps7
  go_wp2_with (first | (go_at_call 10; refine (wakes_yes _).mono ?_; rintro e w1 ⟨rfl, hm1⟩; have M1 := hid hm1; clear hm1) | (go_at_call 11; refine (st_new (W := W) (M1.out.mono fun _ _ h => h.elim) 3).mono ?_; rintro e w2 ⟨b, rfl, _, hst⟩; have S0 := hid hst; clear hst))
  refine (st_write S0.out (newD_ok 3) 1 kept (by decide)).mono ?_
  rw [fw1]
  rintro e w3 ⟨rfl, hst⟩
  have S1 := hid hst
  clear hst
  go_wp2_with (go_at_call 16; refine (st_cut S1.out 0).mono ?_; rintro e w4 ⟨rfl, hst⟩; have S2 := hid hst; clear hst)
  refine (st_write S2.out ok2 0 ⟨#[]⟩ (by decide)).mono ?_
  rw [show writeF (A1.cut 0) 0 ⟨#[]⟩ = (12, A3) from fw2]
  rintro e w5 ⟨rfl, hst⟩
  have S3 := hid hst
  clear hst
  go_wp2_with (go_at_call 17; refine (st_on S3.out).mono ?_; rintro e w' ⟨rfl, rfl⟩; rw [hon])
  go_loopw [28] (fun c wr => Rel W b ns.length c wr) (fun c _ => ns.length - (intOf c).toNat)
  case atStart => exact ⟨0, Nat.zero_le _, rfl, S3.out⟩
  case round =>
    obtain ⟨k, hk, rfl, hst⟩ := hrel
    by_cases hlt : k < ns.length
    · obtain ⟨⟨x, hx1⟩, hx⟩ : ∃ x, ns[k]? = some x := ⟨_, List.getElem?_eq_getElem hlt⟩
      obtain ⟨aa, rfl⟩ : ∃ aa, a = some aa := by
        cases a with
        | none => have := Hsrc.out.2.1 rfl; omega
        | some aa => exact ⟨aa, rfl⟩
      obtain ⟨g, off, sp⟩ := aa
      have hs' := hsp (by omega) _ rfl
      simp only at hs'
      subst hs'
      have q0 : wr.cell? ⟨g, off + k, none⟩ = some (.string x) := hst.cell (Hsrc.out.one (f := fun n : Txt => .string n.1) hx)
      have Hst := hid hst
      have Hx1 := hid hx1
      clear hst hx hx1
      go_wp2_with fail
      refine (st_write Hst.out ok3 _ x Hx1.out).mono ?_
      rw [fw3]
      rintro e w6 ⟨rfl, hst⟩
      have S6 := hid hst
      clear hst
      go_wp2_with fail
      refine (st_read S6.out _).mono ?_
      rw [fr3]
      rintro e w7 ⟨rfl, hst⟩
      have S7 := hid hst
      clear hst
      go_wp2_with fail
      go_roundw
      case rel => exact ⟨k + 1, by omega, by go_num, S7.out⟩
      case measure => simp [intOf]; omega
    · have Hst := hid hst
      clear hst
      go_wp2_with (first | (go_at_call 16; refine (st_cut Hst.out again).mono ?_; rintro e w6 ⟨rfl, hst⟩; have S6 := hid hst; clear hst) | (go_at_call 18; refine (st_start S6.out).mono ?_; rw [back again]; rintro e w7 ⟨rfl, hst⟩; have S7 := hid hst; clear hst))
      refine (st_read S7.out 1).mono ?_
      rw [fr1]
      rintro e w8 ⟨rfl, hst⟩
      have S8 := hid hst
      clear hst
      have p1 := kept_pad
      have p2 : (pad kept).size = 1024 := pad_size (by decide)
      have n1 : A1.writes = 1 := rfl
      have n2 : A1.off = false := rfl
      have HW := hid fw4
      generalize pad kept = P at *
      go_wp2_with (first | (go_at_call 14; refine (st_writes S8.out).mono ?_; rintro e w' ⟨rfl, rfl⟩; rw [n1]) | (go_at_call 17; refine (st_on S8.out).mono ?_; rintro e w' ⟨rfl, rfl⟩; rw [n2]) | (go_at_call 12; refine (st_write S8.out ok1 0 ⟨#[120]⟩ (by decide)).mono ?_; rw [HW.out]; rintro e w9 ⟨rfl, hst⟩; have S9 := hid hst; clear hst))
      go_ret
      exact ⟨rfl, S9.out.below⟩

open Go.ChangeShapes Go.WideShapes Go.ChangeAt
theorem own : ownKnob Try.prog.godebug = none := by kernel_rfl
theorem laidOut : laidOutB Try.prog = true := by kernel_rfl

set_option maxRecDepth 100000 in
theorem lifted (os : Os) (started : os.Started) (H : Type) (enc : TypeId × Value → H) :
    ReturnsInHanded {} Try.checked os 7 .any (Rows.sectorOffSpec.pre6 enc Try.prog Try.f7 Rows.sectorOffRow.domain false) (Rows.sectorOffSpec.post enc Try.prog Try.f7 false true false false) := by
  refine returnsInHanded_of_change_sized (C := Try.checked) own started (by kernel_rfl) Try.func7
    (ChangeSpec.witness6 (enc := enc) (C := Try.checked) false ⟨#[], #[.slice none 0 0, .int .i64 0], []⟩ 8 (by kernel_rfl) (by kernel_rfl) (by kernel_rfl) (by kernel_rfl)) ?_
  intro W base args ds gs before hval0 hW hcnd hsz0 _
  have hsz : (DataW.weightsEach Try.prog (Try.f7.params.toList ++ Rows.sectorOffSpec.plain.varTypes Try.prog) (ds ++ gs)).all (· ≤ reachBytes) = true := hsz0
  clear hsz0
  have hval : ∀ (j : Nat) t v, Try.f7.params[j]? = some t → args[j]? = some v → Value.okWide Try.prog W .any base t v := hval0
  have hW' := hW
  obtain ⟨p, q, hA0, hV, rfl, hfz, hnd⟩ := hW
  have hA : DataW.TrodAll enc Try.prog W 0 (fun _ => true) true Try.f7.params.toList args.toList ds p := hA0
  rw [Try.params7] at hA hval hsz
  obtain ⟨v0, vs0, d0, ds0, p0, q0, hargs, rfl, rfl, h0, r0⟩ := trodAll_cons hA
  obtain ⟨v1, vs1, d1, ds1, p1, q1, rfl, rfl, rfl, h1, r1⟩ := trodAll_cons r0
  obtain ⟨rfl, rfl, rfl⟩ := trodAll_nil r1
  obtain rfl : args = #[v0, v1] := by cases args; simp_all
  obtain ⟨rfl, rfl⟩ := trodVars_none hV
  have lt0 : ∀ x ∈ p0, x.block < W.heap.size := by obtain ⟨m, hm⟩ := h0; exact DataW.trod_lt m _ _ _ hm
  have lt1 : ∀ x ∈ p1, x.block < W.heap.size := by obtain ⟨m, hm⟩ := h1; exact DataW.trod_lt m _ _ _ hm
  have hsz' : (DataW.weightsEach Try.prog [30, 3] [d0, d1]).all (· ≤ reachBytes) = true := hsz
  obtain ⟨a0, len0, cap0, rfl⟩ := okWide_slice Try.underlying30 (hval 0 30 v0 rfl rfl)
  obtain ⟨os0, rfl, o01, o02, o03, _⟩ := open_txts h0
  have o04 := slice_reach hsz' (j := 0) rfl rfl Try.underlying30 h0
  have o05 : Try.prog.bytesOf 9 = 16 := by kernel_rfl
  rw [o05] at o04
  obtain ⟨n1, rfl, rfl, rfl, wf1⟩ := open_int Try.underlying3 (hval 1 3 v1 rfl rfl) h1
  have lh1 := wf_i64 wf1
  clear hA0 hval0
  refine (walk W a0 cap0 os0 o01 o02 o03 o04 n1 lh1.1 lh1.2).mono fun e W' ⟨he, bel⟩ => ?_
  subst he
  exact ⟨_, rfl, _, _, _, [], _, [], hW', trodAll_mk1 (shut_bool Try.underlying4 _), (trodAll_cons_mk (Below.trod laidOut (by kernel_rfl) (of_decide_eq_true (by kernel_rfl)) h0 bel lt0) (trodAll_cons_mk (Below.trod laidOut (by kernel_rfl) (of_decide_eq_true (by kernel_rfl)) h1 bel lt1) trodAll_mk0)), rfl, bel.frame _, fun h => by cases h⟩

theorem over : Rows.sectorOffRow.holds Try.pinned (OpenSpec.ofChange Rows.sectorOffSpec) :=
  OpenClaim.holds_of_wide 7 Try.f7 rfl rfl rfl rfl rfl rfl rfl ⟨rfl, rfl, rfl, rfl, rfl⟩ rfl rfl rfl rfl rfl (by kernel_rfl) Try.func7 (by kernel_rfl)
    (of_decide_eq_true (by kernel_rfl)) (by unfold Func.isWrapper; first | (rw [if_pos (by decide +kernel)]; kernel_rfl) | (rw [if_neg (by decide +kernel)]; exact ⟨rfl, rfl⟩))
    (fun os started H enc _ => lifted os started H enc)

theorem proved : Rows.SectorOffSaid := over
#print axioms proved


end SectorOff

theorem sectorOff_holds : Rows.SectorOffSaid := SectorOff.proved
#print axioms sectorOff_holds

end Go.Proofs.Ytnbcihakabchgaa
