/- A write changes its own sector and no other one: for every place and every list of texts; the arguments read afterwards as before. No condition. -/
import Derived.Test.YtnbcihakabchgaaRows
import Derived.Test.YtnbcihakabchgaaDiskP
import Derived.Test.YtnbcihakabchgaaOpen1
import Derived.OpenShut
import Derived.Laws.IdiomStrings
import Derived.ShutString
namespace Go.Proofs.Ytnbcihakabchgaa
open Go Go.RowKit

namespace SectorAlone

def ch (i : Nat) : ByteArray := ⟨#[UInt8.ofNat (97 + i)]⟩
theorem ch_size (i : Nat) : (ch i).size = 1 := rfl
theorem ch_small (i : Nat) : (ch i).size ≤ 1024 := by rw [ch_size]; decide

/-- The first k sectors, but for the one at `at`, hold their letters; that one is full. -/
structure Ls (D : Dsk) (k : Nat) (no : Option Nat) (n : Nat) : Prop where
  len : D.secs.length = 9
  up : Up D n
  all : ∀ i, i < k → some i ≠ no → full ((D.secs[i]?).getD ⟨#[]⟩) = pad (ch i)
  one : ∀ i : Nat, (full ((D.secs[i]?).getD ⟨#[]⟩)).size = 1024

def Rel1 (W : World) (b : Nat) (c : Value) (wr : World) : Prop :=
  ∃ (k : Nat) (D : Dsk), k ≤ 9 ∧ c = .int .i64 k ∧ St W wr b D ∧ Ls D k none k
def Rel2 (W : World) (b m p : Nat) (c : Value) (wr : World) : Prop :=
  ∃ (k : Nat) (D : Dsk), k ≤ m ∧ c = .int .i64 k ∧ St W wr b D ∧ Ls D 9 (some p) (9 + k)
def Rel3 (W : World) (b m p : Nat) (c : Value) (wr : World) : Prop :=
  ∃ (k : Nat) (D : Dsk), k ≤ 9 ∧ c = .int .i64 k ∧ St W wr b D ∧ Ls D 9 (some p) (9 + m)

theorem ch_nat {k : Nat} (hk : k < 9) : ((UInt8.ofNat (97 + k)).toNat : Int) = 97 + (k : Int) := by
  rw [UInt8.toNat_ofNat']
  have : (97 + k) % 2 ^ 8 = 97 + k := by omega
  rw [this]; omega

theorem conv (w : World) (k : Nat) (hk : k < 9) : (convert 31 9 (.slice (some ⟨w.heap.size, 0, none⟩) 1 1)).run Try.prog (w.alloc (.cells #[.int .u8 (97 + (k : Int))] 5)) = .ok (.string (ch k)) (w.alloc (.cells #[.int .u8 (97 + (k : Int))] 5)) := by
  refine run_convert_bytes_back (P := Try.prog) _ 31 9 5 ⟨w.heap.size, 0, none⟩ 1 [UInt8.ofNat (97 + k)] Try.underlying31 Try.underlying5 Try.underlying9 ?_
  intro j hj
  have : j = 0 := by simpa using hj
  subst this
  rw [Addr.add_lit, cell_of_row _ _ _ _ _ _ (heap_alloc_new _ _)]
  simp only [List.getElem_cons_zero, ch_nat hk]
  rfl

theorem Ls.put {D : Dsk} {k : Nat} (h : Ls D k none k) (hk : k < 9) : Ls (D.put k (ch k)) (k + 1) none (k + 1) := by
  refine ⟨by rw [put_len]; exact h.len, h.up.put k (by rw [h.len]; exact hk) _, fun i hi hn => ?_, fun i => ?_⟩
  · rw [put_full D k i _ (by rw [h.len]; exact hk) (ch_small k)]
    split
    · subst i; rfl
    · exact h.all i (by omega) hn
  · rw [put_full D k i _ (by rw [h.len]; exact hk) (ch_small k)]
    split
    · exact pad_size (ch_small k)
    · exact h.one i

theorem Ls.over {D : Dsk} {p n : Nat} (h : Ls D 9 (some p) n) (hp : p < 9) (s : ByteArray) (hs : s.size ≤ 1024) : Ls (D.put p s) 9 (some p) (n + 1) := by
  refine ⟨by rw [put_len]; exact h.len, h.up.put p (by rw [h.len]; exact hp) _, fun i hi hn => ?_, fun i => ?_⟩
  · rw [put_full D p i _ (by rw [h.len]; exact hp) hs, if_neg (fun e => hn (by rw [e]))]
    exact h.all i hi hn
  · rw [put_full D p i _ (by rw [h.len]; exact hp) hs]
    split
    · exact pad_size hs
    · exact h.one i

theorem ls_new : Ls (newD 9) 0 none 0 := by
  refine ⟨rfl, up_new 9, fun i hi => by omega, fun i => ?_⟩
  have e : (((newD 9).secs[i]?).getD ⟨#[]⟩) = ⟨#[]⟩ := by
    show (((List.replicate 9 (⟨#[]⟩ : ByteArray))[i]?).getD ⟨#[]⟩) = ⟨#[]⟩
    rw [List.getElem?_replicate]
    split <;> rfl
  rw [e, full_nil, Z1024_size]

theorem ch_get0 (k : Nat) (h : 0 < (pad (ch k)).size) : (pad (ch k))[0] = UInt8.ofNat (97 + k) := by
  have h0 : (pad (ch k)).data.toList[0]? = some (UInt8.ofNat (97 + k)) := by rw [pad_list]; rfl
  have : (pad (ch k)).data.toList[0]? = some ((pad (ch k))[0]) := by
    rw [Array.getElem?_toList]; exact Array.getElem?_eq_getElem h
  rw [this] at h0
  exact Option.some.inj h0

theorem ch_get1 (k : Nat) (h : 1 < (pad (ch k)).size) : (pad (ch k))[1] = 0 := by
  have h0 : (pad (ch k)).data.toList[1]? = some 0 := by rw [pad_list]; rfl
  have : (pad (ch k)).data.toList[1]? = some ((pad (ch k))[1]) := by
    rw [Array.getElem?_toList]; exact Array.getElem?_eq_getElem h
  rw [this] at h0
  exact Option.some.inj h0

set_option maxRecDepth 100000 in
set_option maxHeartbeats 2000000 in
theorem walk (W : World) (at_ : Int) (hlo : -9223372036854775808 ≤ at_) (hhi : at_ ≤ 9223372036854775807) (a : Option Addr) (cap : Nat) (ns : List Txt) (hsrc : Src W 1 a ns.length (ns.flatMap fun n => [.string n.1])) (hsp : 0 < ns.length → ∀ x, a = some x → x.spot = none) (hlt : ∀ k, 0 < ns.length → blk a k → k < W.heap.size) (hr : ns.length * 16 ≤ 140737488351232) :
    Calls Try.prog 4 #[.int .i64 at_, .slice a ns.length cap] W fun e w' => e = .returned (.bool true) ∧ Below W.heap.size W w' := by
  have Hsrc := hid hsrc
  have Hlt := hid hlt
  clear hsrc hlt
  go_enter Try.func4, Try.ntmps4
  go_wp2_with (first | (go_at_call 10; refine (wakes_yes _).mono ?_; rintro e w1 ⟨rfl, hm1⟩; have M1 := hid hm1; clear hm1) | (go_at_call 11; refine (st_new (W := W) (M1.out.mono fun _ _ h => h.elim) 9).mono ?_; rintro e w2 ⟨b, rfl, _, hst⟩; have S0 := hid hst; clear hst))
  go_loopw [15] (fun c wr => Rel1 W b c wr) (fun c _ => 9 - (intOf c).toNat)
  case atStart => exact ⟨0, newD 9, by omega, rfl, S0.out, ls_new⟩
  case round =>
    obtain ⟨k, D, hk, rfl, hst, hls⟩ := hrel
    by_cases hlt : k < 9
    · have hcv := conv wr k hlt
      have hm : Mod (fun _ => False) wr (wr.alloc (.cells #[.int .u8 (97 + (k : Int))] 5)) := (Mod.refl _ _).alloc _
      have HW := hid (st_write (hst.ext hm) (hls.up.ok (by rw [hls.len]; omega) (by omega)) k (ch k) (by unfold maxLen; rw [ch_size]; decide))
      have hwu := writeF_up hls.up.off hls.up.left k (ch k)
      rw [if_neg (by rw [hls.len]; omega), if_neg (by rw [ch_size]; decide), show (k : Int).toNat = k by omega] at hwu
      rw [hwu] at HW
      have Hls := hid (hls.put hlt)
      clear hst hls hm hwu
      have d1 : decide ((k : Int) < 9) = true := by simp; omega
      go_wp2_with (go_at_call 12; refine HW.out.mono ?_; rintro e w3 ⟨rfl, hst⟩; have S3 := hid hst; clear hst)
      go_roundw
      case rel => exact ⟨k + 1, _, by omega, by go_num, S3.out, Hls.out⟩
      case measure => simp [intOf]; omega
    · obtain rfl : k = 9 := by omega
      rw [show ((9 : Nat) : Int) = 9 from rfl]
      have Hst := hid hst
      have Hls := hid hls
      clear hst hls
      obtain ⟨p, hp9, hp⟩ : ∃ p : Nat, p < 9 ∧ max 0 at_ % 9 = (p : Int) := ⟨(max 0 at_ % 9).toNat, by omega, by omega⟩
      have hls2 : Ls D 9 (some p) (9 + 0) := ⟨Hls.out.len, Hls.out.up, fun i hi _ => Hls.out.all i hi (by simp), Hls.out.one⟩
      have HL2 := hid hls2
      clear hls2 hk hlt
      have hq0 : 0 ≤ max 0 at_ := by omega
      go_wp2_with fail
      try rw [hp]
      have HP := hid hp
      clear hp
      obtain ⟨wo, hwo⟩ : ∃ wo : World, wo = wr := ⟨_, rfl⟩
      rw [← hwo] at Hst ⊢
      clear hwo
      go_loopw [32] (fun c wr => Rel2 W b ns.length p c wr) (fun c _ => ns.length - (intOf c).toNat)
      case atStart => exact ⟨0, D, Nat.zero_le _, rfl, Hst.out, HL2.out⟩
      case round =>
        obtain ⟨k, D2, hk, rfl, hst, hls⟩ := hrel
        by_cases hlt : k < ns.length
        · obtain ⟨⟨x, hx1⟩, hx⟩ : ∃ x, ns[k]? = some x := ⟨_, List.getElem?_eq_getElem hlt⟩
          obtain ⟨aa, rfl⟩ : ∃ aa, a = some aa := by
            cases a with
            | none => have := Hsrc.out.2.1 rfl; omega
            | some aa => exact ⟨aa, rfl⟩
          obtain ⟨g, off, sp⟩ := aa
          have hs' := hsp (by omega) _ rfl
          simp only at hs'
          subst hs'
          have q0 : wr.cell? ⟨g, off + k, none⟩ = some (.string x) := hst.cell (Hsrc.out.one (f := fun n : Txt => .string n.1) hx)
          have HW := hid (st_write hst (hls.up.ok (by rw [hls.len]; omega) (by omega)) p x hx1)
          have hwu := writeF_up hls.up.off hls.up.left p x
          rw [if_neg (by rw [hls.len]; omega), show (p : Int).toNat = p by omega] at hwu
          have Hl3 : Hid (Ls (writeF D2 p x).2 9 (some p) (9 + (k + 1))) := by
            rw [hwu]
            split
            · exact ⟨hls.len, hls.up.more, hls.all, hls.one⟩
            · exact hls.over hp9 x (by omega)
          clear hst hls hwu
          go_wp2_with (go_at_call 12; refine HW.out.mono ?_; rintro e w3 ⟨rfl, hst⟩; have S3 := hid hst; clear hst)
          go_roundw
          case rel => exact ⟨k + 1, _, by omega, by go_num, S3.out, Hl3.out⟩
          case measure => simp [intOf]; omega
        · obtain rfl : k = ns.length := by omega
          have Hst2 := hid hst
          have Hls2 := hid hls
          clear hst hls
          go_wp2_with fail
          obtain ⟨wo2, hwo⟩ : ∃ wo2 : World, wo2 = wr := ⟨_, rfl⟩
          rw [← hwo] at Hst2 ⊢
          clear hwo
          go_loopw [41] (fun c wr => Rel3 W b ns.length p c wr) (fun c _ => 9 - (intOf c).toNat)
          case atStart => exact ⟨0, D2, Nat.zero_le _, rfl, Hst2.out, Hls2.out⟩
          case round =>
            obtain ⟨k, D3, hk, rfl, hst, hls⟩ := hrel
            by_cases hlt : k < 9
            · have HR := hid (st_read hst k)
              have hrf := readF_up hls.up k (by omega) (by rw [hls.len]; omega)
              rw [show (k : Int).toNat = k by omega] at hrf
              have h1 := hls.one k
              have hall := hls.all k hlt
              have Hls3 := hid hls
              clear hst hls
              rw [hrf] at HR
              clear hrf
              generalize full ((D3.secs[k]?).getD ⟨#[]⟩) = P at *
              have d1 : decide ((k : Int) < 9) = true := by simp; omega
              by_cases hkp : k = p
              · have d2 : ((k : Int) != (p : Int)) = false := by simp [hkp]
                clear hall hkp
                go_wp2_with (go_at_call 15; refine HR.out.mono ?_; rintro e w3 ⟨rfl, hst⟩; have S3 := hid hst; clear hst)
                go_roundw
                case rel => exact ⟨k + 1, D3, by omega, by go_num, S3.out, Hls3.out⟩
                case measure => simp [intOf]; omega
              · have d2 : ((k : Int) != (p : Int)) = true := by simp; omega
                have e1 := hall (by simpa using hkp)
                have a0 : ∀ h, ((P[0]'h).toNat : Int) = 97 + (k : Int) := by
                  subst e1; intro h; rw [ch_get0, ch_nat hlt]
                have a1 : ∀ h, ((P[1]'h).toNat : Int) = 0 := by
                  subst e1; intro h; rw [ch_get1]; rfl
                clear hall hkp e1
                go_wp2_with (go_at_call 15; refine HR.out.mono ?_; rintro e w3 ⟨rfl, hst⟩; have S3 := hid hst; clear hst)
                go_roundw
                case rel => exact ⟨k + 1, D3, by omega, by go_num, S3.out, Hls3.out⟩
                case measure => simp [intOf]; omega
            · have Hst3 := hid hst
              clear hst hls
              go_wp2
              go_ret
              exact ⟨rfl, Hst3.out.below⟩

open Go.ChangeShapes Go.WideShapes Go.ChangeAt
theorem own : ownKnob Try.prog.godebug = none := by kernel_rfl
theorem laidOut : laidOutB Try.prog = true := by kernel_rfl

set_option maxRecDepth 100000 in
theorem lifted (os : Os) (started : os.Started) (H : Type) (enc : TypeId × Value → H) :
    ReturnsInHanded {} Try.checked os 4 .any (Rows.sectorAloneSpec.pre6 enc Try.prog Try.f4 Rows.sectorAloneRow.domain false) (Rows.sectorAloneSpec.post enc Try.prog Try.f4 false true false false) := by
  refine returnsInHanded_of_change_sized (C := Try.checked) own started (by kernel_rfl) Try.func4
    (ChangeSpec.witness6 (enc := enc) (C := Try.checked) false ⟨#[], #[.int .i64 0, .slice none 0 0], []⟩ 8 (by kernel_rfl) (by kernel_rfl) (by kernel_rfl) (by kernel_rfl)) ?_
  intro W base args ds gs before hval0 hW hcnd hsz0 _
  have hsz : (DataW.weightsEach Try.prog (Try.f4.params.toList ++ Rows.sectorAloneSpec.plain.varTypes Try.prog) (ds ++ gs)).all (· ≤ reachBytes) = true := hsz0
  clear hsz0
  have hval : ∀ (j : Nat) t v, Try.f4.params[j]? = some t → args[j]? = some v → Value.okWide Try.prog W .any base t v := hval0
  have hW' := hW
  obtain ⟨p, q, hA0, hV, rfl, hfz, hnd⟩ := hW
  have hA : DataW.TrodAll enc Try.prog W 0 (fun _ => true) true Try.f4.params.toList args.toList ds p := hA0
  rw [Try.params4] at hA hval hsz
  obtain ⟨v0, vs0, d0, ds0, p0, q0, hargs, rfl, rfl, h0, r0⟩ := trodAll_cons hA
  obtain ⟨v1, vs1, d1, ds1, p1, q1, rfl, rfl, rfl, h1, r1⟩ := trodAll_cons r0
  obtain ⟨rfl, rfl, rfl⟩ := trodAll_nil r1
  obtain rfl : args = #[v0, v1] := by cases args; simp_all
  obtain ⟨rfl, rfl⟩ := trodVars_none hV
  have lt0 : ∀ x ∈ p0, x.block < W.heap.size := by obtain ⟨m, hm⟩ := h0; exact DataW.trod_lt m _ _ _ hm
  have lt1 : ∀ x ∈ p1, x.block < W.heap.size := by obtain ⟨m, hm⟩ := h1; exact DataW.trod_lt m _ _ _ hm
  have hsz' : (DataW.weightsEach Try.prog [3, 30] [d0, d1]).all (· ≤ reachBytes) = true := hsz
  obtain ⟨n0, rfl, rfl, rfl, wf0⟩ := open_int Try.underlying3 (hval 0 3 v0 rfl rfl) h0
  have lh0 := wf_i64 wf0
  obtain ⟨a1, len1, cap1, rfl⟩ := okWide_slice Try.underlying30 (hval 1 30 v1 rfl rfl)
  obtain ⟨os1, rfl, o11, o12, o13, _⟩ := open_txts h1
  have o14 := slice_reach hsz' (j := 1) rfl rfl Try.underlying30 h1
  have o15 : Try.prog.bytesOf 9 = 16 := by kernel_rfl
  rw [o15] at o14
  clear hA0 hval0
  refine (walk W n0 lh0.1 lh0.2 a1 cap1 os1 o11 o12 o13 o14).mono fun e W' ⟨he, bel⟩ => ?_
  subst he
  exact ⟨_, rfl, _, _, _, [], _, [], hW', trodAll_mk1 (shut_bool Try.underlying4 _), (trodAll_cons_mk (Below.trod laidOut (by kernel_rfl) (of_decide_eq_true (by kernel_rfl)) h0 bel lt0) (trodAll_cons_mk (Below.trod laidOut (by kernel_rfl) (of_decide_eq_true (by kernel_rfl)) h1 bel lt1) trodAll_mk0)), rfl, bel.frame _, fun h => by cases h⟩

theorem over : Rows.sectorAloneRow.holds Try.pinned (OpenSpec.ofChange Rows.sectorAloneSpec) :=
  OpenClaim.holds_of_wide 4 Try.f4 rfl rfl rfl rfl rfl rfl rfl ⟨rfl, rfl, rfl, rfl, rfl⟩ rfl rfl rfl rfl rfl (by kernel_rfl) Try.func4 (by kernel_rfl)
    (of_decide_eq_true (by kernel_rfl)) (by unfold Func.isWrapper; first | (rw [if_pos (by decide +kernel)]; kernel_rfl) | (rw [if_neg (by decide +kernel)]; exact ⟨rfl, rfl⟩))
    (fun os started H enc _ => lifted os started H enc)

theorem proved : Rows.SectorAloneSaid := over
#print axioms proved


end SectorAlone

theorem sectorAlone_holds : Rows.SectorAloneSaid := SectorAlone.proved
#print axioms sectorAlone_holds

end Go.Proofs.Ytnbcihakabchgaa
