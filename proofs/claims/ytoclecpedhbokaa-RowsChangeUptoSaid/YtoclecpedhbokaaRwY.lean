/- The program's Table.keys -/
import Derived.Test.YtoclecpedhbokaaRwV
namespace Go.Proofs.Ytoclecpedhbokaa
open Go Go.RowKit

theorem row_cells4 {w : World} {b : Nat} {v0 v1 v2 v3 : Value} {T : TypeId} (h : w.heap[b]? = some (.cells #[v0, v1, v2, v3] T (0, 0))) : w.cell? ⟨b, 0, none⟩ = some v0 ∧ w.cell? ⟨b, 1, none⟩ = some v1 :=
  ⟨by rw [cell_of_row _ _ _ _ _ _ h]; rfl, by rw [cell_of_row _ _ _ _ _ _ h]; rfl⟩

/-- Do the first k columns' values fit? -/
def FitK (cols : List Int) (r : List Vl) (k : Nat) : Prop := ∀ j c v, j < k → cols[j]? = some c → r[j]? = some v → fitsV c v = true

set_option maxRecDepth 100000 in
set_option maxHeartbeats 2000000 in
theorem keys_any {w : World} {ca ra : Option Addr} {cols : List Int} {r : List Vl} (name idx : Int) (keys cc rc : Nat) (hl : Lies w 1 oneI ca cols) (hr : Lies w 2 Vl.cs ra r) (hlen : r.length = cols.length) (hk : keys ≤ cols.length) (hn : cols.length ≤ 140737488351232) (hv : ∀ v ∈ r, v.Ok) (hsz : ∀ k, (keysL cols r k).length ≤ 2305843009213693952) :
    Calls Try.prog 29 #[.agg #[.int .u8 name, .slice ca cols.length cc, .int .i64 (keys : Int), .int .i64 idx], .slice ra r.length rc] w fun e w' =>
      ((FitK cols r keys ∧ e = .returned (.tuple #[.string (ba (keysL cols r keys)), .bool true])) ∨ (¬ FitK cols r keys ∧ e = .returned (.tuple #[.string ⟨#[]⟩, .bool false]))) ∧ Mod (fun _ => False) w w' := by
  have hma : Mod (fun _ => False) w (w.alloc (.cells #[.int .u8 name, .slice ca cols.length cc, .int .i64 (keys : Int), .int .i64 idx] 24)) := (Mod.refl _ _).alloc _
  have hcb : (w.alloc (.cells #[.int .u8 name, .slice ca cols.length cc, .int .i64 (keys : Int), .int .i64 idx] 24)).heap[w.heap.size]? = some (.cells #[.int .u8 name, .slice ca cols.length cc, .int .i64 (keys : Int), .int .i64 idx] 24 (0, 0)) := heap_alloc_new _ _
  have HM := hid hma
  have HCb := hid hcb
  have HL := hid (hl.ext hma)
  have HR := hid (hr.ext hma)
  have HV := hid hv
  have HS := hid hsz
  have HLen := hid hlen
  clear hma hcb hl hr hv hsz hlen
  go_enter Try.func29, Try.ntmps29
  go_wp2_with fail
  obtain ⟨C, hC⟩ : ∃ C, w.alloc (.cells #[.int .u8 name, .slice ca cols.length cc, .int .i64 (keys : Int), .int .i64 idx] 24) = C := ⟨_, rfl⟩
  rw [hC] at HM HCb HL HR
  go_loopw [6, 12] (fun s c wr => ∃ k : Nat, k ≤ keys ∧ c = .int .i64 (k : Int) ∧ s = .string (ba (keysL cols r k)) ∧ FitK cols r k ∧ Mod (fun _ => False) C wr) (fun _ c _ => keys - (intOf c).toNat)
  case atStart => exact ⟨0, Nat.zero_le _, rfl, rfl, (fun j c v h => by omega), by rw [hC]; exact Mod.refl _ _⟩
  case round =>
    obtain ⟨k, hkk, rfl, rfl, hf, hm⟩ := hrel
    have HF := hid hf
    have HMr := hid hm
    clear hf hm
    by_cases hlt : k < keys
    · obtain ⟨c, hc⟩ : ∃ c, cols[k]? = some c := ⟨_, List.getElem?_eq_getElem (by omega)⟩
      obtain ⟨v, hvv⟩ : ∃ v, r[k]? = some v := ⟨_, List.getElem?_eq_getElem (by rw [HLen.out]; omega)⟩
      have hkr : k < r.length := by rw [HLen.out]; omega
      have HSu := hid (keysL_succ hc hvv)
      have HStep : Hid (fitsV c v = true → FitK cols r (k + 1)) := hid (fun ht j c' v' hj h1 h2 => by
        by_cases hjk : j = k
        · subst hjk
          rw [hc] at h1
          rw [hvv] at h2
          cases h1
          cases h2
          exact ht
        · exact HF.out j c' v' (by omega) h1 h2)
      have HBad : Hid (fitsV c v = false → ¬ FitK cols r keys) := hid (fun ht h => by have := h k c v hlt hc hvv; rw [ht] at this; cases this)
      have hlc := HL.out.ext HMr.out
      have hrc := HR.out.ext HMr.out
      have HVo := hid (HV.out v (List.mem_of_getElem? hvv))
      have HSz := hid (HS.out k)
      have HSz2 := hid (HS.out (k + 1))
      obtain ⟨g, off, rfl⟩ := hlc.some (by omega)
      obtain ⟨g2, off2, rfl⟩ := hrc.some (by omega)
      have q0 := hlc.cell oneI_len hc (j := 0) rfl
      have p0 := hrc.cell vl_len hvv (j := 0) rfl
      have p1 := hrc.cell vl_len hvv (j := 1) rfl
      rw [Nat.add_zero, Nat.mul_one] at q0
      rw [Nat.add_zero] at p0
      have b1 : wr.cell? ⟨w.heap.size, 1, none⟩ = some (.slice (some ⟨g, off, none⟩) cols.length cc) := (row_cells4 ((HMr.out.block _ (lt_of_heap HCb.out) (fun h => h)).trans HCb.out)).2
      have g0 := fun x : Ext wr => x.cell q0
      have g1 := fun x : Ext wr => x.cell p0
      have g2' := fun x : Ext wr => x.cell p1
      have g3 := fun x : Ext wr => x.cell b1
      have HK := hid (fun x : Ext wr => form_any c v x.val HVo.out)
      have s0 : (ba (keysL cols r k)).size ≤ 2305843009213693952 := by rw [ba_size]; exact HSz.out
      have s1 : (ba (formV c v)).size ≤ 2305843009213693952 := by
        have := HSz2.out
        rw [HSu.out, List.length_append] at this
        rw [ba_size]; omega
      have HBa : Hid (ba (keysL cols r k) ++ ba (formV c v) = ba (keysL cols r (k + 1))) := hid (by rw [HSu.out, ba_append])
      obtain ⟨n, t⟩ := v
      simp only at p0 p1 g1 g2' HK
      generalize formV c ⟨n, t⟩ = fm at *
      generalize fitsV c ⟨n, t⟩ = ft at *
      clear hlc hrc hc hvv q0 p0 p1 b1
      go_wp2_with fail
      refine wp_region_ext (by kernel_rfl) (by kernel_rfl) ?_
      repeat (go_big_quiet_step ((go_at_call 32; exact ext_call (HK.out _))))
      refine wpQuiet_nil ?_
      rintro _ ⟨x, rfl⟩
      clear g0 g1 g2' g3
      cases ft with
      | false =>
        go_wp2_with fail
        go_ret2
        exact ⟨.inr ⟨HBad.out (by trivial), rfl⟩, HM.out.trans (HMr.out.trans x.mod)⟩
      | true =>
        go_wp2_with fail
        go_roundw
        case rel => exact ⟨k + 1, by omega, by go_num, by rw [HBa.out], HStep.out (by trivial), HMr.out.trans x.mod⟩
        case measure => simp [intOf]; omega
    · have hke : k = keys := by omega
      subst hke
      go_wp2_with fail
      go_ret2
      exact ⟨.inl ⟨HF.out, rfl⟩, HM.out.trans HMr.out⟩

end Go.Proofs.Ytoclecpedhbokaa
