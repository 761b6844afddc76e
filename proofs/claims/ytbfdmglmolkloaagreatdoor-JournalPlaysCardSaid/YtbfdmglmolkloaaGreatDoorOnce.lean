/- sync.Once and the disk's sector of zeros. (The lock's and the Once's parts are turned from the kit's worked Lazy example.) -/
import Derived.Test.YtbfdmglmolkloaaGreatDoorSync
import Derived.Test.YtbfdmglmolkloaaGreatDoorShelf
import Derived.Deep.RegionWith
namespace Go.Proofs.YtbfdmglmolkloaaGreatDoor
open Go Go.RowKit

/-- A sector of zero bytes. -/
def Z1024 : ByteArray := ⟨(Lib.repeatL [0] 1024).toArray⟩

set_option maxRecDepth 100000 in
set_option maxHeartbeats 1600000 in
theorem unlock_deferred (a : Addr) (u : FrameMode) (w : World) (hc : w.cell? a = some (.int .i32 1)) (hz : w.frozen? a = false) :
    CallsD Tryz.prog 80 #[.pointer (some a)] u w fun e u' w' => u' = u ∧ (e = .returned (.tuple #[]) ∧ w' = w.setCell a (.int .i32 0)) := by
  have hd := r_disable
  have he := r_enable
  have hr := r_relm
  have hadd := run_call_add (P := Tryz.prog) Tryz.func101 (by kernel_rfl) (by kernel_rfl) (by kernel_rfl) .i32 (by kernel_rfl) (y := -1) (s := 0) hc hz (by simp [go_sem]; rfl)
  have hcv := run_convert_to_unsafe (P := Tryz.prog) (src := 166) (dst := 150) Tryz.underlying166 Tryz.underlying150 (by kernel_rfl) hc
  go_enter_d Tryz.func80, Tryz.ntmps80
  go_wp2
  go_end0
  go_wp2
  go_end0
  exact ⟨rfl, rfl⟩

set_option maxRecDepth 100000 in
set_option maxHeartbeats 1600000 in
theorem lock_free (a : Addr) (w : World) (hc : w.cell? a = some (.int .i32 0)) (hz : w.frozen? a = false) :
    Calls Tryz.prog 79 #[.pointer (some a)] w fun e w' => e = .returned (.tuple #[]) ∧ w' = w.setCell a (.int .i32 1) := by
  have hd := r_disable
  have he := r_enable
  have ha := r_acquire
  have hcas := run_call_cas_hit (P := Tryz.prog) Tryz.func96 (by kernel_rfl) (by kernel_rfl) (by kernel_rfl) .i32 (by kernel_rfl) (y := 1) hc hz
  have hc' : (w.setCell a (.int .i32 1)).cell? a = some (.int .i32 1) := World.cell?_setCell_same w a _ hc
  have hcv := run_convert_to_unsafe (P := Tryz.prog) (src := 166) (dst := 150) Tryz.underlying166 Tryz.underlying150 (by kernel_rfl) hc'
  go_enter Tryz.func79, Tryz.ntmps79
  go_wp2
  first | go_end0 | (simp only [Exit.inBlock, Exit.then]; refine bodyPost_ret (results_none rfl _ _ _) rfl ?_) | refine bodyPost_ret (results_none rfl _ _ _) rfl ?_
  go_wp2
  go_end0
  exact ⟨rfl, rfl⟩

/-- What the closure of zeros does: the blank sector is made. -/
theorem zfun_any {w : World} {p b : Nat} {u : Value} (hp : w.cell? ⟨p, 0, none⟩ = some (.pointer (some ⟨b, 0, none⟩))) (h1 : w.cell? ⟨b, 1, none⟩ = some u) (f1 : w.frozen? ⟨b, 1, none⟩ = false) :
    Calls Tryz.prog 56 #[.pointer (some ⟨p, 0, none⟩)] w fun e w' => e = .returned (.tuple #[]) ∧ ∃ w1, Mod (fun _ => False) w w1 ∧ w' = w1.setCell ⟨b, 1, none⟩ (.string Z1024) := by
  have Hl : Hid (∀ w1, Below w.drew.heap.size w.drew w1 → w1.cell? ⟨p, 0, none⟩ = some (.pointer (some ⟨b, 0, none⟩)) ∧ w1.cell? ⟨b, 1, none⟩ = some u ∧ w1.frozen? ⟨b, 1, none⟩ = false) := fun w1 hb =>
    ⟨(hb.cell (p := ⟨p, 0, none⟩) (World.block_lt_of_cell? _ _ hp)).trans hp, (hb.cell (p := ⟨b, 1, none⟩) (World.block_lt_of_cell? _ _ h1)).trans h1, (hb.frozen (p := ⟨b, 1, none⟩) (World.block_lt_of_cell? _ _ h1)).trans f1⟩
  go_enter Tryz.func56, Tryz.ntmps56
  go_wp2
  go_region_with ((go_at_call 57; refine (Tryz.strings_Repeat ⟨#[0]⟩ 1024 _ (by decide) (by decide)).mono ?_; rintro e w1 ⟨rfl, hb⟩; have Hb := hid hb; obtain ⟨k0, k1, k2⟩ := Hl.out w1 hb; clear hb))
  all_goals
    go_end0
    refine ⟨rfl, w1, ?_, rfl⟩
    have hb := Hb.out
    exact ⟨hb.os, hb.tape, hb.output, hb.size, fun k hk _ => hb.block k hk⟩

/-- The cells of a disk that the Once and the blank sector take. -/
def OnceAt (w : World) (b : Nat) (done : Bool) (blank : ByteArray) : Prop :=
  w.cell? ⟨b, 1, none⟩ = some (.string blank) ∧ w.cell? ⟨b, 2, none⟩ = some (.int .u32 (u32 done)) ∧ w.cell? ⟨b, 3, none⟩ = some (.int .i32 0) ∧ ∀ o, w.frozen? ⟨b, o, none⟩ = false

set_option maxRecDepth 100000 in
set_option maxHeartbeats 1600000 in
theorem slow_any {w : World} {p b : Nat} {blank : ByteArray} (hp : w.cell? ⟨p, 0, none⟩ = some (.pointer (some ⟨b, 0, none⟩))) (ho : OnceAt w b false blank) :
    Calls Tryz.prog 69 #[.pointer (some ⟨b, 2, none⟩), .func (.func 56) #[] #[.pointer (some ⟨p, 0, none⟩)]] w fun e w' => e = .returned (.tuple #[]) ∧
      ∃ w1, Mod (fun _ => False) (w.setCell ⟨b, 3, none⟩ (.int .i32 1)) w1 ∧ w' = ((w1.setCell ⟨b, 1, none⟩ (.string Z1024)).drew.setCell ⟨b, 2, none⟩ (.int .u32 1)).setCell ⟨b, 3, none⟩ (.int .i32 0) := by
  obtain ⟨h1, h2, h3, fz⟩ := ho
  have hl := bool_load_f (w := w.setCell ⟨b, 3, none⟩ (.int .i32 1)) (b := b) (o := 2) ((World.cell?_setCell_other _ ⟨b, 3, none⟩ ⟨b, 2, none⟩ _ (by simp)).trans h2)
  have hp1 : (w.setCell ⟨b, 3, none⟩ (.int .i32 1)).cell? ⟨p, 0, none⟩ = some (.pointer (some ⟨b, 0, none⟩)) := (World.cell?_setCell_other _ ⟨b, 3, none⟩ ⟨p, 0, none⟩ _ (by simp)).trans hp
  have h11 : (w.setCell ⟨b, 3, none⟩ (.int .i32 1)).cell? ⟨b, 1, none⟩ = some (.string blank) := (World.cell?_setCell_other _ ⟨b, 3, none⟩ ⟨b, 1, none⟩ _ (by simp)).trans h1
  have h21 : (w.setCell ⟨b, 3, none⟩ (.int .i32 1)).cell? ⟨b, 2, none⟩ = some (.int .u32 0) := (World.cell?_setCell_other _ ⟨b, 3, none⟩ ⟨b, 2, none⟩ _ (by simp)).trans h2
  have h31 : (w.setCell ⟨b, 3, none⟩ (.int .i32 1)).cell? ⟨b, 3, none⟩ = some (.int .i32 1) := World.cell?_setCell_same w _ _ h3
  have fz1 : ∀ o, (w.setCell ⟨b, 3, none⟩ (.int .i32 1)).frozen? ⟨b, o, none⟩ = false := fun o => by rw [World.frozen?_setCell]; exact fz o
  have HL := hid hl
  have HZ := hid (zfun_any hp1 h11 (fz1 1))
  have HK := hid (lock_free ⟨b, 3, none⟩ w h3 (fz 3))
  have H2 := hid h21
  have H3 := hid h31
  have F1 := hid fz1
  clear hl hp1 h11 h21 h31 fz1 hp h1 h2 h3 fz
  go_enter_defers Tryz.func69, Tryz.ntmps69
  go_wp2_with (first | (go_at_call 79; refine HK.out.mono ?_; rintro e w' ⟨rfl, rfl⟩) | (go_at_call 43; refine HL.out.mono ?_; rintro e w' ⟨rfl, rfl⟩) | (go_at_call 56; refine HZ.out.mono ?_; rintro e w' ⟨rfl, w1, hm1, rfl⟩; have M1 := hid hm1; clear hm1))
  have hlt : b < (w.setCell ⟨b, 3, none⟩ (.int .i32 1)).heap.size := World.block_lt_of_cell? _ _ H2.out
  have e2 : w1.cell? ⟨b, 2, none⟩ = some (.int .u32 0) := (M1.out.cell (p := ⟨b, 2, none⟩) hlt (fun h => h)).trans H2.out
  have e3 : w1.cell? ⟨b, 3, none⟩ = some (.int .i32 1) := (M1.out.cell (p := ⟨b, 3, none⟩) hlt (fun h => h)).trans H3.out
  have ef : ∀ o, w1.frozen? ⟨b, o, none⟩ = false := fun o => (M1.out.frozen (p := ⟨b, o, none⟩) hlt (fun h => h)).trans (F1.out o)
  refine leaves_cons (f := 38) (args := #[.pointer (some ⟨b, 2, none⟩), .bool true]) (by simp) (by simp [go_sem]) ?_
  refine (store_deferred ⟨b, 2, none⟩ (.int .u32 0) .returning _ ?_ (by simp [ef])).mono ?_
  · exact (World.cell?_setCell_other _ ⟨b, 1, none⟩ ⟨b, 2, none⟩ _ (by simp)).trans e2
  rintro e u' w'' ⟨rfl, rfl, rfl⟩
  refine leaves_cons (f := 80) (args := #[.pointer (some ⟨b, 3, none⟩)]) (by simp [settle]) (by simp [go_sem]) ?_
  refine (unlock_deferred ⟨b, 3, none⟩ _ _ ?_ (by simp [ef])).mono ?_
  · refine (World.cell?_setCell_other _ ⟨b, 2, none⟩ ⟨b, 3, none⟩ _ (by simp)).trans ?_
    rw [World.cell?_drew]
    exact (World.cell?_setCell_other _ ⟨b, 1, none⟩ ⟨b, 3, none⟩ _ (by simp)).trans e3
  rintro e u' w'' ⟨rfl, rfl, rfl⟩
  simp only [Leaves, settle]
  exact ⟨_, results_none rfl _ _ _, rfl, w1, M1.out, rfl⟩

theorem do_done {w : World} {b : Nat} {blank : ByteArray} {fv : Value} (ho : OnceAt w b true blank) : Calls Tryz.prog 55 #[.pointer (some ⟨b, 2, none⟩), fv] w fun e w' => e = .returned (.tuple #[]) ∧ w = w' := by
  have HL := hid (bool_load_t ho.2.1)
  clear ho
  go_enter Tryz.func55, Tryz.ntmps55
  go_wp2_with (go_at_call 43; refine HL.out.mono ?_; rintro e w' ⟨rfl, rfl⟩)
  go_end0
  exact ⟨rfl, rfl⟩

theorem do_first {w : World} {p b : Nat} {blank : ByteArray} (hp : w.cell? ⟨p, 0, none⟩ = some (.pointer (some ⟨b, 0, none⟩))) (ho : OnceAt w b false blank) :
    Calls Tryz.prog 55 #[.pointer (some ⟨b, 2, none⟩), .func (.func 56) #[] #[.pointer (some ⟨p, 0, none⟩)]] w fun e w' => e = .returned (.tuple #[]) ∧
      ∃ w1, Mod (fun _ => False) (w.setCell ⟨b, 3, none⟩ (.int .i32 1)) w1 ∧ w' = ((w1.setCell ⟨b, 1, none⟩ (.string Z1024)).drew.setCell ⟨b, 2, none⟩ (.int .u32 1)).setCell ⟨b, 3, none⟩ (.int .i32 0) := by
  have HL := hid (bool_load_f ho.2.1)
  have HS := hid (slow_any hp ho)
  clear ho hp
  go_enter Tryz.func55, Tryz.ntmps55
  go_wp2_with (first | (go_at_call 43; refine HL.out.mono ?_; rintro e w' ⟨rfl, rfl⟩) | (go_at_call 69; refine HS.out.mono ?_; rintro e w' ⟨rfl, hq⟩; have Hq := hid hq; clear hq))
  go_end0
  exact ⟨rfl, Hq.out⟩

/-- A disk's fields in memory. -/
def DiskCells (w : World) (b : Nat) (sa : Option Addr) (n cap : Nat) (blank : ByteArray) (done : Bool) (writes high left : Int) (off : Bool) : Prop :=
  w.heap[b]? = some (.cells #[.slice sa n cap, .string blank, .int .u32 (u32 done), .int .i32 0, .int .u32 0, .int .i64 writes, .int .i64 high, .int .i64 left, .int .u32 (u32 off)] 56 (0, 0)) ∧ (done = true → blank = Z1024)

theorem DiskCells.once {w : World} {b : Nat} {sa : Option Addr} {n cap : Nat} {blank : ByteArray} {done : Bool} {writes high left : Int} {off : Bool} (h : DiskCells w b sa n cap blank done writes high left off) : OnceAt w b done blank :=
  ⟨by rw [cell_of_row _ _ _ _ _ _ h.1]; rfl, by rw [cell_of_row _ _ _ _ _ _ h.1]; rfl, by rw [cell_of_row _ _ _ _ _ _ h.1]; rfl, fun o => frozen_of_row _ _ _ _ _ h.1⟩

theorem do_disk {w : World} {p b : Nat} {sa : Option Addr} {n cap : Nat} {blank : ByteArray} {done : Bool} {writes high left : Int} {off : Bool} (hp : w.cell? ⟨p, 0, none⟩ = some (.pointer (some ⟨b, 0, none⟩))) (h : DiskCells w b sa n cap blank done writes high left off) :
    Calls Tryz.prog 55 #[.pointer (some ⟨b, 2, none⟩), .func (.func 56) #[] #[.pointer (some ⟨p, 0, none⟩)]] w fun e w' => e = .returned (.tuple #[]) ∧ DiskCells w' b sa n cap Z1024 true writes high left off ∧ Mod (fun k => k = b) w w' := by
  cases done with
  | true =>
    obtain rfl := h.2 rfl
    refine (do_done h.once).mono ?_
    rintro e w' ⟨rfl, rfl⟩
    exact ⟨rfl, h, Mod.refl _ _⟩
  | false =>
    refine (do_first hp h.once).mono ?_
    rintro e w' ⟨rfl, w1, hm1, rfl⟩
    have h0 := heap_setCell_same w b 3 _ 56 (.int .i32 1) h.1
    have h1 := (hm1.block b (lt_of_heap h0) (fun h => h)).trans h0
    have h2 := heap_setCell_same w1 b 1 _ 56 (.string Z1024) h1
    have h3 := heap_setCell_same (w1.setCell ⟨b, 1, none⟩ (.string Z1024)).drew b 2 _ 56 (.int .u32 1) h2
    have h4 := heap_setCell_same _ b 3 _ 56 (.int .i32 0) h3
    refine ⟨rfl, ⟨h4, fun _ => rfl⟩, ?_⟩
    have m0 : Mod (fun k => k = b) w (w.setCell ⟨b, 3, none⟩ (.int .i32 1)) := Mod.setCell (S := fun k => k = b) (Mod.refl _ _) (fun _ => rfl) _
    have m1 : Mod (fun k => k = b) w w1 := m0.then hm1 (fun _ _ h => h.elim)
    exact Mod.setCell (S := fun k => k = b) (Mod.setCell (S := fun k => k = b) (Mod.setCell (S := fun k => k = b) m1 (fun _ => rfl) _).drew (fun _ => rfl) _) (fun _ => rfl) _

set_option maxRecDepth 100000 in
theorem zeros_any {w : World} {b : Nat} {sa : Option Addr} {n cap : Nat} {blank : ByteArray} {done : Bool} {writes high left : Int} {off : Bool} (h : DiskCells w b sa n cap blank done writes high left off) :
    Calls Tryz.prog 40 #[.pointer (some ⟨b, 0, none⟩)] w fun e w' => e = .returned (.string Z1024) ∧ DiskCells w' b sa n cap Z1024 true writes high left off ∧ Mod (fun k => k = b) w w' := by
  have hbl := lt_of_heap h.1
  have hW : Mod (fun _ => False) w (w.alloc (.cells #[.pointer (some ⟨b, 0, none⟩)] 24)) := (Mod.refl _ _).alloc _
  have hmf : ∀ (fn : Fn) (first cap : Array Value) (w : World), (Instr.makeFunc fn first cap).run Tryz.prog w = .ok (.func fn first cap) w := fun _ _ _ _ => rfl
  have hN := heap_alloc_new w (.cells #[.pointer (some ⟨b, 0, none⟩)] 24)
  have hp : (w.alloc (.cells #[.pointer (some ⟨b, 0, none⟩)] 24)).cell? ⟨w.heap.size, 0, none⟩ = some (.pointer (some ⟨b, 0, none⟩)) := by rw [cell_of_row _ _ _ _ _ _ hN]; rfl
  have Hdo := hid (do_disk (p := w.heap.size) (b := b) hp ⟨(hW.block b hbl (fun h => h)).trans h.1, h.2⟩)
  have HN := hid hN
  have HW := hid hW
  clear hN hp hW h
  go_enter Tryz.func40, Tryz.ntmps40
  go_wp2_with fail
  refine Hdo.out.mono ?_
  rintro e w1 ⟨rfl, hd, hm⟩
  have k0 : w1.cell? ⟨w.heap.size, 0, none⟩ = some (.pointer (some ⟨b, 0, none⟩)) := by rw [cell_of_row _ _ _ _ _ _ ((hm.block w.heap.size (lt_of_heap HN.out) (by omega)).trans HN.out)]; rfl
  have k1 := hd.once.1
  have HD := hid hd
  have HM := hid hm
  clear hd hm
  go_wp2
  go_ret
  exact ⟨rfl, HD.out, (HW.out.mono fun _ _ h => h.elim).then HM.out (fun _ _ h => h)⟩

end Go.Proofs.YtbfdmglmolkloaaGreatDoor
