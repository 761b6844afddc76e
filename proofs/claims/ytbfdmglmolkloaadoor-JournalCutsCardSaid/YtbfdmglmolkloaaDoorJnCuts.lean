/- The walk of JournalCuts -/
import Derived.Test.YtbfdmglmolkloaaDoorJrK2
import Derived.Test.YtbfdmglmolkloaaDoorJnLast
import Derived.Deep.DeepCutAuto
import Derived.Deep.CutBlock
namespace Go.Proofs.YtbfdmglmolkloaaDoor
open Go Go.RowKit

namespace JournalCuts

/-- What a list says that the sectors hold. -/
def con (ws : List ByteArray) (q : Nat) : ByteArray := pad ((ws[q]?).getD ⟨#[]⟩)

theorem con_upd {ws : List ByteArray} {cs : List Chg} (hn : (places cs).Nodup) {q : Nat} (hq : q < ws.length) : con (upd ws cs) q = upc (con ws) cs q := by
  obtain ⟨x, hx⟩ : ∃ x, (upd ws cs)[q]? = some x := ⟨_, List.getElem?_eq_getElem (by rw [upd_len]; exact hq)⟩
  unfold con
  rw [hx]
  rcases upd_get cs ws q x hn hx with ⟨c, hc, h1, h2⟩ | ⟨h1, h2⟩
  · obtain ⟨m, hm⟩ := List.getElem?_of_mem hc
    rw [← h1, upc_some hn hm, h2]
    rfl
  · rw [upc_none h1, h2]

theorem Cln.congr {room : Nat} {c c' : Nat → ByteArray} {D : Dsk} (h : Cln room c D) (he : ∀ q, q < jlen room D → c q = c' q) : Cln room c' D := ⟨h.1, fun q hq => by rw [h.2 q hq, he q hq]⟩
theorem Inv.congr {room : Nat} {old new new' : Nat → ByteArray} {D : Dsk} (h : Inv room old new D) (he : ∀ q, q < jlen room D → new q = new' q) : Inv room old new' D := by
  rcases h with h | ⟨l, a, b, c, d⟩ | h
  · exact .inl h
  · refine .inr (.inl ⟨l, a, b, fun m n hm => ?_, fun q hq hn => ?_⟩)
    · rw [← he n ((numF_spec a).2.2 n (List.mem_of_getElem? hm))]; exact c m n hm
    · rw [← he q hq]; exact d q hq hn
  · exact .inr (.inr (Cln.congr h he))

theorem holds_of {room : Nat} {ws : List ByteArray} {D : Dsk} (h : Cln room (con ws) D) (hl : ws.length = jlen room D) (hs : ∀ x ∈ ws, x.size ≤ 1024) : Holds room D ws := by
  refine ⟨hl, fun i x hx => ⟨hs x (List.mem_of_getElem? hx), ?_⟩⟩
  have hi := (List.getElem?_eq_some_iff.1 hx).1
  rw [h.2 i (by omega)]
  unfold con
  rw [hx]
  rfl

theorem upd_small {ws : List ByteArray} {cs : List Chg} (hc : ∀ c ∈ cs, c.data.size ≤ 1024) (hs : ∀ x ∈ ws, x.size ≤ 1024) (hn : (places cs).Nodup) : ∀ x ∈ upd ws cs, x.size ≤ 1024 := fun x hx => by
  obtain ⟨i, hi⟩ := List.getElem?_of_mem hx
  rcases upd_get cs ws i x hn hi with ⟨c, hcm, _, rfl⟩ | ⟨_, h⟩
  · exact hc c hcm
  · exact hs x (List.mem_of_getElem? h)

/-- The lists of the call's own. -/
structure Lists (w : World) (b : Nat) (sa : Option Addr) (j nb xb : Nat) (now next : List ByteArray) : Prop where
  o1 : Own w 9 1 (some ⟨nb, 0, none⟩) 13 13 (now.map .string)
  o2 : Own w 9 1 (some ⟨xb, 0, none⟩) 13 13 (next.map .string)
  l1 : now.length = 13
  l2 : next.length = 13
  s1 : ∀ x ∈ now, x.size ≤ 1024
  s2 : ∀ x ∈ next, x.size ≤ 1024

theorem Lists.mod {w w' : World} {S : Nat → Prop} {b : Nat} {sa : Option Addr} {j nb xb : Nat} {now next : List ByteArray} (h : Lists w b sa j nb xb now next) (hm : Mod S w w') (h1 : ∀ k, blk (some ⟨nb, 0, none⟩) k → ¬ S k) (h2 : ∀ k, blk (some ⟨xb, 0, none⟩) k → ¬ S k) : Lists w' b sa j nb xb now next :=
  ⟨h.o1.mod hm h1, h.o2.mod hm h2, h.l1, h.l2, h.s1, h.s2⟩

/-- What holds behind the commits, and behind each open. -/
def Mid (V : World) (b : Nat) (sa : Option Addr) (j nb xb : Nat) (wx : World) : Prop :=
  ∃ (D : Dsk) (now next : List ByteArray) (k : Nat), JS V wx b sa j 6 D ∧ Bud D k ∧ k ≤ 1125899906842624 ∧ D.secs.length = 20 ∧ Inv 6 (con now) (con next) D ∧ Lists wx b sa j nb xb now next

theorem bud_cut {D : Dsk} {k : Nat} (B : Bud D k) (n : Int) : Bud (D.cut n) k :=
  ⟨B.n, B.w0, B.w1, B.h0, B.h1, by simp only [Dsk.cut]; omega, by simp only [Dsk.cut]; omega, B.s⟩
theorem bud_start {D : Dsk} {k : Nat} (B : Bud D k) : Bud ({ D with off := false, left := 0 } : Dsk) k :=
  ⟨B.n, B.w0, B.w1, B.h0, B.h1, Int.le_refl _, (show (0 : Int) ≤ 4611686018427387904 by decide), B.s⟩

/-- What Open does with the power on, whatever the cut left. -/
theorem last_open {old new : Nat → ByteArray} {D : Dsk} {k : Nat} (h : Lit D k) (hl : D.secs.length = 20) (hi : Inv 6 old new D) : (openF 6 D).1 = 0 ∧ (∃ m, Lit (openF 6 D).2 m) ∧ (openF 6 D).2.secs.length = 20 ∧ (Cln 6 old (openF 6 D).2 ∨ Cln 6 new (openF 6 D).2) := by
  have hc := open_cut (room := 6) (by omega) (by omega) h.b.s h.off hi
  have hlen : (openF 6 D).2.secs.length = 20 := by rw [openF_len]; exact hl
  rcases open_heads (room := 6) h (by omega) with e | e | ⟨m, D', e, _, _, l, _⟩
  · exfalso
    rw [e] at hc
    rcases hc with ⟨a, _⟩ | ⟨a, _⟩
    · exact absurd a (show ¬ (32 : Int) = 0 by decide)
    · exact absurd a (show ¬ (32 : Int) = 12 by decide)
  · rcases hc with ⟨a, _, c⟩ | ⟨a, _⟩
    · exact ⟨a, ⟨k, by rw [e]; exact h⟩, hlen, c⟩
    · rw [e] at a; exact absurd a (show ¬ (0 : Int) = 12 by decide)
  · rcases hc with ⟨a, _, c⟩ | ⟨a, _⟩
    · exact ⟨a, ⟨_, by rw [e]; exact l⟩, hlen, c⟩
    · rw [e] at a; exact absurd a (show ¬ (0 : Int) = 12 by decide)

/-- What holds while the journal is opened again and again. -/
def Rel4 (V : World) (b : Nat) (sa : Option Addr) (j nb xb : Nat) (now next : List ByteArray) (k i : Nat) (wr : World) : Prop :=
  ∃ D : Dsk, JS V wr b sa j 6 D ∧ Bud D (k + 7 * i) ∧ D.secs.length = 20 ∧ Inv 6 (con now) (con next) D ∧ Lists wr b sa j nb xb now next

/-- What holds while the power is on. -/
def Rel1 (V : World) (b : Nat) (sa : Option Addr) (j nb xb k : Nat) (wr : World) : Prop :=
  ∃ (D : Dsk) (now : List ByteArray), JS V wr b sa j 6 D ∧ Bud D (14 * k) ∧ D.secs.length = 20 ∧ D.off = false ∧ Cln 6 (con now) D ∧ Lists wr b sa j nb xb now now

theorem strs_one (ws : List ByteArray) : ∀ v ∈ ws.map Value.string, v.oneCell' = true := fun v hv => by
  obtain ⟨s, _, rfl⟩ := List.mem_map.1 hv
  rfl
theorem zeros_small : ∀ x ∈ List.replicate 13 (⟨#[]⟩ : ByteArray), x.size ≤ 1024 := fun x hx => by
  rw [(List.mem_replicate.1 hx).2]
  exact Nat.zero_le _

set_option maxRecDepth 100000 in
set_option maxHeartbeats 8000000 in
theorem walk (W : World) (a1 : Option Addr) (c1 : Nat) (ls : List Cm) (hls : Lies W 1 Cm.vs a1 ls) (hok : ∀ x ∈ ls, CmOk W x) (hl : ls.length * 24 ≤ 140737488351232) (cut : Int) (a2 : Option Addr) (c2 : Nat) (ag : List Int) (hag : Lies W 1 (fun x : Int => [.int .i64 x]) a2 ag) (hagl : ag.length * 8 ≤ 140737488351232) :
    Calls Tryd.prog 8 #[.agg #[.slice a1 ls.length c1, .int .i64 cut, .slice a2 ag.length c2]] W fun e w' => e = .returned (.bool true) ∧ Below W.heap.size W w' := by
  obtain ⟨i0, hi, hz0, hzs, hzb⟩ := info_parts info_str
  have hmV : Mod (fun _ => False) W (W.alloc (.cells #[.slice a1 ls.length c1, .int .i64 cut, .slice a2 ag.length c2] 46)) := (Mod.refl _ _).alloc _
  have hbV : (W.alloc (.cells #[.slice a1 ls.length c1, .int .i64 cut, .slice a2 ag.length c2] 46)).heap[W.heap.size]? = some (.cells #[.slice a1 ls.length c1, .int .i64 cut, .slice a2 ag.length c2] 46 (0, 0)) := heap_alloc_new _ _
  have HLs := hid (hls.ext hmV)
  have HOk : Hid (∀ x ∈ ls, CmOk (W.alloc (.cells #[.slice a1 ls.length c1, .int .i64 cut, .slice a2 ag.length c2] 46)) x) := hid (fun x hx => by
    obtain ⟨h1, h2, h3⟩ := hok x hx
    exact ⟨h1.mod hmV (fun _ _ _ h => h), fun h0 k hk => by have := h2 h0 k hk; have := hmV.size; omega, h3⟩)
  have HAg := hid (hag.ext hmV)
  have HFin : Hid (∀ w', Mod (fun k => W.heap.size + 1 ≤ k) (W.alloc (.cells #[.slice a1 ls.length c1, .int .i64 cut, .slice a2 ag.length c2] 46)) w' → Below W.heap.size W w') := hid (fun w' h => (hmV.then h (fun i hi hk => by omega)).below (Nat.le_refl _) (fun _ h => h.elim))
  have hszV : (W.alloc (.cells #[.slice a1 ls.length c1, .int .i64 cut, .slice a2 ag.length c2] 46)).heap.size = W.heap.size + 1 := by simp
  have HBv := hid hbV
  clear hls hok hag hmV hbV
  go_enter Tryd.func8, Tryd.ntmps8
  go_wp2_with fail
  generalize W.alloc (.cells #[.slice a1 ls.length c1, .int .i64 cut, .slice a2 ag.length c2] 46) = V at *
  have hN := fun (w : World) (hm : Mod (fun k => V.heap.size ≤ k) V w) => st_new hm 20
  have HO := hid (fun (w : World) (b : Nat) (hs : St V w b (newD 20)) => js_open (room := 6) hs (lit_new 20) (by decide) (by decide) (by decide) (by decide) (clear_new 20))
  have hlen : (newD 20).secs.length = 20 := rfl
  have hoff : (newD 20).off = false := rfl
  have hjl : jlen 6 (newD 20) = 13 := rfl
  have HJl : Hid (∀ (w : World) (b j : Nat) (sa : Option Addr), JS V w b sa j 6 (newD 20) → Calls Tryd.prog 14 #[.pointer (some ⟨j, 0, none⟩)] w fun e w' => e = .returned (.int .i64 13) ∧ JS V w' b sa j 6 (newD 20) ∧ Mod (fun _ => False) w w') := hid (fun w b j sa hj => by
    have := hj.len (by rw [hlen]; decide) (by decide)
    rw [hjl] at this
    exact this)
  have hc0 : Cln 6 (con (List.replicate 13 ⟨#[]⟩)) (newD 20) := ⟨clear_new 20, fun q hq => by
    rw [hjl] at hq
    rw [sec_new]
    unfold con
    rw [List.getElem?_replicate, if_pos hq]
    exact pad_nil.symm⟩
  have HC0 := hid hc0
  have HB0 := hid (bud_new 20)
  have hmk := fun W : World => run_makeSlice (P := Tryd.prog) W 38 9 i0 (.string ⟨#[]⟩) Tryd.underlying38 hi hz0 .i64 .i64 13 13 (by decide) (Int.le_refl _) (by rw [hzs]; decide) (by rw [hzb]; decide) (by decide)
  rw [hzs] at hmk
  have e8 : (13 : Int).toNat = 13 := rfl
  simp only [e8, Nat.mul_one] at hmk
  have hom := fun w : World => own_made w 13 (by decide)
  have hrl : (List.replicate 13 (⟨#[]⟩ : ByteArray)).length = 13 := rfl
  rw [hrl] at hom
  have HOm := hid hom
  have HN := hid hN
  generalize newD 20 = D0 at *
  clear hc0 hom hN hjl
  refine (wakes_yes V).mono ?_
  rintro e w0 ⟨rfl, hm⟩
  have HM0 := hid (hm.mono (T := fun k => V.heap.size ≤ k) (fun _ _ h => h.elim))
  clear hm
  go_wp2_with fail
  refine (HN.out w0 HM0.out).mono ?_
  rintro e w1 ⟨b, rfl, hs⟩
  have HS := hid hs
  clear hs
  go_wp2_with fail
  refine (HO.out w1 b HS.out).mono ?_
  rintro e w2 ⟨j, rfl, hs⟩
  obtain ⟨sa, hjs⟩ := hs.js
  have HJ := hid hjs
  clear hs hjs
  go_wp2_with fail
  refine (HJl.out w2 b j sa HJ.out).mono ?_
  rintro e w3 ⟨rfl, hj, _⟩
  have HJ3 := hid hj
  clear hj
  go_wp2_with fail
  have hma : Mod (fun _ => False) w3 (w3.alloc (.cells (madeCells #[.string ⟨#[]⟩] 13) 9)) := (Mod.refl _ _).alloc _
  have HJ4 := hid (HJ3.out.ext hma)
  have HO4 := hid (HOm.out w3)
  have hnb : ¬ diskF b sa w3.heap.size := fun hf => by have := HJ3.out.d.lt _ hf; omega
  have hnj : w3.heap.size ≠ j := fun h => by have := HJ3.out.ja.lt; omega
  have hnW : V.heap.size ≤ w3.heap.size := HJ3.out.m.size
  generalize w3.alloc (.cells (madeCells #[.string ⟨#[]⟩] 13) 9) = w4 at *
  generalize w3.heap.size = nb at *
  clear hma
  refine (HJl.out w4 b j sa HJ4.out).mono ?_
  rintro e w5 ⟨rfl, hj, hm5⟩
  have HJ5 := hid hj
  have HO5 := hid (HO4.out.mod hm5 (fun _ _ h => h))
  clear hj hm5
  have hb5 : V.heap[W.heap.size]? = _ := HBv.out
  have hma : Mod (fun _ => False) w5 (w5.alloc (.cells (madeCells #[.string ⟨#[]⟩] 13) 9)) := (Mod.refl _ _).alloc _
  have HJ6 := hid (HJ5.out.ext hma)
  have HO6 := hid (HOm.out w5)
  have HO6n := hid (HO5.out.mod hma (fun _ _ h => h))
  have hxb : ¬ diskF b sa w5.heap.size := fun hf => by have := HJ5.out.d.lt _ hf; omega
  have hxj : w5.heap.size ≠ j := fun h => by have := HJ5.out.ja.lt; omega
  have hxW : V.heap.size ≤ w5.heap.size := HJ5.out.m.size
  have hxn : nb ≠ w5.heap.size := fun h => by have := HO5.out.lt nb (blk_some.2 rfl); omega
  have hbx := ((HJ6.out.m.block _ (lt_of_heap hb5) (by omega)).trans hb5)
  have q0 : (w5.alloc (.cells (madeCells #[.string ⟨#[]⟩] 13) 9)).cell? ⟨W.heap.size, 0, none⟩ = some (.slice a1 ls.length c1) := by rw [cell_of_row _ _ _ _ _ _ hbx]; rfl
  have q1 : (w5.alloc (.cells (madeCells #[.string ⟨#[]⟩] 13) 9)).cell? ⟨W.heap.size, 1, none⟩ = some (.int .i64 cut) := by rw [cell_of_row _ _ _ _ _ _ hbx]; rfl
  clear hb5 hbx hma
  go_wp2_with fail
  refine (HJ6.out.cut _).mono ?_
  rintro e w7 ⟨rfl, hj, hm7⟩
  generalize hD1 : D0.cut (max 0 cut) = D1 at *
  have HJ7 := hid hj
  have HNd : Hid (∀ k, blk (some ⟨nb, 0, none⟩) k → ¬ diskF b sa k) := hid (fun k hk => by rw [blk_some] at hk; rw [← hk]; exact hnb)
  have HXd : Hid (∀ k, blk (some ⟨w5.heap.size, 0, none⟩) k → ¬ diskF b sa k) := hid (fun k hk => by rw [blk_some] at hk; rw [← hk]; exact hxb)
  have HON := hid (HO6n.out.mod hm7 HNd.out)
  have HOX := hid (HO6.out.mod hm7 HXd.out)
  generalize w5.heap.size = xb at *
  have HD1 : Hid (Bud D1 0 ∧ D1.secs.length = 20 ∧ D1.off = false ∧ Cln 6 (con (List.replicate 13 ⟨#[]⟩)) D1) := hid (by
    have B := HB0.out
    have C := HC0.out
    subst hD1
    refine ⟨⟨B.n, B.w0, B.w1, B.h0, B.h1, ?_, ?_, B.s⟩, hlen, hoff, ?_⟩
    · simp only [Dsk.cut]; omega
    · simp only [Dsk.cut]; omega
    · exact ⟨C.1, fun q hq => C.2 q hq⟩)
  have HUp : Hid (∀ v, Mod (fun k => V.heap.size ≤ k) V v → v.cell? ⟨W.heap.size, 0, none⟩ = some (.slice a1 ls.length c1) ∧ v.cell? ⟨W.heap.size, 2, none⟩ = some (.slice a2 ag.length c2)) := hid (fun v hv => by
    have hb := ((hv.block _ (lt_of_heap HBv.out) (by omega)).trans HBv.out)
    refine ⟨?_, ?_⟩ <;> (rw [cell_of_row _ _ _ _ _ _ hb]; rfl))
  obtain ⟨z0, z2⟩ := HUp.out w7 HJ7.out.m
  clear hj hm7 q0 q1 hD1 z2
  have hs1 : (Tryd.prog.info? 9).map (·.size) = some 1 := by kernel_rfl
  go_upto_block 0 with fail
  go_cut [] (fun wx => Mid V b sa j nb xb wx)
  case first =>
    go_wp2_with fail
    go_loopw [47] (fun c wr => ∃ k : Nat, k ≤ ls.length ∧ c = .int .i64 (k : Int) ∧ Rel1 V b sa j nb xb k wr) (fun c _ => ls.length - (intOf c).toNat)
    case atStart => exact ⟨0, Nat.zero_le _, rfl, D1, _, HJ7.out, HD1.out.1, HD1.out.2.1, HD1.out.2.2.1, HD1.out.2.2.2, ⟨HON.out, HOX.out, by simp, by simp, zeros_small, zeros_small⟩⟩
    case round =>
      obtain ⟨k, hk, rfl, D, now, r1, r2, r3, r4, r5, r6⟩ := hrel
      obtain ⟨wo, rfl⟩ : ∃ wo : World, wo = wr := ⟨_, rfl⟩
      have HJr := hid r1
      have HBr := hid r2
      have HCr := hid r5
      have HLr := hid r6
      have HO1 := hid r6.o1
      have HO2 := hid r6.o2
      have hD := r3
      have hoffD := r4
      have hjl : jlen 6 D = 13 := by unfold jlen; rw [r3]
      clear r1 r2 r3 r4 r5 r6
      by_cases hlt : k < ls.length
      · obtain ⟨x, hx⟩ : ∃ x, ls[k]? = some x := ⟨_, List.getElem?_eq_getElem hlt⟩
        obtain ⟨hx1, hx2, hx3⟩ := HOk.out x (List.mem_of_getElem? hx)
        obtain ⟨g, off, rfl⟩ := HLs.out.some (by omega)
        have hc := (HLs.out.old HJr.out.m (fun k h => h)).cell cm_len hx (j := 0) rfl
        simp only [Nat.add_zero, Nat.mul_one] at hc
        obtain ⟨xa, xc, cs⟩ := x
        simp only at hx1 hx2 hx3 hc
        have HX := hid hx1
        have hb1 : 14 * k ≤ 1152921504606846976 := by omega
        have HCm := hid (fun (w : World) (hj : JS V w b sa j 6 D) => hj.commit HBr.out hb1 (by decide) xc (hx1.mod hj.m (fun h0 k hk h => by have := hx2 h0 k hk; omega)) (fun h0 k hk hf => by have := hx2 h0 k hk; have := hj.f k hf; omega) (by unfold maxLen; omega))
        have hcl := commit_cut (room := 6) (c := con now) (by omega) (by decide) HBr.out.s hoffD HCr.out cs
        have hFl : (commitF 6 cs D).2.secs.length = 20 := by rw [commitF_len]; exact hD
        have hFb : ∀ q, (checkL (jlen 6 D) [] cs = 0 ∨ (commitF 6 cs D).2 = D) → (commitF 6 cs D).2 = q → Bud q (14 * (k + 1)) := fun q hq e => by
          subst e
          by_cases h6 : 6 < cs.length
          · have : commitF 6 cs D = (31, D) := by unfold commitF; rw [if_pos h6]
            rw [this]; exact HBr.out.le (by omega)
          · exact (HBr.out.commit 6 cs).le (by omega)
        have HFb := hid (fun h => hFb (commitF 6 cs D).2 h rfl)
        have hpos : checkL (jlen 6 D) [] cs = 0 → (∀ c ∈ cs, 0 ≤ c.pos ∧ c.pos.toNat < 13) ∧ (places cs).Nodup ∧ (∀ c ∈ cs, c.data.size ≤ 1024) := fun h => by
          obtain ⟨p1, p2, _⟩ := check_zero cs [] h
          rw [hjl] at p1
          exact ⟨fun c hc => ⟨(p1 c hc).1, (p1 c hc).2.1⟩, p2, fun c hc => (p1 c hc).2.2⟩
        have HPs := hid hpos
        have hjF : jlen 6 (commitF 6 cs D).2 = 13 := by unfold jlen; rw [hFl]
        have HjF := hid hjF
        have hcn : cs.length ≤ 5864062014800 := by omega
        generalize commitF 6 cs D = F at *
        have HOne := hid (strs_one now)
        clear hx hx1 hx2 hx3 hFb hpos hjF
        go_wp2_with ((with_reducible refine wpList_copy_Own rfl (.tmp 51) (.tmp 52) 38 rfl 9 Tryd.underlying38 hs1 xb 0 13 13 _ rfl HO2.out ⟨nb, 0, none⟩ 13 _ rfl HO1.out.src HOne.out ?_); intro wc hoc hmc; have HOx := hid hoc; have HOn := hid (HO1.out.mod hmc (fun k hk h => by rw [blk_some] at hk; omega)); have HJc := hid (HJr.out.keep hmc (fun k h => by omega) (fun k hk h => by subst h; exact hxb hk) (fun h => hxj h.symm)); clear hoc hmc)
        refine (HCm.out wc HJc.out).mono ?_
        rintro e w8 ⟨rfl, hj8, hm8⟩
        have HJ8 := hid hj8
        have HOn8 := hid (HOn.out.mod hm8 HNd.out)
        have HOx8 := hid (HOx.out.mod hm8 HXd.out)
        clear hj8 hm8 hc
        go_wp2_with fail
        have hon := HJ8.out.on
        rcases hcl with ⟨f1, ⟨f2, f3⟩ | ⟨f2, f3, f4⟩⟩ | ⟨f1, f2, f3⟩
        · rw [f1] at hon
          refine hon.mono ?_
          rintro e w9 ⟨rfl, rfl⟩
          have f0 : (F.1 == 0) = false := by simpa using f2
          have HBf := hid (HFb.out (.inr f3))
          have HCf : Hid (Cln 6 (con now) F.2) := hid (by rw [f3]; exact HCr.out)
          clear hon f2 f3
          go_wp2_with ((with_reducible refine wpList_copy_Own rfl (.tmp 88) (.tmp 89) 38 rfl 9 Tryd.underlying38 hs1 xb 0 13 13 _ rfl HOx8.out ⟨nb, 0, none⟩ 13 _ rfl HOn8.out.src HOne.out ?_); intro wd hoc hmc; have HOx9 := hid hoc; have HOn9 := hid (HOn8.out.mod hmc (fun k hk h => by rw [blk_some] at hk; omega)); have HJd := hid (HJ8.out.keep hmc (fun k h => by omega) (fun k hk h => by subst h; exact hxb hk) (fun h => hxj h.symm)); clear hoc hmc)
          go_roundw
          case rel => exact ⟨k + 1, by omega, by go_num, F.2, now, HJd.out, HBf.out, hFl, f1, HCf.out, ⟨HOn9.out, HOx9.out, HLr.out.l1, HLr.out.l1, HLr.out.s1, HLr.out.s1⟩⟩
          case measure => simp [intOf]; omega
        · rw [f1] at hon
          refine hon.mono ?_
          rintro e w9 ⟨rfl, rfl⟩
          have f0 : (F.1 == 0) = true := by simpa using f2
          obtain ⟨p1, p2, p3⟩ := HPs.out f3
          have HP := hid p1
          have HNu := hid p2
          have HSm := hid p3
          have HBf := hid (HFb.out (.inl f3))
          have HCf := hid f4
          clear hon f2 f3 f4 p1 p2 p3
          go_wp2_with fail
          go_loopw [77] (fun c wv => ∃ m : Nat, m ≤ cs.length ∧ c = .int .i64 (m : Int) ∧ JS V wv b sa j 6 F.2 ∧ Own wv 9 1 (some ⟨nb, 0, none⟩) 13 13 ((upd now (cs.take m)).map .string) ∧ Own wv 9 1 (some ⟨xb, 0, none⟩) 13 13 (now.map .string)) (fun c _ => cs.length - (intOf c).toNat)
          case atStart => exact ⟨0, Nat.zero_le _, rfl, HJ8.out, by rw [List.take_zero]; exact HOn8.out, HOx8.out⟩
          case round =>
            obtain ⟨m, hm, rfl, hj, hol, hoo⟩ := hrel
            obtain ⟨wv, rfl⟩ : ∃ wv : World, wv = wr := ⟨_, rfl⟩
            have HJm := hid hj
            have HOv := hid hol
            have HOo := hid hoo
            clear hj hol hoo
            by_cases hml : m < cs.length
            · obtain ⟨y, hy⟩ : ∃ y, cs[m]? = some y := ⟨_, List.getElem?_eq_getElem hml⟩
              have hye : cs[m] = y := by rw [List.getElem?_eq_getElem hml] at hy; exact Option.some.inj hy
              obtain ⟨z1, z2⟩ := HP.out y (List.mem_of_getElem? hy)
              obtain ⟨g2, o2, rfl⟩ := HX.out.l.some (by omega)
              have hcc := HX.out.l.old HJm.out.m (fun k h => h)
              have q0 := hcc.cell chg_len hy (j := 0) rfl
              have q1 := hcc.cell chg_len hy (j := 1) rfl
              simp only [Nat.add_zero] at q0
              have HTk : Hid (upd now (cs.take (m + 1)) = (upd now (cs.take m)).set y.pos.toNat y.data) := hid (by rw [List.take_succ_eq_append_getElem hml, hye, upd_snoc])
              obtain ⟨pos, data⟩ := y
              simp only at q0 q1 z1 z2 HTk
              obtain ⟨p, rfl⟩ := Int.eq_ofNat_of_zero_le z1
              have hpn : ((p : Int)).toNat = p := by omega
              rw [hpn] at HTk z2
              obtain ⟨vv, hcell⟩ : ∃ vv, wv.cell? ⟨nb, p, none⟩ = some vv := ⟨_, by have := HOv.out.cell p (by omega); rwa [Nat.zero_add] at this⟩
              have hfz : wv.frozen? ⟨nb, p, none⟩ = false := HOv.out.frozen p
              have hnlt : nb < wv.heap.size := HOv.out.lt _ (blk_some.2 rfl)
              have hst : Mod (fun k => k = nb) wv (wv.setCell ⟨nb, p, none⟩ (.string data)) := Mod.setCell (S := fun k => k = nb) (Mod.refl _ _) (fun _ => rfl) _
              have hma : Mod (fun _ => False) (wv.setCell ⟨nb, p, none⟩ (.string data)) ((wv.setCell ⟨nb, p, none⟩ (.string data)).alloc (.cells #[.int .i64 (p : Int), .string data] 35)) := (Mod.refl _ _).alloc _
              have HJa := hid ((HJm.out.keep hst (fun k h => by omega) (fun k hk h => by subst h; exact hnb hk) (fun h => hnj h.symm)).ext hma)
              have hos := HOv.out.set p (by omega) (.string data)
              rw [Nat.zero_add] at hos
              have HOa := hid (hos.mod hma (fun _ _ h => h))
              have HOb := hid ((HOo.out.mod hst (fun k hk h => by rw [blk_some] at hk; omega)).mod hma (fun _ _ h => h))
              clear hy hye hcc hpn hma z1 hst hos
              go_wp2_with fail
              go_roundw
              case rel => exact ⟨m + 1, by omega, by go_num, HJa.out, (by rw [HTk.out, List.map_set]; exact HOa.out), HOb.out⟩
              case measure => simp [intOf]; omega
            · have hme : m = cs.length := by omega
              subst hme
              have HOe : Hid (Own wv 9 1 (some ⟨nb, 0, none⟩) 13 13 ((upd now cs).map .string)) := hid (by have := HOv.out; rwa [List.take_length] at this)
              have HOne2 := hid (strs_one (upd now cs))
              have hul : (upd now cs).length = 13 := by rw [upd_len]; exact HLr.out.l1
              have HCu : Hid (Cln 6 (con (upd now cs)) F.2) := hid (Cln.congr HCf.out (fun q hq => (con_upd HNu.out (by rw [HLr.out.l1]; have := HjF.out; omega)).symm))
              have HSu := hid (upd_small HSm.out HLr.out.s1 HNu.out)
              go_wp2_with ((with_reducible refine wpList_copy_Own rfl (.tmp 88) (.tmp 89) 38 rfl 9 Tryd.underlying38 hs1 xb 0 13 13 _ rfl HOo.out ⟨nb, 0, none⟩ 13 _ rfl HOe.out.src HOne2.out ?_); intro wd hoc hmc; have HOx9 := hid hoc; have HOn9 := hid (HOe.out.mod hmc (fun k hk h => by rw [blk_some] at hk; omega)); have HJd := hid (HJm.out.keep hmc (fun k h => by omega) (fun k hk h => by subst h; exact hxb hk) (fun h => hxj h.symm)); clear hoc hmc)
              go_roundw
              case rel => exact ⟨k + 1, by omega, by go_num, F.2, upd now cs, HJd.out, HBf.out, hFl, f1, HCu.out, ⟨HOn9.out, HOx9.out, hul, hul, HSu.out, HSu.out⟩⟩
              case measure => simp [intOf]; omega
        · rw [f1] at hon
          refine hon.mono ?_
          rintro e w9 ⟨rfl, rfl⟩
          obtain ⟨p1, p2, p3⟩ := HPs.out f2
          have HP := hid p1
          have HNu := hid p2
          have HSm := hid p3
          have HBf := hid (HFb.out (.inl f2))
          have HIf := hid f3
          clear hon f2 f3 p1 p2 p3
          go_wp2_with fail
          go_loopw [62] (fun c wv => ∃ m : Nat, m ≤ cs.length ∧ c = .int .i64 (m : Int) ∧ JS V wv b sa j 6 F.2 ∧ Own wv 9 1 (some ⟨xb, 0, none⟩) 13 13 ((upd now (cs.take m)).map .string) ∧ Own wv 9 1 (some ⟨nb, 0, none⟩) 13 13 (now.map .string)) (fun c _ => cs.length - (intOf c).toNat)
          case atStart => exact ⟨0, Nat.zero_le _, rfl, HJ8.out, by rw [List.take_zero]; exact HOx8.out, HOn8.out⟩
          case round =>
            obtain ⟨m, hm, rfl, hj, hol, hoo⟩ := hrel
            obtain ⟨wv, rfl⟩ : ∃ wv : World, wv = wr := ⟨_, rfl⟩
            have HJm := hid hj
            have HOv := hid hol
            have HOo := hid hoo
            clear hj hol hoo
            by_cases hml : m < cs.length
            · obtain ⟨y, hy⟩ : ∃ y, cs[m]? = some y := ⟨_, List.getElem?_eq_getElem hml⟩
              have hye : cs[m] = y := by rw [List.getElem?_eq_getElem hml] at hy; exact Option.some.inj hy
              obtain ⟨z1, z2⟩ := HP.out y (List.mem_of_getElem? hy)
              obtain ⟨g2, o2, rfl⟩ := HX.out.l.some (by omega)
              have hcc := HX.out.l.old HJm.out.m (fun k h => h)
              have q0 := hcc.cell chg_len hy (j := 0) rfl
              have q1 := hcc.cell chg_len hy (j := 1) rfl
              simp only [Nat.add_zero] at q0
              have HTk : Hid (upd now (cs.take (m + 1)) = (upd now (cs.take m)).set y.pos.toNat y.data) := hid (by rw [List.take_succ_eq_append_getElem hml, hye, upd_snoc])
              obtain ⟨pos, data⟩ := y
              simp only at q0 q1 z1 z2 HTk
              obtain ⟨p, rfl⟩ := Int.eq_ofNat_of_zero_le z1
              have hpn : ((p : Int)).toNat = p := by omega
              rw [hpn] at HTk z2
              obtain ⟨vv, hcell⟩ : ∃ vv, wv.cell? ⟨xb, p, none⟩ = some vv := ⟨_, by have := HOv.out.cell p (by omega); rwa [Nat.zero_add] at this⟩
              have hfz : wv.frozen? ⟨xb, p, none⟩ = false := HOv.out.frozen p
              have hnlt : xb < wv.heap.size := HOv.out.lt _ (blk_some.2 rfl)
              have hst : Mod (fun k => k = xb) wv (wv.setCell ⟨xb, p, none⟩ (.string data)) := Mod.setCell (S := fun k => k = xb) (Mod.refl _ _) (fun _ => rfl) _
              have hma : Mod (fun _ => False) (wv.setCell ⟨xb, p, none⟩ (.string data)) ((wv.setCell ⟨xb, p, none⟩ (.string data)).alloc (.cells #[.int .i64 (p : Int), .string data] 35)) := (Mod.refl _ _).alloc _
              have HJa := hid ((HJm.out.keep hst (fun k h => by omega) (fun k hk h => by subst h; exact hxb hk) (fun h => hxj h.symm)).ext hma)
              have hos := HOv.out.set p (by omega) (.string data)
              rw [Nat.zero_add] at hos
              have HOa := hid (hos.mod hma (fun _ _ h => h))
              have HOb := hid ((HOo.out.mod hst (fun k hk h => by rw [blk_some] at hk; omega)).mod hma (fun _ _ h => h))
              clear hy hye hcc hpn hma z1 hst hos
              go_wp2_with fail
              go_roundw
              case rel => exact ⟨m + 1, by omega, by go_num, HJa.out, (by rw [HTk.out, List.map_set]; exact HOa.out), HOb.out⟩
              case measure => simp [intOf]; omega
            · have hme : m = cs.length := by omega
              subst hme
              have HOe : Hid (Own wv 9 1 (some ⟨xb, 0, none⟩) 13 13 ((upd now cs).map .string)) := hid (by have := HOv.out; rwa [List.take_length] at this)
              have hul : (upd now cs).length = 13 := by rw [upd_len]; exact HLr.out.l1
              have HCu : Hid (Inv 6 (con now) (con (upd now cs)) F.2) := hid (Inv.congr HIf.out (fun q hq => (con_upd HNu.out (by rw [HLr.out.l1]; have := HjF.out; omega)).symm))
              have HSu := hid (upd_small HSm.out HLr.out.s1 HNu.out)
              go_wp2_with fail
              go_meet
              case rel => exact ⟨F.2, now, upd now cs, 14 * (k + 1), HJm.out, HBf.out, by omega, hFl, HCu.out, ⟨HOo.out, HOe.out, HLr.out.l1, hul, HLr.out.s1, HSu.out⟩⟩
      · have hke : k = ls.length := by omega
        subst hke
        go_wp2_with fail
        go_meet
        case rel => exact ⟨D, now, now, 14 * ls.length, HJr.out, HBr.out, by omega, hD, .inl HCr.out, HLr.out⟩
  case rest =>
    obtain ⟨D, now, next, k0, hj, hb, hk0, hD, hi, hL⟩ := hcut
    have HJx := hid hj
    have HBx := hid hb
    have HIx := hid hi
    have HLx := hid hL
    have hno := hL.l1
    have hne := hL.l2
    have HS1 := hid hL.s1
    have HS2 := hid hL.s2
    clear hj hb hi hL
    go_wp2_with fail
    go_loopw [15] (fun c wr => ∃ i : Nat, i ≤ ag.length ∧ i ≤ 20 ∧ c = .int .i64 (i : Int) ∧ Rel4 V b sa j nb xb now next k0 i wr) (fun c _ => 20 - (intOf c).toNat)
    case atStart => exact ⟨0, Nat.zero_le _, by decide, rfl, D, HJx.out, HBx.out, hD, HIx.out, HLx.out⟩
    case round =>
      obtain ⟨i, hi1, hi2, rfl, D2, r1, r2, r3, r4, r5⟩ := hrel
      have HJr := hid r1
      have HBr := hid r2
      have HIr := hid r4
      have HLr := hid r5
      have hD2 := r3
      obtain ⟨z0, z2⟩ := HUp.out wr HJr.out.m
      clear r1 r2 r3 r4 r5 z0
      by_cases hlt : i < ag.length ∧ i < 20
      · obtain ⟨hlt, hlt2⟩ := hlt
        have d20 : decide ((i : Int) < 20) = true := by rw [decide_eq_true_iff]; omega
        obtain ⟨x, hx⟩ : ∃ x, ag[i]? = some x := ⟨_, List.getElem?_eq_getElem hlt⟩
        obtain ⟨g, off, rfl⟩ := HAg.out.some (by omega)
        go_wp2_with fail
        refine HJr.out.start.mono ?_
        rintro e w9 ⟨rfl, hj9, hm9⟩
        have HJ9 := hid hj9
        have HL9 := hid (HLr.out.mod hm9 HNd.out HXd.out)
        obtain ⟨_, y2⟩ := HUp.out w9 hj9.m
        have hc := (HAg.out.old hj9.m (fun k h => h)).cell (size := 1) (fun _ => rfl) hx (j := 0) rfl
        simp only [Nat.add_zero, Nat.mul_one] at hc
        have HB9 := hid (bud_start HBr.out)
        have HI9 := hid (HIr.out.same (D' := ({ D2 with off := false, left := 0 } : Dsk)) rfl)
        have hoff9 : ({ D2 with off := false, left := 0 } : Dsk).off = false := rfl
        have hD9 : ({ D2 with off := false, left := 0 } : Dsk).secs.length = 20 := hD2
        generalize ({ D2 with off := false, left := 0 } : Dsk) = D3 at *
        clear hj9 hm9 z2 hx
        go_wp2_with fail
        refine (HJ9.out.cut _).mono ?_
        rintro e wa ⟨rfl, hja, hma⟩
        have HJa := hid hja
        have HLa := hid (HL9.out.mod hma HNd.out HXd.out)
        have HBa := hid (bud_cut HB9.out (max 0 x))
        have HIa := hid (HI9.out.same (D' := D3.cut (max 0 x)) rfl)
        have hoffa : (D3.cut (max 0 x)).off = false := hoff9
        have hDa : (D3.cut (max 0 x)).secs.length = 20 := hD9
        generalize D3.cut (max 0 x) = D4 at *
        have hcut2 := open_cut (room := 6) (by omega) (by omega) HBa.out.s hoffa HIa.out
        have HOp := hid (HJa.out.reopen HBa.out (by omega) (by decide) (by decide))
        have hFl : (openF 6 D4).2.secs.length = 20 := by rw [openF_len]; exact hDa
        have HBf := hid (HBa.out.open 6)
        generalize openF 6 D4 = F at *
        clear hja hma hc y2
        go_wp2_with fail
        refine HOp.out.mono ?_
        rintro e wb ⟨hjb, hmb, hans⟩
        have HJb := hid hjb
        have HLb := hid (HLa.out.mod hmb HNd.out HXd.out)
        have hon := hjb.on
        clear hjb hmb
        rcases hcut2 with ⟨f1, f2, f3⟩ | ⟨f1, f2, f3⟩
        · rcases hans with ⟨_, j2, rfl, _⟩ | ⟨h, _⟩
          · rw [f2] at hon
            have HON := hid hon
            have HIf : Hid (Inv 6 (con now) (con next) F.2) := hid (f3.elim (fun h => .inl h) (fun h => .inr (.inr h)))
            clear hon f1 f2 f3
            go_wp2_with fail
            refine HON.out.mono ?_
            rintro e wc ⟨rfl, rfl⟩
            go_wp2_with fail
            go_roundw
            case rel => exact ⟨i + 1, by omega, by omega, by go_num, F.2, HJb.out, HBf.out.le (by omega), hFl, HIf.out, HLb.out⟩
            case measure => simp [intOf]; omega
          · exact absurd f1 h
        · rcases hans with ⟨h, _⟩ | ⟨_, rfl⟩
          · rw [h] at f1; exact absurd f1 (by decide)
          · rw [f2] at hon
            rw [f1]
            have HON := hid hon
            have HIf := hid f3
            clear hon f1 f2 f3
            go_wp2_with fail
            refine HON.out.mono ?_
            rintro e wc ⟨rfl, rfl⟩
            go_wp2_with fail
            go_roundw
            case rel => exact ⟨i + 1, by omega, by omega, by go_num, F.2, HJb.out, HBf.out.le (by omega), hFl, HIf.out, HLb.out⟩
            case measure => simp [intOf]; omega
      · by_cases hl2 : i < ag.length
        · have d20 : decide ((i : Int) < 20) = false := by rw [decide_eq_false_iff_not]; omega
          clear hlt
          go_wp2_with fail
          refine HJr.out.start.mono ?_
          rintro e w9 ⟨rfl, hj9, hm9⟩
          have HJ9 := hid hj9
          have HL9 := hid (HLr.out.mod hm9 HNd.out HXd.out)
          have HB9 := hid (bud_start HBr.out)
          have HI9 := hid (HIr.out.same (D' := ({ D2 with off := false, left := 0 } : Dsk)) rfl)
          have hlit9 : Lit ({ D2 with off := false, left := 0 } : Dsk) (k0 + 7 * i) := ⟨HB9.out, rfl, rfl⟩
          have hD9 : ({ D2 with off := false, left := 0 } : Dsk).secs.length = 20 := hD2
          generalize ({ D2 with off := false, left := 0 } : Dsk) = D3 at *
          obtain ⟨o1, ⟨mm, o2⟩, o3, o4⟩ := last_open hlit9 hD9 HI9.out
          have HOp := hid (HJ9.out.reopen HB9.out (by omega) (by decide) (by decide))
          generalize openF 6 D3 = F at *
          have HLit := hid o2
          have hjF : jlen 6 F.2 = 13 := by unfold jlen; rw [o3]
          have HjF := hid hjF
          have HCl := hid o4
          clear hj9 hm9 hlit9 o2 o4 hjF z2
          go_wp2_with fail
          refine HOp.out.mono ?_
          rintro e wb ⟨hjb, hmb, ⟨_, j2, rfl, hj2⟩ | ⟨h, _⟩⟩
          · have HJ2 := hid hj2
            have HLb := hid (HL9.out.mod hmb HNd.out HXd.out)
            have HH1 := hid (holds_any HJ2.out HLit.out (by decide) (cap := 13) (ws := now) (by rw [hno]; exact HLb.out.o1) HNd.out (by rw [hno]; exact HjF.out.symm) HS1.out)
            rw [hno] at HH1
            clear hjb hmb hj2
            go_wp2_with fail
            refine HH1.out.mono ?_
            rintro e wc ⟨⟨b1, rfl, hb1⟩, hjc, hmc⟩
            have HJc := hid hjc
            have HLc := hid (HLb.out.mod hmc HNd.out HXd.out)
            have HB1 := hid hb1
            clear hjc hmc hb1
            cases b1 with
            | true =>
              go_wp2_with fail
              go_ret
              exact ⟨rfl, HFin.out _ (by have := HJc.out.m; rwa [hszV] at this)⟩
            | false =>
              have hcn : Cln 6 (con next) F.2 := by
                rcases HCl.out with h | h
                · exact absurd (HB1.out (holds_of h (by rw [hno]; exact HjF.out.symm) HS1.out)) (by decide)
                · exact h
              have HCn := hid hcn
              have HH2 := hid (holds_any HJc.out HLit.out (by decide) (cap := 13) (ws := next) (by rw [hne]; exact HLc.out.o2) HXd.out (by rw [hne]; exact HjF.out.symm) HS2.out)
              rw [hne] at HH2
              clear hcn
              go_wp2_with fail
              refine HH2.out.mono ?_
              rintro e wd ⟨⟨b2, rfl, hb2⟩, hjd, hmd⟩
              have HJd := hid hjd
              have e2 : b2 = true := hb2 (holds_of HCn.out (by rw [hne]; exact HjF.out.symm) HS2.out)
              subst e2
              clear hjd hmd hb2
              go_wp2_with fail
              go_ret
              exact ⟨rfl, HFin.out _ (by have := HJd.out.m; rwa [hszV] at this)⟩
          · exact absurd o1 h
        · clear hlt
          go_wp2_with fail
          refine HJr.out.start.mono ?_
          rintro e w9 ⟨rfl, hj9, hm9⟩
          have HJ9 := hid hj9
          have HL9 := hid (HLr.out.mod hm9 HNd.out HXd.out)
          have HB9 := hid (bud_start HBr.out)
          have HI9 := hid (HIr.out.same (D' := ({ D2 with off := false, left := 0 } : Dsk)) rfl)
          have hlit9 : Lit ({ D2 with off := false, left := 0 } : Dsk) (k0 + 7 * i) := ⟨HB9.out, rfl, rfl⟩
          have hD9 : ({ D2 with off := false, left := 0 } : Dsk).secs.length = 20 := hD2
          generalize ({ D2 with off := false, left := 0 } : Dsk) = D3 at *
          obtain ⟨o1, ⟨mm, o2⟩, o3, o4⟩ := last_open hlit9 hD9 HI9.out
          have HOp := hid (HJ9.out.reopen HB9.out (by omega) (by decide) (by decide))
          generalize openF 6 D3 = F at *
          have HLit := hid o2
          have hjF : jlen 6 F.2 = 13 := by unfold jlen; rw [o3]
          have HjF := hid hjF
          have HCl := hid o4
          clear hj9 hm9 hlit9 o2 o4 hjF z2
          go_wp2_with fail
          refine HOp.out.mono ?_
          rintro e wb ⟨hjb, hmb, ⟨_, j2, rfl, hj2⟩ | ⟨h, _⟩⟩
          · have HJ2 := hid hj2
            have HLb := hid (HL9.out.mod hmb HNd.out HXd.out)
            have HH1 := hid (holds_any HJ2.out HLit.out (by decide) (cap := 13) (ws := now) (by rw [hno]; exact HLb.out.o1) HNd.out (by rw [hno]; exact HjF.out.symm) HS1.out)
            rw [hno] at HH1
            clear hjb hmb hj2
            go_wp2_with fail
            refine HH1.out.mono ?_
            rintro e wc ⟨⟨b1, rfl, hb1⟩, hjc, hmc⟩
            have HJc := hid hjc
            have HLc := hid (HLb.out.mod hmc HNd.out HXd.out)
            have HB1 := hid hb1
            clear hjc hmc hb1
            cases b1 with
            | true =>
              go_wp2_with fail
              go_ret
              exact ⟨rfl, HFin.out _ (by have := HJc.out.m; rwa [hszV] at this)⟩
            | false =>
              have hcn : Cln 6 (con next) F.2 := by
                rcases HCl.out with h | h
                · exact absurd (HB1.out (holds_of h (by rw [hno]; exact HjF.out.symm) HS1.out)) (by decide)
                · exact h
              have HCn := hid hcn
              have HH2 := hid (holds_any HJc.out HLit.out (by decide) (cap := 13) (ws := next) (by rw [hne]; exact HLc.out.o2) HXd.out (by rw [hne]; exact HjF.out.symm) HS2.out)
              rw [hne] at HH2
              clear hcn
              go_wp2_with fail
              refine HH2.out.mono ?_
              rintro e wd ⟨⟨b2, rfl, hb2⟩, hjd, hmd⟩
              have HJd := hid hjd
              have e2 : b2 = true := hb2 (holds_of HCn.out (by rw [hne]; exact HjF.out.symm) HS2.out)
              subst e2
              clear hjd hmd hb2
              go_wp2_with fail
              go_ret
              exact ⟨rfl, HFin.out _ (by have := HJd.out.m; rwa [hszV] at this)⟩
          · exact absurd o1 h

end JournalCuts
end Go.Proofs.YtbfdmglmolkloaaDoor
