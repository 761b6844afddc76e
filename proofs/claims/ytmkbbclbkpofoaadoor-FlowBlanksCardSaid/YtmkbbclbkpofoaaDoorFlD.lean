/- Flow: a definition that is made of steps one by one; the law's ref -/
import Derived.Test.YtmkbbclbkpofoaaDoorFlTa
import Derived.Deep.RegionHeld3
import Derived.Deep.DrawnRows
namespace Go.Proofs.YtmkbbclbkpofoaaDoor
open Go Go.RowKit
attribute [local go_sem ↓] Go.wp_at_zero Go.wp_at_succ

/-- append to the nil slice, as one step of a region that draws. -/
theorem step_append_None {P : Program} {ops : Array Oper} {o : Oper} {a : Act} {w : World} {K : Act → World → Prop} {Q : Exit → Act → World → Prop} {E : Prop}
    (hg : o.guard = none) (s x : Operand) (t : TypeId) (hop : o.op = Op.call { callee := Callee.builtin Builtin.append, args := #[s, x], argTypes := #[t, t] })
    (e : TypeId) (i : TypeInfo) (z : Value) (size bytes : Nat) (h1 : P.underlying t = some (.slice e)) (h2 : P.info? e = some i) (hz : i.zero = some z) (h4 : i.size = size) (hby : i.bytes = bytes) (hzs : z.cells.size = size)
    (hs : a.eval s = .slice none 0 0)
    (xa : Option Addr) (m c : Nat) (news : List Value) (hx : a.eval x = .slice xa m c) (hsrc : Src w size xa m news) (h1c : ∀ u ∈ news, u.oneCell' = true)
    (h63 : m ≤ maxLen) (hbytes : m * bytes ≤ 140737488355328)
    (hK : ∀ sa' cap' w', Own w' e size sa' m cap' news → Mod (fun _ => False) w w' → (∀ k, blk sa' k → w.heap.size ≤ k) → K (a.put o.dst (.slice sa' m cap')) w') :
    if Region.wanted o (yielded ops a.tmps) = true then Oper.wp P o a w K Q else E := by
  refine step_append_Own hg s x t hop e i z size bytes h1 h2 hz h4 hby hzs none 0 0 [] hs (Own.nil _ _ _) xa m c news hx hsrc h1c (by omega) (by rw [Nat.zero_add]; exact hbytes) ?_
  intro sa' cap' w' h5 h6 h7 _ _
  rw [Nat.zero_add, List.nil_append] at h5
  rw [Nat.zero_add]
  exact hK sa' cap' w' h5 (h6.mono (fun k _ h => blk_none k h)) (fun k hk => (h7 k hk).elim (fun h => (blk_none k h).elim) (fun h => h))

/-- The loop over the steps. -/
structure RLoop (V wr : World) (ob rb : Nat) (d : Df) (k : Nat) (sa : Option Addr) (cap : Nat) (ts : List SA) : Prop where
  at' : TAt 30 53 wr V.heap.size ob ⟨d.name, d.steps.take k⟩ sa cap ts
  res : wr.heap[rb]? = some (.cells #[.string ⟨#[]⟩, .slice none 0 0] 30 (0, 0))
  ne1 : ¬ blk sa rb
  nea : ∀ x ∈ ts, 0 < x.s.after.length → ¬ blk x.aa rb
  mod : Mod (fun _ => False) V wr

set_option maxRecDepth 100000 in
set_option maxHeartbeats 40000000 in
theorem lawref_any {V : World} {d : Df} {la : Option Addr} {ss : List SA} (cap : Nat) (h : DefLies V d la ss) : Calls Tryd.prog 13 #[.agg #[.string d.name, .slice la d.steps.length cap]] V fun e w' =>
    Mod (fun _ => False) V w' ∧ ∃ la' cap' ss', e = .returned (.agg #[.string d.name, .slice la' d.steps.length cap']) ∧ DefLies w' d la' ss' := by
  obtain ⟨i0, hi0, hz0, hz1, hz2⟩ := info_parts infoRStp
  obtain ⟨j0, hj0, hy0, hy1, hy2⟩ := info_parts infoStr
  have HL := hid h
  have hl8 := h.len
  have HSl : Hid (d.steps.length = ss.length) := hid (by rw [← h.map, List.length_map])
  clear h
  go_enter Tryd.func13, Tryd.ntmps13
  go_upto_region 3 with fail
  have HB0 : Hid ((((V.alloc (.cells #[.string d.name, .slice la d.steps.length cap] 24)).alloc (.cells #[.string ⟨#[]⟩, .slice none 0 0] 30)).alloc (.cells #[.string d.name, .slice none 0 0] 30)).heap[V.heap.size + 2]? = some (.cells #[.string d.name, .slice none 0 0] 30 (0, 0))) := hid (by
    have := heap_alloc_new ((V.alloc (.cells #[.string d.name, .slice la d.steps.length cap] 24)).alloc (.cells #[.string ⟨#[]⟩, .slice none 0 0] 30)) (.cells #[.string d.name, .slice none 0 0] 30)
    rwa [World.size_alloc, World.size_alloc] at this)
  have HB1 : Hid ((((V.alloc (.cells #[.string d.name, .slice la d.steps.length cap] 24)).alloc (.cells #[.string ⟨#[]⟩, .slice none 0 0] 30)).alloc (.cells #[.string d.name, .slice none 0 0] 30)).heap[V.heap.size + 1]? = some (.cells #[.string ⟨#[]⟩, .slice none 0 0] 30 (0, 0))) := hid (by
    have := heap_alloc_new (V.alloc (.cells #[.string d.name, .slice la d.steps.length cap] 24)) (.cells #[.string ⟨#[]⟩, .slice none 0 0] 30)
    rw [World.size_alloc] at this
    exact (Below.heap_alloc _ _ _ (by rw [World.size_alloc, World.size_alloc]; omega)).trans this)
  have HM0 : Hid (Mod (fun _ => False) V (((V.alloc (.cells #[.string d.name, .slice la d.steps.length cap] 24)).alloc (.cells #[.string ⟨#[]⟩, .slice none 0 0] 30)).alloc (.cells #[.string d.name, .slice none 0 0] 30))) := hid ((((Mod.refl _ _).alloc _).alloc _).alloc _)
  generalize ((V.alloc (.cells #[.string d.name, .slice la d.steps.length cap] 24)).alloc (.cells #[.string ⟨#[]⟩, .slice none 0 0] 30)).alloc (.cells #[.string d.name, .slice none 0 0] 30) = V3 at *
  obtain ⟨ob, hob⟩ : ∃ b, V.heap.size + 1 + 1 = b := ⟨_, rfl⟩
  obtain ⟨rb, hrb⟩ : ∃ b, V.heap.size + 1 = b := ⟨_, rfl⟩
  have hob2 : V.heap.size + 2 = ob := hob
  rw [hob2] at HB0
  rw [hrb] at HB1
  rw [hob, hrb]
  go_loopw [5, 12] (fun _ sk wr => ∃ (k : Nat) (sa : Option Addr) (cp : Nat) (ts : List SA), sk = .int .i64 (k : Int) ∧ k ≤ d.steps.length ∧ RLoop V wr ob rb d k sa cp ts) (fun _ sk _ => d.steps.length - (intOf sk).toNat)
  case atStart =>
    exact ⟨0, none, 0, [], rfl, Nat.zero_le _, ⟨by rw [List.take_zero]; exact HB0.out, by rw [List.take_zero]; rfl, by rw [List.take_zero]; exact Own.nil _ _ _, blk_none _, fun _ h => (List.not_mem_nil h).elim, by rw [List.take_zero]; exact Nat.zero_le _, fun k hk => by rcases hk with rfl | hk; omega; exact (blk_none _ hk).elim⟩, HB1.out, blk_none _, fun _ h => (List.not_mem_nil h).elim, HM0.out⟩
  case round =>
    obtain ⟨k, sa, cp, ts, rfl, hk, hR⟩ := hrel
    obtain ⟨wo, rfl⟩ : ∃ y, y = wr := ⟨wr, rfl⟩
    have HR := hid hR
    clear hR
    obtain ⟨b0, b1, f0, f1⟩ := row2 HR.out.at'.box
    have hlen : (d.steps.take k).length = k := by rw [List.length_take]; omega
    simp only [hlen] at b1
    by_cases hlt : k < d.steps.length
    case neg =>
      have hke : k = d.steps.length := by omega
      subst hke
      have hres := HR.out.res
      obtain ⟨c0, c1, g0, g1⟩ := row2 hres
      have HT := hid HR.out.at'
      rw [List.take_length] at HT
      have hszo := lt_of_heap hres
      clear hlen
      go_wp2_with fail
      obtain ⟨r0, r1, hmr⟩ := put2 hres (.string d.name) (.slice sa d.steps.length cp)
      have HMr := hid hmr
      clear hmr hres
      have hnd : ∀ j, dset (ob) sa ts j → j ≠ rb := fun j hj e => by
        subst e
        rcases hj with h1 | h1 | ⟨x, hx, h0, h1⟩
        · omega
        · exact HR.out.ne1 h1
        · exact HR.out.nea x hx h0 h1
      exact bodyPost_ret (v := .agg #[.string d.name, .slice sa d.steps.length cp]) (by simp [results, Tryd.results13, go_sem, r0, r1]) rfl ⟨HR.out.mod.then HMr.out (fun i hi e => by omega), _, ⟨_, rfl⟩, _, (HT.out.mod HMr.out hnd).lies⟩
    case pos =>
      have HLo := hid (HL.out.ext HR.out.mod)
      obtain ⟨x, hx⟩ : ∃ x, ss[k]? = some x := ⟨_, List.getElem?_eq_getElem (by have := HSl.out; omega)⟩
      obtain ⟨g, off, hla⟩ := HLo.out.lies.some (by have := HSl.out; omega)
      subst hla
      have q0 := HLo.out.lies.cell SA.len hx (j := 0) rfl
      have q1 := HLo.out.lies.cell SA.len hx (j := 1) rfl
      have q2 := HLo.out.lies.cell SA.len hx (j := 2) rfl
      have q3 := HLo.out.lies.cell SA.len hx (j := 3) rfl
      have q4 := HLo.out.lies.cell SA.len hx (j := 4) rfl
      have q5 := HLo.out.lies.cell SA.len hx (j := 5) rfl
      have q6 := HLo.out.lies.cell SA.len hx (j := 6) rfl
      have q7 := HLo.out.lies.cell SA.len hx (j := 7) rfl
      have q8 := HLo.out.lies.cell SA.len hx (j := 8) rfl
      simp only [Nat.add_zero] at q0
      have HTk : Hid (d.steps.take (k + 1) = d.steps.take k ++ [x.s]) := hid (by
        have hxs : d.steps[k]? = some x.s := by rw [← HLo.out.map, List.getElem?_map, hx]; rfl
        rw [List.take_add_one, hxs]; rfl)
      have HXa := hid (HLo.out.all x (List.mem_of_getElem? hx))
      clear hx
      go_upto_region 5 with fail
      clear q0 q1 q2 q3 q4 q5 q6 q7 q8 b0 b1 f0 f1
      have hszo : ob < wo.heap.size := lt_of_heap HR.out.at'.box
      have HC : Hid ((wo.alloc (.cells #[.string x.s.name, .string x.s.verb, .string x.s.undo, .string x.s.event, .bool x.s.final, .int .i64 x.s.retry, .int .i64 x.s.every, .int .i64 x.s.within, .slice x.aa x.s.after.length x.ac] 40)).heap[wo.heap.size]? = some (.cells #[.string x.s.name, .string x.s.verb, .string x.s.undo, .string x.s.event, .bool x.s.final, .int .i64 x.s.retry, .int .i64 x.s.every, .int .i64 x.s.within, .slice x.aa x.s.after.length x.ac] 40 (0, 0))) := hid (heap_alloc_new _ _)
      have HMw : Hid (Mod (fun _ => False) wo (wo.alloc (.cells #[.string x.s.name, .string x.s.verb, .string x.s.undo, .string x.s.event, .bool x.s.final, .int .i64 x.s.retry, .int .i64 x.s.every, .int .i64 x.s.within, .slice x.aa x.s.after.length x.ac] 40))) := hid ((Mod.refl _ _).alloc _)
      have hszw : (wo.alloc (.cells #[.string x.s.name, .string x.s.verb, .string x.s.undo, .string x.s.event, .bool x.s.final, .int .i64 x.s.retry, .int .i64 x.s.every, .int .i64 x.s.within, .slice x.aa x.s.after.length x.ac] 40)).heap.size = wo.heap.size + 1 := World.size_alloc _ _
      generalize wo.alloc (.cells #[.string x.s.name, .string x.s.verb, .string x.s.undo, .string x.s.event, .bool x.s.final, .int .i64 x.s.retry, .int .i64 x.s.every, .int .i64 x.s.within, .slice x.aa x.s.after.length x.ac] 40) = W0 at *
      have HT0 := hid (HR.out.at'.ext HMw.out)
      have HO0 : Hid (Own W0 53 9 sa k cp (ts.flatMap SA.cs)) := hid (by have := HT0.out.own; simp only [hlen] at this; exact this)
      have HK : Hid (∀ w', Mod (fun j => j = ob ∨ blk sa j) W0 w' → w'.cell? ⟨wo.heap.size, 0, none⟩ = some (.string x.s.name) ∧ w'.cell? ⟨wo.heap.size, 1, none⟩ = some (.string x.s.verb) ∧ w'.cell? ⟨wo.heap.size, 2, none⟩ = some (.string x.s.undo) ∧ w'.cell? ⟨wo.heap.size, 3, none⟩ = some (.string x.s.event) ∧ w'.cell? ⟨wo.heap.size, 4, none⟩ = some (.bool x.s.final) ∧ w'.cell? ⟨wo.heap.size, 5, none⟩ = some (.int .i64 x.s.retry) ∧ w'.cell? ⟨wo.heap.size, 6, none⟩ = some (.int .i64 x.s.every) ∧ w'.cell? ⟨wo.heap.size, 7, none⟩ = some (.int .i64 x.s.within) ∧ w'.cell? ⟨wo.heap.size, 8, none⟩ = some (.slice x.aa x.s.after.length x.ac)) := hid (fun w' hm => by
        have hb := (hm.block _ (lt_of_heap HC.out) (fun e => by
          rcases e with e | e
          · omega
          · have := HR.out.at'.own.lt _ e; omega)).trans HC.out
        obtain ⟨⟨c0, c1, c2, c3, c4, c5, c6, c7, c8⟩, _⟩ := row9 hb
        exact ⟨c0, c1, c2, c3, c4, c5, c6, c7, c8⟩)
      have HQ : Hid (∀ w', Mod (blk sa) W0 w' → w'.cell? ⟨ob, 1, none⟩ = some (.slice sa k cp) ∧ w'.frozen? ⟨ob, 1, none⟩ = false) := hid (fun w' hm => by
        have hb := (hm.block _ (lt_of_heap HT0.out.box) HT0.out.ne).trans HT0.out.box
        simp only [hlen] at hb
        exact ⟨(row2 hb).2.1, (row2 hb).2.2.2⟩)
      have HSa : Hid (Src W0.drew 1 x.aa x.s.after.length (x.s.after.flatMap strI)) := hid ((HXa.out.1.ext (HMw.out.drew)).src)
      have hal4 := HXa.out.2
      obtain ⟨k0, k1⟩ := HQ.out W0.drew (Mod.refl _ _).drew
      refine wp_region_held_drew (S := fun w' => w'.cell? ⟨wo.heap.size, 0, none⟩ = some (.string x.s.name) ∧ w'.cell? ⟨wo.heap.size, 1, none⟩ = some (.string x.s.verb) ∧ w'.cell? ⟨wo.heap.size, 2, none⟩ = some (.string x.s.undo) ∧ w'.cell? ⟨wo.heap.size, 3, none⟩ = some (.string x.s.event) ∧ w'.cell? ⟨wo.heap.size, 4, none⟩ = some (.bool x.s.final) ∧ w'.cell? ⟨wo.heap.size, 5, none⟩ = some (.int .i64 x.s.retry) ∧ w'.cell? ⟨wo.heap.size, 6, none⟩ = some (.int .i64 x.s.every) ∧ w'.cell? ⟨wo.heap.size, 7, none⟩ = some (.int .i64 x.s.within) ∧ w'.cell? ⟨wo.heap.size, 8, none⟩ = some (.slice x.aa x.s.after.length x.ac)) (by kernel_rfl) (HK.out _ (Mod.refl _ _).drew) (fun hHeld => ?_)
      simp only [List.size_toArray, List.length_cons, List.length_nil]
      refine wpAnyH_take (i := 0) (v := .pointer (some ⟨ob, 1, none⟩)) rfl (by kernel_rfl) (by kernel_rfl) (by kernel_rfl) (fun _ _ _ h => h) (Or.inl ⟨by rfl, by intro w hSw; go_simp⟩) hHeld ?_
      try simp only [Act.put, List.setIfInBounds_toArray]
      refine wpAnyH_take (i := 2) (v := .pointer (some ⟨wo.heap.size, 0, none⟩)) rfl (by kernel_rfl) (by kernel_rfl) (by kernel_rfl) (fun _ _ _ h => h) (Or.inl ⟨by rfl, by intro w hSw; go_simp⟩) hHeld ?_
      try simp only [Act.put]
      refine wpAnyH_take (i := 3) (v := .string x.s.name) rfl (by kernel_rfl) (by kernel_rfl) (by kernel_rfl) (fun _ _ _ h => h) (Or.inl ⟨by rfl, by intro w hSw; obtain ⟨s0, s1, s2, s3, s4, s5, s6, s7, s8⟩ := hSw; go_simp⟩) hHeld ?_
      try simp only [Act.put]
      refine wpAnyH_take (i := 4) (v := .pointer (some ⟨wo.heap.size, 1, none⟩)) rfl (by kernel_rfl) (by kernel_rfl) (by kernel_rfl) (fun _ _ _ h => h) (Or.inl ⟨by rfl, by intro w hSw; go_simp⟩) hHeld ?_
      try simp only [Act.put]
      refine wpAnyH_take (i := 5) (v := .string x.s.verb) rfl (by kernel_rfl) (by kernel_rfl) (by kernel_rfl) (fun _ _ _ h => h) (Or.inl ⟨by rfl, by intro w hSw; obtain ⟨s0, s1, s2, s3, s4, s5, s6, s7, s8⟩ := hSw; go_simp⟩) hHeld ?_
      try simp only [Act.put]
      refine wpAnyH_take (i := 6) (v := .pointer (some ⟨wo.heap.size, 2, none⟩)) rfl (by kernel_rfl) (by kernel_rfl) (by kernel_rfl) (fun _ _ _ h => h) (Or.inl ⟨by rfl, by intro w hSw; go_simp⟩) hHeld ?_
      try simp only [Act.put]
      refine wpAnyH_take (i := 7) (v := .string x.s.undo) rfl (by kernel_rfl) (by kernel_rfl) (by kernel_rfl) (fun _ _ _ h => h) (Or.inl ⟨by rfl, by intro w hSw; obtain ⟨s0, s1, s2, s3, s4, s5, s6, s7, s8⟩ := hSw; go_simp⟩) hHeld ?_
      try simp only [Act.put]
      refine wpAnyH_take (i := 8) (v := .pointer (some ⟨wo.heap.size, 3, none⟩)) rfl (by kernel_rfl) (by kernel_rfl) (by kernel_rfl) (fun _ _ _ h => h) (Or.inl ⟨by rfl, by intro w hSw; go_simp⟩) hHeld ?_
      try simp only [Act.put]
      refine wpAnyH_take (i := 9) (v := .string x.s.event) rfl (by kernel_rfl) (by kernel_rfl) (by kernel_rfl) (fun _ _ _ h => h) (Or.inl ⟨by rfl, by intro w hSw; obtain ⟨s0, s1, s2, s3, s4, s5, s6, s7, s8⟩ := hSw; go_simp⟩) hHeld ?_
      try simp only [Act.put]
      refine wpAnyH_take (i := 10) (v := .pointer (some ⟨wo.heap.size, 4, none⟩)) rfl (by kernel_rfl) (by kernel_rfl) (by kernel_rfl) (fun _ _ _ h => h) (Or.inl ⟨by rfl, by intro w hSw; go_simp⟩) hHeld ?_
      try simp only [Act.put]
      refine wpAnyH_take (i := 11) (v := .bool x.s.final) rfl (by kernel_rfl) (by kernel_rfl) (by kernel_rfl) (fun _ _ _ h => h) (Or.inl ⟨by rfl, by intro w hSw; obtain ⟨s0, s1, s2, s3, s4, s5, s6, s7, s8⟩ := hSw; go_simp⟩) hHeld ?_
      try simp only [Act.put]
      refine wpAnyH_take (i := 12) (v := .pointer (some ⟨wo.heap.size, 5, none⟩)) rfl (by kernel_rfl) (by kernel_rfl) (by kernel_rfl) (fun _ _ _ h => h) (Or.inl ⟨by rfl, by intro w hSw; go_simp⟩) hHeld ?_
      try simp only [Act.put]
      refine wpAnyH_take (i := 13) (v := .int .i64 x.s.retry) rfl (by kernel_rfl) (by kernel_rfl) (by kernel_rfl) (fun _ _ _ h => h) (Or.inl ⟨by rfl, by intro w hSw; obtain ⟨s0, s1, s2, s3, s4, s5, s6, s7, s8⟩ := hSw; go_simp⟩) hHeld ?_
      try simp only [Act.put]
      refine wpAnyH_take (i := 14) (v := .pointer (some ⟨wo.heap.size, 6, none⟩)) rfl (by kernel_rfl) (by kernel_rfl) (by kernel_rfl) (fun _ _ _ h => h) (Or.inl ⟨by rfl, by intro w hSw; go_simp⟩) hHeld ?_
      try simp only [Act.put]
      refine wpAnyH_take (i := 15) (v := .int .i64 x.s.every) rfl (by kernel_rfl) (by kernel_rfl) (by kernel_rfl) (fun _ _ _ h => h) (Or.inl ⟨by rfl, by intro w hSw; obtain ⟨s0, s1, s2, s3, s4, s5, s6, s7, s8⟩ := hSw; go_simp⟩) hHeld ?_
      try simp only [Act.put]
      refine wpAnyH_take (i := 16) (v := .pointer (some ⟨wo.heap.size, 7, none⟩)) rfl (by kernel_rfl) (by kernel_rfl) (by kernel_rfl) (fun _ _ _ h => h) (Or.inl ⟨by rfl, by intro w hSw; go_simp⟩) hHeld ?_
      try simp only [Act.put]
      refine wpAnyH_take (i := 17) (v := .int .i64 x.s.within) rfl (by kernel_rfl) (by kernel_rfl) (by kernel_rfl) (fun _ _ _ h => h) (Or.inl ⟨by rfl, by intro w hSw; obtain ⟨s0, s1, s2, s3, s4, s5, s6, s7, s8⟩ := hSw; go_simp⟩) hHeld ?_
      try simp only [Act.put]
      refine wpAnyH_take (i := 18) (v := .pointer (some ⟨wo.heap.size, 8, none⟩)) rfl (by kernel_rfl) (by kernel_rfl) (by kernel_rfl) (fun _ _ _ h => h) (Or.inl ⟨by rfl, by intro w hSw; go_simp⟩) hHeld ?_
      try simp only [Act.put]
      refine wpAnyH_take (i := 19) (v := .slice x.aa x.s.after.length x.ac) rfl (by kernel_rfl) (by kernel_rfl) (by kernel_rfl) (fun _ _ _ h => h) (Or.inl ⟨by rfl, by intro w hSw; obtain ⟨s0, s1, s2, s3, s4, s5, s6, s7, s8⟩ := hSw; go_simp⟩) hHeld ?_
      try simp only [Act.put]
      refine wpAnyH_ready (rs := [1, 20]) (by kernel_rfl) (by simp) (AllReadyH.cons rfl (fun K hK => ?_) (AllReadyH.cons (o := { dst := some 36, op := Op.call { callee := Callee.builtin Builtin.append, args := #[Operand.const (Value.slice none 0 0), Operand.tmp 35], argTypes := #[38, 38] }, type := 38, pos := "law.go:13", after := #[{ on := 19, ground := Ground.data }], guard := none }) rfl (fun K hK => ?_) AllReadyH.nil))
      · go_simp
        refine hK.out _ _ (HK.out _ ((Mod.refl _ _).drew)) (fun hHeld => ?_)
        clear hK K
        try simp only [Act.put, List.setIfInBounds_toArray, List.set_cons_zero, List.set_cons_succ]
        refine wpAnyH_ready (rs := [20]) (by kernel_rfl) (by simp) (AllReadyH.cons (o := { dst := some 36, op := Op.call { callee := Callee.builtin Builtin.append, args := #[Operand.const (Value.slice none 0 0), Operand.tmp 35], argTypes := #[38, 38] }, type := 38, pos := "law.go:13", after := #[{ on := 19, ground := Ground.data }], guard := none }) rfl (fun K hK => ?_) AllReadyH.nil)
        refine step_append_None rfl (.const (.slice none 0 0)) (.tmp 35) 38 rfl 9 j0 _ 1 16 Tryd.underlying38 hj0 hy0 hy1 hy2 rfl rfl x.aa x.s.after.length x.ac (x.s.after.flatMap strI) (by simp [Act.eval]) HSa.out (flat_one strI_one _) (by unfold maxLen; omega) (by omega) ?_
        intro aa ac w1 hown1 hm1 hb1
        have HM1 : Hid (Mod (fun _ => False) W0 w1) := hid ((Mod.refl _ _).drew.trans hm1)
        have HA1 := hid (Own.lies hown1)
        have HN1 : Hid (∀ k, blk aa k → W0.heap.size ≤ k) := hid hb1
        have k23 := HQ.out w1 (HM1.out.mono (fun _ _ h => h.elim))
        have k45 := HQ.out (w1.alloc (.cells #[.string x.s.name, .string x.s.verb, .string x.s.undo, .string x.s.event, .bool x.s.final, .int .i64 x.s.retry, .int .i64 x.s.every, .int .i64 x.s.within, .slice aa x.s.after.length ac] 53)) ((HM1.out.alloc _).mono (fun _ _ h => h.elim))
        have k2 := k23.1
        have k3 := k23.2
        have k4 := k45.1
        have k5 := k45.2
        clear k23 k45
        clear hown1 hm1 hb1
        refine hK.out _ _ (HK.out _ (HM1.out.mono (fun _ _ h => h.elim))) (fun hHeld => ?_)
        clear hK K
        try simp only [Act.put, List.setIfInBounds_toArray, List.set_cons_zero, List.set_cons_succ]
        refine wpAnyH_take (i := 21) (v := .agg #[.string x.s.name, .string x.s.verb, .string x.s.undo, .string x.s.event, .bool x.s.final, .int .i64 x.s.retry, .int .i64 x.s.every, .int .i64 x.s.within, .slice aa x.s.after.length ac]) rfl (by kernel_rfl) (by kernel_rfl) (by kernel_rfl) (fun _ _ _ h => h) (Or.inl ⟨by rfl, by intro w hSw; go_simp⟩) hHeld ?_
        try simp only [Act.put, List.setIfInBounds_toArray]
        refine wpAnyH_ready (rs := [22]) (by kernel_rfl) (by simp) (AllReadyH.cons rfl (fun K hK => ?_) AllReadyH.nil)
        go_simp
        refine hK.out _ _ (HK.out _ ((HM1.out.alloc _).mono (fun _ _ h => h.elim))) (fun hHeld => ?_)
        clear hK K
        try simp only [Act.put, List.setIfInBounds_toArray, List.set_cons_zero, List.set_cons_succ]
        refine wpAnyH_ready (rs := [23]) (by kernel_rfl) (by simp) (AllReadyH.cons (o := { dst := some 39, op := Op.call { callee := Callee.builtin Builtin.append, args := #[Operand.tmp 17, Operand.tmp 38], argTypes := #[28, 28] }, type := 28, pos := "law.go:13", after := #[{ on := 1, ground := Ground.data }, { on := 22, ground := Ground.data }, { on := 20, ground := Ground.chain }], guard := none }) rfl (fun K hK => ?_) AllReadyH.nil)
        refine step_append_Own rfl (.tmp 17) (.tmp 38) 28 rfl 53 i0 _ 9 120 Tryd.underlying28 hi0 hz0 hz1 hz2 rfl sa k cp (ts.flatMap SA.cs) (by simp [Act.eval]) (HO0.out.mod (HM1.out.alloc _) (fun _ _ h => h)) (some ⟨w1.heap.size, 0, none⟩) 1 1 (SA.cs ⟨x.s, aa, ac⟩) (by simp [Act.eval]) (src_new (cs := SA.cs ⟨x.s, aa, ac⟩) (heap_alloc_new w1 _) rfl) (SA.one _) (by unfold maxLen; omega) (by omega) ?_
        intro sa' cp' w2 hown2 hm2 hb2 hn2 hr2
        have HM2 : Hid (Mod (blk sa) W0 w2) := hid (((HM1.out.alloc _).mono (fun _ _ h => h.elim)).trans hm2)
        have HO2 := hid hown2
        have HB2 := hid hb2
        have Hm2 := hid hm2
        have k67 := HQ.out w2 HM2.out
        have k6 := k67.1
        have k7 := k67.2
        clear k67
        clear hown2 hm2 hb2 hn2 hr2
        refine hK.out _ _ (HK.out _ (HM2.out.mono (fun _ _ h => .inr h))) (fun hHeld => ?_)
        clear hK K
        try simp only [Act.put, List.setIfInBounds_toArray, List.set_cons_zero, List.set_cons_succ]
        refine wpAnyH_take (i := 24) (v := .pointer (some ⟨ob, 1, none⟩)) rfl (by kernel_rfl) (by kernel_rfl) (by kernel_rfl) (fun _ _ _ h => h) (Or.inl ⟨by rfl, by intro w hSw; go_simp⟩) hHeld ?_
        try simp only [Act.put, List.setIfInBounds_toArray]
        refine wpAnyH_ready (rs := [25]) (by kernel_rfl) (by simp) (AllReadyH.cons rfl (fun K hK => ?_) AllReadyH.nil)
        go_simp
        refine hK.out _ _ (HK.out _ (Mod.setCell (HM2.out.mono (fun _ _ h => .inr h)) (fun _ => .inl rfl) _)) (fun hHeld => ?_)
        clear hK K
        try simp only [Act.put, List.setIfInBounds_toArray, List.set_cons_zero, List.set_cons_succ]
        refine wpAnyH_done (by kernel_rfl) ?_ _
        go_wp2_with fail
        go_roundw
        case rel =>
          have hg := (HR.out.at'.ext (HMw.out.trans (HM1.out.alloc (.cells #[.string x.s.name, .string x.s.verb, .string x.s.undo, .string x.s.event, .bool x.s.final, .int .i64 x.s.retry, .int .i64 x.s.every, .int .i64 x.s.within, .slice aa x.s.after.length ac] 53)))).grown (by have := (HMw.out.trans (HM1.out.alloc (.cells #[.string x.s.name, .string x.s.verb, .string x.s.undo, .string x.s.event, .bool x.s.final, .int .i64 x.s.retry, .int .i64 x.s.every, .int .i64 x.s.within, .slice aa x.s.after.length ac] 53))).size; omega) Hm2.out (s := x.s) (aa := aa) (ac := ac) (sa' := sa') (cap' := cp') (by simp only [hlen]; omega) (by simp only [hlen]; exact HO2.out) HB2.out (HA1.out.ext ((Mod.refl _ _).alloc _)) hal4 (fun _ j hj => by have h1 := HN1.out j hj; exact ⟨fun h2 => by have := HR.out.at'.own.lt j h2; omega, fun e => by omega⟩)
          simp only [hlen, ← HTk.out] at hg
          have hms : Mod (fun j => j = ob ∨ blk sa j) W0 (w2.setCell ⟨ob, 1, none⟩ (.slice sa' (k + 1) cp')) := Mod.setCell (HM2.out.mono (fun _ _ h => .inr h)) (fun _ => .inl rfl) _
          have hszb := HM1.out.size
          refine ⟨k + 1, sa', cp', ts ++ [⟨x.s, aa, ac⟩], by go_num, by omega, hg, (hms.block _ (by omega) (fun e => by rcases e with e | e; omega; exact HR.out.ne1 e)).trans ((HMw.out.block _ (by omega) (fun h => h)).trans HR.out.res), fun h => ?_, fun y hy h0 hk => ?_, HR.out.mod.then (HMw.out.mono (T := fun j => j = ob ∨ blk sa j) (fun _ _ h => h.elim) |>.trans hms) (fun i hi e => ?_)⟩
          · rcases HB2.out _ h with h | h
            · exact HR.out.ne1 h
            · rw [World.size_alloc] at h; omega
          · rcases List.mem_append.1 hy with h | h
            · exact HR.out.nea y h h0 hk
            · rw [List.mem_singleton] at h
              subst h
              have := HN1.out _ hk
              omega
          · have := HR.out.at'.lo i e; omega
        case measure => simp [intOf]; omega
      · skip
        refine step_append_None rfl (.const (.slice none 0 0)) (.tmp 35) 38 rfl 9 j0 _ 1 16 Tryd.underlying38 hj0 hy0 hy1 hy2 rfl rfl x.aa x.s.after.length x.ac (x.s.after.flatMap strI) (by simp [Act.eval]) HSa.out (flat_one strI_one _) (by unfold maxLen; omega) (by omega) ?_
        intro aa ac w1 hown1 hm1 hb1
        have HM1 : Hid (Mod (fun _ => False) W0 w1) := hid ((Mod.refl _ _).drew.trans hm1)
        have HA1 := hid (Own.lies hown1)
        have HN1 : Hid (∀ k, blk aa k → W0.heap.size ≤ k) := hid hb1
        have k23 := HQ.out w1 (HM1.out.mono (fun _ _ h => h.elim))
        have k45 := HQ.out (w1.alloc (.cells #[.string x.s.name, .string x.s.verb, .string x.s.undo, .string x.s.event, .bool x.s.final, .int .i64 x.s.retry, .int .i64 x.s.every, .int .i64 x.s.within, .slice aa x.s.after.length ac] 53)) ((HM1.out.alloc _).mono (fun _ _ h => h.elim))
        have k2 := k23.1
        have k3 := k23.2
        have k4 := k45.1
        have k5 := k45.2
        clear k23 k45
        clear hown1 hm1 hb1
        refine hK.out _ _ (HK.out _ (HM1.out.mono (fun _ _ h => h.elim))) (fun hHeld => ?_)
        clear hK K
        try simp only [Act.put]
        refine wpAnyH_take (i := 21) (v := .agg #[.string x.s.name, .string x.s.verb, .string x.s.undo, .string x.s.event, .bool x.s.final, .int .i64 x.s.retry, .int .i64 x.s.every, .int .i64 x.s.within, .slice aa x.s.after.length ac]) rfl (by kernel_rfl) (by kernel_rfl) (by kernel_rfl) (fun _ _ _ h => h) (Or.inl ⟨by rfl, by intro w hSw; go_simp⟩) hHeld ?_
        try simp only [Act.put]
        refine wpAnyH_ready (rs := [1, 22]) (by kernel_rfl) (by simp) (AllReadyH.cons rfl (fun K hK => ?_) (AllReadyH.cons rfl (fun K hK => ?_) AllReadyH.nil))
        · go_simp
          refine hK.out _ _ (HK.out _ (HM1.out.mono (fun _ _ h => h.elim))) (fun hHeld => ?_)
          clear hK K
          try simp only [Act.put, List.setIfInBounds_toArray, List.set_cons_zero, List.set_cons_succ]
          refine wpAnyH_ready (rs := [22]) (by kernel_rfl) (by simp) (AllReadyH.cons rfl (fun K hK => ?_) AllReadyH.nil)
          go_simp
          refine hK.out _ _ (HK.out _ ((HM1.out.alloc _).mono (fun _ _ h => h.elim))) (fun hHeld => ?_)
          clear hK K
          try simp only [Act.put, List.setIfInBounds_toArray, List.set_cons_zero, List.set_cons_succ]
          refine wpAnyH_ready (rs := [23]) (by kernel_rfl) (by simp) (AllReadyH.cons (o := { dst := some 39, op := Op.call { callee := Callee.builtin Builtin.append, args := #[Operand.tmp 17, Operand.tmp 38], argTypes := #[28, 28] }, type := 28, pos := "law.go:13", after := #[{ on := 1, ground := Ground.data }, { on := 22, ground := Ground.data }, { on := 20, ground := Ground.chain }], guard := none }) rfl (fun K hK => ?_) AllReadyH.nil)
          refine step_append_Own rfl (.tmp 17) (.tmp 38) 28 rfl 53 i0 _ 9 120 Tryd.underlying28 hi0 hz0 hz1 hz2 rfl sa k cp (ts.flatMap SA.cs) (by simp [Act.eval]) (HO0.out.mod (HM1.out.alloc _) (fun _ _ h => h)) (some ⟨w1.heap.size, 0, none⟩) 1 1 (SA.cs ⟨x.s, aa, ac⟩) (by simp [Act.eval]) (src_new (cs := SA.cs ⟨x.s, aa, ac⟩) (heap_alloc_new w1 _) rfl) (SA.one _) (by unfold maxLen; omega) (by omega) ?_
          intro sa' cp' w2 hown2 hm2 hb2 hn2 hr2
          have HM2 : Hid (Mod (blk sa) W0 w2) := hid (((HM1.out.alloc _).mono (fun _ _ h => h.elim)).trans hm2)
          have HO2 := hid hown2
          have HB2 := hid hb2
          have Hm2 := hid hm2
          have k67 := HQ.out w2 HM2.out
          have k6 := k67.1
          have k7 := k67.2
          clear k67
          clear hown2 hm2 hb2 hn2 hr2
          refine hK.out _ _ (HK.out _ (HM2.out.mono (fun _ _ h => .inr h))) (fun hHeld => ?_)
          clear hK K
          try simp only [Act.put, List.setIfInBounds_toArray, List.set_cons_zero, List.set_cons_succ]
          refine wpAnyH_take (i := 24) (v := .pointer (some ⟨ob, 1, none⟩)) rfl (by kernel_rfl) (by kernel_rfl) (by kernel_rfl) (fun _ _ _ h => h) (Or.inl ⟨by rfl, by intro w hSw; go_simp⟩) hHeld ?_
          try simp only [Act.put, List.setIfInBounds_toArray]
          refine wpAnyH_ready (rs := [25]) (by kernel_rfl) (by simp) (AllReadyH.cons rfl (fun K hK => ?_) AllReadyH.nil)
          go_simp
          refine hK.out _ _ (HK.out _ (Mod.setCell (HM2.out.mono (fun _ _ h => .inr h)) (fun _ => .inl rfl) _)) (fun hHeld => ?_)
          clear hK K
          try simp only [Act.put, List.setIfInBounds_toArray, List.set_cons_zero, List.set_cons_succ]
          refine wpAnyH_done (by kernel_rfl) ?_ _
          go_wp2_with fail
          go_roundw
          case rel =>
            have hg := (HR.out.at'.ext (HMw.out.trans (HM1.out.alloc (.cells #[.string x.s.name, .string x.s.verb, .string x.s.undo, .string x.s.event, .bool x.s.final, .int .i64 x.s.retry, .int .i64 x.s.every, .int .i64 x.s.within, .slice aa x.s.after.length ac] 53)))).grown (by have := (HMw.out.trans (HM1.out.alloc (.cells #[.string x.s.name, .string x.s.verb, .string x.s.undo, .string x.s.event, .bool x.s.final, .int .i64 x.s.retry, .int .i64 x.s.every, .int .i64 x.s.within, .slice aa x.s.after.length ac] 53))).size; omega) Hm2.out (s := x.s) (aa := aa) (ac := ac) (sa' := sa') (cap' := cp') (by simp only [hlen]; omega) (by simp only [hlen]; exact HO2.out) HB2.out (HA1.out.ext ((Mod.refl _ _).alloc _)) hal4 (fun _ j hj => by have h1 := HN1.out j hj; exact ⟨fun h2 => by have := HR.out.at'.own.lt j h2; omega, fun e => by omega⟩)
            simp only [hlen, ← HTk.out] at hg
            have hms : Mod (fun j => j = ob ∨ blk sa j) W0 (w2.setCell ⟨ob, 1, none⟩ (.slice sa' (k + 1) cp')) := Mod.setCell (HM2.out.mono (fun _ _ h => .inr h)) (fun _ => .inl rfl) _
            have hszb := HM1.out.size
            refine ⟨k + 1, sa', cp', ts ++ [⟨x.s, aa, ac⟩], by go_num, by omega, hg, (hms.block _ (by omega) (fun e => by rcases e with e | e; omega; exact HR.out.ne1 e)).trans ((HMw.out.block _ (by omega) (fun h => h)).trans HR.out.res), fun h => ?_, fun y hy h0 hk => ?_, HR.out.mod.then (HMw.out.mono (T := fun j => j = ob ∨ blk sa j) (fun _ _ h => h.elim) |>.trans hms) (fun i hi e => ?_)⟩
            · rcases HB2.out _ h with h | h
              · exact HR.out.ne1 h
              · rw [World.size_alloc] at h; omega
            · rcases List.mem_append.1 hy with h | h
              · exact HR.out.nea y h h0 hk
              · rw [List.mem_singleton] at h
                subst h
                have := HN1.out _ hk
                omega
            · have := HR.out.at'.lo i e; omega
          case measure => simp [intOf]; omega
        · go_simp
          refine hK.out _ _ (HK.out _ ((HM1.out.alloc _).mono (fun _ _ h => h.elim))) (fun hHeld => ?_)
          clear hK K
          try simp only [Act.put, List.setIfInBounds_toArray, List.set_cons_zero, List.set_cons_succ]
          refine wpAnyH_ready (rs := [1]) (by kernel_rfl) (by simp) (AllReadyH.cons rfl (fun K hK => ?_) AllReadyH.nil)
          go_simp
          refine hK.out _ _ (HK.out _ ((HM1.out.alloc _).mono (fun _ _ h => h.elim))) (fun hHeld => ?_)
          clear hK K
          try simp only [Act.put, List.setIfInBounds_toArray, List.set_cons_zero, List.set_cons_succ]
          refine wpAnyH_ready (rs := [23]) (by kernel_rfl) (by simp) (AllReadyH.cons (o := { dst := some 39, op := Op.call { callee := Callee.builtin Builtin.append, args := #[Operand.tmp 17, Operand.tmp 38], argTypes := #[28, 28] }, type := 28, pos := "law.go:13", after := #[{ on := 1, ground := Ground.data }, { on := 22, ground := Ground.data }, { on := 20, ground := Ground.chain }], guard := none }) rfl (fun K hK => ?_) AllReadyH.nil)
          refine step_append_Own rfl (.tmp 17) (.tmp 38) 28 rfl 53 i0 _ 9 120 Tryd.underlying28 hi0 hz0 hz1 hz2 rfl sa k cp (ts.flatMap SA.cs) (by simp [Act.eval]) (HO0.out.mod (HM1.out.alloc _) (fun _ _ h => h)) (some ⟨w1.heap.size, 0, none⟩) 1 1 (SA.cs ⟨x.s, aa, ac⟩) (by simp [Act.eval]) (src_new (cs := SA.cs ⟨x.s, aa, ac⟩) (heap_alloc_new w1 _) rfl) (SA.one _) (by unfold maxLen; omega) (by omega) ?_
          intro sa' cp' w2 hown2 hm2 hb2 hn2 hr2
          have HM2 : Hid (Mod (blk sa) W0 w2) := hid (((HM1.out.alloc _).mono (fun _ _ h => h.elim)).trans hm2)
          have HO2 := hid hown2
          have HB2 := hid hb2
          have Hm2 := hid hm2
          have k67 := HQ.out w2 HM2.out
          have k6 := k67.1
          have k7 := k67.2
          clear k67
          clear hown2 hm2 hb2 hn2 hr2
          refine hK.out _ _ (HK.out _ (HM2.out.mono (fun _ _ h => .inr h))) (fun hHeld => ?_)
          clear hK K
          try simp only [Act.put, List.setIfInBounds_toArray, List.set_cons_zero, List.set_cons_succ]
          refine wpAnyH_take (i := 24) (v := .pointer (some ⟨ob, 1, none⟩)) rfl (by kernel_rfl) (by kernel_rfl) (by kernel_rfl) (fun _ _ _ h => h) (Or.inl ⟨by rfl, by intro w hSw; go_simp⟩) hHeld ?_
          try simp only [Act.put, List.setIfInBounds_toArray]
          refine wpAnyH_ready (rs := [25]) (by kernel_rfl) (by simp) (AllReadyH.cons rfl (fun K hK => ?_) AllReadyH.nil)
          go_simp
          refine hK.out _ _ (HK.out _ (Mod.setCell (HM2.out.mono (fun _ _ h => .inr h)) (fun _ => .inl rfl) _)) (fun hHeld => ?_)
          clear hK K
          try simp only [Act.put, List.setIfInBounds_toArray, List.set_cons_zero, List.set_cons_succ]
          refine wpAnyH_done (by kernel_rfl) ?_ _
          go_wp2_with fail
          go_roundw
          case rel =>
            have hg := (HR.out.at'.ext (HMw.out.trans (HM1.out.alloc (.cells #[.string x.s.name, .string x.s.verb, .string x.s.undo, .string x.s.event, .bool x.s.final, .int .i64 x.s.retry, .int .i64 x.s.every, .int .i64 x.s.within, .slice aa x.s.after.length ac] 53)))).grown (by have := (HMw.out.trans (HM1.out.alloc (.cells #[.string x.s.name, .string x.s.verb, .string x.s.undo, .string x.s.event, .bool x.s.final, .int .i64 x.s.retry, .int .i64 x.s.every, .int .i64 x.s.within, .slice aa x.s.after.length ac] 53))).size; omega) Hm2.out (s := x.s) (aa := aa) (ac := ac) (sa' := sa') (cap' := cp') (by simp only [hlen]; omega) (by simp only [hlen]; exact HO2.out) HB2.out (HA1.out.ext ((Mod.refl _ _).alloc _)) hal4 (fun _ j hj => by have h1 := HN1.out j hj; exact ⟨fun h2 => by have := HR.out.at'.own.lt j h2; omega, fun e => by omega⟩)
            simp only [hlen, ← HTk.out] at hg
            have hms : Mod (fun j => j = ob ∨ blk sa j) W0 (w2.setCell ⟨ob, 1, none⟩ (.slice sa' (k + 1) cp')) := Mod.setCell (HM2.out.mono (fun _ _ h => .inr h)) (fun _ => .inl rfl) _
            have hszb := HM1.out.size
            refine ⟨k + 1, sa', cp', ts ++ [⟨x.s, aa, ac⟩], by go_num, by omega, hg, (hms.block _ (by omega) (fun e => by rcases e with e | e; omega; exact HR.out.ne1 e)).trans ((HMw.out.block _ (by omega) (fun h => h)).trans HR.out.res), fun h => ?_, fun y hy h0 hk => ?_, HR.out.mod.then (HMw.out.mono (T := fun j => j = ob ∨ blk sa j) (fun _ _ h => h.elim) |>.trans hms) (fun i hi e => ?_)⟩
            · rcases HB2.out _ h with h | h
              · exact HR.out.ne1 h
              · rw [World.size_alloc] at h; omega
            · rcases List.mem_append.1 hy with h | h
              · exact HR.out.nea y h h0 hk
              · rw [List.mem_singleton] at h
                subst h
                have := HN1.out _ hk
                omega
            · have := HR.out.at'.lo i e; omega
          case measure => simp [intOf]; omega

end Go.Proofs.YtmkbbclbkpofoaaDoor
