/- Flow: Parse -/
import Derived.Test.YtmkbbclbkpofoaaDoorFlC
import Derived.Test.YtmkbbclbkpofoaaDoorFlS
namespace Go.Proofs.YtmkbbclbkpofoaaDoor
open Go Go.RowKit

/-- A definition that was answered, as it lies. -/
structure DefLies (w : World) (d : Df) (la : Option Addr) (ss : List SA) : Prop where
  map : ss.map SA.s = d.steps
  lies : Lies w 9 SA.cs la ss
  all : ∀ x ∈ ss, Lies w 1 strI x.aa x.s.after ∧ x.s.after.length ≤ 4096
  len : d.steps.length ≤ 8

/-- What Parse answers. -/
def PsAns (w : World) (x : Df × Int × Int) (e : Ending) (w' : World) : Prop :=
  Mod (fun _ => False) w w' ∧ ∃ la cap ss, e = .returned (.tuple #[.agg #[.string x.1.name, .slice la x.1.steps.length cap], .int .i64 x.2.1, .int .i64 x.2.2]) ∧ DefLies w' x.1 la ss

theorem lies_no (w : World) : DefLies w noD none [] := ⟨rfl, lies_nil _ _ _ _, fun _ h => (List.not_mem_nil h).elim, Nat.zero_le _⟩

/-- Both results are laid. -/
theorem put_de {w V : World} {D E : Nat} {v0 v1 v2 : Value} (hm : Mod (fun _ => False) w V) (h0 : w.heap.size ≤ D) (h1 : w.heap.size ≤ E) (hD : V.heap[D]? = some (.cells #[v0, v1] 24 (0, 0))) (hE : V.heap[E]? = some (.cells #[v2] 25 (0, 0))) (hne : D ≠ E) (a b c : Value) :
    ((((V.setCell ⟨D, 0, none⟩ a).setCell ⟨D, 1, none⟩ b).setCell ⟨E, 0, none⟩ c).cell? ⟨D, 0, none⟩ = some a ∧ (((V.setCell ⟨D, 0, none⟩ a).setCell ⟨D, 1, none⟩ b).setCell ⟨E, 0, none⟩ c).cell? ⟨D, 1, none⟩ = some b ∧ (((V.setCell ⟨D, 0, none⟩ a).setCell ⟨D, 1, none⟩ b).setCell ⟨E, 0, none⟩ c).cell? ⟨E, 0, none⟩ = some c) ∧ Mod (fun _ => False) w (((V.setCell ⟨D, 0, none⟩ a).setCell ⟨D, 1, none⟩ b).setCell ⟨E, 0, none⟩ c) ∧ Mod (fun k => k = D ∨ k = E) V (((V.setCell ⟨D, 0, none⟩ a).setCell ⟨D, 1, none⟩ b).setCell ⟨E, 0, none⟩ c) := by
  have d1 : ((V.setCell ⟨D, 0, none⟩ a)).heap[D]? = some (.cells #[a, v1] 24 (0, 0)) := heap_setCell_same V D 0 _ 24 _ hD
  have d2 : ((V.setCell ⟨D, 0, none⟩ a).setCell ⟨D, 1, none⟩ b).heap[D]? = some (.cells #[a, b] 24 (0, 0)) := heap_setCell_same _ D 1 _ 24 _ d1
  have m2 : Mod (fun k => k = D) V ((V.setCell ⟨D, 0, none⟩ a).setCell ⟨D, 1, none⟩ b) := Mod.setCell (S := fun k => k = D) (Mod.setCell (S := fun k => k = D) (Mod.refl _ _) (fun _ => rfl) _) (fun _ => rfl) _
  have e2 := (m2.block E (lt_of_heap hE) (fun e => hne e.symm)).trans hE
  have e3 : (((V.setCell ⟨D, 0, none⟩ a).setCell ⟨D, 1, none⟩ b).setCell ⟨E, 0, none⟩ c).heap[E]? = some (.cells #[c] 25 (0, 0)) := heap_setCell_same _ E 0 _ 25 _ e2
  have m3 : Mod (fun k => k = E) ((V.setCell ⟨D, 0, none⟩ a).setCell ⟨D, 1, none⟩ b) (((V.setCell ⟨D, 0, none⟩ a).setCell ⟨D, 1, none⟩ b).setCell ⟨E, 0, none⟩ c) := Mod.setCell (S := fun k => k = E) (Mod.refl _ _) (fun _ => rfl) _
  have d3 := (m3.block D (lt_of_heap d2) hne).trans d2
  refine ⟨⟨(row2 d3).1, (row2 d3).2.1, (row1 e3).1⟩, ?_, (m2.mono (fun _ _ h => .inl h)).trans (m3.mono (fun _ _ h => .inr h))⟩
  exact (hm.then m2 (fun i hi e => by omega)).then m3 (fun i hi e => by omega)

theorem split_any {w : World} (hg : Glob w) (c : UInt8) (s : ByteArray) (hs : s.size ≤ 4096) : Calls Tryd.prog 17 #[.string s, .string ⟨#[c]⟩] w fun e w' =>
    e = .returned (.slice (some ⟨w.heap.size, 0, none⟩) (pieces c s.data.toList).length (pieces c s.data.toList).length) ∧ w' = w.alloc (.cells (((pieces c s.data.toList).map ba).flatMap strI).toArray 9) := by
  obtain ⟨m, hm⟩ := hg.ml
  have h := Tryd.strings_Split s ⟨#[c]⟩ m w (by omega) hm (by show 1 ≤ 1; exact Nat.le_refl _)
  rw [split_count, split_pieces] at h
  have e : ∀ l : List ByteArray, l.map Value.string = l.flatMap strI := fun l => by
    induction l with
    | nil => rfl
    | cons x t ih => rw [List.map_cons, List.flatMap_cons, ih]; rfl
  rw [e] at h
  exact h

/-- The loop over the lines. -/
structure PLoop (w wr : World) (T : Nat) (PL : List (List UInt8)) (k : Nat) (d : Df) (sa : Option Addr) (cap : Nat) (ss : List SA) : Prop where
  dat : DAt wr w.heap.size w.heap.size d sa cap ss
  glob : Glob wr
  eb : wr.heap[w.heap.size + 1]? = some (.cells #[.int .i64 0] 25 (0, 0))
  tb : wr.heap[T]? = some (.cells ((PL.map ba).flatMap strI).toArray 9 (0, 0))
  mod : Mod (fun _ => False) w wr
  off : ∀ j, dset w.heap.size sa ss j → j ≠ w.heap.size + 1 ∧ j ≠ T
  eq : goL PL 0 noD = goL (PL.drop k) k d

/-- The loop over a line's pieces. -/
structure QLoop (W wq : World) (L : Nat) (Q : List (List UInt8)) (j : Nat) (la : Option Addr) (cap : Nat) (done : Fs) : Prop where
  box : wq.heap[L]? = some (.cells #[.slice la done.length cap] 43 (0, 0))
  own : Own wq 9 1 la done.length cap (done.flatMap strI)
  new : ∀ k, blk la k → W.heap.size ≤ k
  mod : Mod (fun k => k = L) W wq
  don : done = ((Q.take j).filter (fun p => !p.isEmpty)).map ba

theorem goL_skip {l : List UInt8} {ls : List (List UInt8)} {i : Nat} {d : Df} (h : skipF (fieldsL l) = true) : goL (l :: ls) i d = goL ls (i + 1) d := by rw [goL, if_pos h]
theorem goL_ok {l : List UInt8} {ls : List (List UInt8)} {i : Nat} {d d' : Df} {r : Fs} (h : skipF (fieldsL l) = false) (h2 : readP d (fieldsL l) = .ok d' r) : goL (l :: ls) i d = goL ls (i + 1) d' := by rw [goL, if_neg (by rw [h]; exact Bool.false_ne_true), h2]
theorem goL_bad {l : List UInt8} {ls : List (List UInt8)} {i : Nat} {d : Df} {e : Int} (h : skipF (fieldsL l) = false) (h2 : readP d (fieldsL l) = .bad e) : goL (l :: ls) i d = (noD, (i : Int) + 1, e) := by rw [goL, if_neg (by rw [h]; exact Bool.false_ne_true), h2]

set_option maxRecDepth 100000 in
set_option maxHeartbeats 8000000 in
theorem parse_any {w : World} (t : ByteArray) (hg : Glob w) : Calls Tryd.prog 9 #[.string t] w fun e w' => PsAns w (parseL t) e w' := by
  obtain ⟨i0, hi0, hz0, hz1, hz2⟩ := info_parts infoStr
  have hmf : ∀ (fn : Fn) (first cap : Array Value) (w : World), (Instr.makeFunc fn first cap).run Tryd.prog w = .ok (.func fn first cap) w := fun _ _ _ _ => rfl
  have hma : Mod (fun _ => False) w ((w.alloc (.cells #[.string ⟨#[]⟩, .slice none 0 0] 24)).alloc (.cells #[.int .i64 0] 25)) := ((Mod.refl _ _).alloc _).alloc _
  have hs1 : (w.alloc (.cells #[.string ⟨#[]⟩, .slice none 0 0] 24)).heap.size = w.heap.size + 1 := by simp
  have hD : ((w.alloc (.cells #[.string ⟨#[]⟩, .slice none 0 0] 24)).alloc (.cells #[.int .i64 0] 25)).heap[w.heap.size]? = some (.cells #[.string ⟨#[]⟩, .slice none 0 0] 24 (0, 0)) := by
    rw [Below.heap_alloc _ _ _ (by omega)]
    exact heap_alloc_new _ _
  have hE : ((w.alloc (.cells #[.string ⟨#[]⟩, .slice none 0 0] 24)).alloc (.cells #[.int .i64 0] 25)).heap[w.heap.size + 1]? = some (.cells #[.int .i64 0] 25 (0, 0)) := by
    rw [← hs1]
    exact heap_alloc_new _ _
  have HM := hid hma
  have HD := hid hD
  have HE := hid hE
  have HG := hid (hg.ext hma)
  clear hma hs1 hD hE
  by_cases hbig : 2048 < t.size
  · have HX : Hid (parseL t = (noD, 0, 11)) := hid (if_pos hbig)
    rw [HX.out]
    have e1 : (2048 : Int) < (t.size : Int) := by omega
    go_enter_defers Tryd.func9, Tryd.ntmps9
    go_upto_region 2 with fail
    generalize (w.alloc (.cells #[.string ⟨#[]⟩, .slice none 0 0] 24)).alloc (.cells #[.int .i64 0] 25) = V at *
    obtain ⟨a0, a1, f0, f1⟩ := row2 HD.out
    obtain ⟨b0, g0⟩ := row1 HE.out
    go_wp2_with fail
    obtain ⟨⟨z0, z1, z2⟩, z3, _⟩ := put_de HM.out (Nat.le_refl _) (Nat.le_succ _) HD.out HE.out (by omega) (.string ⟨#[]⟩) (.slice none 0 0) (.int .i64 11)
    generalize ((V.setCell ⟨w.heap.size, 0, none⟩ (.string ⟨#[]⟩)).setCell ⟨w.heap.size, 1, none⟩ (.slice none 0 0)).setCell ⟨w.heap.size + 1, 0, none⟩ (.int .i64 11) = Z at *
    have HAns : Hid (PsAns w (noD, 0, 11) (.returned (.tuple #[.agg #[.string ⟨#[]⟩, .slice none 0 0], .int .i64 0, .int .i64 11])) Z) := hid ⟨z3, none, 0, [], rfl, lies_no _⟩
    simp [bodyPostD, Leaves, results, Tryd.results9, go_sem, z0, z1, z2]
    exact HAns.out
  · have HX : Hid (parseL t = goL (pieces 10 t.data.toList) 0 noD) := hid (if_neg hbig)
    have hts : t.data.toList.length = t.size := by simp
    obtain ⟨hpl1, hpl2⟩ := pieces_len 10 t.data.toList
    rw [HX.out]
    have e1 : ¬ (2048 : Int) < (t.size : Int) := by omega
    have HSp := hid (split_any HG.out 10 t (by omega))
    generalize pieces 10 t.data.toList = PL at *
    have h8 := hg.lt
    obtain ⟨x, hx⟩ : ∃ x, goL PL 0 noD = x := ⟨_, rfl⟩
    have HXx := hid hx
    rw [hx]
    clear HX hx
    go_enter_defers Tryd.func9, Tryd.ntmps9
    go_upto_region 4 with fail
    generalize (w.alloc (.cells #[.string ⟨#[]⟩, .slice none 0 0] 24)).alloc (.cells #[.int .i64 0] 25) = V at *
    go_upto_region 5 with (go_at_call 17; refine HSp.out.mono ?_; rintro e w1 ⟨rfl, rfl⟩)
    have hmv : Mod (fun _ => False) V (V.alloc (.cells ((PL.map ba).flatMap strI).toArray 9)) := (Mod.refl _ _).alloc _
    have hDA : DAt V w.heap.size w.heap.size noD none 0 [] := ⟨HD.out, rfl, Own.nil _ _ _, blk_none _, fun x h => (List.not_mem_nil h).elim, Nat.zero_le _, fun k hk => by rcases hk with rfl | hk; exact Nat.le_refl _; exact (blk_none k hk).elim⟩
    have hvs := HM.out.size
    have hvE := lt_of_heap HE.out
    have HP0 : Hid (PLoop w (V.alloc (.cells ((PL.map ba).flatMap strI).toArray 9)) V.heap.size PL 0 noD none 0 []) := hid ⟨hDA.ext hmv, HG.out.ext hmv, (hmv.block _ hvE (fun h => h)).trans HE.out, heap_alloc_new _ _, HM.out.trans hmv, fun j hj => by
      rcases hj with rfl | hj | ⟨x, hx, _⟩
      · exact ⟨by omega, by omega⟩
      · exact (blk_none j hj).elim
      · exact (List.not_mem_nil hx).elim, by rw [List.drop_zero]⟩
    have HTl : Hid (V.heap.size < (V.alloc (.cells ((PL.map ba).flatMap strI).toArray 9)).heap.size) := hid (by rw [World.size_alloc]; omega)
    have hV8 : w.heap.size + 1 < V.heap.size := hvE
    clear hmv hDA hvE HSp HD HE HG
    generalize hT : V.heap.size = T at *
    generalize V.alloc (.cells ((PL.map ba).flatMap strI).toArray 9) = V2 at *
    clear hT
    go_loopw [3, 18] (fun s3 sk wr => ∃ (A : Int) (k : Nat) (d : Df) (sa : Option Addr) (cap : Nat) (ss : List SA), s3 = .int .i64 A ∧ sk = .int .i64 (k : Int) ∧ k ≤ PL.length ∧ PLoop w wr T PL k d sa cap ss) (fun _ sk _ => PL.length - (intOf sk).toNat)
    case atStart => exact ⟨0, 0, noD, none, 0, [], rfl, rfl, Nat.zero_le _, HP0.out⟩
    case round =>
      obtain ⟨A, k, d, sa, cap, ss, rfl, rfl, hk, hp⟩ := hrel
      obtain ⟨wo, rfl⟩ : ∃ y, y = wr := ⟨wr, rfl⟩
      have HP := hid hp
      clear hp
      by_cases hlt : k < PL.length
      case neg =>
        have hke : k = PL.length := by omega
        subst hke
        have HEq : Hid (x = if d.name.toList.isEmpty = true then (noD, 0, 101) else (d, 0, 0)) := hid (by rw [← HXx.out, HP.out.eq, List.drop_length]; rfl)
        obtain ⟨a0, a1, f0, f1⟩ := row2 HP.out.dat.box
        obtain ⟨b0, g0⟩ := row1 HP.out.eb
        cases hne : d.name.toList.isEmpty with
        | true =>
          have hx0 := HEq.out
          rw [hne, if_pos rfl] at hx0
          subst hx0
          clear HEq HXx
          go_wp2_with fail
          obtain ⟨⟨z0, z1, z2⟩, z3, _⟩ := put_de HP.out.mod (Nat.le_refl _) (Nat.le_succ _) HP.out.dat.box HP.out.eb (by omega) (.string ⟨#[]⟩) (.slice none 0 0) (.int .i64 101)
          generalize ((wo.setCell ⟨w.heap.size, 0, none⟩ (.string ⟨#[]⟩)).setCell ⟨w.heap.size, 1, none⟩ (.slice none 0 0)).setCell ⟨w.heap.size + 1, 0, none⟩ (.int .i64 101) = Z at *
          have HAns : Hid (PsAns w (noD, 0, 101) (.returned (.tuple #[.agg #[.string ⟨#[]⟩, .slice none 0 0], .int .i64 0, .int .i64 101])) Z) := hid ⟨z3, none, 0, [], rfl, lies_no _⟩
          refine leaves_cons (f := 16) (args := #[.pointer (some ⟨w.heap.size, 0, none⟩), .pointer (some ⟨w.heap.size + 1, 0, none⟩)]) (by simp) (by simp [go_sem]) ?_
          refine (catch_idle _ _ _).mono ?_
          rintro e u' w'' ⟨rfl, rfl, rfl⟩
          simp [Leaves, settle, results, Tryd.results9, go_sem, z0, z1, z2]
          exact HAns.out
        | false =>
          have hx0 := HEq.out
          rw [hne, if_neg Bool.false_ne_true] at hx0
          subst hx0
          clear HEq HXx
          go_wp2_with fail
          obtain ⟨⟨z0, z1, z2⟩, z3, z4⟩ := put_de HP.out.mod (Nat.le_refl _) (Nat.le_succ _) HP.out.dat.box HP.out.eb (by omega) (.string d.name) (.slice sa d.steps.length cap) (.int .i64 0)
          have HOwn := hid (HP.out.dat.own.mod z4 (fun j hj h => by
            rcases h with h | h
            · exact HP.out.dat.ne (h ▸ hj)
            · exact (HP.out.off j (.inr (.inl hj))).1 h))
          have HAll := hid (fun (y : SA) (hy : y ∈ ss) => (⟨(HP.out.dat.all y hy).1.mod z4 (fun h0 j hj h => by
            rcases h with h | h
            · exact ((HP.out.dat.all y hy).2.2 h0 j hj).2 h
            · exact (HP.out.off j (.inr (.inr ⟨y, hy, h0, hj⟩))).1 h), (HP.out.dat.all y hy).2.1⟩ : Lies _ 1 strI y.aa y.s.after ∧ y.s.after.length ≤ 4096))
          generalize ((wo.setCell ⟨w.heap.size, 0, none⟩ (.string d.name)).setCell ⟨w.heap.size, 1, none⟩ (.slice sa d.steps.length cap)).setCell ⟨w.heap.size + 1, 0, none⟩ (.int .i64 0) = Z at *
          have hsl : d.steps.length = ss.length := by rw [← HP.out.dat.map, List.length_map]
          have HLz : Hid (Lies Z 9 SA.cs sa ss) := hid (by have := HOwn.out; rw [hsl] at this; exact this.lies)
          have HAns : Hid (PsAns w (d, 0, 0) (.returned (.tuple #[.agg #[.string d.name, .slice sa d.steps.length cap], .int .i64 0, .int .i64 0])) Z) := hid ⟨z3, sa, cap, ss, rfl, ⟨HP.out.dat.map, HLz.out, HAll.out, HP.out.dat.len⟩⟩
          refine leaves_cons (f := 16) (args := #[.pointer (some ⟨w.heap.size, 0, none⟩), .pointer (some ⟨w.heap.size + 1, 0, none⟩)]) (by simp) (by simp [go_sem]) ?_
          refine (catch_idle _ _ _).mono ?_
          rintro e u' w'' ⟨rfl, rfl, rfl⟩
          simp [Leaves, settle, results, Tryd.results9, go_sem, z0, z1, z2]
          exact HAns.out
      case pos =>
        obtain ⟨p, hpk⟩ : ∃ p, PL[k]? = some p := ⟨_, List.getElem?_eq_getElem hlt⟩
        have HDr : Hid (PL.drop k = p :: PL.drop (k + 1)) := hid (by rw [List.drop_eq_getElem_cons hlt]; rw [List.getElem?_eq_getElem hlt] at hpk; cases hpk; rfl)
        have hpl := hpl2 p (List.mem_of_getElem? hpk)
        have HEq : Hid (x = goL (p :: PL.drop (k + 1)) k d) := hid (by rw [← HXx.out, HP.out.eq, HDr.out])
        have hlt2 : k < (PL.map ba).length := by rw [List.length_map]; exact hlt
        have hpb : (PL.map ba)[k]? = some (ba p) := by rw [List.getElem?_map, hpk]; rfl
        have q0 := (lies_new strI_len HP.out.tb).cell strI_len hpb (j := 0) rfl
        rw [Nat.add_zero, Nat.mul_one, Nat.zero_add] at q0
        have hal : Mod (fun _ => False) wo (wo.alloc (.cells #[.slice none 0 0] 43)) := (Mod.refl _ _).alloc _
        have HGl := hid (HP.out.glob.ext hal)
        have hpsz : (ba p).data.toList = p := ba_data p
        have HSp := hid (split_any HGl.out 32 (ba p) (by rw [ba_size]; omega))
        rw [hpsz] at HSp
        obtain ⟨hq1, hq2⟩ := pieces_len 32 p
        have HFd : Hid (fieldsL p = ((pieces 32 p).filter (fun q => !q.isEmpty)).map ba) := hid rfl
        generalize pieces 32 p = Q at *
        go_upto_region 9 with (go_at_call 17; refine HSp.out.mono ?_; rintro e w3 ⟨rfl, rfl⟩)
        have hs1 : (wo.alloc (.cells #[.slice none 0 0] 43)).heap.size = wo.heap.size + 1 := by simp
        have hal2 : Mod (fun _ => False) wo ((wo.alloc (.cells #[.slice none 0 0] 43)).alloc (.cells ((Q.map ba).flatMap strI).toArray 9)) := ((Mod.refl _ _).alloc _).alloc _
        have HLb : Hid (((wo.alloc (.cells #[.slice none 0 0] 43)).alloc (.cells ((Q.map ba).flatMap strI).toArray 9)).heap[wo.heap.size]? = some (.cells #[.slice none 0 0] 43 (0, 0))) := hid (by
          rw [Below.heap_alloc _ _ _ (by rw [hs1]; omega)]
          exact heap_alloc_new _ _)
        have HQb : Hid (((wo.alloc (.cells #[.slice none 0 0] 43)).alloc (.cells ((Q.map ba).flatMap strI).toArray 9)).heap[wo.heap.size + 1]? = some (.cells ((Q.map ba).flatMap strI).toArray 9 (0, 0))) := hid (by
          have h := heap_alloc_new (wo.alloc (.cells #[.slice none 0 0] 43)) (.cells ((Q.map ba).flatMap strI).toArray 9)
          rw [hs1] at h
          exact h)
        have HM2 := hid hal2
        clear hal hal2 HGl HSp q0 hpb hlt2 hs1 hpsz hpk HDr
        generalize (wo.alloc (.cells #[.slice none 0 0] 43)).alloc (.cells ((Q.map ba).flatMap strI).toArray 9) = W2 at *
        go_loopw [26] (fun sj wr => ∃ (j : Nat) (la : Option Addr) (lc : Nat) (done : Fs), sj = .int .i64 (j : Int) ∧ j ≤ Q.length ∧ QLoop W2 wr wo.heap.size Q j la lc done) (fun sj _ => Q.length - (intOf sj).toNat)
        case atStart => exact ⟨0, none, 0, [], rfl, Nat.zero_le _, ⟨HLb.out, Own.nil _ _ _, fun k hk => (blk_none k hk).elim, Mod.refl _ _, rfl⟩⟩
        case round =>
          obtain ⟨j, la, lc, done, rfl, hj, hqp⟩ := hrel
          have HQ := hid hqp
          have hdl : done.length ≤ j := by
            rw [hqp.don, List.length_map]
            exact Nat.le_trans (List.length_filter_le _ _) (by rw [List.length_take]; omega)
          obtain ⟨b0, g0⟩ := row1 hqp.box
          clear hqp
          by_cases hjl : j < Q.length
          case pos =>
            obtain ⟨q, hqj⟩ : ∃ q, Q[j]? = some q := ⟨_, List.getElem?_eq_getElem hjl⟩
            have htk : Q.take (j + 1) = Q.take j ++ [q] := by rw [List.take_add_one, hqj]; rfl
            have hpb : (Q.map ba)[j]? = some (ba q) := by rw [List.getElem?_map, hqj]; rfl
            have hlb : j < (Q.map ba).length := by rw [List.length_map]; exact hjl
            have q0 := (lies_new strI_len ((HQ.out.mod.block _ (lt_of_heap HQb.out) (by omega)).trans HQb.out)).cell strI_len hpb (j := 0) rfl
            simp only [Nat.add_zero, Nat.mul_one, Nat.zero_add] at q0
            have HTk := hid htk
            clear htk hpb hlb hqj
            cases he : q.isEmpty with
            | true =>
              have e1 : (ba q).toList.isEmpty = true := by rw [ByteArray.toList_eq, ba_data]; exact he
              have HE := hid he
              clear he
              go_wp2_with fail
              go_roundw
              case rel => exact ⟨j + 1, la, lc, done, by go_num, by omega, ⟨HQ.out.box, HQ.out.own, HQ.out.new, HQ.out.mod, by rw [HTk.out, List.filter_append, HQ.out.don]; simp [HE.out]⟩⟩
              case measure => simp [intOf]; omega
            | false =>
              have e1 : (ba q).toList.isEmpty = false := by rw [ByteArray.toList_eq, ba_data]; exact he
              have HE := hid he
              clear he
              go_upto_region 12 with fail
              have HOa := hid (HQ.out.own.mod (S := fun _ => False) ((Mod.refl _ wr).alloc (.cells #[.string (ba q)] 9)) (fun _ _ h => h))
              have HSa : Hid (Src (wr.alloc (.cells #[.string (ba q)] 9)) 1 (some ⟨wr.heap.size, 0, none⟩) 1 [.string (ba q)]) := hid (src_new (heap_alloc_new _ _) rfl)
              have HMa := hid (HQ.out.mod.alloc (.cells #[.string (ba q)] 9))
              have HRo := hid (fun (V : World) (hm : Mod (blk la) (wr.alloc (.cells #[.string (ba q)] 9)) V) => row1 ((hm.block wo.heap.size (by have := lt_of_heap HQ.out.box; rw [World.size_alloc]; omega) (fun h => by have := HQ.out.new _ h; have := lt_of_heap HLb.out; omega)).trans ((Below.heap_alloc _ _ _ (lt_of_heap HQ.out.box)).trans HQ.out.box)))
              have HSz := hid HQ.out.mod.size
              clear q0 e1
              go_wp2_with (at_builtin; refine wpList_append_Own rfl (.tmp 32) (.tmp 34) 43 rfl 9 i0 _ 1 16 Tryd.underlying43 hi0 hz0 hz1 hz2 rfl la done.length lc _ rfl HOa.out (some ⟨wr.heap.size, 0, none⟩) 1 1 _ rfl HSa.out (by intro u hu; simp at hu; subst hu; rfl) (by unfold maxLen; omega) (by omega) ?_; intro la6 lc6 w6 hown hm hb hn hr; have HO6 := hid hown; have HM6 := hid hm; have HB6 := hid hb; clear hown hm hb hn hr b0 g0; obtain ⟨b0, g0⟩ := HRo.out w6 HM6.out)
              go_roundw
              case rel =>
                have hms : Mod (fun k => k = wo.heap.size) w6 (w6.setCell ⟨wo.heap.size, 0, none⟩ (.slice la6 (done.length + 1) lc6)) := Mod.setCell (S := fun k => k = wo.heap.size) (Mod.refl _ _) (fun _ => rfl) _
                have hnl : ∀ k, blk la6 k → W2.heap.size ≤ k := fun k hk => by
                  rcases HB6.out k hk with h | h
                  · exact HQ.out.new k h
                  · have := HMa.out.size; omega
                have hl1 : (done ++ [ba q]).length = done.length + 1 := by simp
                have hbx := (HM6.out.block wo.heap.size (by have := lt_of_heap HQ.out.box; rw [World.size_alloc]; omega) (fun h => by have := HQ.out.new _ h; have := lt_of_heap HLb.out; omega)).trans ((Below.heap_alloc _ _ _ (lt_of_heap HQ.out.box)).trans HQ.out.box)
                refine ⟨j + 1, la6, lc6, done ++ [ba q], by go_num, by omega, ⟨?_, ?_, hnl, ?_, ?_⟩⟩
                · rw [hl1]; exact heap_setCell_same w6 wo.heap.size 0 _ 43 _ hbx
                · rw [hl1, List.flatMap_append]
                  have h1 : List.flatMap strI [ba q] = [.string (ba q)] := rfl
                  rw [h1]
                  exact HO6.out.mod hms (fun k hk e => by have := hnl k hk; have := lt_of_heap HLb.out; omega)
                · exact (HMa.out.then HM6.out (fun i hi h => by have := HQ.out.new i h; omega)).trans hms
                · rw [HTk.out, List.filter_append, HQ.out.don]; simp [HE.out]
              case measure => simp [intOf]; omega
          case neg =>
            have hje : j = Q.length := by omega
            subst hje
            have hF : done = fieldsL p := by rw [HQ.out.don, HFd.out, List.take_length]
            subst hF
            have hw2 := lt_of_heap HLb.out
            have hMW : Mod (fun _ => False) wo wr := HM2.out.then HQ.out.mod (fun i hi e => by omega)
            have hln : Ln wr wo.heap.size la lc (fieldsL p) := ⟨HQ.out.box, HQ.out.own.lies, HQ.out.own.2.1, fun _ hk => by have := HQ.out.new _ hk; omega, by omega, fun s hs => by
              rw [HFd.out] at hs
              obtain ⟨q, hq, rfl⟩ := List.mem_map.1 hs
              have := hq2 q (List.mem_filter.1 hq).1
              rw [ba_size]
              omega⟩
            have HMW := hid hMW
            have hoff := HP.out.off
            have HE1 := hid ((hMW.block _ (lt_of_heap HP.out.eb) (fun h => h)).trans HP.out.eb)
            have HT1 := hid ((hMW.block _ (lt_of_heap HP.out.tb) (fun h => h)).trans HP.out.tb)
            have HSk : Hid (skipF (fieldsL p) = true → PLoop w wr T PL (k + 1) d sa cap ss) := hid (fun hsk => ⟨HP.out.dat.ext hMW, HP.out.glob.ext hMW, HE1.out, HT1.out, HP.out.mod.trans hMW, HP.out.off, by rw [HXx.out, HEq.out, goL_skip hsk]⟩)
            have HLn := hid hln
            have hne : ∀ s ∈ fieldsL p, 0 < s.size := fun s hs => by
              rw [HFd.out] at hs
              obtain ⟨q, hq, rfl⟩ := List.mem_map.1 hs
              have := (List.mem_filter.1 hq).2
              rw [ba_size]
              cases q with
              | nil => cases this
              | cons _ _ => exact Nat.succ_pos _
            clear hMW hln
            cases hf : fieldsL p with
            | nil =>
              rw [hf] at b0 HSk
              simp only [List.length_nil] at b0
              have HPn := hid (HSk.out rfl)
              clear hf HSk
              go_wp2_with fail
              go_roundw
              case rel => exact ⟨A, k + 1, d, sa, cap, ss, rfl, by go_num, by omega, HPn.out⟩
              case measure => simp [intOf]; omega
            | cons s r =>
              obtain ⟨g1, o1, hla, b0', _, q0⟩ := (hf ▸ HLn.out : Ln wr wo.heap.size la lc (s :: r)).open
              subst hla
              have hlr := (hf ▸ HLn.out : Ln wr wo.heap.size (some ⟨g1, o1, none⟩) lc (s :: r)).len
              simp only [List.length_cons] at hlr
              have h0 := hne s (by rw [hf]; exact List.mem_cons_self)
              have hskv : skipF (fieldsL p) = (s.data.toList.head? == some 35) := by rw [hf]; rfl
              have hhd : s.data.toList.head? = some s[0] := by
                have := get_list s 0 h0
                rw [List.head?_eq_getElem?]
                exact this
              rw [hhd] at hskv
              have HSv := hid hskv
              rw [hf] at b0
              simp only [List.length_cons] at b0
              clear hskv hhd b0'
              by_cases h35 : s[0] = 35
              · have HPn := hid (HSk.out (by rw [HSv.out, h35]; rfl))
                have e1 : ((s[0].toNat : Int) == 35) = true := by rw [h35]; rfl
                clear h35 HSk
                go_wp2_with fail
                go_roundw
                case rel => exact ⟨A, k + 1, d, sa, cap, ss, rfl, by go_num, by omega, HPn.out⟩
                case measure => simp [intOf]; omega
              · have e1 : ((s[0].toNat : Int) == 35) = false := by
                  have : s[0].toNat ≠ 35 := fun h => h35 (UInt8.toNat_inj.1 h)
                  simp; omega
                have HNs : Hid (skipF (fieldsL p) = false) := hid (by rw [HSv.out]; simpa using h35)
                have hdw := HP.out.dat.ext HMW.out
                have hlow : ∀ j, dset w.heap.size sa ss j → j < wo.heap.size := fun j hj => HP.out.dat.lt hj
                have HRd := hid (read_any (HP.out.glob.ext HMW.out) HLn.out hdw h8 (Nat.le_trans HP.out.mod.size HMW.out.size) (by have := HP.out.mod.size; omega) (fun h => by have := hlow _ h; omega) (fun j hj => ⟨HQ.out.own.lt j hj, fun e => by have := HQ.out.new j hj; have := HP.out.mod.size; have := HM2.out.size; have := lt_of_heap HP.out.dat.box; omega, fun h2 => by have := HQ.out.new j hj; have := hlow j (.inr (.inl h2)); omega⟩))
                clear h35 HSk hdw
                cases hrd : readP d (fieldsL p) with
                | ok d' rr =>
                  rw [hrd] at HRd
                  have HGo := hid (goL_ok (ls := PL.drop (k + 1)) (i := k) HNs.out hrd)
                  clear hrd
                  go_wp2_with (go_at_call 18; refine HRd.out.mono ?_; rintro e w5 ⟨hm5, _, rfl, sa', cap', ss', hd5, hmem⟩; have HM5 := hid hm5; have HD5 := hid hd5; have HMem := hid hmem; clear hm5 hd5 hmem)
                  go_roundw
                  case rel =>
                    have hE5 : ¬ (w.heap.size + 1 = wo.heap.size ∨ w.heap.size + 1 = w.heap.size ∨ blk sa (w.heap.size + 1)) := fun h => by
                      rcases h with h | h | h
                      · have := lt_of_heap HP.out.eb; omega
                      · omega
                      · exact (HP.out.off _ (.inr (.inl h))).1 rfl
                    have hT5 : ¬ (T = wo.heap.size ∨ T = w.heap.size ∨ blk sa T) := fun h => by
                      rcases h with h | h | h
                      · have := lt_of_heap HP.out.tb; omega
                      · omega
                      · exact (HP.out.off _ (.inr (.inl h))).2 rfl
                    have hlo5 : ∀ j, j = wo.heap.size ∨ j = w.heap.size ∨ blk sa j → w.heap.size ≤ j := fun j h => by
                      rcases h with h | h | h
                      · have := HP.out.mod.size; omega
                      · omega
                      · exact HP.out.dat.lo j (.inr h)
                    refine ⟨(k : Int) + 1, k + 1, d', sa', cap', ss', by go_num, by go_num, by omega, ⟨HD5.out, (HP.out.glob.ext HMW.out).mod HM5.out (fun j hj => Nat.le_trans h8 (hlo5 j hj)), (HM5.out.block _ (lt_of_heap HE1.out) hE5).trans HE1.out, (HM5.out.block _ (lt_of_heap HT1.out) hT5).trans HT1.out, (HP.out.mod.trans HMW.out).then HM5.out (fun j hj h => by have := hlo5 j h; omega), fun j hj => ?_, by rw [HXx.out, HEq.out, HGo.out]⟩⟩
                    rcases HMem.out j hj with h | h
                    · exact HP.out.off j h
                    · have := lt_of_heap HE1.out
                      have := lt_of_heap HT1.out
                      exact ⟨by omega, by omega⟩
                  case measure => simp [intOf]; omega
                | bad n =>
                  rw [hrd] at HRd
                  have hx0 : x = (noD, (k : Int) + 1, n) := by rw [HEq.out]; exact goL_bad HNs.out hrd
                  have HXn := hid hx0
                  clear hrd hx0
                  have hE5 : ¬ (w.heap.size + 1 = wo.heap.size ∨ w.heap.size + 1 = w.heap.size ∨ blk sa (w.heap.size + 1)) := fun h => by
                    rcases h with h | h | h
                    · have := lt_of_heap HP.out.eb; omega
                    · omega
                    · exact (HP.out.off _ (.inr (.inl h))).1 rfl
                  have hlo5 : ∀ j, j = wo.heap.size ∨ j = w.heap.size ∨ blk sa j → w.heap.size ≤ j := fun j h => by
                    rcases h with h | h | h
                    · have := HP.out.mod.size; omega
                    · omega
                    · exact HP.out.dat.lo j (.inr h)
                  have HLo5 := hid hlo5
                  have HE5 := hid hE5
                  clear hlo5 hE5
                  go_wp2_with (go_at_call 18; refine HRd.out.mono ?_; rintro e w5 ⟨hm5, ⟨v0, v1, hb5⟩, he⟩; have HM5 := hid hm5; have HB5 := hid hb5; simp only [fault] at he; subst he; clear hm5 hb5)
                  have hEb := (HM5.out.block _ (lt_of_heap HE1.out) HE5.out).trans HE1.out
                  have hM6 := (HP.out.mod.trans HMW.out).then HM5.out (fun j hj h => by have := HLo5.out j h; omega)
                  obtain ⟨⟨z0, z1, z2⟩, z3, _⟩ := put_de hM6 (Nat.le_refl _) (Nat.le_succ _) HB5.out hEb (by omega) (.string ⟨#[]⟩) (.slice none 0 0) (.int .i64 n)
                  have HAns : Hid (∀ Z, Mod (fun _ => False) w Z → PsAns w x (.returned (.tuple #[.agg #[.string ⟨#[]⟩, .slice none 0 0], .int .i64 ((k : Int) + 1), .int .i64 n])) Z) := hid (fun Z hz => by rw [HXn.out]; exact ⟨hz, none, 0, [], rfl, lies_no _⟩)
                  refine leaves_cons (f := 16) (args := #[.pointer (some ⟨w.heap.size, 0, none⟩), .pointer (some ⟨w.heap.size + 1, 0, none⟩)]) (by simp) (by simp [go_sem]) ?_
                  refine (catch_fault n HB5.out hEb (by omega)).mono ?_
                  rintro e u' w'' ⟨rfl, rfl, rfl⟩
                  generalize ((w5.setCell ⟨w.heap.size, 0, none⟩ (.string ⟨#[]⟩)).setCell ⟨w.heap.size, 1, none⟩ (.slice none 0 0)).setCell ⟨w.heap.size + 1, 0, none⟩ (.int .i64 n) = Z at *
                  simp [Leaves, settle, results, Tryd.results9, go_sem, z0, z1, z2]
                  exact HAns.out Z z3

end Go.Proofs.YtmkbbclbkpofoaaDoor
