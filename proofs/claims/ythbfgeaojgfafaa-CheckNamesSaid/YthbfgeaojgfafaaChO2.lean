/- What each step comes behind: a step that was not asked yet -/
import Derived.Test.YthbfgeaojgfafaaChO
import Derived.Deep.LoopGhost
namespace Go.Proofs.Ythbfgeaojgfafaa
open Go Go.RowKit
open Relation (TransGen)

/-- What is behind the first j names of a step. -/
def Upto (ss : List Stp) (s : Stp) (j k : Nat) : Prop := ∃ jj, jj < j ∧ ∃ (k' : Nat) (t : Stp), ss[k']? = some t ∧ s.after[jj]? = some t.name ∧ (k' = k ∨ TransGen (Ed ss) k' k)

theorem Upto.succ {ss : List Stp} (ok : NamesOk ss) {s t : Stp} {j k' : Nat} (hk : ss[k']? = some t) (hj : s.after[j]? = some t.name) (k : Nat) : Upto ss s (j + 1) k ↔ Upto ss s j k ∨ (k' = k ∨ TransGen (Ed ss) k' k) := by
  constructor
  · rintro ⟨jj, hjj, q, u, hq, hu, h⟩
    rcases Nat.lt_or_ge jj j with hlt | hge
    · exact .inl ⟨jj, hlt, q, u, hq, hu, h⟩
    · have : jj = j := by omega
      subst this
      rw [hj] at hu
      have := name_place ok hk hq (Option.some.inj hu)
      subst this
      exact .inr h
  · rintro (⟨jj, hjj, q, u, hq, hu, h⟩ | h)
    · exact ⟨jj, by omega, q, u, hq, hu, h⟩
    · exact ⟨j, by omega, k', t, hk, hj, h⟩

theorem Upto.all {ss : List Stp} {i : Nat} {s : Stp} (hi : ss[i]? = some s) (k : Nat) : Upto ss s s.after.length k ↔ TransGen (Ed ss) i k := by
  constructor
  · rintro ⟨jj, hjj, q, u, hq, hu, h⟩
    have he : Ed ss i q := ⟨s, u, hi, hq, List.mem_of_getElem? hu⟩
    rcases h with rfl | h
    · exact .single he
    · exact TransGen.headed he h
  · intro h
    obtain ⟨q, ⟨s', t, h1, h2, h3⟩, h4⟩ := TransGen.first h
    rw [hi] at h1
    cases h1
    obtain ⟨jj, hjj⟩ := List.getElem?_of_mem h3
    exact ⟨jj, (List.getElem?_eq_some_iff.1 hjj).1, q, t, h2, hjj, h4⟩

theorem aget_ent {ss : List Stp} (ok : NamesOk ss) {k : Nat} {t : Stp} (hk : ss[k]? = some t) : aget (ent ss ss.length) t.name = some (.int .i64 k) := by
  cases ha : aget (ent ss ss.length) t.name with
  | none =>
    have := (aget_isSome_iff (ent ss ss.length) t.name).2 ((ent_known ss t.name).2 (List.mem_map.2 ⟨t, List.mem_of_getElem? hk, rfl⟩))
    rw [ha] at this
    cases this
  | some v =>
    obtain ⟨i, hi, e, rfl⟩ := ent_mem ss _ (aget_mem ha)
    have hi' := List.getElem?_eq_getElem hi
    rw [nameAt_of hi'] at e
    rw [name_place ok hi' hk e]

/-- The loop over a step's names. -/
structure OState (W w : World) (bb : Nat) (nm : ByteArray) (a : Option Addr) (cap : Nat) (ss : List Stp) (mb g1 g2 : Nat) (sets : List (Option Nat)) (opn : List Bool) (s : Stp) (sb j : Nat) (sets' : List (Option Nat)) (l : List (Int × Value)) (wr : World) : Prop where
  beh : Beh W wr bb nm a cap ss mb g1 g2 sets' opn
  ext : ∀ (j c : Nat), sets[j]? = some (some c) → sets'[j]? = some (some c)
  new : ∀ (j c : Nat), sets'[j]? = some (some c) → sets[j]? = some (some c) ∨ w.heap.size ≤ c
  ne : ∀ (j c : Nat), sets'[j]? = some (some c) → c ≠ sb
  map : MapAt KI.kv wr sb l
  keys : ∀ x : Int, x ∈ l.map (·.1) ↔ ∃ k : Nat, x = k ∧ Upto ss s j k
  vals : ∀ p ∈ l, ∃ c : Int, p.2 = .int .i64 c ∧ 1 ≤ c ∧ c ≤ 2 * j
  done : ∀ jj, jj < j → ∀ (k' : Nat) (t : Stp), ss[k']? = some t → s.after[jj]? = some t.name → ∃ b', sets'[k']? = some (some b')
  mod : Mod (fun k => k = g1 ∨ k = g2) w wr

def ORel (W w : World) (bb : Nat) (nm : ByteArray) (a : Option Addr) (cap : Nat) (ss : List Stp) (mb g1 g2 : Nat) (sets : List (Option Nat)) (opn : List Bool) (s : Stp) (sb : Nat) (c : Value) (wr : World) : Prop :=
  ∃ (j : Nat) (sets' : List (Option Nat)) (l : List (Int × Value)), j ≤ s.after.length ∧ c = .int .i64 j ∧ OState W w bb nm a cap ss mb g1 g2 sets opn s sb j sets' l wr

/-- The loop over a map. -/
structure IState (w3 : World) (sb b' r : Nat) (lk l1 : List (Int × Value)) (j g : Nat) (left : Int → Prop) (l2 : List (Int × Value)) (wr : World) : Prop where
  rng : RangeAt KI.kv wr b' r lk left g
  map : MapAt KI.kv wr sb l2
  mod : Mod (fun k => k = sb) w3 wr
  old : ∀ x, x ∈ l1.map (·.1) → x ∈ l2.map (·.1)
  only : ∀ x, x ∈ l2.map (·.1) → x ∈ l1.map (·.1) ∨ x ∈ lk.map (·.1)
  rest : ∀ x, x ∈ lk.map (·.1) → x ∈ l2.map (·.1) ∨ left x
  vals : ∀ p ∈ l2, ∃ c : Int, p.2 = .int .i64 c ∧ 1 ≤ c ∧ c ≤ 2 * j + 2 ∧ (left p.1 → c ≤ 2 * j + 1)

def IRel (w3 : World) (sb b' r : Nat) (lk l1 : List (Int × Value)) (j g : Nat) (_c : Value) (wr : World) : Prop := ∃ left l2, IState w3 sb b' r lk l1 j g left l2 wr

theorem get_val {l : List (Int × Value)} {B : Int} (hB : 0 ≤ B) (h : ∀ p ∈ l, ∃ c : Int, p.2 = .int .i64 c ∧ 1 ≤ c ∧ c ≤ B) (k : Int) : ∃ c : Int, (aget l k).getD (.int .i64 0) = .int .i64 c ∧ 0 ≤ c ∧ c ≤ B := by
  cases ha : aget l k with
  | none => exact ⟨0, rfl, by omega, hB⟩
  | some v =>
    obtain ⟨c, h1, h2, h3⟩ := h _ (aget_mem ha)
    exact ⟨c, h1, by omega, h3⟩

theorem get_val2 {l : List (Int × Value)} {left : Int → Prop} {B : Int} (hB : 0 ≤ B) (h : ∀ p ∈ l, ∃ c : Int, p.2 = .int .i64 c ∧ 1 ≤ c ∧ c ≤ B + 1 ∧ (left p.1 → c ≤ B)) (k : Int) (hk : left k) : ∃ c : Int, (aget l k).getD (.int .i64 0) = .int .i64 c ∧ 0 ≤ c ∧ c ≤ B := by
  cases ha : aget l k with
  | none => exact ⟨0, rfl, by omega, hB⟩
  | some v =>
    obtain ⟨c, h1, h2, h3, h4⟩ := h _ (aget_mem ha)
    exact ⟨c, h1, by omega, h4 hk⟩

section
variable {W w : World} {bb : Nat} {nm : ByteArray} {a : Option Addr} {cap : Nat} {ss : List Stp} {mb g1 g2 : Nat} {sets : List (Option Nat)} {opn : List Bool} {s : Stp} {sb : Nat}

theorem OState.next {j k' b' r : Nat} {sets' sets'' : List (Option Nat)} {l l1 l2 lk : List (Int × Value)} {wr w2 w3 wq : World} {left : Int → Prop} {t : Stp} {c : Int} {g : Nat} (ok : NamesOk ss)
    (h : OState W w bb nm a cap ss mb g1 g2 sets opn s sb j sets' l wr) (hj : s.after[j]? = some t.name) (hk : ss[k']? = some t)
    (hl1 : l1 = aput l k' (.int .i64 (c + 1))) (hm2 : Mod (fun q => q = sb) wr w2)
    (hB : Beh W w3 bb nm a cap ss mb g1 g2 sets'' opn) (hs : sets''[k']? = some (some b')) (hext : ∀ (j c : Nat), sets'[j]? = some (some c) → sets''[j]? = some (some c)) (hnew : ∀ (j c : Nat), sets''[j]? = some (some c) → sets'[j]? = some (some c) ∨ w2.heap.size ≤ c) (hm3 : Mod (fun q => q = g1 ∨ q = g2) w2 w3)
    (hg : Good ss k' lk) (hi : IState w3 sb b' r lk l1 j g left l2 wq) (hleft : ∀ x, ¬ left x) (hsb : w.heap.size ≤ sb) (hbb : bb < w.heap.size) (hg1 : g1 < w.heap.size) (hg2 : g2 < w.heap.size) (hmb : mb < w.heap.size) (hW : W.heap.size ≤ w.heap.size) (hsbr : sb < wr.heap.size) :
    OState W w bb nm a cap ss mb g1 g2 sets opn s sb (j + 1) sets'' l2 wq where
  beh := hB.keep hi.mod (fun k hk => by omega) (by omega) (by omega) (by omega) (by omega) (fun i b hb e => by
    rcases hnew i b hb with h1 | h1
    · exact h.ne i b h1 e
    · have := hm2.size; omega)
  ext := fun j c hc => hext j c (h.ext j c hc)
  new := fun j c hc => by
    rcases hnew j c hc with h1 | h1
    · exact h.new j c h1
    · have := hm2.size; have := h.mod.size; omega
  ne := fun i b hb => by
    rcases hnew i b hb with h1 | h1
    · exact h.ne i b h1
    · have := hm2.size; omega
  map := hi.map
  keys := fun x => by
    constructor
    · intro hx
      rcases hi.only x hx with h1 | h1
      · rw [hl1, aput_keys] at h1
        rcases h1 with rfl | h1
        · exact ⟨k', rfl, (Upto.succ ok hk hj _).2 (.inr (.inl rfl))⟩
        · obtain ⟨k, e, hu⟩ := (h.keys x).1 h1
          exact ⟨k, e, (Upto.succ ok hk hj _).2 (.inl hu)⟩
      · obtain ⟨k, e, hu⟩ := (hg.keys x).1 h1
        exact ⟨k, e, (Upto.succ ok hk hj _).2 (.inr (.inr hu))⟩
    · rintro ⟨k, rfl, hu⟩
      rcases (Upto.succ ok hk hj _).1 hu with h1 | rfl | h1
      · exact hi.old _ (by rw [hl1, aput_keys]; exact .inr ((h.keys _).2 ⟨k, rfl, h1⟩))
      · exact hi.old _ (by rw [hl1, aput_keys]; exact .inl rfl)
      · rcases hi.rest _ ((hg.keys _).2 ⟨k, rfl, h1⟩) with h2 | h2
        · exact h2
        · exact absurd h2 (hleft _)
  vals := fun p hp => by
    obtain ⟨c, h1, h2, h3, _⟩ := hi.vals p hp
    exact ⟨c, h1, h2, by omega⟩
  done := fun jj hjj q u hq hu => by
    rcases Nat.lt_or_ge jj j with h1 | h1
    · obtain ⟨b, hb⟩ := h.done jj h1 q u hq hu
      exact ⟨b, hext _ _ hb⟩
    · have : jj = j := by omega
      subst this
      rw [hj] at hu
      have := name_place ok hk hq (Option.some.inj hu)
      subst this
      exact ⟨b', hs⟩
  mod := ((h.mod.then hm2 (fun i hi e => by omega)).trans (hm3.mono fun _ _ h => h)).then hi.mod (fun i hi e => by omega)

set_option maxRecDepth 100000 in
set_option maxHeartbeats 2000000 in
theorem of_go (ok : NamesOk ss) (hd : DefAt W a ss) {i : Nat} (f : Nat)
    (ih : ∀ (w : World) (sets : List (Option Nat)) (opn : List Bool) (i : Nat), Beh W w bb nm a cap ss mb g1 g2 sets opn → i < ss.length → opn.count false ≤ f → (∀ o : Nat, opn[o]? = some true → TransGen (Ed ss) o i) → Calls Try.prog 14 #[.pointer (some ⟨bb, 0, none⟩), .int .i64 i] w fun e w' => OfAns W w bb nm a cap ss mb g1 g2 sets opn i e w')
    (h : Beh W w bb nm a cap ss mb g1 g2 sets opn) (hi : i < ss.length) (hs : sets[i]? = some none) (ho : opn[i]? = some false) (hf : opn.count false ≤ f + 1) (hr : ∀ o : Nat, opn[o]? = some true → TransGen (Ed ss) o i) :
    Calls Try.prog 14 #[.pointer (some ⟨bb, 0, none⟩), .int .i64 i] w fun e w' => OfAns W w bb nm a cap ss mb g1 g2 sets opn i e w' := by
  have hbd := hd.bnd
  obtain ⟨s, hsi⟩ : ∃ s, ss[i]? = some s := ⟨_, List.getElem?_eq_getElem hi⟩
  have hok := hd.all s (List.mem_of_getElem? hsi)
  have hab := hok.bnd
  obtain ⟨g, off, rfl⟩ := hd.some (by omega)
  obtain ⟨c0, c1, c2, c3, c4⟩ := h.cells
  obtain ⟨d1, d2⟩ := h.at1 hs
  obtain ⟨d3, d4⟩ := h.at2 ho
  have i1 : (i : Int) < (ss.length : Int) := by omega
  have hB1 := h.opened hi hs
  obtain ⟨e0, e1, e2, e3, e4⟩ := hB1.cells
  obtain ⟨q0, q1, q2, q3, q4, q5, q6, q7, q8⟩ := (hd.mod hB1.mod (fun _ _ h => h)).cells hsi
  have hB2 : Beh W ((w.setCell ⟨g2, i, none⟩ (.bool true)).alloc (.map #[] 0)) bb nm (some ⟨g, off, none⟩) cap ss mb g1 g2 sets (opn.set i true) := hB1.ext ((Mod.refl _ _).alloc _)
  obtain ⟨k0, k1, k2, k3, k4⟩ := hB2.cells
  obtain ⟨p0, p1, p2, p3, p4, p5, p6, p7, p8⟩ := (hd.mod hB2.mod (fun _ _ h => h)).cells hsi
  have hz := neqNil
  have hmm := @run_makeMap Try.prog
  have HI := hid ih
  have HD := hid hd
  have HOk := hid hok
  have HN := hid ok
  have H := hid h
  have HB1 := hid hB1
  have HB2 := hid hB2
  have Hs := hid hs
  have Ho := hid ho
  have Hsi := hid hsi
  have Hr := hid hr
  clear ih hd hok ok h hB1 hB2 hs ho hsi hr c0 c2 e0 e2 k0 k2 q0 q1 q2 q3 q4 q5 q6 q7 p0 p1 p2 p3 p4 p5 p6 p7
  go_enter Try.func14, Try.ntmps14
  go_wp2
  have hbb := lt_of_heap H.out.box
  have hg1 : g1 < w.heap.size := H.out.own1.lt g1 (blk_some.2 rfl)
  have hg2 : g2 < w.heap.size := H.out.own2.lt g2 (blk_some.2 rfl)
  have hmb := H.out.map.lt
  have hWw := H.out.mod.size
  have hl2 := H.out.len2
  have hcnt : (opn.set i true).count false ≤ f := by
    have := List.count_set (l := opn) (i := i) (a := true) (b := false) (by omega)
    rw [this]
    have e : opn[i]'(by omega) = false := by have := Ho.out; rw [List.getElem?_eq_getElem (by omega)] at this; exact Option.some.inj this
    rw [e]
    have hpos : 0 < opn.count false := List.count_pos_iff.2 (List.mem_of_getElem? Ho.out)
    simp
    omega
  go_loopw [52] (fun c wr => ORel W w bb nm (some ⟨g, off, none⟩) cap ss mb g1 g2 sets (opn.set i true) s w.heap.size c wr) (fun c _ => s.after.length - (intOf c).toNat)
  case atStart =>
    refine ⟨0, sets, [], Nat.zero_le _, rfl, HB2.out, fun _ _ h => h, fun _ _ h => .inl h, fun j c hc e => ?_, ?_, fun x => ?_, fun p hp => (by simp at hp), fun jj h => by omega, ?_⟩
    · obtain ⟨_, _, l, hl, _⟩ := H.out.maps j c hc
      have := hl.lt
      omega
    · have := MapAt.made KI.kv (w.setCell ⟨g2, i, none⟩ (.bool true))
      simpa using this
    · constructor
      · intro h; simp at h
      · rintro ⟨k, _, jj, h, _⟩; omega
    · exact (Mod.setCell (S := fun k => k = g1 ∨ k = g2) (Mod.refl _ _) (fun _ => .inr rfl) _).alloc _
  case round =>
    obtain ⟨j, sets', l, hj, rfl, hst⟩ := hrel
    have HS := hid hst
    clear hst c1 c3 c4 d1 d2 d3 d4 e1 e3 e4 q8 k1 k3 k4 p8
    by_cases hjl : j < s.after.length
    · obtain ⟨x, hx⟩ : ∃ x, s.after[j]? = some x := ⟨_, List.getElem?_eq_getElem hjl⟩
      obtain ⟨t, ht, htn⟩ := List.mem_map.1 (HN.out.2 s (List.mem_of_getElem? Hsi.out) x (List.mem_of_getElem? hx))
      subst htn
      obtain ⟨k', hk'⟩ := List.getElem?_of_mem ht
      have hkl : k' < ss.length := (List.getElem?_eq_some_iff.1 hk').1
      obtain ⟨ga, oa, haa⟩ := HOk.out.some (by omega)
      have hc := (HOk.out.mod HS.out.beh.mod (fun _ _ h => h)).cell haa hx
      have Hget := hid (aget_ent HN.out hk')
      obtain ⟨cv, hcv, hcv0, hcv1⟩ := get_val (B := 2 * j) (by omega) HS.out.vals k'
      obtain ⟨z0, z1, z2, z3, z4⟩ := HS.out.beh.cells
      have Hcv := hid hcv
      have Hx := hid hx
      have Hk' := hid hk'
      have HA := hid haa
      have hedge : Ed ss i k' := ⟨s, t, Hsi.out, hk', List.mem_of_getElem? hx⟩
      have Hedge := hid hedge
      rw [haa]
      clear hx hk' haa hcv ht hedge z0 z1 z3 z4
      go_wp2_with (first
        | (at_lookup; refine wpList_lookup_at rfl _ _ 38 false rfl KS Try.underlying38 (zeroInt _) mb _ t.name rfl rfl HS.out.beh.map ?_; rw [Hget.out]; simp only [Option.getD_some, Bool.false_eq_true, if_false])
        | (at_lookup; refine wpList_lookup_at rfl _ _ 47 false rfl KI Try.underlying47 (zeroInt _) w.heap.size _ (k' : Int) rfl rfl HS.out.map ?_; rw [Hcv.out]; simp only [Bool.false_eq_true, if_false])
        | (at_mapUpdate; refine wpList_update_any rfl _ _ _ 47 rfl KI Try.underlying47 w.heap.size _ (k' : Int) (.int .i64 (cv + 1)) rfl rfl rfl HS.out.map ?_; intro w2 hat hm2; have Hat := hid hat; have Hm2 := hid hm2; clear hat hm2))
      have hsbr := HS.out.map.lt
      have HB2' : Hid (Beh W w2 bb nm (some ⟨g, off, none⟩) cap ss mb g1 g2 sets' (opn.set i true)) := HS.out.beh.keep Hm2.out (fun k hk => by omega) (by omega) (by omega) (by omega) (by omega) (fun i b hb e => HS.out.ne i b hb e)
      refine (HI.out w2 sets' (opn.set i true) k' HB2'.out hkl hcnt (fun o ho => by
        rw [List.getElem?_set] at ho
        by_cases e : i = o
        · subst e; exact .single Hedge.out
        · rw [if_neg e] at ho; exact .tail (Hr.out o ho) Hedge.out)).mono ?_
      rintro e w3 (⟨sets'', b', rfl, hB3, hs3, hext, hnew, hm3⟩ | ⟨rfl, hcyc, hm3⟩)
      · obtain ⟨hb1, hb2, lk, hlk, hgood⟩ := hB3.maps k' b' hs3
        have hbne : b' ≠ w.heap.size := by
          rcases hnew k' b' hs3 with h1 | h1
          · exact HS.out.ne k' b' h1
          · have := Hm2.out.size; omega
        have HB3 := hid hB3
        have Hs3 := hid hs3
        have Hext := hid hext
        have Hnew := hid hnew
        have Hm3 := hid hm3
        have Hlk := hid hlk
        have Hgood := hid hgood
        have HL1 := hid (Hat.out.mod Hm3.out (fun h => by omega))
        have hs2 := Hm2.out.size
        have hs3' := Hm3.out.size
        clear hB3 hs3 hext hnew hm3 hlk hgood
        go_wp2_with (at_range; refine wpList_range_at rfl _ 47 rfl KI Try.underlying47 b' lk rfl Hlk.out ?_; intro w4 hrg4 hm4; have Hrg4 := hid hrg4; have Hm4 := hid hm4; clear hrg4 hm4)
        go_frame
        obtain ⟨wo, rfl⟩ : ∃ wo : World, wo = wr := ⟨_, rfl⟩
        go_loopg [12] lk.length (fun gg c wr => IRel w3 w.heap.size b' w3.heap.size lk (aput l k' (.int .i64 (cv + 1))) j gg c wr)
        case atStart =>
          refine ⟨_, _, Hrg4.out, HL1.out.mod Hm4.out (fun h => h), Hm4.out.mono fun _ _ h => h.elim, fun _ h => h, fun _ h => .inl h, fun _ h => .inr h, fun p hp => ?_⟩
          rcases aput_mem hp with rfl | hp
          · exact ⟨cv + 1, rfl, by omega, by omega, fun _ => by omega⟩
          · obtain ⟨c, h1, h2, h3⟩ := HS.out.vals p hp
            exact ⟨c, h1, h2, by omega, fun _ => by omega⟩
        case round =>
          obtain ⟨left, l2, hI⟩ := hrel
          have HIn := hid hI
          clear hI
          have hr3 : w3.heap.size < wr.heap.size := HIn.out.rng.lt
          go_wp2_with (at_next; refine wpList_next_at rfl _ rfl KI b' w3.heap.size lk left _ rfl HIn.out.rng ?_ ?_)
          · intro hnone
            have Hnone := hid hnone
            clear hnone
            go_wp2
            go_roundw
            case rel => exact ⟨j + 1, sets'', l2, by omega, by go_num, HS.out.next HN.out Hx.out Hk'.out rfl Hm2.out HB3.out Hs3.out Hext.out Hnew.out Hm3.out Hgood.out HIn.out Hnone.out (by omega) hbb hg1 hg2 hmb hWw hsbr⟩
            case measure => simp [intOf]; omega
          · intro m v w5 cnt' hlm hmem hrg5 hlt5 hm5 hen
            have e5 : KI.kv m = .int .i64 m := rfl
            rw [e5] at hen
            obtain ⟨cm, hcm, hcm0, hcm1⟩ := get_val2 (B := 2 * j + 1) (by omega) HIn.out.vals m hlm
            have Hcm := hid hcm
            have Hlm := hid hlm
            have Hmem := hid hmem
            have Hrg5 := hid hrg5
            have Hm5 := hid hm5
            have HMap5 := hid (HIn.out.map.mod Hm5.out (by omega))
            clear hcm hlm hmem hrg5 hm5
            go_wp2_with (first
              | (at_lookup; refine wpList_lookup_at rfl _ _ 47 false rfl KI Try.underlying47 (zeroInt _) w.heap.size _ m rfl rfl HMap5.out ?_; rw [Hcm.out]; simp only [Bool.false_eq_true, if_false])
              | (at_mapUpdate; refine wpList_update_any rfl _ _ _ 47 rfl KI Try.underlying47 w.heap.size _ m (.int .i64 (cm + 1)) rfl rfl rfl HMap5.out ?_; intro w6 hat6 hm6; have Hat6 := hid hat6; have Hm6 := hid hm6; clear hat6 hm6))
            go_roundg cnt'
            case measure => omega
            case rel =>
              refine ⟨_, _, Hrg5.out.mod Hm6.out (by omega) (by omega), Hat6.out, ((HIn.out.mod.then Hm5.out (fun i hi e => by omega)).then Hm6.out (fun i hi e => e)), fun x hx => ?_, fun x hx => ?_, fun x hx => ?_, fun p hp => ?_⟩
              · rw [aput_keys]; exact .inr (HIn.out.old x hx)
              · rw [aput_keys] at hx
                rcases hx with rfl | hx
                · exact .inr (List.mem_map.2 ⟨_, Hmem.out, rfl⟩)
                · exact HIn.out.only x hx
              · rw [aput_keys]
                rcases HIn.out.rest x hx with h1 | h1
                · exact .inl (.inr h1)
                · by_cases e : x = m
                  · exact .inl (.inl e)
                  · exact .inr ⟨h1, e⟩
              · rcases aput_mem hp with rfl | hp
                · exact ⟨cm + 1, rfl, by omega, by omega, fun h => absurd rfl h.2⟩
                · obtain ⟨c, h1, h2, h3, h4⟩ := HIn.out.vals p hp
                  exact ⟨c, h1, h2, h3, fun h => h4 h.1⟩
      · have Hcyc := hid hcyc
        have Hm3 := hid hm3
        clear hcyc hm3
        go_wp2
        go_ret2
        exact .inr ⟨rfl, Hcyc.out, (HS.out.mod.then Hm2.out (fun i hi e => by omega)).trans Hm3.out⟩
    · have hjm : j = s.after.length := by omega
      subst hjm
      have hst := HS.out
      obtain ⟨z0, z1, z2, z3, z4⟩ := hst.beh.cells
      have hlen1 := hst.beh.len1
      obtain ⟨xi, hxi⟩ : ∃ x, sets'[i]? = some x := ⟨_, List.getElem?_eq_getElem (by omega)⟩
      obtain ⟨y1, y2⟩ := hst.beh.at1 hxi
      have hoi : (opn.set i true)[i]? = some true := by rw [List.getElem?_set, if_pos rfl, if_pos (by omega)]
      obtain ⟨y3, y4⟩ := hst.beh.at2 hoi
      have hgood : Good ss i l := ⟨fun x => by
          rw [hst.keys x]
          constructor
          · rintro ⟨k, e, h⟩; exact ⟨k, e, (Upto.all Hsi.out k).1 h⟩
          · rintro ⟨k, e, h⟩; exact ⟨k, e, (Upto.all Hsi.out k).2 h⟩, fun p hp => by
          obtain ⟨c, h1, h2, h3⟩ := hst.vals p hp
          exact ⟨c, h1, h2, by omega⟩⟩
      have hdone : ∀ k, Ed ss i k → ∃ b', sets'[k]? = some (some b') := fun k ⟨s', t, h1, h2, h3⟩ => by
        rw [Hsi.out] at h1
        cases h1
        obtain ⟨jj, hjj⟩ := List.getElem?_of_mem h3
        exact hst.done jj (List.getElem?_eq_some_iff.1 hjj).1 k t h2 hjj
      have hsto := hst.beh.stores hi w.heap.size
      have hopn : (opn.set i true).set i false = opn := by
        rw [List.set_set]
        apply List.ext_getElem?
        intro q
        rw [List.getElem?_set]
        by_cases e : i = q
        · subst e; rw [if_pos rfl, if_pos (by omega), Ho.out]
        · rw [if_neg e]
      have hfin : ∀ w' : World, Mod (fun k => k = g1 ∨ k = g2) wr w' → Own w' 47 1 (some ⟨g1, 0, none⟩) ss.length ss.length ((sets'.set i (some w.heap.size)).map .map) → Own w' 4 1 (some ⟨g2, 0, none⟩) ss.length ss.length (((opn.set i true).set i false).map .bool) → OfAns W w bb nm (some ⟨g, off, none⟩) cap ss mb g1 g2 sets opn i (.returned (.tuple #[.map (some w.heap.size), .bool true])) w' := fun w' hm o1 o2 => by
        have hB := hst.beh.closed hi (by omega) (by omega) hst.map hgood hoi hdone hm o1 o2
        rw [hopn] at hB
        refine .inl ⟨_, _, rfl, hB, by rw [List.getElem?_set, if_pos rfl, if_pos (by omega)], fun q c hc => ?_, fun q c hc => ?_, hst.mod.trans hm⟩
        · rw [List.getElem?_set, if_neg (fun e => by subst e; rw [Hs.out] at hc; cases hc)]
          exact hst.ext q c hc
        · rw [List.getElem?_set] at hc
          by_cases e : i = q
          · subst e
            rw [if_pos rfl, if_pos (by omega)] at hc
            cases hc
            exact .inr (Nat.le_refl _)
          · rw [if_neg e] at hc
            exact hst.new q c hc
      have Hfin := hid hfin
      have Hsto := hid hsto
      have n3 := H.out.n3
      clear hst hxi hoi hgood hdone hsto hopn hfin z0 z1 z2
      go_wp2
      go_region
      all_goals
        go_wp2
        go_ret2
        first
          | exact Hfin.out _ Hsto.out.1.1.drew (Hsto.out.1.2.1.mod (S := fun _ => False) (Mod.refl _ _).drew (fun _ _ h => h)) (Hsto.out.1.2.2.mod (S := fun _ => False) (Mod.refl _ _).drew (fun _ _ h => h))
          | exact Hfin.out _ Hsto.out.2.1.drew (Hsto.out.2.2.1.mod (S := fun _ => False) (Mod.refl _ _).drew (fun _ _ h => h)) (Hsto.out.2.2.2.mod (S := fun _ => False) (Mod.refl _ _).drew (fun _ _ h => h))

/-- What of says and leaves. -/
theorem of_any (ok : NamesOk ss) (hd : DefAt W a ss) (f : Nat) : ∀ (w : World) (sets : List (Option Nat)) (opn : List Bool) (i : Nat), Beh W w bb nm a cap ss mb g1 g2 sets opn → i < ss.length → opn.count false ≤ f → (∀ o : Nat, opn[o]? = some true → TransGen (Ed ss) o i) → Calls Try.prog 14 #[.pointer (some ⟨bb, 0, none⟩), .int .i64 i] w fun e w' => OfAns W w bb nm a cap ss mb g1 g2 sets opn i e w' := by
  induction f with
  | zero =>
    intro w sets opn i h hi hf hr
    have h1 := h.len1
    have h2 := h.len2
    cases hs : sets[i]? with
    | none => have := List.getElem?_eq_none_iff.1 hs; omega
    | some x =>
      cases x with
      | some b => exact of_done h hs hd.bnd
      | none =>
        cases ho : opn[i]? with
        | none => have := List.getElem?_eq_none_iff.1 ho; omega
        | some o =>
          cases o with
          | true => exact of_open h hi hs ho hd.bnd (hr i ho)
          | false => have := List.count_pos_iff.2 (List.mem_of_getElem? ho); omega
  | succ f ih =>
    intro w sets opn i h hi hf hr
    have h1 := h.len1
    have h2 := h.len2
    cases hs : sets[i]? with
    | none => have := List.getElem?_eq_none_iff.1 hs; omega
    | some x =>
      cases x with
      | some b => exact of_done h hs hd.bnd
      | none =>
        cases ho : opn[i]? with
        | none => have := List.getElem?_eq_none_iff.1 ho; omega
        | some o =>
          cases o with
          | true => exact of_open h hi hs ho hd.bnd (hr i ho)
          | false => exact of_go ok hd f ih h hi hs ho hf hr
end

end Go.Proofs.Ythbfgeaojgfafaa
