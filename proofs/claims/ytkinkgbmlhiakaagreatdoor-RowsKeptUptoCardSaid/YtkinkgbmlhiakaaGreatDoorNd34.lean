/- merged: RoA RoAll RoFq RoFd -/
import Derived.Test.YtkinkgbmlhiakaaGreatDoorNd32
import Derived.Test.YtkinkgbmlhiakaaGreatDoorNd13
import Derived.Test.YtkinkgbmlhiakaaGreatDoorNd33
namespace Go.Proofs.YtkinkgbmlhiakaaGreatDoor
section
open Go Go.RowKit
def idxQ {α : Type} (f : α -> Bool) (l : List α) : Int := match l.findIdx? f with
 | some k => (k : Int)
 | none => -1
theorem jGw {α : Type} {f : α -> Bool} {l : List α} {k : Nat} {x : α} (h : ∀ j y, j < k -> l[j]? = some y -> f y = false) (hx : l[k]? = some x) (hf : f x = true) : idxQ f l = (k : Int) := by
 obtain ⟨hlt, he⟩ := List.getElem?_eq_some_iff.1 hx; have : l.findIdx? f = some k := by
  rw [List.findIdx?_eq_some_iff_getElem]; refine ⟨hlt, by rw [he]; exact hf, fun j hj => ?_⟩
  rw [h j l[j] hj (List.getElem?_eq_getElem _)]; simp
 unfold idxQ; rw [this]
theorem jCe {α : Type} {f : α -> Bool} {l : List α} (h : ∀ j y, j < l.length -> l[j]? = some y -> f y = false) : idxQ f l = -1 := by
 have : l.findIdx? f = none := by
  rw [List.findIdx?_eq_none_iff]; intro x hx; obtain ⟨j, hj⟩ := List.getElem?_of_mem hx; exact h j x (List.getElem?_eq_some_iff.1 hj).1 hj
 unfold idxQ; rw [this]
theorem jCd {α : Type} (f : α -> Bool) : ∀ l : List α, (idxQ (fun x => !f x) l = -1 /\ l.takeWhile f = l) \/ ∃ k, k <= l.length /\ idxQ (fun x => !f x) l = (k : Nat) /\ l.takeWhile f = l.take k := fun l => by
 unfold idxQ; cases h : l.findIdx? (fun x => !f x) with
 | none =>
  rw [List.findIdx?_eq_none_iff] at h; refine .inl ⟨rfl, ?_⟩; have : ∀ x ∈ l, f x = true := fun x hx => by simpa using h x hx
  clear h; induction l with
  | nil => rfl
  | cons x r ih => rw [List.takeWhile_cons_of_pos (this x List.mem_cons_self), ih (fun y hy => this y (List.mem_cons_of_mem _ hy))]
 | some k =>
  obtain ⟨hlt, hf, hj⟩ := List.findIdx?_eq_some_iff_getElem.1 h; refine .inr ⟨k, by omega, rfl, ?_⟩
  have h1 : ∀ j, j < k -> ∀ x, l[j]? = some x -> f x = true := fun j hjk x hx => by
   obtain ⟨hl, rfl⟩ := List.getElem?_eq_some_iff.1 hx
   simpa using hj j hjk
  have h2 : ∀ x, l[k]? = some x -> f x = false := fun x hx => by
   obtain ⟨hl, rfl⟩ := List.getElem?_eq_some_iff.1 hx
   simpa using hf
  clear h hf hj; induction l generalizing k with
  | nil => simp at hlt
  | cons x r ih =>
   cases k with
   | zero => rw [List.takeWhile_cons_of_neg (by rw [h2 x rfl]; simp)]; rfl
   | succ k =>
    rw [List.takeWhile_cons_of_pos (h1 0 (by omega) x rfl), List.take_succ_cons, ih k (by simpa using hlt) (fun j hj y hy => h1 (j + 1) (by omega) y hy) (fun y hy => h2 y hy)]
theorem qYf {α : Type} {w : World} {size : Nat} {f : α -> List Value} {a : Option Addr} {ls : List α} (hf : ∀ x, (f x).length = size) (h : Lies w size f a ls) (k : Nat) : Lies w size f a (ls.take k) := by
 have e := qRy hf ls k; refine ⟨⟨?_, fun ha => ?_, fun a' ha j u hu => ?_⟩, fun h0 => h.spot (by rw [List.length_take] at h0; omega), fun b hb hk => h.lt b (by rw [List.length_take] at hb; omega) hk⟩
 ·rw [qDo hf]
 ·have := h.src.2.1 ha; rw [List.length_take]; omega
 ·rw [<- e, List.getElem?_take] at hu; split at hu
  ·exact h.src.2.2 a' ha j u hu
  ·cases hu
theorem jIy (s : ByteArray) (p : KV) : Lib.hasPrefix p.1.data.toList s.data.toList = preB s p := rfl
set_option maxRecDepth 100000
theorem jKj {w : World} {b : Nat} {s : ByteArray} (hb : w.cell? ⟨b, 0, none⟩ = some (.string s)) (p : KV) : Calls Tryz.prog 79 #[.agg #[.string p.1, .string p.2], .pointer (some ⟨b, 0, none⟩)] w fun e w' => e = .returned (.bool (!preB s p)) /\ Mod (fun _ => False) w w' := by
 have hma : Mod (fun _ => False) w (w.alloc (.cells #[.string p.1, .string p.2] 41)) := (Mod.refl _ _).alloc _
 have HM := hid hma; have hb2 : (w.alloc (.cells #[.string p.1, .string p.2] 41)).cell? ⟨b, 0, none⟩ = some (.string s) := (⟨_, hma⟩ : Ext w).cell hb; have HPx := hid (fun W : World => Tryz.strings_HasPrefix p.1 s W)
 rw [jIy] at HPx; clear hma; cases hp : preB s p with
 | true =>
  rw [hp] at HPx; clear hp; go_enter Tryz.func79, Tryz.ntmps79
  go_wp2_with (go_at_call 54; refine (HPx.out _).mono ?_; rintro e w2 ⟨rfl, rfl⟩)
  go_ret; exact ⟨rfl, HM.out⟩
 | false =>
  rw [hp] at HPx; clear hp; go_enter Tryz.func79, Tryz.ntmps79
  go_wp2_with (go_at_call 54; refine (HPx.out _).mono ?_; rintro e w2 ⟨rfl, rfl⟩)
  go_ret; exact ⟨rfl, HM.out⟩
set_option maxHeartbeats 1000000 in
theorem jJu {w : World} {a : Option Addr} {l : List KV} (cap b : Nat) (p : KV -> Bool) (hl : Lies w 2 kcs a l) (hn : l.length <= 140737488351232)
  (hf : ∀ (w1 : World) (x : KV), Mod (fun _ => False) w w1 -> x ∈ l -> Calls Tryz.prog 79 #[.agg #[.string x.1, .string x.2], .pointer (some ⟨b, 0, none⟩)] w1 fun e w' => e = .returned (.bool (p x)) /\ Mod (fun _ => False) w1 w') :
  Calls Tryz.prog 78 #[.slice a l.length cap, .func (.func 79) #[] #[.pointer (some ⟨b, 0, none⟩)]] w fun e w' => e = .returned (.int .i64 (idxQ p l)) /\ Mod (fun _ => False) w w' := by
 have HL := hid hl; have HF := hid hf; clear hl hf; go_enter Tryz.func78, Tryz.ntmps78
 go_wp2
 go_loopw [8] (fun c wr => ∃ k : Nat, k <= l.length /\ c = .int .i64 (k : Int) /\ (∀ j y, j < k -> l[j]? = some y -> p y = false) /\ Mod (fun _ => False) w wr) (fun c _ => l.length - (intOf c).toNat)
 case atStart => exact ⟨0, Nat.zero_le _, rfl, (fun j y h => by omega), Mod.refl _ _⟩
 case round =>
  obtain ⟨k, hk, rfl, hno, hm⟩ := hrel; have HNo := hid hno; have HM := hid hm; clear hno hm; by_cases hlt : k < l.length
  ·obtain ⟨x, hx⟩ : ∃ x, l[k]? = some x := ⟨_, List.getElem?_eq_getElem hlt⟩; have hlc := HL.out.ext HM.out; obtain ⟨g, off, rfl⟩ := hlc.some (by omega)
   have q0 := hlc.cell qIf hx (j := 0) rfl; have q1 := hlc.cell qIf hx (j := 1) rfl; have HX := hid hx; have HC := hid (HF.out wr x HM.out (List.mem_of_getElem? hx)); clear hx hlc; rw [Nat.add_zero] at q0; go_wp2_with fail
   refine HC.out.mono ?_; rintro e w2 ⟨rfl, hm2⟩; have HM2 := hid hm2; clear hm2 q0 q1; cases hp : p x with
   | true =>
    have HV : Hid (idxQ p l = (k : Int)) := hid (jGw HNo.out HX.out hp); clear hp; go_wp2_with fail
    go_ret; exact ⟨by rw [HV.out]; rfl, HM.out.trans HM2.out⟩
   | false =>
    have HP := hid hp; clear hp; go_wp2_with fail
    go_roundw
    case rel =>
     refine ⟨k + 1, by omega, by go_num, fun j y hj hy => ?_, HM.out.trans HM2.out⟩
     by_cases hjk : j = k
     ·subst hjk; rw [HX.out] at hy; cases hy
      exact HP.out
     ·exact HNo.out j y (by omega) hy
    case measure => simp [intOf]; omega
  ·have hke : k = l.length := by omega
   subst hke; have HV : Hid (idxQ p l = -1) := hid (jCe HNo.out); go_wp2_with fail
   go_ret; exact ⟨by rw [HV.out]; rfl, HM.out⟩
def jIk (w : World) (L : List KV) (e : Ending) (w' : World) : Prop := ∃ la cap, e = .returned (.slice la L.length cap) /\ Lies w' 2 kcs la L /\ Mod (fun _ => False) w w'
set_option maxHeartbeats 2000000 in
theorem qOq {w : World} {B : TB} {T : TM} {D : Dsk} {k : Nat} {l : List KV} {N : Nat} (h : Here w B T D k l N) (s : ByteArray) :
  Calls Tryz.prog 38 #[.pointer (some ⟨B.tb, 0, none⟩), .string s] w (jIk w (l.filter (preB s))) := by
 have hll := h.len.1; have hma : Mod (fun _ => False) w (w.alloc (.cells #[.string s] 9)) := (Mod.refl _ _).alloc _
 have hbx : (w.alloc (.cells #[.string s] 9)).heap[w.heap.size]? = some (.cells #[.string s] 9 (0, 0)) := heap_alloc_new _ _; have HM := hid hma; have HBx := hid hbx; have HH := hid (h.ext hma); have HLn := hid (qWe HH.out); have hG : qSw l s (l.length : Int) = l.filter (geK s) := by
  unfold qSw; refine List.take_of_length_le ?_; have := List.length_filter_le (geK s) l; omega
 have HSc := hid (fun (W : World) (hm : Mod (fun _ => False) (w.alloc (.cells #[.string s] 9)) W) => (by have := jCi (HH.out.ext hm) s (l.length : Int); rw [hG] at this; exact this : Calls Tryz.prog 12 #[.pointer (some ⟨B.tb, 0, none⟩), .string s, .int .i64 (l.length : Int)] W (qNb W (l.filter (geK s)))))
 have hgl : (l.filter (geK s)).length <= 8388608 := by have := List.length_filter_le (geK s) l; omega
 have HBg := hid (jDu (s := s) h.std.ti.1.asc); have b0 : (w.alloc (.cells #[.string s] 9)).cell? ⟨w.heap.size, 0, none⟩ = some (.string s) := by rw [cell_of_row _ _ _ _ _ _ hbx]; rfl
 clear hma hbx hG h hll; generalize l.filter (geK s) = G at *; go_enter Tryz.func38, Tryz.ntmps38
 go_upto_region 1 with fail
 generalize w.alloc (.cells #[.string s] 9) = C at *; go_region_held3 (fun w' => w'.cell? ⟨w.heap.size, 0, none⟩ = some (.string s))
  (first | exact b0 | exact c0 | go_keep)
  (first
   | (go_at_call 77; (with_reducible refine (qWe (HH.out.ext (Mod.refl _ C).drew)).mono ?_); rintro e w1 ⟨rfl, rfl⟩)
   | (go_at_call 12; (with_reducible refine (HSc.out _ (Mod.refl _ C).drew).mono ?_); rintro e w2 ⟨xa, xc, rfl, ho, hb, hm2⟩; have hcap := ho.2.1; have HO := hid ho.lies; have HM2 : Hid (Mod (fun _ => False) C w2) := hid ((Mod.refl _ C).drew.trans hm2); have c0 : w2.cell? ⟨w.heap.size, 0, none⟩ = some (.string s) := (⟨_, HM2.out⟩ : Ext C).cell b0; clear ho hb hm2))
 all_goals
  have HI := hid (jJu (cap := xc) (b := w.heap.size) (p := fun x => !preB s x) HO.out (by omega) (fun w1 x hm _ => jKj ((⟨_, hm⟩ : Ext _).cell c0) x))
  have hk := jCd (preB s) G; rw [HBg.out] at hk; go_upto_region 3 with (go_at_call 78; refine HI.out.mono ?_; rintro e w3 ⟨rfl, hm3⟩; have HO3 := hid (HO.out.ext hm3); have HM3 := hid (HM.out.trans (HM2.out.trans hm3)); clear hm3)
  rcases hk with ⟨e1, e2⟩ | ⟨k, h1, e1, e2⟩
  ·rw [e1]; rw [<- e2] at HO3; have dl : decide ((-1 : Int) < 0) = true := rfl; go_wp2_with fail
   go_ret; exact ⟨xa, xc, by rw [e2]; rfl, HO3.out, HM3.out⟩
  ·rw [e1]; have dl : decide ((k : Int) < 0) = false := by simp
   have hkc : k <= xc := by omega
   have HF := hid (qYf qIf HO3.out k); rw [<- e2] at HF; go_wp2_with fail
   go_ret; exact ⟨xa, _, by rw [e2, List.length_take, Nat.min_eq_left h1]; rfl, HF.out, HM3.out⟩
end
section
open Go Go.RowKit
structure RwV where
 a : Option Addr
 cap : Nat
 vs : List Vl
abbrev RwV.c (x : RwV) : List Value := [.slice x.a x.vs.length x.cap]
theorem qOy (x : RwV) : x.c.length = 1 := rfl
theorem jCc : (Tryz.prog.info? 26).map (fun i => (i.zero, i.size, i.bytes)) = some (some (.slice none 0 0), 1, 24) := by kernel_rfl
structure qOs (w : World) (la : Option Addr) (xs : List RwV) : Prop where
 lies : Lies w 1 RwV.c la xs
 rows : ∀ x ∈ xs, Lies w 2 Vl.cs x.a x.vs
 ok : ∀ x ∈ xs, ∀ v ∈ x.vs, v.Ok /\ v.s.size <= 4194304
theorem qOs.ext {w w' : World} {la : Option Addr} {xs : List RwV} (h : qOs w la xs) (hm : Mod (fun _ => False) w w') : qOs w' la xs := ⟨h.lies.ext hm, fun x hx => (h.rows x hx).ext hm, h.ok⟩
def jMl (name : Int) (cols : List Int) (keys idx : Int) (L : List KV) (xs : List RwV) : Prop := xs.length = L.length /\ ∀ (i : Nat) (p : KV) (x : RwV), L[i]? = some p -> xs[i]? = some x -> qEr name cols keys idx p.1 p.2 x.vs /\ x.vs.length = cols.length
def jMm (w : World) (name : Int) (cols : List Int) (keys idx : Int) (L : List KV) (e : Ending) (w' : World) : Prop :=
 Mod (fun _ => False) w w' /\ ((∃ xs la cap, jMl name cols keys idx L xs /\ e = .returned (.tuple #[.slice la xs.length cap, .int .i64 0]) /\ qOs w' la xs) ∨
  ((∃ p ∈ L, ∀ r, ¬ qEr name cols keys idx p.1 p.2 r) /\ e = .returned (.tuple #[.slice none 0 0, .int .i64 60])))
structure jEd (v wr : World) (name : Int) (cols : List Int) (keys idx : Int) (L : List KV) (i : Nat) (oa : Option Addr) (oc : Nat) (xs : List RwV) : Prop where
 own : Own wr 26 1 oa i oc (xs.flatMap RwV.c)
 new : ∀ b, blk oa b -> v.heap.size <= b
 mod : Mod (fun _ => False) v wr
 len : xs.length = i
 dec : ∀ (j : Nat) (p : KV) (x : RwV), L[j]? = some p -> xs[j]? = some x -> qEr name cols keys idx p.1 p.2 x.vs /\ x.vs.length = cols.length
 rows : ∀ x ∈ xs, Lies wr 2 Vl.cs x.a x.vs
 apart : ∀ x ∈ xs, ∀ b, blk x.a b -> ¬ blk oa b
 ok : ∀ x ∈ xs, ∀ v ∈ x.vs, v.Ok /\ v.s.size <= 4194304
 ne : ∀ x ∈ xs, 0 < x.vs.length
theorem jEd.next {v wr z w4 w5 : World} {name : Int} {cols : List Int} {keys idx : Int} {L : List KV} {i : Nat} {oa oa' : Option Addr} {oc oc' : Nat} {xs : List RwV} (h : jEd v wr name cols keys idx L i oa oc xs) {p : KV} (hp : L[i]? = some p) {r : List Vl} {ra : Option Addr} {rc : Nat}
  (hd : qEr name cols keys idx p.1 p.2 r) (hl : r.length = cols.length) (hc : 1 <= cols.length) (hok : ∀ v ∈ r, v.Ok /\ v.s.size <= 4194304) (hm1 : Mod (fun _ => False) wr z) (hr : Lies w4 2 Vl.cs ra r) (hrn : ∀ b, blk ra b -> z.heap.size <= b) (hm2 : Mod (fun _ => False) z w4)
  (ho : Own w5 26 1 oa' (i + 1) oc' (xs.flatMap RwV.c ++ [.slice ra r.length rc])) (hm3 : Mod (blk oa) w4 w5) (hb : ∀ b, blk oa' b -> blk oa b \/ w4.heap.size <= b) : jEd v w5 name cols keys idx L (i + 1) oa' oc' (xs ++ [⟨ra, rc, r⟩]) := by
 have hlt : ∀ b, blk oa b -> b < wr.heap.size := h.own.lt; have hs1 := hm1.size; have hs2 := hm2.size; have hs0 := h.mod.size; have hrlt : ∀ b, blk ra b -> b < w4.heap.size := fun b hb => hr.lt b (by omega) hb
 have hxlt : ∀ x ∈ xs, ∀ b, blk x.a b -> b < wr.heap.size := fun x hx b hb => (h.rows x hx).lt b (h.ne x hx) hb
 refine ⟨by rw [List.flatMap_append]; exact ho, fun b hb' => ?_, ((h.mod.trans hm1).trans hm2).then hm3 (fun b hb' e => by have := h.new b e; omega), by rw [List.length_append, h.len]; rfl, fun j q x hq hx => ?_, fun x hx => ?_, fun x hx b hb' e => ?_, fun x hx => ?_, fun x hx => ?_⟩
 ·rcases hb b hb' with e | e
  ·exact h.new b e
  ·omega
 ·rw [List.getElem?_append] at hx; split at hx
  ·exact h.dec j q x hq hx
  ·rename_i hj
   have hlen := h.len; have hj2 : j = i := by
    have := (List.getElem?_eq_some_iff.1 hx).1; simp at this
    omega
   subst hj2; rw [hp] at hq; cases hq
   rw [hlen, Nat.sub_self] at hx; cases hx
   exact ⟨hd, hl⟩
 ·rcases List.mem_append.1 hx with hx | hx
  ·exact (((h.rows x hx).ext hm1).ext hm2).mod hm3 (fun _ b hb => h.apart x hx b hb)
  ·rw [List.mem_singleton] at hx; subst hx; exact hr.mod hm3 (fun _ b hb e => by have := hrn b hb; have := hlt b e; omega)
 ·rcases List.mem_append.1 hx with hx | hx
  ·rcases hb b e with e | e
   ·exact h.apart x hx b hb' e
   ·have := hxlt x hx b hb'; omega
  ·rw [List.mem_singleton] at hx; subst hx; have h1 := hrn b hb'; have h2 := hrlt b hb'; rcases hb b e with e | e
   ·have := hlt b e; omega
   ·omega
 ·rcases List.mem_append.1 hx with hx | hx
  ·exact h.ok x hx
  ·rw [List.mem_singleton] at hx; subst hx; exact hok
 ·rcases List.mem_append.1 hx with hx | hx
  ·exact h.ne x hx
  ·rw [List.mem_singleton] at hx; subst hx; show 0 < r.length; omega
theorem qNd.norm {w w' : World} {name : Int} {cols : List Int} {keys idx : Int} {ks vs : ByteArray} {e : Ending} (h : qNd w name cols keys idx ks vs e w') :
  ∃ (la : Option Addr) (n cap : Nat) (E : Int), e = .returned (.tuple #[.slice la n cap, .int .i64 E]) /\ Mod (fun _ => False) w w' ∧
   ((E = 0 /\ ∃ r : List Vl, r.length = n /\ qEr name cols keys idx ks vs r /\ r.length = cols.length /\ (∀ v ∈ r, v.Ok /\ v.s.size <= 4194304) /\ Lies w' 2 Vl.cs la r /\ ∀ b, blk la b -> w.heap.size <= b) \/ (E = 60 /\ ∀ r, ¬ qEr name cols keys idx ks vs r)) := by
 obtain ⟨hm, ⟨r, la, cap, h1, h2, h3, rfl, h4, h5⟩ | ⟨h1, rfl⟩⟩ := h
 ·exact ⟨la, r.length, cap, 0, rfl, hm, .inl ⟨rfl, r, rfl, h1, h2, h3, h4, h5⟩⟩
 ·exact ⟨none, 0, 0, 60, rfl, hm, .inr ⟨rfl, h1⟩⟩
set_option maxRecDepth 100000
set_option maxHeartbeats 4000000 in
theorem jHw {w : World} {ca : Option Addr} {cols : List Int} {name keys idx : Int} {cc : Nat} (x : Value) {L : List KV} (hl : Lies w 1 oneI ca cols) (hn : cols.length <= 4194304) (hf : qJj name cols keys idx = true) (hL : L.length <= 8388608) (hsz : ∀ p ∈ L, p.1.size <= 4194304 /\ p.2.size <= 4194304)
  (hb : ∀ V : World, Mod (fun _ => False) w V -> Calls Tryz.prog 38 #[x, .string (ba (qAe name.toNat 0))] V (jIk V L)) :
  Calls Tryz.prog 14 #[x, .agg #[.int .u8 name, .slice ca cols.length cc, .int .i64 keys, .int .i64 idx]] w (jMm w name cols keys idx L) := by
 obtain ⟨i0, hi0, hz0, hz1, hz2⟩ := info_parts jCc; have hma : Mod (fun _ => False) w (w.alloc (.cells #[.int .u8 name, .slice ca cols.length cc, .int .i64 keys, .int .i64 idx] 24)) := (Mod.refl _ _).alloc _
 have ha : (w.alloc (.cells #[.int .u8 name, .slice ca cols.length cc, .int .i64 keys, .int .i64 idx] 24)).heap[w.heap.size]? = some (.cells #[.int .u8 name, .slice ca cols.length cc, .int .i64 keys, .int .i64 idx] 24 (0, 0)) := heap_alloc_new _ _; obtain ⟨_, n1, n2, k1, k2, _, _⟩ := qJl hf; have HM := hid hma; have HF := hid (qLq name keys idx cc (hl.ext hma) (by omega))
 rw [hf] at HF; have HL := hid (hl.ext hma); have HSz := hid hsz; have HBg := hid (fun (V : World) (hm : Mod (fun _ => False) (w.alloc (.cells #[.int .u8 name, .slice ca cols.length cc, .int .i64 keys, .int .i64 idx] 24)) V) => hb V (hma.trans hm))
 have HRow := hid (fun (V : World) (hm : Mod (fun _ => False) (w.alloc (.cells #[.int .u8 name, .slice ca cols.length cc, .int .i64 keys, .int .i64 idx] 24)) V) => row4 ((hm.block _ (lth ha) (fun h => h)).trans ha))
 have HCv : Hid (∀ W : World, (convert 128 9 (.slice (some ⟨W.heap.size, 0, none⟩) 2 2)).run Tryz.prog (W.alloc (.cells #[.int .u8 name, .int .u8 0] 5)) = .ok (.string (ba (qAe name.toNat 0))) (W.alloc (.cells #[.int .u8 name, .int .u8 0] 5))) := hid (fun W =>
  run_convert_bytes_back (P := Tryz.prog) _ 128 9 5 ⟨W.heap.size, 0, none⟩ 2 (qAe name.toNat 0) Tryz.underlying128 Tryz.underlying5 Tryz.underlying9 (fun j hj => by
   rw [Addr.add_lit, cell_of_row _ _ _ _ _ _ (heap_alloc_new _ _)]; have : j = 0 \/ j = 1 := by simp [qAe] at hj; omega
   rcases this with rfl | rfl
   ·simp [qAe]; omega
   ·simp [qAe]))
 obtain ⟨b0, b1, b2, b3⟩ := row4 ha; have hcl : 1 <= cols.length := by omega
 clear hma ha hl hf hb hsz; go_enter Tryz.func14, Tryz.ntmps14
 go_upto_region 1 with fail
 generalize w.alloc (.cells #[.int .u8 name, .slice ca cols.length cc, .int .i64 keys, .int .i64 idx] 24) = C at *; go_upto_region 5 with (first
  | (go_at_call 37; refine HF.out.mono ?_; rintro e w1 ⟨rfl, hm⟩; have HM1 := hid hm; clear b0 b1 b2 b3; obtain ⟨b0, b1, b2, b3⟩ := HRow.out w1 hm; have hcv := HCv.out w1; clear hm)
  | (go_at_call 38; refine (HBg.out _ (HM1.out.alloc _)).mono ?_; rintro e w2 ⟨la, lc, rfl, hl2, hm2⟩; have HL2 := hid hl2; have HM2 := hid ((HM1.out.alloc _).trans hm2); clear hl2 hm2))
 clear b0 b1 b2 b3 HF HBg HCv hcv; have HDec := hid (fun (V : World) (hm : Mod (fun _ => False) w2 V) (p : KV) (hp : p ∈ L) => qKt (w := V) name keys idx cc p.1 p.2 (HL.out.ext (HM2.out.trans hm)) hn (HSz.out p hp).1 (HSz.out p hp).2)
 have HRow2 := hid (fun (V : World) (hm : Mod (fun _ => False) w2 V) => HRow.out V (HM2.out.trans hm))
 have HI := hid hi0; have HI0 := hid hz0; have HI1 := hid hz1; have HI2 := hid hz2; clear HRow hi0 hz0 hz1 hz2; go_loopw [6, 21] (fun so si wr => ∃ (i : Nat) (oa : Option Addr) (oc : Nat) (xs : List RwV), i <= L.length /\ so = .slice oa i oc /\ si = .int .i64 (i : Int) /\ jEd w2 wr name cols keys idx L i oa oc xs) (fun _ si _ => L.length - (intOf si).toNat)
 case atStart => exact ⟨0, none, 0, [], Nat.zero_le _, rfl, rfl, ⟨Own.nil _ _ _, (fun b hb => (qAj b hb).elim), Mod.refl _ _, rfl, (fun j p x _ hx => by simp at hx), (fun x hx => by cases hx), (fun x hx => by cases hx), (fun x hx => by cases hx), fun x hx => by cases hx⟩⟩
 case round =>
  obtain ⟨i, oa, oc, xs, hil, rfl, rfl, hrel⟩ := hrel; have HRel := hid hrel; clear hrel; by_cases hlt : i < L.length
  ·have d0 : decide ((i : Int) < (L.length : Int)) = true := by simp; omega
   have d1 : decide (i < L.length) = true := by simpa using hlt
   have hdi : ¬ L.length <= i := by omega
   obtain ⟨⟨pk, pv⟩, hx⟩ : ∃ p, L[i]? = some p := ⟨_, List.getElem?_eq_getElem hlt⟩; have HX := hid hx; have hlw := HL2.out.ext HRel.out.mod; obtain ⟨g, off, rfl⟩ := hlw.some (by omega)
   have q0 := hlw.cell qIf hx (j := 0) rfl; have q1 := hlw.cell qIf hx (j := 1) rfl; simp only [Nat.add_zero] at q0; have hmz : Mod (fun _ => False) wr (wr.alloc (.cells #[.string pk, .string pv] 41)) := (Mod.refl _ _).alloc _
   have HMz := hid hmz; have HMw := hid (HRel.out.mod.trans hmz); have hbz : (wr.alloc (.cells #[.string pk, .string pv] 41)).heap[wr.heap.size]? = some (.cells #[.string pk, .string pv] 41 (0, 0)) := heap_alloc_new _ _; have HBz := hid hbz; have HD := hid (HDec.out _ (HRel.out.mod.trans hmz) (pk, pv) (List.mem_of_getElem? hx)); clear hx hlw hmz hbz; go_upto_region 7 with fail
   generalize wr.alloc (.cells #[.string pk, .string pv] 41) = Z at *; obtain ⟨b0, b1, b2, b3⟩ := HRow2.out Z HMw.out; have z0 : Z.cell? ⟨wr.heap.size, 0, none⟩ = some (.string pk) := by rw [cell_of_row _ _ _ _ _ _ HBz.out]; rfl
   have z1 : Z.cell? ⟨wr.heap.size, 1, none⟩ = some (.string pv) := by rw [cell_of_row _ _ _ _ _ _ HBz.out]; rfl
   clear q0 q1; go_upto_if 32 with (go_at_call 30; refine HD.out.mono ?_; intro e w3 h3; obtain ⟨ra, n, rc, E, rfl, hm3, hE⟩ := h3.norm; have HM3 := hid hm3; have HE := hid hE; clear h3 hm3 hE)
   clear b0 b1 b2 b3 z0 z1; rcases HE.out with ⟨rfl, r, rfl, e1, e2, e3, e4, e5⟩ | ⟨rfl, hno⟩
   ·have HSr : Hid (Src (w3.alloc (.cells #[.slice ra r.length rc] 26)) 1 (some ⟨w3.heap.size, 0, none⟩) 1 [.slice ra r.length rc]) := hid (qAw (heap_alloc_new _ _) rfl); have hm4 : Mod (fun _ => False) w3 (w3.alloc (.cells #[.slice ra r.length rc] 26)) := (Mod.refl _ _).alloc _
    have HOb := hid (((HRel.out.own.mod HMz.out (fun _ _ e => e)).mod HM3.out (fun _ _ e => e)).mod hm4 (fun _ _ e => e))
    have HM4 := hid (HM3.out.trans hm4); have HR4 := hid (e4.ext hm4); have HE1 := hid e1; have HE3 := hid e3; have HE5 := hid e5; have HE2 := hid e2; clear e1 e2 e3 e4 e5 hm4 HE; go_wp2_with (at_builtin; refine qAd rfl (.tmp 34) (.tmp 36) 51 rfl 26 i0 _ 1 24 Tryz.underlying51 HI.out HI0.out HI1.out HI2.out rfl oa i oc _ rfl HOb.out (some ⟨w3.heap.size, 0, none⟩) 1 1 _ rfl HSr.out (by intro u hu; simp at hu; subst hu; rfl) (by unfold maxLen; omega) (by omega) ?_; intro oa' oc' w5 hown5 hm5 hb5 hn5 hr5; have Hown5 := hid hown5; have Hm5 := hid hm5; have Hb5 := hid hb5; clear hown5 hm5 hb5 hn5 hr5)
    have HN := hid (HRel.out.next HX.out HE1.out HE2.out hcl HE3.out HMz.out HR4.out HE5.out HM4.out Hown5.out Hm5.out Hb5.out); go_roundw
    case rel => exact ⟨i + 1, oa', oc', _, by omega, rfl, by go_num, HN.out⟩
    case measure => simp [intOf]; omega
   ·have HNo := hid hno; clear hno HE; go_wp2_with fail
    go_ret2; exact ⟨HM.out.trans (HM2.out.trans (HMw.out.trans HM3.out)), .inr ⟨⟨(pk, pv), List.mem_of_getElem? HX.out, HNo.out⟩, rfl⟩⟩
  ·have hie : i = L.length := by omega
   have d0 : decide ((i : Int) < (L.length : Int)) = false := by simp; omega
   have d1 : decide (i < L.length) = false := by simpa using hlt
   clear hlt; go_wp2_with fail
   go_ret2; refine ⟨HM.out.trans (HM2.out.trans HRel.out.mod), .inl ⟨xs, oa, oc, ⟨by rw [HRel.out.len, hie], HRel.out.dec⟩, by rw [HRel.out.len]; rfl, ?_⟩⟩
   have ho := HRel.out.own; rw [<- HRel.out.len] at ho; exact ⟨ho.lies, HRel.out.rows, HRel.out.ok⟩
end
section
open Go Go.RowKit
theorem qSy {l : List KV} (ha : Asc l) {k v : ByteArray} (h : (k, v) ∈ l) : qNj l k = .tuple #[.string v, .bool true] := by
 obtain ⟨a, b, rfl⟩ := List.append_of_mem h; refine qRf (x := (k, v)) (k := a.length) (by simp) rfl (fun p hp e => ?_)
 rw [List.take_left' rfl] at hp; have h3 : kl p.1 k = true := (qCa.1 ha).2.2 p hp (k, v) List.mem_cons_self; rw [e, qBz] at h3; cases h3
def qCs (name : Int) (head : List UInt8) (p : KV) : ByteArray := ba (qAe name.toNat 0 ++ p.1.data.toList.drop head.length)
def FOk (l : List KV) (name : Int) (cols : List Int) (keys idx : Int) (head : List UInt8) (p : KV) (r : List Vl) : Prop :=
 ∃ v, (qCs name head p, v) ∈ l /\ qEr name cols keys idx (qCs name head p) v r /\ p.2 = ⟨#[]⟩ /\ ∃ q, qBt name cols keys idx r = some q /\ ba q.x = p.1
theorem jJy {l : List KV} (ha : Asc l) {name : Int} {cols : List Int} {keys idx : Int} {head : List UInt8} {p : KV} {r r' : List Vl} (h : FOk l name cols keys idx head p r) (h' : FOk l name cols keys idx head p r') : r' = r := by
 obtain ⟨v, h1, h2, _⟩ := h; obtain ⟨v', h1', h2', _⟩ := h'; have e : v' = v := by
  have e1 := qSy ha h1; rw [qSy ha h1'] at e1
  simpa using e1
 subst e; exact qQg h2 h2'
end
section
open Go Go.RowKit
theorem box2 (w : World) (A B : Obj) : Mod (fun _ => False) w ((w.alloc A).alloc B) /\ ((w.alloc A).alloc B).heap[w.heap.size]? = some A /\ ((w.alloc A).alloc B).heap[w.heap.size + 1]? = some B := by
 have h1 : Mod (fun _ => False) w (w.alloc A) := (Mod.refl _ _).alloc _
 have h2 : Mod (fun _ => False) (w.alloc A) ((w.alloc A).alloc B) := (Mod.refl _ _).alloc _
 have hs : (w.alloc A).heap.size = w.heap.size + 1 := World.size_alloc _ _; exact ⟨h1.trans h2, (h2.block _ (by omega) (fun h => h)).trans (heap_alloc_new _ _), by rw [<- hs]; exact heap_alloc_new _ _⟩
end
end Go.Proofs.YtkinkgbmlhiakaaGreatDoor
