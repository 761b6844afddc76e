/- merged: TwG TwY RwU RwE -/
import Derived.Test.YtkinkgbmlhiakaaGreatDoorNc29
import Derived.Test.YtkinkgbmlhiakaaGreatDoorNc30
import Derived.Test.YtkinkgbmlhiakaaGreatDoorNc14
import Derived.Test.YtkinkgbmlhiakaaGreatDoorNc15
import Derived.Test.YtkinkgbmlhiakaaGreatDoorNc17
namespace Go.Proofs.YtkinkgbmlhiakaaGreatDoor
section
open Go Go.RowKit
set_option maxRecDepth 100000
theorem jAg {S : Nat -> Prop} {w : World} {B : TB} {T : TM} {D : Dsk} {off : Bool} (h : qAu S w B T D off) (h0 : T.root = 0) (key : ByteArray) :
  Calls Tryz.prog 20 #[.pointer (some ⟨B.tb, 0, none⟩), .string key] w fun e w' => e = .returned (.tuple #[.string ⟨#[]⟩, .bool false]) /\ w = w' := by
 obtain ⟨c0, _⟩ := h.cells; rw [h0] at c0; clear h h0; go_enter Tryz.func20, Tryz.ntmps20
 go_wp2
 go_ret2; exact ⟨rfl, rfl⟩
def jKb (es : List Ent) (key : ByteArray) (e : Ending) : Prop :=
 (∃ x ∈ es, x.key = key /\ e = .returned (.tuple #[.string x.value, .bool true])) \/ ((∀ x ∈ es, x.key ≠ key) /\ e = .returned (.tuple #[.string ⟨#[]⟩, .bool false]))
set_option maxHeartbeats 1000000 in
theorem jHp {S : Nat -> Prop} {w : World} {B : TB} {T : TM} {D : Dsk} {off : Bool} (h : qAu S w B T D off) {key : ByteArray} {F : Nat} {n0 fin : NP} (h0 : T.root ≠ 0) (hr : T.nodes T.root = some n0) (hd : qSf T.nodes F n0 key = some fin) :
  Calls Tryz.prog 20 #[.pointer (some ⟨B.tb, 0, none⟩), .string key] w fun e w' => jKb fin.2 key e /\ Mod (fun _ => False) w w' := by
 obtain ⟨c0, _⟩ := h.cells; have d0 : (T.root == 0) = false := by rw [beq_eq_false_iff_ne]; exact h0
 have HL := hid (jEb h hr hd); obtain ⟨lf, es⟩ := fin; clear h hr hd h0; go_enter Tryz.func20, Tryz.ntmps20
 go_upto_region 4 with (go_at_call 41; refine HL.out.mono ?_; rintro e w1 ⟨m, rfl, hh, hn, hg, hb, hf, hm⟩; have HH := hid hh; have HN := hid hn; have HG := hid hg; have HF := hid hf; have HM := hid hm; clear hh hn hg hb hf hm; simp only [Nd.val])
 have HRi : Hid (qMc m.keys) := hid (by rw [HH.out.k]; exact qFo HG.out)
 have HBx : Hid ((w1.alloc (.cells #[.bool m.leaf, .slice m.ka m.keys.length m.kc, .slice m.va m.values.length m.vc, .slice m.ia m.kids.length m.ic] 123)).heap[w1.heap.size]? = some (.cells #[.bool m.leaf, .slice m.ka m.keys.length m.kc, .slice m.va m.values.length m.vc, .slice m.ia m.kids.length m.ic] 123 (0, 0))) := hid (heap_alloc_new _ _); have HM2 : Hid (Mod (fun _ => False) w1 (w1.alloc (.cells #[.bool m.leaf, .slice m.ka m.keys.length m.kc, .slice m.va m.values.length m.vc, .slice m.ia m.kids.length m.ic] 123))) := hid ((Mod.refl _ _).alloc _)
 have HPl := hid (qGf key (HN.out.nd.ext HM2.out) HRi.out); generalize w1.alloc (.cells #[.bool m.leaf, .slice m.ka m.keys.length m.kc, .slice m.va m.values.length m.vc, .slice m.ia m.kids.length m.ic] 123) = Z at *; obtain ⟨x0, x1, x2, x3⟩ := cl4 HBx.out; go_upto_region 5 with (go_at_call 42; refine HPl.out.mono ?_; rintro e w3 ⟨⟨i, ok, hat, hok, rfl⟩, hm3⟩; have HAt := hid hat; have HOk := hid hok; have HM3 := hid hm3; have hb3 := qAp hm3 HBx.out; have HB3 := hid hb3; obtain ⟨y0, y1, y2, y3⟩ := cl4 hb3; clear hat hok hm3 hb3 x0 x1 x2 x3)
 have HCut := hid (qNn (c := ⟨key, emp, false⟩) (es := es) (i := i) (ok := ok) (by have h1 := HRi.out; rw [HH.out.k] at h1; exact h1) (by have h1 := HAt.out; rw [HH.out.k] at h1; exact h1) (by have h1 := HOk.out; rw [HH.out.k] at h1; exact h1))
 have HMa := hid ((HM.out.trans HM2.out).trans HM3.out); cases ok with
 | false =>
  clear y0 y1 y2 y3; go_wp2_with fail
  go_ret2; refine ⟨.inr ⟨fun x hx e => ?_, rfl⟩, HMa.out⟩
  have h1 := HCut.out.2.1; unfold hasE at h1; rw [List.any_eq_false] at h1; exact h1 x hx (by simpa using e)
 | true =>
  obtain ⟨x, hx, hxk⟩ := HCut.out.2.2.1; have HX := hid hx; have HXk := hid hxk; have hlf : lf = true := HF.out; have HVs : Hid (m.values = es.map (·.value)) := hid (by have h1 := HH.out.v; rw [hlf] at h1; exact h1)
  have hgv : m.values[i]? = some x.value := by rw [HVs.out, List.getElem?_map, hx]; rfl
  have hil : i < m.values.length := (List.getElem?_eq_some_iff.1 hgv).1; have hdi : ¬ m.values.length <= i := by omega
  obtain ⟨gv, ov, hva, hvc⟩ := ((HN.out.nd.ext HM2.out).ext HM3.out).v.one hgv; rw [hva] at y2; clear hx hxk hgv hva hlf; go_wp2_with fail
  go_ret2; exact ⟨.inl ⟨x, List.mem_of_getElem? HX.out, HXk.out, rfl⟩, HMa.out⟩
theorem qXs (w : World) : Calls Tryz.prog 77 #[.pointer none] w fun e w' => e = .returned (.int .i64 0) /\ w = w' := by
 go_enter Tryz.func77, Tryz.ntmps77
 go_wp2
 go_ret; exact ⟨rfl, rfl⟩
theorem jCn {S : Nat -> Prop} {w : World} {B : TB} {T : TM} {D : Dsk} {off : Bool} (h : qAu S w B T D off) : Calls Tryz.prog 77 #[.pointer (some ⟨B.tb, 0, none⟩)] w fun e w' => e = .returned (.int .i64 T.count) /\ w = w' := by
 obtain ⟨_, _, _, c3, _⟩ := h.cells; clear h; go_enter Tryz.func77, Tryz.ntmps77
 go_wp2
 go_ret; exact ⟨rfl, rfl⟩
end
section
open Go Go.RowKit
structure Here (w : World) (B : TB) (T : TM) (D : Dsk) (k : Nat) (l : List KV) (N : Nat) : Prop where
 tree : qAu (TS B) w B T D false
 lit : Lit D k
 std : Std B.room D T l N
 ne : B.nb ≠ B.ab
theorem Here.ext {w w' : World} {B : TB} {T : TM} {D : Dsk} {k : Nat} {l : List KV} {N : Nat} (h : Here w B T D k l N) (hm : Mod (fun _ => False) w w') : Here w' B T D k l N := ⟨h.tree.mod hm (fun _ e => e.elim) (fun _ e => e.elim), h.lit, h.std, h.ne⟩
def HApp (w : World) (B : TB) (T : TM) (D : Dsk) (k : Nat) (l : List KV) (N : Nat) (cs : List Cg) (e : Ending) (w' : World) : Prop :=
 (chkF [] cs ≠ 0 /\ e = .returned (.int .i64 (chkF [] cs)) /\ Here w' B T D k l N /\ Mod (fun _ => False) w w') ∨
 (chkF [] cs = 0 /\ ((e = .returned (.int .i64 52) /\ (jlen B.room D : Int) <= (N : Int) + 8 * cs.length /\ Here w' B T D k l N /\ Mod (fun _ => False) w w') ∨
  (e = .returned (.int .i64 31) /\ (B.room < 21 * cs.length + 1 /\ ∃ (W' : WM) (ls : List Chg) (ln : List (Int × NP)) (la : List (Int × Int)), allM T (jlen B.room D : Int) 70 cs T.begin = some W' /\ Laid W' ls ln la /\ B.room < ls.length) /\ Here w' B T D k l N /\ Mod (fun _ => False) w w') ∨
  (e = .returned (.int .i64 0) /\ ∃ (T' : TM) (D' : Dsk) (N' : Nat), Here w' B T' D' (k + 1002) (chgs cs l) N' /\ D'.secs.length = D.secs.length /\ Mod (TS B) w w')))
theorem qWb {w : World} {B : TB} {T : TM} {D : Dsk} {k : Nat} {l : List KV} {N : Nat} (h : Here w B T D k l N) (hk0 : k <= 1152921504606846976) {a : Option Addr} (cap : Nat) {cs : List Cg} (hc : Lies w 3 ccs a cs) (hcl : cs.length <= 1048576) (hs : ∀ c ∈ cs, c.key.size <= maxLen /\ c.value.size <= maxLen) :
  Calls Tryz.prog 11 #[.pointer (some ⟨B.tb, 0, none⟩), .slice a cs.length cap] w (HApp w B T D k l N cs) := by
 by_cases hchk : chkF [] cs = 0
 ·obtain ⟨W', N', h1, h2, h3, h4, h5, h6⟩ := qXu h.lit h.std cs (fun c hc => qLr hchk c hc) hcl
  obtain ⟨r1, r2, r3, r4, r5, r6, r7⟩ := h2.rng; have ht := h.std.ti.rng; have hj : jlen B.room D <= 16384 := by have := h.lit.b.n; unfold jlen; omega
  have hnx := h.std.next; obtain ⟨t1, t2, t3, t4, _⟩ := ht; have e1 : T.begin.count = T.count := rfl; have e2 : T.begin.next = T.next := rfl; rw [e1, e2] at t4; rw [e2] at t2; refine (jFu h.tree cap hc (by omega) hs hchk h1 (by omega) (by omega) (by omega) (fun x hx => by have := r5 x hx; omega) (fun x y hy => by have := r6 x y hy; omega) (fun ls hnd hls => ?_) h.lit.b hk0 h.ne).mono (fun e w' ha => ?_)
  ·have q1 := qLc (m := (List.range W'.next.toNat).map (fun i : Nat => (i : Int))) hnd (fun x hx => by
    have := r5 x (hls x hx); exact List.mem_map.2 ⟨x.toNat, List.mem_range.2 (by omega), by omega⟩)
   rw [List.length_map, List.length_range] at q1; omega
  ·obtain ⟨ls, ln, la, hlaid, hh⟩ := ha; refine .inr ⟨hchk, ?_⟩; rcases hh with ⟨a1, rfl, a3, a4⟩ | ⟨a1, a2, rfl, a3, a4⟩ | ⟨a1, a2, a3, rfl, a4, a5⟩ | ⟨a1, a2, a3, a4, _⟩ | ⟨a1, a2, a3, a4, rfl, a6, a7⟩
   ·exact .inl ⟨rfl, h3 a1, ⟨a3, h.lit, h.std, h.ne⟩, a4⟩
   ·refine .inr (.inl ⟨rfl, ⟨?_, W', ls, ln, la, h1, hlaid, a2⟩, ⟨a3, h.lit, h.std, h.ne⟩, a4⟩); have := h6 ls ln la hlaid a1; omega
   ·refine .inr (.inr ⟨rfl, T, D, N, ?_, rfl, a5.mono (fun _ _ e => e.elim)⟩)
    rw [a3]; exact ⟨a4, h.lit.le (by omega), h.std, h.ne⟩
   ·exact absurd (qMr h.lit h.std h2 (h4 a1) hlaid a2).1 a4
   ·obtain ⟨c1, c2, c3⟩ := qMr h.lit h.std h2 (h4 a1) hlaid a2; have hr := h.std.r2; exact .inr (.inr ⟨rfl, _, _, N', ⟨a6, c2.le (by omega), c3, h.ne⟩, qHr _ _ _, a7⟩)
 ·exact (jBr h.tree cap hc (by omega) hs hchk).mono (fun e w' ⟨he, hm⟩ => .inl ⟨hchk, he, h.ext hm, hm⟩)
theorem Here.empty {w : World} {B : TB} {T : TM} {D : Dsk} {k : Nat} {l : List KV} {N : Nat} (h : Here w B T D k l N) : (T.root = 0 /\ l = []) \/ (T.root ≠ 0 /\ l ≠ [] /\ ∃ (g : Nat) (t : Tr g), g <= 26 /\ Sd T.nodes 250 g T.root t /\ flat g t = l) := by
 obtain ⟨_, _, h3⟩ := h.std.ti; rcases h3 with ⟨h4, h5, _⟩ | ⟨ht, t, F, hR, _⟩
 ·exact .inl ⟨h4, h5⟩
 ·refine .inr ⟨hR.nz, ?_, ht, t, hR.le, hR.sd, hR.fl⟩; rw [<- hR.fl]; obtain ⟨q, v, r, _, h6⟩ := qJm ht t (qNp hR.sd); rw [h6]; simp
theorem Here.len {w : World} {B : TB} {T : TM} {D : Dsk} {k : Nat} {l : List KV} {N : Nat} (h : Here w B T D k l N) : l.length <= 8388608 /\ T.count = l.length := by
 have h1 := h.std.ti.rng; have h2 : T.begin.count = l.length := h.std.ti.2.1; have e1 : T.begin.count = T.count := rfl; have e2 : T.begin.next = T.next := rfl; have hj : jlen B.room D <= 16384 := by have := h.lit.b.n; unfold jlen; omega
 have hnx := h.std.next; rw [e1] at h1 h2; rw [e2] at h1; omega
theorem qUb {w : World} {B : TB} {T : TM} {D : Dsk} {k : Nat} {l : List KV} {N : Nat} (h : Here w B T D k l N) : Calls Tryz.prog 77 #[.pointer (some ⟨B.tb, 0, none⟩)] w fun e w' => e = .returned (.int .i64 (l.length : Int)) /\ w = w' :=
 (jCn h.tree).mono (fun e w' ⟨he, hw⟩ => ⟨by rw [he, h.len.2], hw⟩)
theorem jAb {w : World} {B : TB} {T : TM} {D : Dsk} {k : Nat} {l : List KV} {N : Nat} (h : Here w B T D k l N) (key : ByteArray) (most : Int) : Calls Tryz.prog 12 #[.pointer (some ⟨B.tb, 0, none⟩), .string key, .int .i64 most] w (qMb w (qRg l key most)) := by
 have hnil : ∀ e w', (e = .returned (.slice none 0 0) /\ Mod (fun _ => False) w w') -> qMb w [] e w' := fun e w' ⟨he, hm⟩ => ⟨none, 0, he, Own.nil _ _ _, (fun b hb => (qAm b hb).elim), hm⟩
 by_cases hm : most < 1
 ·have e : qRg l key most = [] := by unfold qRg; rw [show most.toNat = 0 by omega]; rfl
  rw [e]; exact (qTf h.tree (.inr hm) _).mono hnil
 ·rcases h.empty with ⟨h0, rfl⟩ | ⟨h0, _, g, t, hg, hS, hfl⟩
  ·have e : qRg [] key most = [] := by unfold qRg; simp
   rw [e]; exact (qTf h.tree (.inl h0) _).mono hnil
  ·have hasc : Asc (flat g t) := by rw [hfl]; exact h.std.ti.1.asc
   have hw := qSv key g T.root t hS hasc; rw [hfl] at hw; have hl := List.length_filter_le (geK key) l; exact jCx h.tree h0 (by omega) hw (by have := h.len.1; omega)
theorem qUc {w : World} {B : TB} {T : TM} {D : Dsk} {k : Nat} {l : List KV} {N : Nat} (h : Here w B T D k l N) (key : ByteArray) : Calls Tryz.prog 20 #[.pointer (some ⟨B.tb, 0, none⟩), .string key] w fun e w' => e = .returned (qMj l key) /\ Mod (fun _ => False) w w' := by
 have hasc := h.std.ti.1.asc; rcases h.empty with ⟨h0, rfl⟩ | ⟨h0, _, g, t, hg, hS, hfl⟩
 ·exact (jAg h.tree h0 key).mono (fun e w' ⟨he, hw⟩ => ⟨he, by rw [hw]; exact Mod.refl _ _⟩)
 ·obtain ⟨es, hd, hv⟩ := qUg key g T.root t hS (by rw [hfl]; exact hasc)
  rw [hfl] at hv; refine (jHp h.tree h0 (qHg.1 hS).1.1 hd).mono (fun e w' ⟨ha, hm⟩ => ⟨?_, hm⟩)
  rcases ha with ⟨x, hx, hk, he⟩ | ⟨hno, he⟩
  ·have h1 := (hv x.value).1 ⟨x, hx, hk, rfl⟩; have h2 : qMj l key = .tuple #[.string x.value, .bool true] := by
    obtain ⟨a, b, hab⟩ := List.append_of_mem h1; refine qPr (x := (key, x.value)) (k := a.length) (by rw [hab]; simp) rfl (fun p hp e => ?_)
    rw [hab, List.take_left' rfl] at hp; rw [hab] at hasc; have h3 : kl p.1 key = true := (qBw.1 hasc).2.2 p hp (key, x.value) List.mem_cons_self; rw [e, qDp] at h3; cases h3
   rw [he, h2]
  ·rw [he, qYf (fun p hp e => ?_)]
   obtain ⟨x, hx, hk, _⟩ := (hv p.2).2 (by rw [<- e]; exact hp)
   exact hno x hx hk
end
section
open Go Go.RowKit
def rvV (x : RV) : Value := .tuple #[.agg #[.int .i64 x.v.n, .string x.v.s], .int .i64 (x.n : Int), .bool x.ok]
theorem qTz : ∀ (l : List UInt8) (c : UInt8), Lib.indexByte l c <= (l.length : Int)
 | [], c => by simp [Lib.indexByte]
 | b :: l, c => by
  have ih := qTz l c; rw [Lib.indexByte]; simp only [List.length_cons]; split
  ·omega
  ·split <;> omega
theorem jIy {s : ByteArray} {a : Nat} (h : (rdT s a).e = 0) : rtV (rdT s a) = .tuple #[.string (rdT s a).t, .int .i64 ((rdT s a).n : Int), .int .i64 0] := by unfold rtV; rw [h]; rfl
theorem jGu {s : ByteArray} {a : Nat} (h : (rdT s a).e ≠ 0) : rtV (rdT s a) = .tuple #[.string ⟨#[]⟩, .int .i64 0, .int .i64 ((rdT s a).e : Int)] := by
 unfold rtV rdT rtOf at *; by_cases h1 : (rdU 0 (s.data.toList.drop a)).e = 0
 ·rw [if_pos h1] at h ⊢; by_cases h2 : s.size < a + (rdU 0 (s.data.toList.drop a)).n + (rdU 0 (s.data.toList.drop a)).v
  ·rw [if_pos h2]; rfl
  ·rw [if_neg h2] at h; exact absurd rfl h
 ·rw [if_neg h1]; rfl
set_option maxRecDepth 100000
set_option maxHeartbeats 2000000 in
theorem qVe (s : ByteArray) (a : Nat) (w : World) (hs : s.size <= maxLen) (ha : a <= s.size) : Calls Tryz.prog 58 #[.int .i64 0, .string s, .int .i64 (a : Int)] w fun e w' => e = .returned (rvV (rdO s a)) /\ Mod (fun _ => False) w w' := by
 have HO := hid (fun W : World => qRi s a W hs ha)
 unfold roV at HO; unfold rdO; by_cases h8 : s.size < a + 8
 ·rw [if_pos h8] at HO ⊢; clear h8; go_enter Tryz.func58, Tryz.ntmps58
  go_wp2_with (go_at_call 91; refine (HO.out _).mono ?_; rintro e w1 ⟨rfl, rfl⟩)
  exact bodyPost_ret (v := rvV noV) (by simp [rvV, noV, results, Tryz.results58, go_sem]) rfl ⟨rfl, (Mod.refl _ _).alloc _⟩
 ·rw [if_neg h8] at HO ⊢; generalize (rdBE 0 ((s.data.toList.drop a).take 8) : Int) - 9223372036854775808 = n at *; clear h8; go_enter Tryz.func58, Tryz.ntmps58
  go_wp2_with (go_at_call 91; refine (HO.out _).mono ?_; rintro e w1 ⟨rfl, rfl⟩)
  exact bodyPost_ret (v := .tuple #[.agg #[.int .i64 n, .string ⟨#[]⟩], .int .i64 ((a : Int) + 8), .bool true]) (by simp [results, Tryz.results58, go_sem]) rfl ⟨rfl, (Mod.refl _ _).alloc _⟩
set_option maxHeartbeats 2000000 in
theorem qRb (k : Int) (hk : k ≠ 0) (s : ByteArray) (a : Nat) (w : World) (hs : s.size <= 140737488351232) (ha : a <= s.size) : Calls Tryz.prog 58 #[.int .i64 k, .string s, .int .i64 (a : Int)] w fun e w' => e = .returned (rvV (rdZ s a)) /\ Mod (fun _ => False) w w' := by
 have e0 : (k == 0) = false := by simpa using hk
 have hsl : ∀ v : World, (Instr.slice 9 (.string s) (some (.int .i64 (a : Int))) none none).run Tryz.prog v = .ok (.string (s.extract a s.size)) v := fun v => by
  have := run_slice_string_l (P := Tryz.prog) v 9 s Tryz.underlying9 .i64 (a : Int) (by omega) (by omega)
  simpa using this
 have hx : (s.extract a s.size).data.toList = s.data.toList.drop a := by
  rw [ByteArray.data_extract, Array.toList_extract, List.extract_eq_take_drop, List.take_of_length_le]; have : s.data.toList.length = s.size := rfl; rw [List.length_drop]; omega
 have hi : ∀ v : World, Calls Tryz.prog 92 #[.string (s.extract a s.size), .int .u8 0] v fun e w' => e = .returned (.int .i64 (Lib.indexByte (s.data.toList.drop a) 0)) /\ w' = v := fun v => by
  have := Tryz.strings_IndexByte (s.extract a s.size) 0 v; rw [hx] at this; exact this
 have HI := hid hi; have hge := Lib.indexByte_ge (s.data.toList.drop a) 0; have hle := qTz (s.data.toList.drop a) 0; rw [List.length_drop] at hle; have hsl0 : s.data.toList.length = s.size := rfl; unfold rdZ; clear hi hx hk; generalize Lib.indexByte (s.data.toList.drop a) 0 = i at *; by_cases h0 : i < 0
 ·rw [if_pos h0]; have d0 : decide (i < 0) = true := by rw [decide_eq_true_iff]; exact h0
  clear h0 hge hle; go_enter Tryz.func58, Tryz.ntmps58
  go_wp2_with (go_at_call 92; refine (HI.out _).mono ?_; rintro e w1 ⟨rfl, rfl⟩)
  exact bodyPost_ret (v := rvV noV) (by simp [rvV, noV, results, Tryz.results58, go_sem]) rfl ⟨rfl, (Mod.refl _ _).alloc _⟩
 ·rw [if_neg h0]; have d0 : decide (i < 0) = false := by rw [decide_eq_false_iff_not]; exact h0
  obtain ⟨m, rfl⟩ := Int.eq_ofNat_of_zero_le (show 0 <= i by omega)
  have hs2 : ∀ v : World, (Instr.slice 9 (.string s) (some (.int .i64 (a : Int))) (some (.int .i64 ((a : Int) + (m : Int)))) none).run Tryz.prog v = .ok (.string (s.extract a (a + m))) v := fun v => by
   have := run_slice_string (P := Tryz.prog) v 9 s .i64 .i64 (a : Int) ((a : Int) + (m : Int)) Tryz.underlying9 (by omega) (by omega) (by omega)
   rw [show ((a : Int) + (m : Int)).toNat = a + m by omega, show ((a : Int)).toNat = a by omega] at this
   exact this
  clear h0 hge; go_enter Tryz.func58, Tryz.ntmps58
  go_wp2_with (go_at_call 92; refine (HI.out _).mono ?_; rintro e w1 ⟨rfl, rfl⟩)
  exact bodyPost_ret (v := .tuple #[.agg #[.int .i64 0, .string (s.extract a (a + m))], .int .i64 ((a : Int) + (m : Int) + 1), .bool true]) (by simp [results, Tryz.results58, go_sem]) rfl ⟨rfl, (Mod.refl _ _).alloc _⟩
theorem qVf (k : Int) (s : ByteArray) (a : Nat) (w : World) (hs : s.size <= 140737488351232) (ha : a <= s.size) : Calls Tryz.prog 58 #[.int .i64 k, .string s, .int .i64 (a : Int)] w fun e w' => e = .returned (rvV (qBy k s a)) /\ Mod (fun _ => False) w w' := by
 unfold qBy; by_cases hk : k = 0
 ·subst hk; rw [if_pos rfl]; exact qVe s a w (by unfold maxLen; omega) ha
 ·rw [if_neg hk]; exact qRb k hk s a w hs ha
set_option maxHeartbeats 2000000 in
theorem qVc (s : ByteArray) (a : Nat) (w : World) (hs : s.size <= maxLen) : Calls Tryz.prog 59 #[.int .i64 0, .string s, .int .i64 (a : Int)] w fun e w' => e = .returned (rvV (rdI s a)) /\ Mod (fun _ => False) w w' := by
 have HO := hid (fun W : World => qRj s a W hs)
 unfold riV at HO; unfold rdI; generalize rdU 0 (s.data.toList.drop a) = x at *; obtain ⟨v, n, er⟩ := x; by_cases he : er = 0
 ·subst he; simp only [if_true] at HO ⊢; go_enter Tryz.func59, Tryz.ntmps59
  go_wp2_with (go_at_call 93; refine (HO.out _).mono ?_; rintro e w1 ⟨rfl, rfl⟩)
  exact bodyPost_ret (v := .tuple #[.agg #[.int .i64 (unzz v), .string ⟨#[]⟩], .int .i64 ((a : Int) + (n : Int)), .bool true]) (by simp [results, Tryz.results59, go_sem]) rfl ⟨rfl, (Mod.refl _ _).alloc _⟩
 ·simp only [if_neg he] at HO ⊢; have e1 : ((er : Int) == 0) = false := by rw [beq_eq_false_iff_ne]; omega
  clear he; go_enter Tryz.func59, Tryz.ntmps59
  go_wp2_with (go_at_call 93; refine (HO.out _).mono ?_; rintro e w1 ⟨rfl, rfl⟩)
  exact bodyPost_ret (v := rvV noV) (by simp [rvV, noV, results, Tryz.results59, go_sem]) rfl ⟨rfl, (Mod.refl _ _).alloc _⟩
set_option maxHeartbeats 2000000 in
theorem qRa (k : Int) (hk : k ≠ 0) (s : ByteArray) (a : Nat) (w : World) (hs : s.size <= maxLen) : Calls Tryz.prog 59 #[.int .i64 k, .string s, .int .i64 (a : Int)] w fun e w' => e = .returned (rvV (rdX s a)) /\ Mod (fun _ => False) w w' := by
 have HO := hid (fun W : World => qPt s a W hs)
 have e0 : (k == 0) = false := by simpa using hk
 unfold rdX; clear hk; by_cases he : (rdT s a).e = 0
 ·rw [jIy he] at HO; rw [if_pos he]; clear he; generalize rdT s a = x at *; obtain ⟨t, n, er⟩ := x; simp only at HO ⊢; go_enter Tryz.func59, Tryz.ntmps59
  go_wp2_with (go_at_call 94; refine (HO.out _).mono ?_; rintro e w1 ⟨rfl, rfl⟩)
  exact bodyPost_ret (v := .tuple #[.agg #[.int .i64 0, .string t], .int .i64 (n : Int), .bool true]) (by simp [results, Tryz.results59, go_sem]) rfl ⟨rfl, (Mod.refl _ _).alloc _⟩
 ·rw [jGu he] at HO; rw [if_neg he]; have e1 : (((rdT s a).e : Int) == 0) = false := by rw [beq_eq_false_iff_ne]; omega
  clear he; generalize rdT s a = x at *; obtain ⟨t, n, er⟩ := x; simp only at HO e1; go_enter Tryz.func59, Tryz.ntmps59
  go_wp2_with (go_at_call 94; refine (HO.out _).mono ?_; rintro e w1 ⟨rfl, rfl⟩)
  exact bodyPost_ret (v := rvV noV) (by simp [rvV, noV, results, Tryz.results59, go_sem]) rfl ⟨rfl, (Mod.refl _ _).alloc _⟩
theorem qVd (k : Int) (s : ByteArray) (a : Nat) (w : World) (hs : s.size <= maxLen) : Calls Tryz.prog 59 #[.int .i64 k, .string s, .int .i64 (a : Int)] w fun e w' => e = .returned (rvV (qCo k s a)) /\ Mod (fun _ => False) w w' := by
 unfold qCo; by_cases hk : k = 0
 ·subst hk; rw [if_pos rfl]; exact qVc s a w hs
 ·rw [if_neg hk]; exact qRa k hk s a w hs
end
section
open Go Go.RowKit
def qOs : Option PX -> Value
 | some p => .tuple #[.agg #[.string (ba p.k), .string (ba p.v)], .int .i64 0]
 | none => .tuple #[.agg #[.string ⟨#[]⟩, .string ⟨#[]⟩], .int .i64 60]
set_option maxRecDepth 100000
set_option maxHeartbeats 2000000 in
theorem qOr {w : World} {ca ra : Option Addr} {cols : List Int} {r : List Vl} (name keys idx : Int) (cc rc : Nat) (hl : Lies w 1 oneI ca cols) (hr : Lies w 2 Vl.cs ra r) (hn : cols.length <= 140737488351232) (hrn : r.length <= 140737488351232) (hv : ∀ v ∈ r, v.Ok) (hsz : ∀ k, (qEf cols r k).length <= 1152921504606846976) (hsv : ∀ j k, (valL cols r j k).length <= 1152921504606846976) :
  Calls Tryz.prog 19 #[.agg #[.int .u8 name, .slice ca cols.length cc, .int .i64 keys, .int .i64 idx], .slice ra r.length rc] w fun e w' => e = .returned (qOs (qDn name cols keys idx r)) /\ Mod (fun _ => False) w w' := by
 have hma : Mod (fun _ => False) w ((w.alloc (.cells #[.int .u8 name, .slice ca cols.length cc, .int .i64 keys, .int .i64 idx] 24)).alloc (.cells #[.string ⟨#[]⟩, .string ⟨#[]⟩] 41)) := ((Mod.refl _ _).alloc _).alloc _
 have HP := hid (qMv name keys idx cc rc (hl.ext hma) (hr.ext hma) hn hrn hv hsz hsv); have hsz1 : (w.alloc (.cells #[.int .u8 name, .slice ca cols.length cc, .int .i64 keys, .int .i64 idx] 24)).heap.size = w.heap.size + 1 := by simp
 have ha : ((w.alloc (.cells #[.int .u8 name, .slice ca cols.length cc, .int .i64 keys, .int .i64 idx] 24)).alloc (.cells #[.string ⟨#[]⟩, .string ⟨#[]⟩] 41)).heap[w.heap.size]? = some (.cells #[.int .u8 name, .slice ca cols.length cc, .int .i64 keys, .int .i64 idx] 24 (0, 0)) := by
  rw [Below.heap_alloc _ _ _ (by omega)]
  exact heap_alloc_new _ _
 have hb : ((w.alloc (.cells #[.int .u8 name, .slice ca cols.length cc, .int .i64 keys, .int .i64 idx] 24)).alloc (.cells #[.string ⟨#[]⟩, .string ⟨#[]⟩] 41)).heap[w.heap.size + 1]? = some (.cells #[.string ⟨#[]⟩, .string ⟨#[]⟩] 41 (0, 0)) := by
  rw [<- hsz1]; exact heap_alloc_new _ _
 have HM := hid hma; have HB := hid hb; obtain ⟨b0, b1, b2, b3⟩ := row4 ha; clear hl hr hv hsz hsv hma hsz1 ha hb; generalize qDn name cols keys idx r = P at *; cases P with
 | none =>
  have hp : qCz none = .tuple #[.agg #[.string ⟨#[]⟩, .string ⟨#[]⟩], .agg #[.string ⟨#[]⟩, .string ⟨#[]⟩], .bool false] := rfl; rw [hp] at HP; clear hp; go_enter Tryz.func19, Tryz.ntmps19
  go_upto_region 2 with (go_at_call 31; refine HP.out.mono ?_; rintro e w1 ⟨rfl, hm⟩; have HM1 := hid hm; clear hm)
  clear b0 b1 b2 b3; have hm2 : Mod (fun _ => False) w1 ((w1.alloc (.cells #[.string ⟨#[]⟩, .string ⟨#[]⟩] 41)).alloc (.cells #[.string ⟨#[]⟩, .string ⟨#[]⟩] 41)) := ((Mod.refl _ _).alloc _).alloc _
  have hs2 : (w1.alloc (.cells #[.string ⟨#[]⟩, .string ⟨#[]⟩] 41)).heap.size = w1.heap.size + 1 := by simp
  have hp1 : ((w1.alloc (.cells #[.string ⟨#[]⟩, .string ⟨#[]⟩] 41)).alloc (.cells #[.string ⟨#[]⟩, .string ⟨#[]⟩] 41)).heap[w1.heap.size]? = some (.cells #[.string ⟨#[]⟩, .string ⟨#[]⟩] 41 (0, 0)) := by
   rw [Below.heap_alloc _ _ _ (by omega)]
   exact heap_alloc_new _ _
  have HM2 := hid ((HM.out.trans HM1.out).trans hm2); have hB2 := ((HM1.out.trans hm2).block _ (lth HB.out) (fun h => h)).trans HB.out
  have HB2 := hid hB2; obtain ⟨c0, c1, _, _⟩ := row2 hp1; obtain ⟨_, _, f0, f1⟩ := row2 hB2; clear hm2 hs2 hp1 hB2; generalize (w1.alloc (.cells #[.string ⟨#[]⟩, .string ⟨#[]⟩] 41)).alloc (.cells #[.string ⟨#[]⟩, .string ⟨#[]⟩] 41) = V at *; obtain ⟨d0, d1, _, _⟩ := row2 HB2.out; go_wp2_with fail
  obtain ⟨z0, z1, z2⟩ := val2 HM2.out (Nat.le_succ _) HB2.out (.string ⟨#[]⟩) (.string ⟨#[]⟩); clear c0 c1 f0 f1 d0 d1; generalize (V.setCell ⟨w.heap.size + 1, 0, none⟩ (.string ⟨#[]⟩)).setCell ⟨w.heap.size + 1, 1, none⟩ (.string ⟨#[]⟩) = Z at *; exact bodyPost_ret (v := qOs (none)) (by simp [qOs, results, Tryz.results19, go_sem, z0, z1]) rfl ⟨rfl, z2⟩
 | some p =>
  have hp : qCz (some p) = .tuple #[.agg #[.string (ba p.k), .string (ba p.v)], .agg #[.string (ba p.x), .string ⟨#[]⟩], .bool true] := rfl; rw [hp] at HP; clear hp; go_enter Tryz.func19, Tryz.ntmps19
  go_upto_region 2 with (go_at_call 31; refine HP.out.mono ?_; rintro e w1 ⟨rfl, hm⟩; have HM1 := hid hm; clear hm)
  clear b0 b1 b2 b3; have hm2 : Mod (fun _ => False) w1 ((w1.alloc (.cells #[.string (ba p.k), .string (ba p.v)] 41)).alloc (.cells #[.string (ba p.x), .string ⟨#[]⟩] 41)) := ((Mod.refl _ _).alloc _).alloc _
  have hs2 : (w1.alloc (.cells #[.string (ba p.k), .string (ba p.v)] 41)).heap.size = w1.heap.size + 1 := by simp
  have hp1 : ((w1.alloc (.cells #[.string (ba p.k), .string (ba p.v)] 41)).alloc (.cells #[.string (ba p.x), .string ⟨#[]⟩] 41)).heap[w1.heap.size]? = some (.cells #[.string (ba p.k), .string (ba p.v)] 41 (0, 0)) := by
   rw [Below.heap_alloc _ _ _ (by omega)]
   exact heap_alloc_new _ _
  have HM2 := hid ((HM.out.trans HM1.out).trans hm2); have hB2 := ((HM1.out.trans hm2).block _ (lth HB.out) (fun h => h)).trans HB.out
  have HB2 := hid hB2; obtain ⟨c0, c1, _, _⟩ := row2 hp1; obtain ⟨_, _, f0, f1⟩ := row2 hB2; clear hm2 hs2 hp1 hB2; generalize (w1.alloc (.cells #[.string (ba p.k), .string (ba p.v)] 41)).alloc (.cells #[.string (ba p.x), .string ⟨#[]⟩] 41) = V at *; obtain ⟨d0, d1, _, _⟩ := row2 HB2.out; go_wp2_with fail
  obtain ⟨z0, z1, z2⟩ := val2 HM2.out (Nat.le_succ _) HB2.out (.string (ba p.k)) (.string (ba p.v)); clear c0 c1 f0 f1 d0 d1; generalize (V.setCell ⟨w.heap.size + 1, 0, none⟩ (.string (ba p.k))).setCell ⟨w.heap.size + 1, 1, none⟩ (.string (ba p.v)) = Z at *; exact bodyPost_ret (v := qOs (some p)) (by simp [qOs, results, Tryz.results19, go_sem, z0, z1]) rfl ⟨rfl, z2⟩
end
end Go.Proofs.YtkinkgbmlhiakaaGreatDoor
