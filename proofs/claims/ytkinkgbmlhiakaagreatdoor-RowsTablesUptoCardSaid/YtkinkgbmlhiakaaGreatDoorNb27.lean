/- merged: RoC RoT RoTab RoTbR RwU RwE -/
import Derived.Test.YtkinkgbmlhiakaaGreatDoorNb26
import Derived.Test.YtkinkgbmlhiakaaGreatDoorNb04
import Derived.Test.YtkinkgbmlhiakaaGreatDoorNb24
namespace Go.Proofs.YtkinkgbmlhiakaaGreatDoor
section
open Go Go.RowKit
def RBad (R F : Option PK) (n m : Nat) : Prop := (R = none /\ 0 < n) \/ (F = none /\ 0 < m) \/ ∃ p q, R = some p /\ F = some q /\ p.k ≠ q.k
theorem jCa {P Q : Option PB} {n m : Nat} : RBad (P.map PB.pk) (Q.map PB.pk) n m ↔ qMs P Q n m := by
 unfold RBad qMs; rw [Option.map_eq_none_iff, Option.map_eq_none_iff]; refine or_congr Iff.rfl (or_congr Iff.rfl ⟨?_, ?_⟩)
 ·rintro ⟨p, q, hp, hq, hne⟩; obtain ⟨p', hp', rfl⟩ := Option.map_eq_some_iff.1 hp; obtain ⟨q', hq', rfl⟩ := Option.map_eq_some_iff.1 hq; exact ⟨p', q', hp', hq', fun e => hne (toList_inj e)⟩
 ·rintro ⟨p, q, hp, hq, hne⟩; exact ⟨_, _, by rw [hp]; rfl, by rw [hq]; rfl, fun e => hne (congrArg ByteArray.toList e)⟩
theorem qXz {R F : Option PK} {n m : Nat} (h : ¬ RBad R F n m) : ∀ p q, R = some p -> F = some q -> p.k = q.k := fun p q h1 h2 => Classical.byContradiction (fun e => h (.inr (.inr ⟨p, q, h1, h2, e⟩)))
theorem qNg (name : Int) (cols : List Int) (keys idx : Int) : rowK name cols keys idx [] = none := by
 unfold rowK; rw [qDx (fun hg => by
  obtain ⟨_, _, _, h1, h2, _⟩ := qJu hg.fit; have := hg.len; simp at this
  omega)]
 rfl
structure jAw (cols : List Int) (r : List Vl) : Prop where
 n : r.length <= 1048576
 ok : ∀ x ∈ r, x.Ok /\ x.s.size <= 1048576
theorem jEa {w : World} {ca ra fa : Option Addr} {cols : List Int} {r f : List Vl} (name keys idx : Int) (cc rc fc : Nat) (hl : Lies w 1 oneI ca cols) (hr : Lies w 2 Vl.cs ra r) (hf : Lies w 2 Vl.cs fa f) (hn : cols.length <= 1048576) (h1 : jAw cols r) (h2 : jAw cols f) :
  Calls Tryz.prog 10 #[.agg #[.int .u8 name, .slice ca cols.length cc, .int .i64 keys, .int .i64 idx], .slice ra r.length rc, .slice fa f.length fc] w fun e w' => qUf w ((qBs name cols keys idx r).map PX.b) ((qBs name cols keys idx f).map PX.b) r.length f.length e w' := by
 have n1 := h1.n; have n2 := h2.n; exact qRs name keys idx cc rc fc hl hr hf (by omega) (by omega) (fun v hv => (h1.ok v hv).1) (h1.size hn) (by omega) (fun v hv => (h2.ok v hv).1) (h2.size hn)
theorem jAf {w : World} {ca ra fa : Option Addr} {cols : List Int} {r f : List Vl} {name keys idx : Int} {cc rc fc : Nat} (hl : Lies w 1 oneI ca cols) (hr : Lies w 2 Vl.cs ra r) (hf : Lies w 2 Vl.cs fa f) (hn : cols.length <= 1048576) (h1 : jAw cols r) (h2 : jAw cols f) (hb : ¬ RBad (rowK name cols keys idx r) (rowK name cols keys idx f) r.length f.length)
  {cs : List Cg} (hcs : qNa (rowK name cols keys idx r) (rowK name cols keys idx f) = cs) :
  Calls Tryz.prog 10 #[.agg #[.int .u8 name, .slice ca cols.length cc, .int .i64 keys, .int .i64 idx], .slice ra r.length rc, .slice fa f.length fc] w fun e w' => ∃ la cap, e = .returned (.tuple #[.slice la cs.length cap, .int .i64 0]) /\ Lies w' 3 ccs la cs /\ Mod (fun _ => False) w w' :=
 (jEa name keys idx cc rc fc hl hr hf hn h1 h2).mono fun _ _ ⟨hm, ha⟩ => ha.elim (fun ⟨hx, _⟩ => absurd (jCa.2 hx) hb) (fun ⟨_, la, cap, he, hl⟩ => by
  have e := jAg ((qBs name cols keys idx r).map PX.b) ((qBs name cols keys idx f).map PX.b); have e2 : (chgL ((qBs name cols keys idx r).map PX.b) ((qBs name cols keys idx f).map PX.b)).map Rg.c = cs := e.trans hcs; have hl2 := jFu hl; rw [e2] at hl2; refine ⟨la, cap, ?_, hl2, hm⟩; rw [he, <- e2, List.length_map])
end
section
open Go Go.RowKit
def hv (n : Int) : Int := n.tdiv 2
def kT (c n : Int) : ByteArray := ba (qAl c.toNat 0 ++ ordL n)
def vT (n : Int) : ByteArray := ba (intL (hv n))
def xT (c n : Int) : ByteArray := ba (qAl c.toNat 1 ++ ordL (hv n) ++ ordL n)
def rowT (n : Int) : List Vl := [⟨n, ⟨#[]⟩⟩, ⟨hv n, ⟨#[]⟩⟩]
def I64 (n : Int) : Prop := -9223372036854775808 <= n /\ n <= 9223372036854775807
def AB (c : Int) : Prop := c = 97 \/ c = 98
theorem qPr {n : Int} (h : I64 n) : I64 (hv n) := by
 obtain ⟨h1, h2⟩ := h; unfold I64 hv; rcases Int.le_total 0 n with h | h
 ·rw [Int.tdiv_eq_ediv_of_nonneg h]; omega
 ·obtain ⟨m, rfl⟩ : ∃ m : Int, n = -m := ⟨-n, by omega⟩
  rw [Int.neg_tdiv, Int.tdiv_eq_ediv_of_nonneg (by omega)]; omega
theorem qQp {c : Int} (hc : AB c) : qIs c [0, 0] 1 1 = true := by
 unfold qIs; rw [if_pos (by
  intro k hk; rcases List.mem_cons.1 hk with rfl | hk
  ·exact .inl rfl
  ·rw [List.mem_singleton] at hk; subst hk; exact .inl rfl)]
 rcases hc with rfl | rfl <;> rfl
theorem qSr {c n : Int} (hc : AB c) (hn : I64 n) : rowK c [0, 0] 1 1 (rowT n) = some ⟨kT c n, vT n, xT c n⟩ := by
 have e1 : pxOf c [0, 0] 1 1 (rowT n) = ⟨qAl c.toNat 0 ++ ordL n, intL (hv n), qAl c.toNat 1 ++ ordL (hv n) ++ ordL n⟩ := by
  unfold pxOf qFk qVa pxL qDj valL idxL rowT qDr qPt qIj; simp
 have hp : qBs c [0, 0] 1 1 (rowT n) = some ⟨qAl c.toNat 0 ++ ordL n, intL (hv n), qAl c.toNat 1 ++ ordL (hv n) ++ ordL n⟩ := by
  rw [<- e1]; refine qGh ⟨qQp hc, rfl, fun j k v hk hv' => ?_, fun j v hj hv' => ?_⟩ ?_
  ·match j with
   | 0 => cases hk; cases hv'; unfold qCk; rw [if_pos rfl, ByteArray.toList_eq]; rfl
   | 1 => cases hk; cases hv'; unfold qCk; rw [if_pos rfl, ByteArray.toList_eq]; rfl
   | j + 2 => cases hk
  ·match j, hv' with
   | 0, hv' => cases hv'; rfl
   | 1, hv' => cases hv'; rfl
   | j + 2, hv' => cases hv'
  ·rw [e1]; have h8 : (ordL n).length = 8 := qDf 8 _; have h9 : (ordL (hv n)).length = 8 := qDf 8 _; have h10 := qTm (qPr hn).1 (qPr hn).2; refine ⟨?_, ?_, ?_⟩
   ·show (qAl c.toNat 0 ++ ordL n).length <= 48; unfold qAl; simp only [List.length_append, List.length_cons, List.length_nil]; omega
   ·show (qAl c.toNat 1 ++ ordL (hv n) ++ ordL n).length <= 48; unfold qAl; simp only [List.length_append, List.length_cons, List.length_nil]; omega
   ·show (intL (hv n)).length <= 200; omega
 unfold rowK; rw [hp]; rfl
def tabP (c : Int) (A : List Int) (p : KV) : Prop := ∃ n ∈ A, p = (kT c n, vT n) \/ p = (xT c n, ⟨#[]⟩)
structure TabL (L : List KV) (A B : List Int) : Prop where
 asc : Asc L
 ka : ∀ n ∈ A, I64 n
 kb : ∀ n ∈ B, I64 n
 mem : ∀ p, p ∈ L ↔ tabP 97 A p \/ tabP 98 B p
theorem jFb : TabL [] [] [] := ⟨List.Pairwise.nil, (fun m hm => by cases hm), (fun m hm => by cases hm), fun p => ⟨(fun h => by cases h), fun h => by rcases h with ⟨_, h, _⟩ | ⟨_, h, _⟩ <;> cases h⟩⟩
theorem qXd {c n : Int} (hc : AB c) (hn : I64 n) : qFo c [0, 0] 1 1 (kT c n) (vT n) (rowT n) := by
 have h1 := qSr hc hn; obtain ⟨p, hp, e, _, _⟩ := qHl h1; have hv : ∀ v ∈ rowT n, v.Ok := by
  intro v hv; unfold rowT at hv; rcases List.mem_cons.1 hv with rfl | hv
  ·exact ⟨hn.1, hn.2, qHw⟩
  ·rw [List.mem_singleton] at hv; subst hv; exact ⟨(qPr hn).1, (qPr hn).2, qHw⟩
 have := qTv hv hp; injection e with e1 e2 _
 rw [<- e1, <- e2] at this; exact this
end
section
open Go Go.RowKit
theorem jFi {n : Int} (hn : I64 n) : jAw [0, 0] (rowT n) := ⟨by show 2 <= _; omega, fun x hx => by
 have h2 := qPr hn; unfold rowT at hx; simp only [List.mem_cons, List.not_mem_nil, or_false] at hx; rcases hx with rfl | rfl
 ·exact ⟨⟨hn.1, hn.2, by show (0 : Nat) <= _; omega⟩, by show (0 : Nat) <= _; omega⟩
 ·exact ⟨⟨h2.1, h2.2, by show (0 : Nat) <= _; omega⟩, by show (0 : Nat) <= _; omega⟩⟩
theorem qPb {c n : Int} (hc : AB c) (hn : I64 n) : ¬ RBad (rowK c [0, 0] 1 1 []) (rowK c [0, 0] 1 1 (rowT n)) ([] : List Vl).length (rowT n).length := by
 rw [qNg, qSr hc hn]; rintro (⟨_, h⟩ | ⟨h, _⟩ | ⟨p, q, h, _⟩)
 ·exact absurd h (by decide)
 ·cases h
 ·cases h
set_option maxRecDepth 100000
set_option maxHeartbeats 1000000 in
theorem qNj {V : World} {B : TB} {T : TM} {D : Dsk} {k : Nat} {L : List KV} {N : Nat} (h : Here V B T D k L N) {c n : Int} (hc : AB c) (hn : I64 n) {ca : Option Addr} {cc bx : Nat} (hl : Lies V 1 oneI ca [0, 0]) (hb : V.cell? ⟨bx, 0, none⟩ = some (.pointer (some ⟨B.tb, 0, none⟩)))
  (hL : L.length <= 480) (hk : k <= 1000000) (hr : B.room = 500) (hD : 1500 <= D.secs.length) :
  Calls Tryz.prog 13 #[.agg #[.int .u8 c, .slice ca 2 cc, .int .i64 1, .int .i64 1], .int .i64 n, .pointer (some ⟨bx, 0, none⟩)] V fun e w' => e = .returned (.bool true) /\ (∃ (T' : TM) (D' : Dsk) (N' : Nat), Here w' B T' D' (k + 1002) (chgs (qNa none (rowK c [0, 0] 1 1 (rowT n))) L) N' /\ D'.secs.length = D.secs.length) /\ Mod (TS B) V w' := by
 have hma : Mod (fun _ => False) V (V.alloc (.cells #[.int .u8 c, .slice ca 2 cc, .int .i64 1, .int .i64 1] 24)) := (Mod.refl _ _).alloc _
 have ha : (V.alloc (.cells #[.int .u8 c, .slice ca 2 cc, .int .i64 1, .int .i64 1] 24)).heap[V.heap.size]? = some (.cells #[.int .u8 c, .slice ca 2 cc, .int .i64 1, .int .i64 1] 24 (0, 0)) := heap_alloc_new _ _; have HM := hid hma; have HH := hid (h.ext hma); have HL := hid (hl.ext hma); have hbx : (V.alloc (.cells #[.int .u8 c, .slice ca 2 cc, .int .i64 1, .int .i64 1] 24)).cell? ⟨bx, 0, none⟩ = some (.pointer (some ⟨B.tb, 0, none⟩)) := (⟨_, hma⟩ : Ext V).cell hb; obtain ⟨b0, b1, b2, b3⟩ := row4 ha; clear hma ha h hl hb; obtain ⟨cs, hcs⟩ : ∃ cs, qNa none (rowK c [0, 0] 1 1 (rowT n)) = cs := ⟨_, rfl⟩
 have hck := jBc (name := c) (cols := [0, 0]) (keys := 1) (idx := 1) (r := []) (r' := rowT n) (qXz (qPb hc hn)); rw [qNg, hcs] at hck; have HCk := hid hck; have hc3 := hck.2; have HCs := hid hcs; have HG : Hid (∀ c ∈ cs, c.key.size <= maxLen /\ c.value.size <= maxLen) := hid (fun c hc => by
  have := qHy hck.1 c hc; have h1 := this.key; have h2 := this.value; unfold maxLen; omega)
 have HI := hid (⟨hc, hn⟩ : AB c /\ I64 n); obtain ⟨n2, hn2⟩ : ∃ m, hv n = m := ⟨_, rfl⟩; have HN2 := hid hn2; have hw : wrap64 n2 = n2 := by obtain ⟨h1, h2⟩ := qPr hn; rw [hn2] at h1 h2; unfold wrap64; omega
 clear hck hcs; go_enter Tryz.func13, Tryz.ntmps13
 go_upto_region 1 with fail
 generalize V.alloc (.cells #[.int .u8 c, .slice ca 2 cc, .int .i64 1, .int .i64 1] 24) = C at *; have hmv : Mod (fun _ => False) C (C.alloc (.cells #[.int .i64 n, .string ⟨#[]⟩, .int .i64 (hv n), .string ⟨#[]⟩] 46)) := (Mod.refl _ _).alloc _
 have hlv : Lies (C.alloc (.cells #[.int .i64 n, .string ⟨#[]⟩, .int .i64 (hv n), .string ⟨#[]⟩] 46)) 2 Vl.cs (some ⟨C.heap.size, 0, none⟩) (rowT n) := qCz qEt (heap_alloc_new _ _); have HC : Hid (Calls Tryz.prog 10 #[.agg #[.int .u8 c, .slice ca 2 cc, .int .i64 1, .int .i64 1], .slice none 0 0, .slice (some ⟨C.heap.size, 0, none⟩) 2 2] (C.alloc (.cells #[.int .i64 n, .string ⟨#[]⟩, .int .i64 (hv n), .string ⟨#[]⟩] 46)) fun e w' => ∃ la cap, e = .returned (.tuple #[.slice la cs.length cap, .int .i64 0]) /\ Lies w' 3 ccs la cs /\ Mod (fun _ => False) (C.alloc (.cells #[.int .i64 n, .string ⟨#[]⟩, .int .i64 (hv n), .string ⟨#[]⟩] 46)) w') :=
  hid (jAf (name := c) (keys := 1) (idx := 1) (cc := cc) (rc := 0) (fc := 2) (ra := none) (HL.out.ext hmv) (jCu _ _ _ _) hlv (by show 2 <= _; omega) ⟨Nat.zero_le _, fun x hx => by cases hx⟩ (jFi hn) (qPb hc hn) (by rw [qNg]; exact HCs.out))
 have HMv := hid hmv; clear hmv hlv; rw [hn2] at HC HMv; have hq : n.tdiv 2 = n2 := hn2; go_upto_region 2 with (go_at_call 10; refine HC.out.mono ?_; rintro e w2 ⟨la, cp, rfl, hl2, hm2⟩; have HL2 := hid hl2; have HM2 := hid (HMv.out.trans hm2); have HH2 := hid (HH.out.ext HM2.out); have hbx2 : w2.cell? ⟨bx, 0, none⟩ = some (.pointer (some ⟨B.tb, 0, none⟩)) := (⟨_, HM2.out⟩ : Ext C).cell hbx; clear hl2 hm2)
 have HA := hid (qVm HH2.out (by omega) cp HL2.out (by omega) HG.out)
 clear HC hq hw b0 b1 b2 b3; have HFew := hid (fun (W w' : World) (e : Ending) (ha : HApp W B T D k L N cs e w') => HApp.made HH2.out ha HCk.out.1 (by omega) (by omega) hr hD)
 go_wp2_with (go_at_call 11; refine HA.out.mono ?_; intro e w3 ha; obtain ⟨rfl, T3, D3, N3, h3, hd3, hm3⟩ := HFew.out _ _ _ ha; have HH3 := hid h3; have HD3 := hid hd3; have HM3 := hid ((HM.out.trans HM2.out).mono (fun _ _ e => e.elim) |>.trans hm3); clear ha h3 hd3 hm3)
 go_ret; exact ⟨rfl, ⟨T3, D3, N3, by rw [HCs.out]; exact HH3.out, HD3.out⟩, HM3.out⟩
end
section
open Go Go.RowKit
structure TbAt (w : World) (bx s : Nat) (tb : Nat) : Prop where
 x : w.cell? ⟨bx, 0, none⟩ = some (.pointer (some ⟨tb, 0, none⟩))
 ra : w.heap[s + 1]? = some (.cells #[.int .u8 97, .slice (some ⟨s, 0, none⟩) 2 2, .int .i64 1, .int .i64 1] 24 (0, 0))
 rb : w.heap[s + 1 + 1 + 1]? = some (.cells #[.int .u8 98, .slice (some ⟨s + 1 + 1, 0, none⟩) 2 2, .int .i64 1, .int .i64 1] 24 (0, 0))
 la : Lies w 1 oneI (some ⟨s, 0, none⟩) [0, 0]
 lb : Lies w 1 oneI (some ⟨s + 1 + 1, 0, none⟩) [0, 0]
 rr : w.heap[s + 1 + 1 + 1 + 1 + 1 + 1]? = some (.cells #[.map (some (s + 1 + 1 + 1 + 1)), .map (some (s + 1 + 1 + 1 + 1 + 1))] 49 (0, 0))
theorem qAo {S : Nat -> Prop} {w w' : World} (hm : Mod S w w') {a : Addr} {v : Value} (hs : ¬ S a.block) (h : w.cell? a = some v) : w'.cell? a = some v := by
 have hl : a.block < w.heap.size := by
  unfold World.cell? at h; cases hb : w.heap[a.block]? with
  | none => rw [hb] at h; cases h
  | some o => exact lth hb
 have := hm.block a.block hl hs; unfold World.cell? at h ⊢; rw [this]; exact h
structure jIt (w : World) (b : Nat) (ls : List (Int × Value)) (j : Nat) (A : List Int) : Prop where
 map : qAy (Value.int IntKind.i64) w b ls
 nd : (ls.map (·.1)).Nodup
 keys : ∀ x, x ∈ ls.map (·.1) ↔ x ∈ A
 val : ∀ p ∈ ls, ∃ c : Int, 1 <= c /\ c <= j /\ p.2 = .int .i64 c
structure TbOk (W : World) (B : TB) (bx s : Nat) : Prop where
 room : B.room = 500
 new : ∀ i, TS B i -> W.heap.size <= i
 lt : ∀ i, TS B i -> i < bx
 sx : bx < s
 wx : W.heap.size <= bx
structure jAv (W wr : World) (B : TB) (bx s j : Nat) (T : TM) (D : Dsk) (k : Nat) (L : List KV) (N : Nat) (A C : List Int) (ls ms : List (Int × Value)) : Prop where
 at' : TbAt wr bx s B.tb
 here : Here wr B T D k L N
 tab : TabL L A C
 kk : k <= 1002 * j
 ll : L.length <= 3 * j
 dd : D.secs.length = 3000
 m1 : jIt wr (s + 1 + 1 + 1 + 1) ls j A
 m2 : jIt wr (s + 1 + 1 + 1 + 1 + 1) ms j C
 mod : Mod (fun b => W.heap.size <= b) W wr
end
section
open Go Go.RowKit
def rvV (x : RV) : Value := .tuple #[.agg #[.int .i64 x.v.n, .string x.v.s], .int .i64 (x.n : Int), .bool x.ok]
theorem qTn : ∀ (l : List UInt8) (c : UInt8), Lib.indexByte l c <= (l.length : Int)
 | [], c => by simp [Lib.indexByte]
 | b :: l, c => by
  have ih := qTn l c; rw [Lib.indexByte]; simp only [List.length_cons]; split
  ·omega
  ·split <;> omega
theorem jHm {s : ByteArray} {a : Nat} (h : (rdT s a).e = 0) : rtV (rdT s a) = .tuple #[.string (rdT s a).t, .int .i64 ((rdT s a).n : Int), .int .i64 0] := by unfold rtV; rw [h]; rfl
theorem jFh {s : ByteArray} {a : Nat} (h : (rdT s a).e ≠ 0) : rtV (rdT s a) = .tuple #[.string ⟨#[]⟩, .int .i64 0, .int .i64 ((rdT s a).e : Int)] := by
 unfold rtV rdT rtOf at *; by_cases h1 : (rdU 0 (s.data.toList.drop a)).e = 0
 ·rw [if_pos h1] at h ⊢; by_cases h2 : s.size < a + (rdU 0 (s.data.toList.drop a)).n + (rdU 0 (s.data.toList.drop a)).v
  ·rw [if_pos h2]; rfl
  ·rw [if_neg h2] at h; exact absurd rfl h
 ·rw [if_neg h1]; rfl
set_option maxRecDepth 100000
set_option maxHeartbeats 2000000 in
theorem qUp (s : ByteArray) (a : Nat) (w : World) (hs : s.size <= maxLen) (ha : a <= s.size) : Calls Tryz.prog 58 #[.int .i64 0, .string s, .int .i64 (a : Int)] w fun e w' => e = .returned (rvV (rdO s a)) /\ Mod (fun _ => False) w w' := by
 have HO := hid (fun W : World => qQu s a W hs ha)
 unfold roV at HO; unfold rdO; by_cases h8 : s.size < a + 8
 ·rw [if_pos h8] at HO ⊢; clear h8; go_enter Tryz.func58, Tryz.ntmps58
  go_wp2_with (go_at_call 91; refine (HO.out _).mono ?_; rintro e w1 ⟨rfl, rfl⟩)
  exact bodyPost_ret (v := rvV noV) (by simp [rvV, noV, results, Tryz.results58, go_sem]) rfl ⟨rfl, (Mod.refl _ _).alloc _⟩
 ·rw [if_neg h8] at HO ⊢; generalize (rdBE 0 ((s.data.toList.drop a).take 8) : Int) - 9223372036854775808 = n at *; clear h8; go_enter Tryz.func58, Tryz.ntmps58
  go_wp2_with (go_at_call 91; refine (HO.out _).mono ?_; rintro e w1 ⟨rfl, rfl⟩)
  exact bodyPost_ret (v := .tuple #[.agg #[.int .i64 n, .string ⟨#[]⟩], .int .i64 ((a : Int) + 8), .bool true]) (by simp [results, Tryz.results58, go_sem]) rfl ⟨rfl, (Mod.refl _ _).alloc _⟩
set_option maxHeartbeats 2000000 in
theorem qQo (k : Int) (hk : k ≠ 0) (s : ByteArray) (a : Nat) (w : World) (hs : s.size <= 140737488351232) (ha : a <= s.size) : Calls Tryz.prog 58 #[.int .i64 k, .string s, .int .i64 (a : Int)] w fun e w' => e = .returned (rvV (rdZ s a)) /\ Mod (fun _ => False) w w' := by
 have e0 : (k == 0) = false := by simpa using hk
 have hsl : ∀ v : World, (Instr.slice 9 (.string s) (some (.int .i64 (a : Int))) none none).run Tryz.prog v = .ok (.string (s.extract a s.size)) v := fun v => by
  have := run_slice_string_l (P := Tryz.prog) v 9 s Tryz.underlying9 .i64 (a : Int) (by omega) (by omega)
  simpa using this
 have hx : (s.extract a s.size).data.toList = s.data.toList.drop a := by
  rw [ByteArray.data_extract, Array.toList_extract, List.extract_eq_take_drop, List.take_of_length_le]; have : s.data.toList.length = s.size := rfl; rw [List.length_drop]; omega
 have hi : ∀ v : World, Calls Tryz.prog 92 #[.string (s.extract a s.size), .int .u8 0] v fun e w' => e = .returned (.int .i64 (Lib.indexByte (s.data.toList.drop a) 0)) /\ w' = v := fun v => by
  have := Tryz.strings_IndexByte (s.extract a s.size) 0 v; rw [hx] at this; exact this
 have HI := hid hi; have hge := Lib.indexByte_ge (s.data.toList.drop a) 0; have hle := qTn (s.data.toList.drop a) 0; rw [List.length_drop] at hle; have hsl0 : s.data.toList.length = s.size := rfl; unfold rdZ; clear hi hx hk; generalize Lib.indexByte (s.data.toList.drop a) 0 = i at *; by_cases h0 : i < 0
 ·rw [if_pos h0]; have d0 : decide (i < 0) = true := by rw [decide_eq_true_iff]; exact h0
  clear h0 hge hle; go_enter Tryz.func58, Tryz.ntmps58
  go_wp2_with (go_at_call 92; refine (HI.out _).mono ?_; rintro e w1 ⟨rfl, rfl⟩)
  exact bodyPost_ret (v := rvV noV) (by simp [rvV, noV, results, Tryz.results58, go_sem]) rfl ⟨rfl, (Mod.refl _ _).alloc _⟩
 ·rw [if_neg h0]; have d0 : decide (i < 0) = false := by rw [decide_eq_false_iff_not]; exact h0
  obtain ⟨m, rfl⟩ := Int.eq_ofNat_of_zero_le (show 0 <= i by omega)
  have hs2 : ∀ v : World, (Instr.slice 9 (.string s) (some (.int .i64 (a : Int))) (some (.int .i64 ((a : Int) + (m : Int)))) none).run Tryz.prog v = .ok (.string (s.extract a (a + m))) v := fun v => by
   have := run_slice_string (P := Tryz.prog) v 9 s .i64 .i64 (a : Int) ((a : Int) + (m : Int)) Tryz.underlying9 (by omega) (by omega) (by omega)
   rw [show ((a : Int) + (m : Int)).toNat = a + m by omega, show ((a : Int)).toNat = a by omega] at this
   exact this
  clear h0 hge; go_enter Tryz.func58, Tryz.ntmps58
  go_wp2_with (go_at_call 92; refine (HI.out _).mono ?_; rintro e w1 ⟨rfl, rfl⟩)
  exact bodyPost_ret (v := .tuple #[.agg #[.int .i64 0, .string (s.extract a (a + m))], .int .i64 ((a : Int) + (m : Int) + 1), .bool true]) (by simp [results, Tryz.results58, go_sem]) rfl ⟨rfl, (Mod.refl _ _).alloc _⟩
theorem qUq (k : Int) (s : ByteArray) (a : Nat) (w : World) (hs : s.size <= 140737488351232) (ha : a <= s.size) : Calls Tryz.prog 58 #[.int .i64 k, .string s, .int .i64 (a : Int)] w fun e w' => e = .returned (rvV (qBv k s a)) /\ Mod (fun _ => False) w w' := by
 unfold qBv; by_cases hk : k = 0
 ·subst hk; rw [if_pos rfl]; exact qUp s a w (by unfold maxLen; omega) ha
 ·rw [if_neg hk]; exact qQo k hk s a w hs ha
set_option maxHeartbeats 2000000 in
theorem qUn (s : ByteArray) (a : Nat) (w : World) (hs : s.size <= maxLen) : Calls Tryz.prog 59 #[.int .i64 0, .string s, .int .i64 (a : Int)] w fun e w' => e = .returned (rvV (rdI s a)) /\ Mod (fun _ => False) w w' := by
 have HO := hid (fun W : World => qQv s a W hs)
 unfold riV at HO; unfold rdI; generalize rdU 0 (s.data.toList.drop a) = x at *; obtain ⟨v, n, er⟩ := x; by_cases he : er = 0
 ·subst he; simp only [if_true] at HO ⊢; go_enter Tryz.func59, Tryz.ntmps59
  go_wp2_with (go_at_call 93; refine (HO.out _).mono ?_; rintro e w1 ⟨rfl, rfl⟩)
  exact bodyPost_ret (v := .tuple #[.agg #[.int .i64 (unzz v), .string ⟨#[]⟩], .int .i64 ((a : Int) + (n : Int)), .bool true]) (by simp [results, Tryz.results59, go_sem]) rfl ⟨rfl, (Mod.refl _ _).alloc _⟩
 ·simp only [if_neg he] at HO ⊢; have e1 : ((er : Int) == 0) = false := by rw [beq_eq_false_iff_ne]; omega
  clear he; go_enter Tryz.func59, Tryz.ntmps59
  go_wp2_with (go_at_call 93; refine (HO.out _).mono ?_; rintro e w1 ⟨rfl, rfl⟩)
  exact bodyPost_ret (v := rvV noV) (by simp [rvV, noV, results, Tryz.results59, go_sem]) rfl ⟨rfl, (Mod.refl _ _).alloc _⟩
set_option maxHeartbeats 2000000 in
theorem qQn (k : Int) (hk : k ≠ 0) (s : ByteArray) (a : Nat) (w : World) (hs : s.size <= maxLen) : Calls Tryz.prog 59 #[.int .i64 k, .string s, .int .i64 (a : Int)] w fun e w' => e = .returned (rvV (rdX s a)) /\ Mod (fun _ => False) w w' := by
 have HO := hid (fun W : World => qPe s a W hs)
 have e0 : (k == 0) = false := by simpa using hk
 unfold rdX; clear hk; by_cases he : (rdT s a).e = 0
 ·rw [jHm he] at HO; rw [if_pos he]; clear he; generalize rdT s a = x at *; obtain ⟨t, n, er⟩ := x; simp only at HO ⊢; go_enter Tryz.func59, Tryz.ntmps59
  go_wp2_with (go_at_call 94; refine (HO.out _).mono ?_; rintro e w1 ⟨rfl, rfl⟩)
  exact bodyPost_ret (v := .tuple #[.agg #[.int .i64 0, .string t], .int .i64 (n : Int), .bool true]) (by simp [results, Tryz.results59, go_sem]) rfl ⟨rfl, (Mod.refl _ _).alloc _⟩
 ·rw [jFh he] at HO; rw [if_neg he]; have e1 : (((rdT s a).e : Int) == 0) = false := by rw [beq_eq_false_iff_ne]; omega
  clear he; generalize rdT s a = x at *; obtain ⟨t, n, er⟩ := x; simp only at HO e1; go_enter Tryz.func59, Tryz.ntmps59
  go_wp2_with (go_at_call 94; refine (HO.out _).mono ?_; rintro e w1 ⟨rfl, rfl⟩)
  exact bodyPost_ret (v := rvV noV) (by simp [rvV, noV, results, Tryz.results59, go_sem]) rfl ⟨rfl, (Mod.refl _ _).alloc _⟩
theorem qUo (k : Int) (s : ByteArray) (a : Nat) (w : World) (hs : s.size <= maxLen) : Calls Tryz.prog 59 #[.int .i64 k, .string s, .int .i64 (a : Int)] w fun e w' => e = .returned (rvV (qCf k s a)) /\ Mod (fun _ => False) w w' := by
 unfold qCf; by_cases hk : k = 0
 ·subst hk; rw [if_pos rfl]; exact qUn s a w hs
 ·rw [if_neg hk]; exact qQn k hk s a w hs
end
section
open Go Go.RowKit
def qPw : Option PX -> Value
 | some p => .tuple #[.agg #[.string (ba p.k), .string (ba p.v)], .int .i64 0]
 | none => .tuple #[.agg #[.string ⟨#[]⟩, .string ⟨#[]⟩], .int .i64 60]
set_option maxRecDepth 100000
set_option maxHeartbeats 2000000 in
theorem qTs {w : World} {ca ra : Option Addr} {cols : List Int} {r : List Vl} (name keys idx : Int) (cc rc : Nat) (hl : Lies w 1 oneI ca cols) (hr : Lies w 2 Vl.cs ra r) (hn : cols.length <= 140737488351232) (hrn : r.length <= 140737488351232) (hv : ∀ v ∈ r, v.Ok) (hsz : ∀ k, (qDj cols r k).length <= 1152921504606846976) (hsv : ∀ j k, (valL cols r j k).length <= 1152921504606846976) :
  Calls Tryz.prog 19 #[.agg #[.int .u8 name, .slice ca cols.length cc, .int .i64 keys, .int .i64 idx], .slice ra r.length rc] w fun e w' => e = .returned (qPw (qBs name cols keys idx r)) /\ Mod (fun _ => False) w w' := by
 have hma : Mod (fun _ => False) w ((w.alloc (.cells #[.int .u8 name, .slice ca cols.length cc, .int .i64 keys, .int .i64 idx] 24)).alloc (.cells #[.string ⟨#[]⟩, .string ⟨#[]⟩] 41)) := ((Mod.refl _ _).alloc _).alloc _
 have HP := hid (qIi name keys idx cc rc (hl.ext hma) (hr.ext hma) hn hrn hv hsz hsv); have hsz1 : (w.alloc (.cells #[.int .u8 name, .slice ca cols.length cc, .int .i64 keys, .int .i64 idx] 24)).heap.size = w.heap.size + 1 := by simp
 have ha : ((w.alloc (.cells #[.int .u8 name, .slice ca cols.length cc, .int .i64 keys, .int .i64 idx] 24)).alloc (.cells #[.string ⟨#[]⟩, .string ⟨#[]⟩] 41)).heap[w.heap.size]? = some (.cells #[.int .u8 name, .slice ca cols.length cc, .int .i64 keys, .int .i64 idx] 24 (0, 0)) := by
  rw [Below.heap_alloc _ _ _ (by omega)]
  exact heap_alloc_new _ _
 have hb : ((w.alloc (.cells #[.int .u8 name, .slice ca cols.length cc, .int .i64 keys, .int .i64 idx] 24)).alloc (.cells #[.string ⟨#[]⟩, .string ⟨#[]⟩] 41)).heap[w.heap.size + 1]? = some (.cells #[.string ⟨#[]⟩, .string ⟨#[]⟩] 41 (0, 0)) := by
  rw [<- hsz1]; exact heap_alloc_new _ _
 have HM := hid hma; have HB := hid hb; obtain ⟨b0, b1, b2, b3⟩ := row4 ha; clear hl hr hv hsz hsv hma hsz1 ha hb; generalize qBs name cols keys idx r = P at *; cases P with
 | none =>
  have hp : qCp none = .tuple #[.agg #[.string ⟨#[]⟩, .string ⟨#[]⟩], .agg #[.string ⟨#[]⟩, .string ⟨#[]⟩], .bool false] := rfl; rw [hp] at HP; clear hp; go_enter Tryz.func19, Tryz.ntmps19
  go_upto_region 2 with (go_at_call 31; refine HP.out.mono ?_; rintro e w1 ⟨rfl, hm⟩; have HM1 := hid hm; clear hm)
  clear b0 b1 b2 b3; have hm2 : Mod (fun _ => False) w1 ((w1.alloc (.cells #[.string ⟨#[]⟩, .string ⟨#[]⟩] 41)).alloc (.cells #[.string ⟨#[]⟩, .string ⟨#[]⟩] 41)) := ((Mod.refl _ _).alloc _).alloc _
  have hs2 : (w1.alloc (.cells #[.string ⟨#[]⟩, .string ⟨#[]⟩] 41)).heap.size = w1.heap.size + 1 := by simp
  have hp1 : ((w1.alloc (.cells #[.string ⟨#[]⟩, .string ⟨#[]⟩] 41)).alloc (.cells #[.string ⟨#[]⟩, .string ⟨#[]⟩] 41)).heap[w1.heap.size]? = some (.cells #[.string ⟨#[]⟩, .string ⟨#[]⟩] 41 (0, 0)) := by
   rw [Below.heap_alloc _ _ _ (by omega)]
   exact heap_alloc_new _ _
  have HM2 := hid ((HM.out.trans HM1.out).trans hm2); have hB2 := ((HM1.out.trans hm2).block _ (lth HB.out) (fun h => h)).trans HB.out
  have HB2 := hid hB2; obtain ⟨c0, c1, _, _⟩ := row2 hp1; obtain ⟨_, _, f0, f1⟩ := row2 hB2; clear hm2 hs2 hp1 hB2; generalize (w1.alloc (.cells #[.string ⟨#[]⟩, .string ⟨#[]⟩] 41)).alloc (.cells #[.string ⟨#[]⟩, .string ⟨#[]⟩] 41) = V at *; obtain ⟨d0, d1, _, _⟩ := row2 HB2.out; go_wp2_with fail
  obtain ⟨z0, z1, z2⟩ := val2 HM2.out (Nat.le_succ _) HB2.out (.string ⟨#[]⟩) (.string ⟨#[]⟩); clear c0 c1 f0 f1 d0 d1; generalize (V.setCell ⟨w.heap.size + 1, 0, none⟩ (.string ⟨#[]⟩)).setCell ⟨w.heap.size + 1, 1, none⟩ (.string ⟨#[]⟩) = Z at *; exact bodyPost_ret (v := qPw (none)) (by simp [qPw, results, Tryz.results19, go_sem, z0, z1]) rfl ⟨rfl, z2⟩
 | some p =>
  have hp : qCp (some p) = .tuple #[.agg #[.string (ba p.k), .string (ba p.v)], .agg #[.string (ba p.x), .string ⟨#[]⟩], .bool true] := rfl; rw [hp] at HP; clear hp; go_enter Tryz.func19, Tryz.ntmps19
  go_upto_region 2 with (go_at_call 31; refine HP.out.mono ?_; rintro e w1 ⟨rfl, hm⟩; have HM1 := hid hm; clear hm)
  clear b0 b1 b2 b3; have hm2 : Mod (fun _ => False) w1 ((w1.alloc (.cells #[.string (ba p.k), .string (ba p.v)] 41)).alloc (.cells #[.string (ba p.x), .string ⟨#[]⟩] 41)) := ((Mod.refl _ _).alloc _).alloc _
  have hs2 : (w1.alloc (.cells #[.string (ba p.k), .string (ba p.v)] 41)).heap.size = w1.heap.size + 1 := by simp
  have hp1 : ((w1.alloc (.cells #[.string (ba p.k), .string (ba p.v)] 41)).alloc (.cells #[.string (ba p.x), .string ⟨#[]⟩] 41)).heap[w1.heap.size]? = some (.cells #[.string (ba p.k), .string (ba p.v)] 41 (0, 0)) := by
   rw [Below.heap_alloc _ _ _ (by omega)]
   exact heap_alloc_new _ _
  have HM2 := hid ((HM.out.trans HM1.out).trans hm2); have hB2 := ((HM1.out.trans hm2).block _ (lth HB.out) (fun h => h)).trans HB.out
  have HB2 := hid hB2; obtain ⟨c0, c1, _, _⟩ := row2 hp1; obtain ⟨_, _, f0, f1⟩ := row2 hB2; clear hm2 hs2 hp1 hB2; generalize (w1.alloc (.cells #[.string (ba p.k), .string (ba p.v)] 41)).alloc (.cells #[.string (ba p.x), .string ⟨#[]⟩] 41) = V at *; obtain ⟨d0, d1, _, _⟩ := row2 HB2.out; go_wp2_with fail
  obtain ⟨z0, z1, z2⟩ := val2 HM2.out (Nat.le_succ _) HB2.out (.string (ba p.k)) (.string (ba p.v)); clear c0 c1 f0 f1 d0 d1; generalize (V.setCell ⟨w.heap.size + 1, 0, none⟩ (.string (ba p.k))).setCell ⟨w.heap.size + 1, 1, none⟩ (.string (ba p.v)) = Z at *; exact bodyPost_ret (v := qPw (some p)) (by simp [qPw, results, Tryz.results19, go_sem, z0, z1]) rfl ⟨rfl, z2⟩
end
end Go.Proofs.YtkinkgbmlhiakaaGreatDoor
