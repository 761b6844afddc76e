/- merged: TwR TwF -/
import Derived.Test.YtgbcibdfeeiilaaGreatDoorMe05
import Derived.Test.YtgbcibdfeeiilaaGreatDoorMe16
import Derived.Test.YtgbcibdfeeiilaaGreatDoorMe30
namespace Go.Proofs.YtgbcibdfeeiilaaGreatDoor
section
open Go Go.RowKit
def jIl (w : World) (o : Option (List Nat)) (e : Ending) (w' : World) : Prop :=
 Mod (fun _ => False) w w' /\ match o with
  | none => ∃ v, e = .returned (.tuple #[v, .bool false])
  | some l => ∃ la cap, e = .returned (.tuple #[.slice la l.length cap, .bool true]) /\ Own w' 3 1 la l.length cap (nums l) /\ (∀ k, blk la k -> w.heap.size <= k)
def jIk (w wr : World) (s : ByteArray) (b : UInt8) (n i a : Nat) (out : List Nat) (la : Option Addr) (cap : Nat) : Prop :=
 qAz s b n = qGq s (n - i) a out /\ out.length = i /\ i <= n /\ a <= s.size /\ Own wr 3 1 la out.length cap (nums out) /\ (∀ k, blk la k -> w.heap.size <= k) /\ Mod (fun _ => False) w wr
set_option maxRecDepth 100000
set_option maxHeartbeats 4000000 in
theorem qIu (w : World) (s : ByteArray) (hs : s.size <= 1048576) (b : UInt8) (n : Nat) (hn : n <= 500) :
  Calls Tryz.prog 34 #[.string s, .string ⟨#[b]⟩, .int .i64 (n : Int)] w fun e w' => jIl w (qAz s b n) e w' := by
 obtain ⟨i0, hi, hz0, hz1, hz2⟩ := info_parts qGb; have HPx := hid (fun W : World => Tryz.strings_HasPrefix s ⟨#[b]⟩ W)
 by_cases hp : ∃ r, s.data.toList = b :: r
 ·obtain ⟨r, hr⟩ := hp; have hpx : Lib.hasPrefix s.data.toList (⟨#[b]⟩ : ByteArray).data.toList = true := by rw [hr]; simp [Lib.hasPrefix, List.isPrefixOf]
  have HN0 : Hid (qAz s b n = qGq s n 1 []) := hid (by unfold qAz; rw [hr]; simp)
  have hs1 : 1 <= s.size := by have h1 : s.data.toList.length = s.size := rfl; rw [hr, List.length_cons] at h1; omega
  rw [hpx] at HPx; clear hpx hr; go_enter Tryz.func34, Tryz.ntmps34
  go_wp2_with (go_at_call 65; refine (HPx.out _).mono ?_; rintro e w2 ⟨rfl, hw⟩; subst w2)
  go_loopw [8, 9, 18] (fun sat sout si wr => ∃ (i a : Nat) (out : List Nat) (la : Option Addr) (cap : Nat), sat = .int .i64 (a : Int) /\ sout = .slice la out.length cap /\ si = .int .i64 (i : Int) /\ jIk w wr s b n i a out la cap) (fun _ _ si _ => n - (intOf si).toNat)
  case atStart => exact ⟨0, 1, [], none, 0, rfl, rfl, rfl, by rw [Nat.sub_zero]; exact HN0.out, rfl, Nat.zero_le _, hs1, Own.nil _ _ _, (fun k hk => (qAl k hk).elim), Mod.refl _ _⟩
  case round =>
   obtain ⟨i, a, out, la, cap, rfl, rfl, rfl, hrel⟩ := hrel; obtain ⟨r1, r2, r3, r4, r6, r8, r9⟩ := hrel; have HM := hid r9; have HO := hid r6; have HB := hid r8; have HNum := hid r1; have HLen := hid r2; have HRa := hid (qCg s a wr (by unfold maxLen; omega))
   have HFa := hid (qPf s a r4); have HS0 := hid (qRk (s := s) (c := n - i - 1) (a := a) (out := out)); have HS1 := hid (qJz (s := s) (c := n - i - 1) (a := a) (out := out)); have ho500 : out.length <= 500 := by omega
   clear r1 r2 r6 r8 r9; by_cases hlt : i < n
   ·have HNs : Hid (n - i = n - i - 1 + 1) := hid (by omega)
    rw [HNs.out] at HNum; obtain ⟨x, hx⟩ : ∃ x, rdU 0 (s.data.toList.drop a) = x := ⟨_, rfl⟩; rw [hx] at HRa HFa HS0 HS1; clear hx; by_cases hxe : x.e = 0
    ·rw [qZc hxe] at HRa; obtain ⟨f3, f4⟩ := HFa.out hxe; by_cases hxl : x.v <= 16777216
     ·have d2 : decide (16777216 < x.v) = false := by simpa using hxl
      have d3 : decide ((16777216 : Int) < (x.v : Int)) = false := by simpa using (by omega : ¬ (16777216 : Int) < (x.v : Int))
      have HXl := hid hxl; have HXe := hid hxe; have HSr : Hid (Src (wr.alloc (.cells #[.int .i64 (x.v : Int)] 3)) 1 (some ⟨wr.heap.size, 0, none⟩) 1 [.int .i64 (x.v : Int)]) := hid (qBr (heap_alloc_new _ _) rfl); have HO4 := hid (HO.out.mod (S := fun _ => False) ((Mod.refl _ wr).alloc (.cells #[.int .i64 (x.v : Int)] 3)) (fun _ _ h => h))
      clear hxe; go_wp2_with (first
       | (go_at_call 66; refine HRa.out.mono ?_; rintro e w1 ⟨rfl, rfl⟩)
       | (at_builtin; refine qAe rfl (.tmp 33) (.tmp 36) 35 rfl 3 i0 _ 1 8 Tryz.underlying35 hi hz0 hz1 hz2 rfl la out.length cap _ rfl HO4.out (some ⟨wr.heap.size, 0, none⟩) 1 1 _ rfl HSr.out (by intro u hu; simp at hu; subst hu; rfl) (by unfold maxLen; omega) (by omega) ?_; intro la' cap' w5 hown5 hm5 hb5 hn5 hr5; have Hown5 := hid hown5; have Hm5 := hid hm5; have Hb5 := hid hb5; clear hown5 hm5 hb5 hn5 hr5))
      go_roundw
      case rel =>
       have hsz := HM.out.size; refine ⟨i + 1, a + x.n, out ++ [x.v], la', cap', ?_, ?_, ?_, ?_, ?_, by omega, by omega, ?_, fun k hk => ?_, ?_⟩
       ·congr 1
       ·congr 1; simp
       ·congr 1
       ·rw [HNum.out, HS1.out HXe.out HXl.out]; congr 1
       ·rw [List.length_append, HLen.out]; rfl
       ·rw [qMd, List.length_append]; exact Hown5.out
       ·rcases Hb5.out k hk with h | h
        ·exact HB.out k h
        ·simp at h; omega
       ·have h1 : Mod (fun k => w.heap.size <= k) wr (wr.alloc (.cells #[.int .i64 (x.v : Int)] 3)) := (Mod.refl _ _).alloc _
        exact HM.out.then (h1.trans (Hm5.out.mono (fun k _ h => HB.out k h))) (fun i hi h => by omega)
      case measure => simp [intOf]; omega
     ·have d2 : decide (16777216 < x.v) = true := by simpa using hxl
      have d3 : decide ((16777216 : Int) < (x.v : Int)) = true := by simpa using (by omega : (16777216 : Int) < (x.v : Int))
      have HXl := hid hxl; clear hxl hxe; go_wp2_with (go_at_call 66; refine HRa.out.mono ?_; rintro e w1 ⟨rfl, rfl⟩)
      go_ret2; refine ⟨HM.out, ?_⟩; rw [HNum.out, HS0.out (fun h => HXl.out h.2)]
      exact ⟨_, rfl⟩
    ·rw [qSv hxe] at HRa; have e1 : ((x.e : Int) == 0) = false := by rw [beq_eq_false_iff_ne]; omega
     have e2 : ((x.e : Int) != 0) = true := by rw [bne_iff_ne]; omega
     have HXe := hid hxe; clear hxe; go_wp2_with (go_at_call 66; refine HRa.out.mono ?_; rintro e w1 ⟨rfl, rfl⟩)
     go_ret2; refine ⟨HM.out, ?_⟩; rw [HNum.out, HS0.out (fun h => HXe.out h.1)]
     exact ⟨_, rfl⟩
   ·have HIe : Hid (i = n) := hid (by omega)
    have hsl : ∀ v : World, (Instr.slice 9 (.string s) (some (.int .i64 (a : Int))) none none).run Tryz.prog v = .ok (.string (s.extract a s.size)) v := fun v => by
     have := run_slice_string_l (P := Tryz.prog) v 9 s Tryz.underlying9 .i64 (a : Int) (by omega) (by omega)
     simpa using this
    have hxs : (s.extract a s.size).size <= maxLen := by rw [ByteArray.size_extract]; unfold maxLen; omega
    have HTr := hid (fun v => qIr (s.extract a s.size) v hxs)
    have hnil := qGm (s.extract a s.size); have hdr : (s.extract a s.size).data.toList = s.data.toList.drop a := by
     rw [ByteArray.data_extract, Array.toList_extract, List.extract_eq_take_drop, List.take_of_length_le]; have : s.data.toList.length = s.size := rfl; rw [List.length_drop]; omega
    rw [hdr] at hnil; have HNil := hid hnil; have HNe : Hid (qAz s b n = qGq s 0 a out) := hid (by rw [HNum.out, HIe.out, Nat.sub_self])
    clear hnil hdr hxs; generalize qKx (s.extract a s.size) = tb at *; by_cases hz : AllZ (s.data.toList.drop a)
    ·have ez : tb.toList.isEmpty = true := by rw [ByteArray.toList_eq, HNil.out.2 hz]; rfl
     have HZz := hid hz; clear hz; go_wp2_with (go_at_call 33; refine (HTr.out wr).mono ?_; rintro e wt ⟨rfl, nq, rfl⟩)
     go_ret2; have hmt : Mod (fun _ => False) wr (wr.drewN nq) := (Mod.refl _ _).drewN nq
     refine ⟨HM.out.trans hmt, ?_⟩; rw [HNe.out, qJy HZz.out]; exact ⟨la, cap, rfl, HO.out.mod hmt (fun _ _ h => h), HB.out⟩
    ·have ez : tb.toList.isEmpty = false := by
      rw [ByteArray.toList_eq]; cases hl : tb.data.toList with
      | nil => exact absurd (HNil.out.1 hl) hz
      | cons b r => rfl
     have HZz := hid hz; clear hz; go_wp2_with (go_at_call 33; refine (HTr.out wr).mono ?_; rintro e wt ⟨rfl, nq, rfl⟩)
     go_ret2; refine ⟨HM.out.trans ((Mod.refl _ _).drewN nq), ?_⟩; rw [HNe.out, qRj HZz.out]; exact ⟨_, rfl⟩
 ·have hpx : Lib.hasPrefix s.data.toList (⟨#[b]⟩ : ByteArray).data.toList = false := by
   cases hl : s.data.toList with
   | nil => rfl
   | cons x r =>
    have hx : ¬ b = x := fun e => hp ⟨r, by rw [hl, e]⟩
    simp [Lib.hasPrefix, List.isPrefixOf, hx]
  have HN0 : Hid (qAz s b n = none) := hid (by
   unfold qAz; cases hl : s.data.toList with
   | nil => rfl
   | cons x r =>
    have hx : ¬ x = b := fun e => hp ⟨r, by rw [hl, e]⟩
    simp [hx])
  rw [hpx] at HPx; clear hpx hp; go_enter Tryz.func34, Tryz.ntmps34
  go_wp2_with (go_at_call 65; refine (HPx.out _).mono ?_; rintro e w2 ⟨rfl, hw⟩; subst w2)
  go_ret2; refine ⟨Mod.refl _ _, ?_⟩; rw [HN0.out]; exact ⟨_, rfl⟩
end
section
open Go Go.RowKit
structure AI (next : Int) (A : Int -> Option Int) (dom : List Int) : Prop where
 nodup : dom.Nodup
 mem : ∀ x, x ∈ dom ↔ (A x).isSome = true
 rng : ∀ x ∈ dom, 1 <= x /\ x < next
theorem AI.start (next : Int) : AI next (fun _ => none) [] := ⟨List.nodup_nil, (fun x => ⟨(fun h => by cases h), (fun h => by cases h)⟩), (fun x h => by cases h)⟩
theorem AI.len {next : Int} {A : Int -> Option Int} {dom : List Int} (h : AI next A dom) (hn : 1 <= next) : (dom.length : Int) <= next - 1 := by
 have h1 := qEs (m := (List.range (next - 1).toNat).map (fun i : Nat => (i : Int) + 1)) h.nodup (fun x hx => by
  obtain ⟨a, b⟩ := h.rng x hx; exact List.mem_map.2 ⟨(x - 1).toNat, List.mem_range.2 (by omega), by omega⟩)
 rw [List.length_map, List.length_range] at h1; omega
theorem AI.add {next : Int} {A : Int -> Option Int} {dom : List Int} (h : AI next A dom) {s y : Int} (hs : A s = none) (h1 : 1 <= s) (h2 : s < next) : AI next (fset A s (some y)) (dom ++ [s]) := by
 have hnm : s ∉ dom := fun hm => by rw [h.mem, hs] at hm; cases hm
 refine ⟨?_, fun x => ?_, fun x hx => ?_⟩
 ·rw [List.nodup_append]; exact ⟨h.nodup, by simp, fun a ha b hb e => by rw [List.mem_singleton] at hb; rw [e, hb] at ha; exact hnm ha⟩
 ·by_cases e : x = s
  ·rw [e, qAq]; simp
  ·rw [qAd _ _ e, <- h.mem]; simp [e]
 ·rcases List.mem_append.1 hx with hx | hx
  ·exact h.rng x hx
  ·rw [List.mem_singleton] at hx; rw [hx]; exact ⟨h1, h2⟩
theorem qFq {rd : Int -> ByteArray} {next : Int} {nodes : Int -> Option NP} {f : Nat} {s : Int} {A : Int -> Option Int} {dom : List Int} (h0 : s ≠ 0) (h : qAz (rd s) 70 1 = none \/ (A s).isSome = true \/ (nodes s).isSome = true \/ s < 1 \/ next <= s) : qGd rd next nodes (f + 1) s A dom = none := by
 unfold qGd; rw [if_neg h0]; cases hn : qAz (rd s) 70 1 with
 | none => rfl
 | some l =>
  cases l with
  | nil => rfl
  | cons y r =>
   simp only; rw [if_pos (h.resolve_left (by rw [hn]; intro e; cases e))]
theorem jFh {rd : Int -> ByteArray} {next : Int} {nodes : Int -> Option NP} {f : Nat} {s : Int} {A : Int -> Option Int} {dom : List Int} {y : Nat} (h0 : s ≠ 0) (hn : qAz (rd s) 70 1 = some [y]) (h : ¬ ((A s).isSome = true \/ (nodes s).isSome = true \/ s < 1 \/ next <= s)) : qGd rd next nodes (f + 1) s A dom = qGd rd next nodes f (y : Int) (fset A s (some (y : Int))) (dom ++ [s]) := by
 rw [qGd, if_neg h0, hn]; simp only; rw [if_neg h]
theorem qBh.look {S : Nat -> Prop} {w : World} {b : Nat} {f : Int -> Option NP} (h : qBh S w b f) (s : Int) : ∃ m : Nd, (Instr.lookup 76 (.map (some b)) (.int .i64 s) true).run Tryz.prog w = .ok (.tuple #[.agg #[.bool m.leaf, .slice m.ka m.keys.length m.kc, .slice m.va m.values.length m.vc, .slice m.ia m.kids.length m.ic], .bool (f s).isSome]) w := by
 cases hn : f s with
 | none =>
  have := h.miss (s := s) hn true; simp only [qOu, if_true] at this; exact ⟨⟨false, [], [], [], none, 0, none, 0, none, 0⟩, this⟩
 | some n =>
  obtain ⟨m, hlk, _⟩ := h.get hn; have := hlk w (Mod.refl _ _) true; simp only [Nd.val, if_true] at this; exact ⟨m, this⟩
theorem qZy {K : Type} [DecidableEq K] {kv : K -> Value} {w : World} {b : Nat} {l : List (K × Value)} (h : qBj kv w b l) {dom : List K} (hd : dom.Nodup) (hm : ∀ x, x ∈ dom ↔ (aget l x).isSome = true) : l.length = dom.length := by
 obtain ⟨_, _, _, _, hnd, _⟩ := h; have h1 : ∀ x, x ∈ l.map (·.1) ↔ x ∈ dom := fun x => by rw [hm, qAt]
 have h2 : (l.map (·.1)).Perm dom := (List.perm_ext_iff_of_nodup hnd hd).2 h1; have h3 := h2.length_eq; rw [List.length_map] at h3; exact h3
theorem qXd {w : World} {p : Addr} {v : Value} (h : w.cell? p = some v) : p.block < w.heap.size := by
 unfold World.cell? at h; cases ho : w.heap[p.block]? with
 | none => simp [ho] at h
 | some o => exact lth ho
def T0 (root next free count : Int) : TM := ⟨root, next, free, count, fun _ => none, fun _ => none⟩
def qQn (w : World) (B : TB) (D : Dsk) (o : Option TM) (e : Ending) (w' : World) : Prop :=
 Mod (TS B) w w' /\ match o with
 | some T' => e = .returned (.int .i64 0) /\ qAp (TS B) w' B T' D false
 | none => e = .returned (.int .i64 53) /\ ∃ T', qAp (TS B) w' B T' D false
structure FRel (w wr : World) (B : TB) (T : TM) (D : Dsk) (rd : Int -> ByteArray) (R : RS) (o : Option ((Int -> Option Int) × List Int)) (f : Nat) (s : Int) (A : Int -> Option Int) (dom : List Int) : Prop where
 go : qGd rd T.next R.nodes f s A dom = o
 ai : AI T.next A dom
 tree : qAp (TS B) wr B { T with nodes := R.nodes, after := A } D false
 mod : Mod (TS B) w wr
 fuel : dom.length + f = 20000
 pos : 0 <= s /\ s <= 16777216
theorem jHh {bs : ByteArray} (hs : bs.size <= 1048576) (h : qAz bs 70 1 = none) (z : World) : Calls Tryz.prog 34 #[.string bs, .string ⟨#[70]⟩, .int .i64 1] z fun e w' => (∃ v, e = .returned (.tuple #[v, .bool false])) /\ Mod (fun _ => False) z w' :=
 (qIu z bs hs 70 1 (by omega)).mono fun e w' hd => by
  obtain ⟨hm, hd⟩ := hd; rw [h] at hd; exact ⟨hd, hm⟩
theorem jHi {bs : ByteArray} (hs : bs.size <= 1048576) {y : Nat} (h : qAz bs 70 1 = some [y]) (z : World) : Calls Tryz.prog 34 #[.string bs, .string ⟨#[70]⟩, .int .i64 1] z fun e w' => ∃ g off cap, e = .returned (.tuple #[.slice (some ⟨g, off, none⟩) 1 cap, .bool true]) /\ w'.cell? ⟨g, off, none⟩ = some (.int .i64 (y : Int)) /\ z.heap.size <= g /\ Mod (fun _ => False) z w' :=
 (qIu z bs hs 70 1 (by omega)).mono fun e w' hd => by
  obtain ⟨hm, hd⟩ := hd; rw [h] at hd; obtain ⟨la, cap, rfl, ho, hb⟩ := hd; rcases ho.2.2.2 with ⟨rfl, h2⟩ | ⟨g, off, cur, rfl, h2, h3, h4⟩
  ·have := ho.2.1; subst h2; simp at this
  ·refine ⟨g, off, cap, rfl, ?_, hb g ⟨_, rfl, rfl⟩, hm⟩; have h5 := ho.src.2.2 _ rfl 0 (.int .i64 (y : Int)) rfl
   simpa [Addr.add] using h5
def LMid (w wx : World) (B : TB) (T : TM) (D : Dsk) (rd : Int -> ByteArray) (o : Option TM) : Prop := ∃ R : RS, RI T.next R /\ qAp (TS B) wx B (T.with R) D false /\ Mod (TS B) w wx ∧
 ((qGd rd T.next R.nodes 20000 T.free (fun _ => none) []).bind fun A => if (R.dom.length : Int) + A.2.length + 1 = T.next /\ ¬ (T.root = 0 /\ T.count ≠ 0) then some ⟨T.root, T.next, T.free, T.count, R.nodes, A.1⟩ else none) = o
def RS0 : RS := ⟨fun _ => none, [], emp⟩
theorem qDe {w w' : World} {B : TB} {D : Dsk} {T' : TM} (h : qAp (TS B) w' B T' D false) (hm : Mod (TS B) w w') : qQn w B D none (.returned (.int .i64 53)) w' := ⟨hm, rfl, T', h⟩
set_option maxRecDepth 100000
set_option maxHeartbeats 4000000 in
theorem qYq {w : World} {B : TB} {root next free count : Int} {D : Dsk} {rd : Int -> ByteArray} (h : qAp (TS B) w B (T0 root next free count) D false) (hne : B.nb ≠ B.ab) (hrd : ∀ s, 1 <= s -> s < next -> qCt B.room D s = (rd s, 0)) (hsz : ∀ s, (qCt B.room D s).1.size <= 1024)
  (h1 : 1 <= next) (hnx : next <= 16384) (hf : 0 <= free /\ free <= 16777216) : Calls Tryz.prog 36 #[.pointer (some ⟨B.tb, 0, none⟩)] w (qQn w B D (qIc rd root next free count)) := by
 obtain ⟨c0, _, _, c3, _⟩ := h.cells; change _ = some (Value.int .i64 root) at c0; obtain ⟨T, hT⟩ : ∃ T, T0 root next free count = T := ⟨_, rfl⟩; have hTr : T.root = root /\ T.next = next /\ T.free = free /\ T.count = count /\ T.nodes = (fun _ => none) /\ T.after = (fun _ => none) := by rw [<- hT]; exact ⟨rfl, rfl, rfl, rfl, rfl, rfl⟩
 obtain ⟨t1, t2, t3, t4, t5, t6⟩ := hTr; obtain ⟨o, ho⟩ : ∃ o, qIc rd root next free count = o := ⟨_, rfl⟩; rw [ho]; have HO := hid ho; have HH := hid h; have HNe := hid hne; have HRd := hid hrd; have HSz := hid hsz; have HN1 := hid h1; have HNx := hid hnx; have HFr := hid hf; clear h hne hrd hsz h1 hnx hf ho; go_enter Tryz.func36, Tryz.ntmps36
 go_upto_if 20 with fail
 go_cut [] (fun wx => LMid w wx B T D rd o)
 case first =>
  by_cases hr0 : root = 0
  ·have d0 : (root == 0) = true := by rw [beq_iff_eq]; exact hr0
   have HM : Hid (LMid w w B T D rd o) := hid ⟨RS0, RI.start _ _, by rw [<- hT]; exact HH.out, Mod.refl _ _, by
    rw [<- HO.out]; unfold qIc; rw [if_neg (fun h => h hr0), t1, t2, t3, t4]; rfl⟩
   clear hr0 c0 c3; go_wp2_with fail
   go_meet
   case rel => exact HM.out
  ·have d0 : (root == 0) = false := by rw [beq_eq_false_iff_ne]; exact hr0
   have hma : Mod (fun _ => False) w (w.alloc (.cells #[.string ⟨#[]⟩] 9)) := (Mod.refl _ _).alloc _
   have h' := HH.out.mod hma (fun _ e => e.elim) (fun _ e => e.elim)
   obtain ⟨a0, _⟩ := h'.cells; change _ = some (Value.int .i64 root) at a0; have HRa : Hid (RdAt (w.alloc (.cells #[.string ⟨#[]⟩] 9)) B w.heap.size T D RS0) := hid (by
    rw [<- hT]; refine ⟨?_, heap_alloc_new _ _, fun e => by have := HH.out.lt' e; omega, HNe.out⟩
    have h2 : qAp (LS B w.heap.size) w B (T0 root next free count) D false := HH.out.narrow (fun k hk e => e.elim id (fun e => by omega))
    exact h2.mod hma (fun _ e => e.elim) (fun _ e => e.elim))
   have HC := hid (qYn (B := B) (lb := w.heap.size) (T := T) (D := D) (rd := rd) (by rw [t2]; exact HRd.out) (fun s a b => by have := HSz.out s; rw [HRd.out s a (by rw [<- t2]; exact b)] at this; exact this) (by rw [t2]; exact HNx.out) 16 (Nat.le_refl _) root RS0 _ (RI.start _ _) HRa.out)
   have HMa := hid hma; have a3 := c3; change _ = some (Value.int .i64 count) at a3; rw [t2] at HC; cases hq : qDc rd next 16 root RS0 with
   | none =>
    have HNo : Hid (o = none) := hid (by rw [<- HO.out]; unfold qIc; rw [if_pos hr0]; show ((qDc rd next 16 root RS0).bind _).bind _ = _; rw [hq]; rfl)
    rw [hq] at HC; clear hr0 c0 c3 a3 hq h' hma; go_wp2_with (go_at_call 67; refine HC.out.mono ?_; rintro e w4 ⟨hm4, ⟨v, rfl⟩, R4, hr4⟩; have HF : Hid (qQn w B D none (.returned (.int .i64 53)) w4) := hid (qDe (hr4.tree.narrow (fun k _ e => .inl e)) ((HMa.out.mono (fun _ _ e => e.elim)).then hm4 (fun k hk e => e.elim id (fun e => by omega)))); clear hm4 hr4)
    go_ret; rw [HNo.out]; exact HF.out
   | some qq =>
    obtain ⟨R', n⟩ := qq; rw [hq] at HC; have HInv := hid (qLz 16 _ _ _ _ (RI.start next emp) hq); by_cases hnc : (n : Int) = count
    ·have dn : ((n : Int) == count) = true := by rw [beq_iff_eq]; exact hnc
     have HOo : Hid (((qGd rd T.next R'.nodes 20000 T.free (fun _ => none) []).bind fun A => if (R'.dom.length : Int) + A.2.length + 1 = T.next /\ ¬ (T.root = 0 /\ T.count ≠ 0) then some (⟨T.root, T.next, T.free, T.count, R'.nodes, A.1⟩ : TM) else none) = o) := hid (by
      rw [<- HO.out]; unfold qIc; rw [if_pos hr0, t1, t2, t3, t4]
      show _ = ((qDc rd next 16 root RS0).bind _).bind _; rw [hq]; simp only [Option.bind_some]; rw [if_pos hnc]; rfl)
     have HFw : Hid (∀ w4, Mod (LS B w.heap.size) (w.alloc (.cells #[.string ⟨#[]⟩] 9)) w4 -> RdAt w4 B w.heap.size T D R' -> LMid w w4 B T D rd o) := hid (fun w4 hm4 hr4 => ⟨R', (by rw [t2]; exact HInv.out.1), hr4.tree.narrow (fun k _ e => .inl e), (HMa.out.mono (fun _ _ e => e.elim)).then hm4 (fun k hk e => e.elim id (fun e => by omega)), HOo.out⟩)
     clear hr0 c0 c3 a3 hq h' hma hnc; go_wp2_with (go_at_call 67; refine HC.out.mono ?_; intro e w4 hx; have hm4 := hx.1; have hr4 := hx.2.2; have he := hx.2.1; subst he; have HF := hid (HFw.out w4 hm4 hr4); have z3 : w4.cell? ⟨B.tb, 3, none⟩ = some (.int .i64 count) := by rw [<- t4]; exact hr4.tree.cells.2.2.2.1)
     go_meet
     case rel => exact HF.out
    ·have dn : ((n : Int) == count) = false := by rw [beq_eq_false_iff_ne]; exact hnc
     have HNo : Hid (o = none) := hid (by
      rw [<- HO.out]; unfold qIc; rw [if_pos hr0]
      show ((qDc rd next 16 root RS0).bind _).bind _ = _; rw [hq]; simp only [Option.bind_some]; rw [if_neg hnc]; rfl)
     have HFw : Hid (∀ w4, Mod (LS B w.heap.size) (w.alloc (.cells #[.string ⟨#[]⟩] 9)) w4 -> RdAt w4 B w.heap.size T D R' -> qQn w B D none (.returned (.int .i64 53)) w4) := hid (fun w4 hm4 hr4 => qDe (hr4.tree.narrow (fun k _ e => .inl e)) ((HMa.out.mono (fun _ _ e => e.elim)).then hm4 (fun k hk e => e.elim id (fun e => by omega))))
     clear hr0 c0 c3 a3 hq h' hma hnc; go_wp2_with (go_at_call 67; refine HC.out.mono ?_; intro e w4 hx; have hm4 := hx.1; have hr4 := hx.2.2; have he := hx.2.1; subst he; have HF := hid (HFw.out w4 hm4 hr4); have z3 : w4.cell? ⟨B.tb, 3, none⟩ = some (.int .i64 count) := by rw [<- t4]; exact hr4.tree.cells.2.2.2.1)
     go_ret; rw [HNo.out]; exact HF.out
 case rest =>
  obtain ⟨R, r1, r2, r3, r4⟩ := hcut; have HRi := hid r1; have HTr := hid r2; have HMo := hid r3; have HGo := hid r4; obtain ⟨_, _, q2, _⟩ := r2.cells; change _ = some (Value.int .i64 T.free) at q2; rw [t3] at q2; clear r1 r2 r3 r4 c0 c3; go_upto_region 7 with fail
  clear q2; obtain ⟨oA, hoA⟩ : ∃ oA, qGd rd T.next R.nodes 20000 T.free (fun _ => none) [] = oA := ⟨_, rfl⟩
  rw [hoA] at HGo; have HF0 : Hid (FRel w wc B T D rd R oA 20000 free (fun _ => none) []) := hid ⟨by rw [<- t3]; exact hoA, AI.start _, (by
   have h2 := HTr.out; have e : T.with R = { T with nodes := R.nodes, after := (fun _ => none) } := by rw [<- hT]; rfl
   rw [e] at h2; exact h2), HMo.out, rfl, HFr.out⟩
  clear hoA; go_loopg [6] 20000 (fun g sat wr => ∃ (s : Int) (A : Int -> Option Int) (dom : List Int), sat = .int .i64 s /\ FRel w wr B T D rd R oA g s A dom)
  case atStart => exact ⟨_, _, _, rfl, HF0.out⟩
  case round =>
   obtain ⟨s, A, dom, rfl, hrel⟩ := hrel; have HRel := hid hrel; have hbn : R.dom.length <= 16384 := by have h3 := HRi.out.len (by rw [t2]; exact HN1.out); have h4 := HNx.out; rw [t2] at h3; omega
   have hba : dom.length <= 16384 := by have h3 := hrel.ai.len (by rw [t2]; exact HN1.out); have h4 := HNx.out; rw [t2] at h3; omega
   clear hrel; by_cases hs0 : s = 0
   ·have ds : (s == 0) = true := by rw [beq_iff_eq]; exact hs0
    have HoA : Hid (oA = some (A, dom)) := hid (by have h3 := HRel.out.go; rw [hs0, qOi] at h3; exact h3.symm)
    have hGo := HGo.out; rw [HoA.out] at hGo; simp only [Option.bind_some] at hGo; have HGo2 := hid hGo; obtain ⟨z0, z1, _, z3, _, _, z6, z7, _⟩ := HRel.out.tree.cells; change _ = some (Value.int .i64 T.root) at z0; change _ = some (Value.int .i64 T.next) at z1; change _ = some (Value.int .i64 T.count) at z3; rw [t1] at z0; rw [t2] at z1; rw [t4] at z3; obtain ⟨lN, n1, n2, n3⟩ := HRel.out.tree.nodes; obtain ⟨lA, a1, a2⟩ := HRel.out.tree.after; have hlN : lN.length = R.dom.length := qZy n1 HRi.out.nodup (fun x => by
     rw [HRi.out.mem]; cases hx : R.nodes x with
     | none => rw [n2 x hx]; simp
     | some n => obtain ⟨_, m, h2, _⟩ := n3 x n hx; rw [h2]; simp)
    have hlA : lA.length = dom.length := qZy a1 HRel.out.ai.nodup (fun x => by
     rw [HRel.out.ai.mem, a2 x, Option.isSome_map])
    have lenN := fun y : Ext wr => qJx (P := Tryz.prog) 3 Tryz.underlying76 (n1.mod y.mod (fun e => e))
    have lenA := fun y : Ext wr => qJx (P := Tryz.prog) 3 Tryz.underlying77 (a1.mod y.mod (fun e => e))
    rw [hlN] at lenN; rw [hlA] at lenA; have g0 := fun y : Ext wr => y.cell z0
    have g1 := fun y : Ext wr => y.cell z1
    have g3 := fun y : Ext wr => y.cell z3
    have g6 := fun y : Ext wr => y.cell z6
    have g7 := fun y : Ext wr => y.cell z7
    have HFy := hid (fun y : Ext wr => (HRel.out.tree.mod y.mod (fun _ e => e.elim) (fun _ e => e.elim) : qAp (TS B) y.val B { T with nodes := R.nodes, after := A } D false))
    have HMy := hid (fun y : Ext wr => HRel.out.mod.trans (y.mod.mono (fun _ _ e => e.elim)))
    have hxs : s = 0 := hs0; subst hxs; clear z0 z1 z3 z6 z7 n1 n2 n3 a1 a2 hlN hlA hGo hs0; by_cases hln : (R.dom.length : Int) + dom.length + 1 = next
    ·have dl : (((R.dom.length : Int) + dom.length + 1) == next) = true := by rw [beq_iff_eq]; exact hln
     have dl2 : (((R.dom.length : Int) + dom.length + 1) != next) = false := by rw [bne, dl]; rfl
     by_cases hr0 : root = 0
     ·have dr : (root == 0) = true := by rw [beq_iff_eq]; exact hr0
      by_cases hc0 : count = 0
      ·have dc : (count == 0) = true := by rw [beq_iff_eq]; exact hc0
       have dc2 : (count != 0) = false := by rw [bne, dc]; rfl
       have HOk : Hid (o = some ⟨T.root, T.next, T.free, T.count, R.nodes, A⟩) := hid (by rw [<- HGo2.out, if_pos ⟨by rw [t2]; exact hln, fun h => h.2 (by rw [t4]; exact hc0)⟩])
       clear hln hr0 hc0; go_wp2_with fail
       refine qAc (by kernel_rfl) (by kernel_rfl) ?_
       repeat (go_big_quiet_step (fail))
       refine wpQuiet_nil ?_; rintro _ ⟨y, rfl⟩; clear lenN lenA g0 g1 g3 g6 g7; go_wp2_with fail
       go_ret; rw [HOk.out]; exact ⟨HMy.out y, rfl, HFy.out y⟩
      ·have dc : (count == 0) = false := by rw [beq_eq_false_iff_ne]; exact hc0
       have dc2 : (count != 0) = true := by rw [bne, dc]; rfl
       have HOk : Hid (o = none) := hid (by rw [<- HGo2.out, if_neg (fun h => h.2 ⟨by rw [t1]; exact hr0, by rw [t4]; exact hc0⟩)])
       clear hln hr0 hc0; go_wp2_with fail
       refine qAc (by kernel_rfl) (by kernel_rfl) ?_
       repeat (go_big_quiet_step (fail))
       refine wpQuiet_nil ?_; rintro _ ⟨y, rfl⟩; clear lenN lenA g0 g1 g3 g6 g7; go_wp2_with fail
       go_ret; rw [HOk.out]; exact qDe (HFy.out y) (HMy.out y)
     ·have dr : (root == 0) = false := by rw [beq_eq_false_iff_ne]; exact hr0
      have HOk : Hid (o = some ⟨T.root, T.next, T.free, T.count, R.nodes, A⟩) := hid (by rw [<- HGo2.out, if_pos ⟨by rw [t2]; exact hln, fun h => hr0 (by rw [<- t1]; exact h.1)⟩])
      clear hln hr0; go_wp2_with fail
      refine qAc (by kernel_rfl) (by kernel_rfl) ?_
      repeat (go_big_quiet_step (fail))
      refine wpQuiet_nil ?_; rintro _ ⟨y, rfl⟩; clear lenN lenA g0 g1 g3 g6 g7; go_wp2_with fail
      go_ret; rw [HOk.out]; exact ⟨HMy.out y, rfl, HFy.out y⟩
    ·have dl : (((R.dom.length : Int) + dom.length + 1) == next) = false := by rw [beq_eq_false_iff_ne]; exact hln
     have dl2 : (((R.dom.length : Int) + dom.length + 1) != next) = true := by rw [bne, dl]; rfl
     have HOk : Hid (o = none) := hid (by rw [<- HGo2.out, if_neg (fun h => hln (by rw [<- t2]; exact h.1))])
     clear hln; go_wp2_with fail
     refine qAc (by kernel_rfl) (by kernel_rfl) ?_
     repeat (go_big_quiet_step (fail))
     refine wpQuiet_nil ?_; rintro _ ⟨y, rfl⟩; clear lenN lenA g0 g1 g3 g6 g7; go_wp2_with fail
     go_ret; rw [HOk.out]; exact qDe (HFy.out y) (HMy.out y)
   ·have ds : (s == 0) = false := by rw [beq_eq_false_iff_ne]; exact hs0
    obtain ⟨f, hf⟩ : ∃ f, gk = f + 1 := by
     have h3 := HRel.out.fuel; cases gk with
     | zero => omega
     | succ f => exact ⟨f, rfl⟩
    subst hf; have hs1 : 1 <= s := by have h3 := HRel.out.pos; omega
    have HS0 := hid hs0; have HS1 := hid hs1; obtain ⟨_, _, _, _, z4, _⟩ := HRel.out.tree.cells; have HJ := hid (qGv HRel.out.tree.disk HRel.out.tree.jr HRel.out.tree.sep HRel.out.tree.hn HRel.out.tree.hr s); have hbs := HSz.out s; have HIn := hid (HRd.out s hs1); obtain ⟨bs, hbs0⟩ : ∃ b, (qCt B.room D s).1 = b := ⟨_, rfl⟩; obtain ⟨er, her0⟩ : ∃ e, (qCt B.room D s).2 = e := ⟨_, rfl⟩; rw [hbs0, her0] at HJ; rw [hbs0] at hbs; have HBs := hid hbs0; have HEr := hid her0
    have HTw : Hid (∀ w2, qAn w2 B.d B.sa D -> Mod (qBe B.d B.sa) wr w2 -> qAp (TS B) w2 B { T with nodes := R.nodes, after := A } D false /\ Mod (TS B) w w2) := hid (fun w2 hd2 hm2 => ⟨qIt HRel.out.tree (fun _ e => e) hm2 hd2 rfl, HRel.out.mod.trans (hm2.mono (fun _ _ e => .inr (.inr (.inr (.inr e)))))⟩)
    have HEx : Hid (er ≠ 0 -> next <= s) := hid (fun he => by
     rcases Int.lt_or_le s next with h3 | h3
     ·have h4 := HIn.out h3; rw [h4] at her0; exact absurd her0.symm he
     ·exact h3)
    have HEq : Hid (s < next -> rd s = bs) := hid (fun h3 => by
     have h4 := HIn.out h3; rw [h4] at hbs0; exact hbs0)
    clear hs0 hs1 hbs0 her0 hbn hba; cases hnum : qAz bs 70 1 with
    | none =>
     have HNu := hid (jHh (by omega) hnum)
     have HNo : Hid (o = none) := hid (by
      rw [<- HGo.out, <- HRel.out.go, qFq HS0.out (by
       rcases Int.lt_or_le s next with h3 | h3
       ·left; rw [HEq.out h3]; exact hnum
       ·right; right; right; right; rw [t2]; exact h3)]
      rfl)
     clear hnum; by_cases he : er = 0
     ·have de : (er == 0) = true := by rw [beq_iff_eq]; exact he
      have de2 : (er != 0) = false := by rw [bne, de]; rfl
      clear he
      go_wp2_with (first | (go_at_call 32; refine HJ.out.mono ?_; rintro e w2 ⟨rfl, hd2, hm2⟩; have HT2 := hid (HTw.out w2 hd2 hm2); clear hd2 hm2) | (go_at_call 34; refine (HNu.out w2).mono ?_; rintro e w3 ⟨⟨v, rfl⟩, hm3⟩; have hT3 := (HT2.out.1.mod hm3 (fun _ e => e.elim) (fun _ e => e.elim)); have hM3 := HT2.out.2.trans (hm3.mono (fun _ _ e => e.elim)); have HT3 := hid hT3; have HM3 := hid hM3; obtain ⟨_, _, _, _, _, _, b6, b7, _⟩ := hT3.cells; have hlA := hT3.after.look s true; obtain ⟨m, hlN⟩ := hT3.nodes.look s; simp only [if_true] at hlA; have b1 := (hT3.mod ((Mod.refl (fun _ => False) w3).alloc (.cells #[.bool m.leaf, .slice m.ka m.keys.length m.kc, .slice m.va m.values.length m.vc, .slice m.ia m.kids.length m.ic] 116)) (fun _ e => e.elim) (fun _ e => e.elim)).cells.2.1; rw [show ({ T with nodes := R.nodes, after := A } : TM).next = next from t2] at b1; clear hm3 hT3 hM3))
      go_ret; have HF := hid (qDe (w := w) ((HT3.out.mod ((Mod.refl (fun _ => False) w3).alloc (.cells #[.bool m.leaf, .slice m.ka m.keys.length m.kc, .slice m.va m.values.length m.vc, .slice m.ia m.kids.length m.ic] 116)) (fun _ e => e.elim) (fun _ e => e.elim))) (HM3.out.trans (((Mod.refl (fun _ => False) w3).alloc (.cells #[.bool m.leaf, .slice m.ka m.keys.length m.kc, .slice m.va m.values.length m.vc, .slice m.ia m.kids.length m.ic] 116)).mono (fun _ _ e => e.elim))))
      rw [HNo.out]; exact HF.out
     ·have de : (er == 0) = false := by rw [beq_eq_false_iff_ne]; exact he
      have de2 : (er != 0) = true := by rw [bne, de]; rfl
      clear he
      go_wp2_with (first | (go_at_call 32; refine HJ.out.mono ?_; rintro e w2 ⟨rfl, hd2, hm2⟩; have HT2 := hid (HTw.out w2 hd2 hm2); clear hd2 hm2) | (go_at_call 34; refine (HNu.out w2).mono ?_; rintro e w3 ⟨⟨v, rfl⟩, hm3⟩; have hT3 := (HT2.out.1.mod hm3 (fun _ e => e.elim) (fun _ e => e.elim)); have hM3 := HT2.out.2.trans (hm3.mono (fun _ _ e => e.elim)); have HT3 := hid hT3; have HM3 := hid hM3; obtain ⟨_, _, _, _, _, _, b6, b7, _⟩ := hT3.cells; have hlA := hT3.after.look s true; obtain ⟨m, hlN⟩ := hT3.nodes.look s; simp only [if_true] at hlA; have b1 := (hT3.mod ((Mod.refl (fun _ => False) w3).alloc (.cells #[.bool m.leaf, .slice m.ka m.keys.length m.kc, .slice m.va m.values.length m.vc, .slice m.ia m.kids.length m.ic] 116)) (fun _ e => e.elim) (fun _ e => e.elim)).cells.2.1; rw [show ({ T with nodes := R.nodes, after := A } : TM).next = next from t2] at b1; clear hm3 hT3 hM3))
      go_ret; have HF := hid (qDe (w := w) ((HT3.out.mod ((Mod.refl (fun _ => False) w3).alloc (.cells #[.bool m.leaf, .slice m.ka m.keys.length m.kc, .slice m.va m.values.length m.vc, .slice m.ia m.kids.length m.ic] 116)) (fun _ e => e.elim) (fun _ e => e.elim))) (HM3.out.trans (((Mod.refl (fun _ => False) w3).alloc (.cells #[.bool m.leaf, .slice m.ka m.keys.length m.kc, .slice m.va m.values.length m.vc, .slice m.ia m.kids.length m.ic] 116)).mono (fun _ _ e => e.elim))))
      rw [HNo.out]; exact HF.out
    | some ly =>
     obtain ⟨y, rfl⟩ : ∃ y, ly = [y] := by
      have h3 := (qFc hnum).1; cases ly with
      | nil => cases h3
      | cons y r => cases r with
       | nil => exact ⟨y, rfl⟩
       | cons z r => simp at h3
     have hy := (qFc hnum).2 y List.mem_cons_self; have HY := hid hy; have HNu := hid (jHi (by omega) hnum)
     have HNum := hid hnum; clear hnum hy; by_cases he : er = 0
     ·have de : (er == 0) = true := by rw [beq_iff_eq]; exact he
      have de2 : (er != 0) = false := by rw [bne, de]; rfl
      clear he; cases hA : (A s).isSome with
      | true =>
       have HNo : Hid (o = none) := hid (by
        rw [<- HGo.out, <- HRel.out.go, qFq HS0.out (.inr (.inl hA))]; rfl)
       go_wp2_with (first | (go_at_call 32; refine HJ.out.mono ?_; rintro e w2 ⟨rfl, hd2, hm2⟩; have HT2 := hid (HTw.out w2 hd2 hm2); clear hd2 hm2) | (go_at_call 34; refine (HNu.out w2).mono ?_; rintro e w3 ⟨g, off, cap, rfl, hcy, hgy, hm3⟩; have HCy := hid hcy; have HGy := hid hgy; clear hcy hgy; have hT3 := (HT2.out.1.mod hm3 (fun _ e => e.elim) (fun _ e => e.elim)); have hM3 := HT2.out.2.trans (hm3.mono (fun _ _ e => e.elim)); have HT3 := hid hT3; have HM3 := hid hM3; obtain ⟨_, _, _, _, _, _, b6, b7, _⟩ := hT3.cells; have hlA := hT3.after.look s true; obtain ⟨m, hlN⟩ := hT3.nodes.look s; simp only [if_true] at hlA; have b1 := (hT3.mod ((Mod.refl (fun _ => False) w3).alloc (.cells #[.bool m.leaf, .slice m.ka m.keys.length m.kc, .slice m.va m.values.length m.vc, .slice m.ia m.kids.length m.ic] 116)) (fun _ e => e.elim) (fun _ e => e.elim)).cells.2.1; rw [show ({ T with nodes := R.nodes, after := A } : TM).next = next from t2] at b1; clear hm3 hT3 hM3))
       go_ret; have HF := hid (qDe (w := w) ((HT3.out.mod ((Mod.refl (fun _ => False) w3).alloc (.cells #[.bool m.leaf, .slice m.ka m.keys.length m.kc, .slice m.va m.values.length m.vc, .slice m.ia m.kids.length m.ic] 116)) (fun _ e => e.elim) (fun _ e => e.elim))) (HM3.out.trans (((Mod.refl (fun _ => False) w3).alloc (.cells #[.bool m.leaf, .slice m.ka m.keys.length m.kc, .slice m.va m.values.length m.vc, .slice m.ia m.kids.length m.ic] 116)).mono (fun _ _ e => e.elim))))
       rw [HNo.out]; exact HF.out
      | false =>
       cases hN : (R.nodes s).isSome with
       | true =>
        have HNo : Hid (o = none) := hid (by
         rw [<- HGo.out, <- HRel.out.go, qFq HS0.out (.inr (.inr (.inl hN)))]; rfl)
        go_wp2_with (first | (go_at_call 32; refine HJ.out.mono ?_; rintro e w2 ⟨rfl, hd2, hm2⟩; have HT2 := hid (HTw.out w2 hd2 hm2); clear hd2 hm2) | (go_at_call 34; refine (HNu.out w2).mono ?_; rintro e w3 ⟨g, off, cap, rfl, hcy, hgy, hm3⟩; have HCy := hid hcy; have HGy := hid hgy; clear hcy hgy; have hT3 := (HT2.out.1.mod hm3 (fun _ e => e.elim) (fun _ e => e.elim)); have hM3 := HT2.out.2.trans (hm3.mono (fun _ _ e => e.elim)); have HT3 := hid hT3; have HM3 := hid hM3; obtain ⟨_, _, _, _, _, _, b6, b7, _⟩ := hT3.cells; have hlA := hT3.after.look s true; obtain ⟨m, hlN⟩ := hT3.nodes.look s; simp only [if_true] at hlA; have b1 := (hT3.mod ((Mod.refl (fun _ => False) w3).alloc (.cells #[.bool m.leaf, .slice m.ka m.keys.length m.kc, .slice m.va m.values.length m.vc, .slice m.ia m.kids.length m.ic] 116)) (fun _ e => e.elim) (fun _ e => e.elim)).cells.2.1; rw [show ({ T with nodes := R.nodes, after := A } : TM).next = next from t2] at b1; clear hm3 hT3 hM3))
        go_ret; have HF := hid (qDe (w := w) ((HT3.out.mod ((Mod.refl (fun _ => False) w3).alloc (.cells #[.bool m.leaf, .slice m.ka m.keys.length m.kc, .slice m.va m.values.length m.vc, .slice m.ia m.kids.length m.ic] 116)) (fun _ e => e.elim) (fun _ e => e.elim))) (HM3.out.trans (((Mod.refl (fun _ => False) w3).alloc (.cells #[.bool m.leaf, .slice m.ka m.keys.length m.kc, .slice m.va m.values.length m.vc, .slice m.ia m.kids.length m.ic] 116)).mono (fun _ _ e => e.elim))))
        rw [HNo.out]; exact HF.out
       | false =>
        by_cases hge : next <= s
        ·have dg : decide (next <= s) = true := by simpa using hge
         have HNo : Hid (o = none) := hid (by
          rw [<- HGo.out, <- HRel.out.go, qFq HS0.out (.inr (.inr (.inr (.inr (by rw [t2]; exact hge)))))]
          rfl)
         clear hge
         go_wp2_with (first | (go_at_call 32; refine HJ.out.mono ?_; rintro e w2 ⟨rfl, hd2, hm2⟩; have HT2 := hid (HTw.out w2 hd2 hm2); clear hd2 hm2) | (go_at_call 34; refine (HNu.out w2).mono ?_; rintro e w3 ⟨g, off, cap, rfl, hcy, hgy, hm3⟩; have HCy := hid hcy; have HGy := hid hgy; clear hcy hgy; have hT3 := (HT2.out.1.mod hm3 (fun _ e => e.elim) (fun _ e => e.elim)); have hM3 := HT2.out.2.trans (hm3.mono (fun _ _ e => e.elim)); have HT3 := hid hT3; have HM3 := hid hM3; obtain ⟨_, _, _, _, _, _, b6, b7, _⟩ := hT3.cells; have hlA := hT3.after.look s true; obtain ⟨m, hlN⟩ := hT3.nodes.look s; simp only [if_true] at hlA; have b1 := (hT3.mod ((Mod.refl (fun _ => False) w3).alloc (.cells #[.bool m.leaf, .slice m.ka m.keys.length m.kc, .slice m.va m.values.length m.vc, .slice m.ia m.kids.length m.ic] 116)) (fun _ e => e.elim) (fun _ e => e.elim)).cells.2.1; rw [show ({ T with nodes := R.nodes, after := A } : TM).next = next from t2] at b1; clear hm3 hT3 hM3))
         go_ret; have HF := hid (qDe (w := w) ((HT3.out.mod ((Mod.refl (fun _ => False) w3).alloc (.cells #[.bool m.leaf, .slice m.ka m.keys.length m.kc, .slice m.va m.values.length m.vc, .slice m.ia m.kids.length m.ic] 116)) (fun _ e => e.elim) (fun _ e => e.elim))) (HM3.out.trans (((Mod.refl (fun _ => False) w3).alloc (.cells #[.bool m.leaf, .slice m.ka m.keys.length m.kc, .slice m.va m.values.length m.vc, .slice m.ia m.kids.length m.ic] 116)).mono (fun _ _ e => e.elim))))
         rw [HNo.out]; exact HF.out
        ·have dg : decide (next <= s) = false := by simpa using hge
         have HGe := hid hge; have HA := hid hA; have HN := hid hN; have HGn : Hid (qGd rd T.next R.nodes f (y : Int) (fset A s (some (y : Int))) (dom ++ [s]) = oA) := hid (by
          rw [<- HRel.out.go]; refine (jFh HS0.out (by rw [HEq.out (by omega)]; exact HNum.out) (fun h => ?_)).symm
          rcases h with h | h | h | h
          ·rw [hA] at h; cases h
          ·rw [hN] at h; cases h
          ·have := HS1.out; omega
          ·rw [t2] at h; omega)
         clear hge
         go_upto_region 15 with (first | (go_at_call 32; refine HJ.out.mono ?_; rintro e w2 ⟨rfl, hd2, hm2⟩; have HT2 := hid (HTw.out w2 hd2 hm2); clear hd2 hm2) | (go_at_call 34; refine (HNu.out w2).mono ?_; rintro e w3 ⟨g, off, cap, rfl, hcy, hgy, hm3⟩; have HCy := hid hcy; have HGy := hid hgy; clear hcy hgy; have hT3 := (HT2.out.1.mod hm3 (fun _ e => e.elim) (fun _ e => e.elim)); have hM3 := HT2.out.2.trans (hm3.mono (fun _ _ e => e.elim)); have HT3 := hid hT3; have HM3 := hid hM3; obtain ⟨_, _, _, _, _, _, b6, b7, _⟩ := hT3.cells; have hlA := hT3.after.look s true; obtain ⟨m, hlN⟩ := hT3.nodes.look s; simp only [if_true] at hlA; have b1 := (hT3.mod ((Mod.refl (fun _ => False) w3).alloc (.cells #[.bool m.leaf, .slice m.ka m.keys.length m.kc, .slice m.va m.values.length m.vc, .slice m.ia m.kids.length m.ic] 116)) (fun _ e => e.elim) (fun _ e => e.elim)).cells.2.1; rw [show ({ T with nodes := R.nodes, after := A } : TM).next = next from t2] at b1; clear hm3 hT3 hM3))
         have hmz : Mod (fun _ => False) w3 (w3.alloc (.cells #[.bool m.leaf, .slice m.ka m.keys.length m.kc, .slice m.va m.values.length m.vc, .slice m.ia m.kids.length m.ic] 116)) := (Mod.refl _ _).alloc _
         have HTz := hid (HT3.out.mod hmz (fun _ e => e.elim) (fun _ e => e.elim))
         have HMz := hid (HM3.out.trans (hmz.mono (fun _ _ e => e.elim)))
         have hcy := (hmz.cell (p := ⟨g, off, none⟩) (qXd HCy.out) (fun e => e)).trans HCy.out
         generalize w3.alloc (.cells #[.bool m.leaf, .slice m.ka m.keys.length m.kc, .slice m.va m.values.length m.vc, .slice m.ia m.kids.length m.ic] 116) = Z at *; obtain ⟨_, _, _, _, _, _, _, z7, _⟩ := HTz.out.cells; have g7 := fun x : Ext Z => x.cell z7
         have gy := fun x : Ext Z => x.cell hcy
         clear b1 b6 b7 hlA hlN z7 hcy hmz; refine qAm 8 (by kernel_rfl) (by kernel_rfl) ?_
         simp only [List.take_succ_cons, List.take_zero, List.drop_succ_cons, List.drop_zero]; repeat (go_big_quiet_step (fail))
         refine wpQuiet_nil ?_; rintro _ ⟨z, rfl⟩; have hz := HTz.out.mod z.mod (fun _ e => e.elim) (fun _ e => e.elim)
         obtain ⟨lA, a1, a2⟩ := id hz.after; obtain ⟨w8, hup, hat8, hm8⟩ := qBf (P := Tryz.prog) KI Tryz.underlying77 a1 s (.int .i64 (y : Int)); have hup' : (Instr.mapUpdate 77 (.map (some B.ab)) (.int .i64 s) (.int .i64 (y : Int))).run Tryz.prog z.val = .ok () w8 := hup; have h8 := qQw hz (fun _ e => e) HNe.out hm8 (qCe.put a2 hat8)
         have hl8 := h8.after.look s false; simp only [qAq, Option.getD_some, Bool.false_eq_true, if_false] at hl8; obtain ⟨_, _, _, _, _, _, _, k7, _⟩ := h8.cells; have HF8 : Hid (FRel w w8 B T D rd R oA f (y : Int) (fset A s (some (y : Int))) (dom ++ [s])) := hid ⟨HGn.out, HRel.out.ai.add (by cases hx : A s with | none => rfl | some q => (rw [hx] at hA; cases hA)) HS1.out (by rw [t2]; have := HGe.out; omega), h8, (HMz.out.trans (z.mod.mono (fun _ _ e => e.elim))).trans (hm8.mono (fun k _ e => by rw [e]; exact .inr (.inr (.inl rfl)))), (by rw [List.length_append]; have := HRel.out.fuel; simp; omega), (by have := HY.out; omega)⟩
         clear hz a1 a2 hup hat8 hm8 h8 g7 gy hA hN; go_wp2_with fail
         go_roundg f
         case measure => omega
         case rel => exact ⟨_, _, _, rfl, HF8.out⟩
     ·have de : (er == 0) = false := by rw [beq_eq_false_iff_ne]; exact he
      have de2 : (er != 0) = true := by rw [bne, de]; rfl
      have HNo : Hid (o = none) := hid (by
       rw [<- HGo.out, <- HRel.out.go, qFq HS0.out (.inr (.inr (.inr (.inr (by rw [t2]; exact HEx.out he)))))]
       rfl)
      clear he
      go_wp2_with (first | (go_at_call 32; refine HJ.out.mono ?_; rintro e w2 ⟨rfl, hd2, hm2⟩; have HT2 := hid (HTw.out w2 hd2 hm2); clear hd2 hm2) | (go_at_call 34; refine (HNu.out w2).mono ?_; rintro e w3 ⟨g, off, cap, rfl, hcy, hgy, hm3⟩; have HCy := hid hcy; have HGy := hid hgy; clear hcy hgy; have hT3 := (HT2.out.1.mod hm3 (fun _ e => e.elim) (fun _ e => e.elim)); have hM3 := HT2.out.2.trans (hm3.mono (fun _ _ e => e.elim)); have HT3 := hid hT3; have HM3 := hid hM3; obtain ⟨_, _, _, _, _, _, b6, b7, _⟩ := hT3.cells; have hlA := hT3.after.look s true; obtain ⟨m, hlN⟩ := hT3.nodes.look s; simp only [if_true] at hlA; have b1 := (hT3.mod ((Mod.refl (fun _ => False) w3).alloc (.cells #[.bool m.leaf, .slice m.ka m.keys.length m.kc, .slice m.va m.values.length m.vc, .slice m.ia m.kids.length m.ic] 116)) (fun _ e => e.elim) (fun _ e => e.elim)).cells.2.1; rw [show ({ T with nodes := R.nodes, after := A } : TM).next = next from t2] at b1; clear hm3 hT3 hM3))
      go_ret; have HF := hid (qDe (w := w) ((HT3.out.mod ((Mod.refl (fun _ => False) w3).alloc (.cells #[.bool m.leaf, .slice m.ka m.keys.length m.kc, .slice m.va m.values.length m.vc, .slice m.ia m.kids.length m.ic] 116)) (fun _ e => e.elim) (fun _ e => e.elim))) (HM3.out.trans (((Mod.refl (fun _ => False) w3).alloc (.cells #[.bool m.leaf, .slice m.ka m.keys.length m.kc, .slice m.va m.values.length m.vc, .slice m.ia m.kids.length m.ic] 116)).mono (fun _ _ e => e.elim))))
      rw [HNo.out]; exact HF.out
end
end Go.Proofs.YtgbcibdfeeiilaaGreatDoor
