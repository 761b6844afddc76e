/- merged: RoN RoKr RwU RwE RwX -/
import Derived.Test.YtkinkgbmlhiakaaGreatDoorNd20
import Derived.Test.YtkinkgbmlhiakaaGreatDoorNd32
import Derived.Test.YtkinkgbmlhiakaaGreatDoorNd15
import Derived.Test.YtkinkgbmlhiakaaGreatDoorNd17
import Derived.Test.YtkinkgbmlhiakaaGreatDoorNd14
namespace Go.Proofs.YtkinkgbmlhiakaaGreatDoor
section
open Go Go.RowKit
structure MetM (ls : List (ByteArray × Value)) (M : List SV) : Prop where
 nd : (ls.map (·.1)).Nodup
 mem : ∀ p, p ∈ ls ↔ ∃ m ∈ M, p = (m.1, .int .i64 m.2)
theorem MetM.get {ls : List (ByteArray × Value)} {M : List SV} (h : MetM ls M) (hs : Srt M) (s : ByteArray) : aget ls s = (mget M s).map (Value.int .i64) := by
 cases ha : aget ls s with
 | some u =>
  obtain ⟨m, hm, e⟩ := (h.mem _).1 (qQn ha); injection e with e1 e2
  have : (s, m.2) ∈ M := by rw [e1]; exact hm
  rw [(qEy hs).2 this, e2]; rfl
 | none =>
  cases hg : mget M s with
  | none => rfl
  | some v =>
   exfalso
   have hm := (h.mem (s, .int .i64 v)).2 ⟨(s, v), (qEy hs).1 hg, rfl⟩; have := (qAx ls s).2 (List.mem_map.2 ⟨_, hm, rfl⟩); rw [ha] at this; cases this
def qKz (ls : List (ByteArray × Value)) (s : ByteArray) : List (ByteArray × Value) := match ls.findIdx? (fun p => decide (p.1 = s)) with
 | some i => ls.eraseIdx i
 | none => ls
theorem qGt {s : ByteArray} : ∀ {ls : List (ByteArray × Value)}, (ls.map (·.1)).Nodup -> ∀ p, p ∈ qKz ls s ↔ p ∈ ls /\ p.1 ≠ s
 | [], _, p => by simp [qKz]
 | x :: ls, h, p => by
  rw [List.map_cons, List.nodup_cons] at h; have ih := qGt (s := s) h.2 p; unfold qKz at ih ⊢; rw [List.findIdx?_cons]; by_cases hx : x.1 = s
  ·simp only [hx, decide_true, if_true, List.eraseIdx_zero, List.tail_cons, List.mem_cons]; constructor
   ·refine fun hp => ⟨.inr hp, fun e => h.1 ?_⟩
    rw [hx, <- e]; exact List.mem_map.2 ⟨p, hp, rfl⟩
   ·rintro ⟨rfl | hp, hne⟩
    ·exact absurd hx hne
    ·exact hp
  ·simp only [hx, decide_false, Bool.false_eq_true, if_false]; cases hf : ls.findIdx? (fun p => decide (p.1 = s)) with
   | none =>
    rw [hf] at ih; simp only [Option.map_none] at ih ⊢; rw [List.mem_cons]; constructor
    ·rintro (rfl | hp)
     ·exact ⟨.inl rfl, hx⟩
     ·exact ⟨.inr hp, (ih.1 hp).2⟩
    ·exact fun e => e.1
   | some i =>
    rw [hf] at ih; simp only [Option.map_some, List.eraseIdx_cons_succ, List.mem_cons] at ih ⊢; constructor
    ·rintro (rfl | hp)
     ·exact ⟨.inl rfl, hx⟩
     ·exact ⟨.inr (ih.1 hp).1, (ih.1 hp).2⟩
    ·rintro ⟨rfl | hp, hne⟩
     ·exact .inl rfl
     ·exact .inr (ih.2 ⟨hp, hne⟩)
theorem qVr {s : ByteArray} {ls : List (ByteArray × Value)} (h : (ls.map (·.1)).Nodup) : ((qKz ls s).map (·.1)).Nodup := by
 unfold qKz; split
 ·rw [qFr]; exact h.sublist (List.eraseIdx_sublist _ _)
 ·exact h
theorem MetM.del {ls : List (ByteArray × Value)} {M : List SV} (h : MetM ls M) (s : ByteArray) : MetM (qKz ls s) (mset s none M) :=
 ⟨qVr h.nd, fun p => by
  rw [qGt h.nd, h.mem]; constructor
  ·rintro ⟨⟨m, hm, rfl⟩, hne⟩; exact ⟨m, qEn.2 (.inl ⟨hm, hne⟩), rfl⟩
  ·rintro ⟨m, hm, rfl⟩; rcases qEn.1 hm with ⟨h1, h2⟩ | ⟨h1, _⟩
   ·exact ⟨⟨m, h1, rfl⟩, h2⟩
   ·cases h1⟩
theorem MetM.put {ls : List (ByteArray × Value)} {M : List SV} (h : MetM ls M) (s : ByteArray) (v : Int) : aget (qKz ls s) s = none /\ MetM (qKz ls s ++ [(s, .int .i64 v)]) (mset s (some v) M) := by
 have hn : aget (qKz ls s) s = none := by
  cases ha : aget (qKz ls s) s with
  | none => rfl
  | some u => exact absurd rfl ((qGt h.nd _).1 (qQn ha)).2
 refine ⟨hn, ?_, fun p => ?_⟩
 ·rw [List.map_append, List.nodup_append]; refine ⟨qVr h.nd, by simp, fun a ha b hb e => ?_⟩
  simp only [List.map_cons, List.map_nil, List.mem_singleton] at hb; obtain ⟨p, hp, e1⟩ := List.mem_map.1 ha; exact ((qGt h.nd _).1 hp).2 (by rw [e1, e, hb])
 ·rw [List.mem_append, List.mem_singleton, qGt h.nd, h.mem]; constructor
  ·rintro (⟨⟨m, hm, rfl⟩, hne⟩ | rfl)
   ·exact ⟨m, qEn.2 (.inl ⟨hm, hne⟩), rfl⟩
   ·exact ⟨(s, v), qEn.2 (.inr ⟨rfl, rfl⟩), rfl⟩
  ·rintro ⟨m, hm, rfl⟩; rcases qEn.1 hm with ⟨h1, h2⟩ | ⟨h1, h2⟩
   ·exact .inl ⟨⟨m, h1, rfl⟩, h2⟩
   ·injection h1 with h1
    exact .inr (by rw [h1, h2])
theorem jAc {M : List SV} (h : Srt M) : (M.map (·.1)).Nodup := by
 unfold List.Nodup; rw [List.pairwise_map]; exact h.imp (fun {a b} hab e => by rw [e, qBz] at hab; cases hab)
theorem MetM.len {ls : List (ByteArray × Value)} {M : List SV} (h : MetM ls M) (hs : Srt M) : ls.length = M.length := by
 have hm : ∀ s, s ∈ ls.map (·.1) ↔ s ∈ M.map (·.1) := fun s => by
  rw [List.mem_map, List.mem_map]; constructor
  ·rintro ⟨p, hp, rfl⟩; obtain ⟨m, hm, rfl⟩ := (h.mem p).1 hp; exact ⟨m, hm, rfl⟩
  ·rintro ⟨m, hm, rfl⟩; exact ⟨_, (h.mem _).2 ⟨m, hm, rfl⟩, rfl⟩
 have h1 := qPk h.nd (fun x hx => (hm x).1 hx)
 have h2 := qPk (jAc hs) (fun x hx => (hm x).2 hx)
 rw [List.length_map, List.length_map] at h1 h2; omega
theorem qRz {α : Type} (p : α -> Bool) : ∀ (l : List α) (j : Nat) (x : α), l[j]? = some x -> p x = true -> (l.filter p)[((l.take j).filter p).length]? = some x
 | [], _, _, h, _ => by simp at h
 | y :: l, 0, x, h, hp => by
  simp only [List.getElem?_cons_zero, Option.some.injEq] at h; subst h; rw [List.filter_cons_of_pos hp]; simp
 | y :: l, j + 1, x, h, hp => by
  rw [List.getElem?_cons_succ] at h; have ih := qRz p l j x h hp; rw [List.take_succ_cons]; by_cases hy : p y = true
  ·rw [List.filter_cons_of_pos hy, List.filter_cons_of_pos hy, List.length_cons, List.getElem?_cons_succ]; exact ih
  ·rw [List.filter_cons_of_neg hy, List.filter_cons_of_neg hy]; exact ih
theorem qTw {α : Type} (p : α -> Bool) {l : List α} {j : Nat} {x : α} (h : l[j]? = some x) : ((l.take (j + 1)).filter p).length = ((l.take j).filter p).length + (if p x then 1 else 0) := by
 rw [List.take_add_one, h, List.filter_append, List.length_append]; congr 1
 simp only [Option.toList_some, List.filter_cons, List.filter_nil]; split <;> simp
end
section
open Go Go.RowKit
set_option maxRecDepth 100000
theorem qPp (s : ByteArray) (v : Int) (w : World) (hs : s.size <= 1048576) : Calls Tryz.prog 21 #[.string s, .int .i64 v] w fun e w' => ∃ la, e = .returned (.slice la 3 3) /\ Lies w' 2 Vl.cs la (rowS (s, v)) /\ Mod (fun _ => False) w w' := by
 have hl : Lies (w.alloc (.cells #[.int .i64 0, .string s, .int .i64 v, .string ⟨#[]⟩, .int .i64 0, .string (s ++ s)] 46)) 2 Vl.cs (some ⟨w.heap.size, 0, none⟩) (rowS (s, v)) := qEg qEl (heap_alloc_new _ _); have HL := hid hl; have HM : Hid (Mod (fun _ => False) w (w.alloc (.cells #[.int .i64 0, .string s, .int .i64 v, .string ⟨#[]⟩, .int .i64 0, .string (s ++ s)] 46))) := hid ((Mod.refl _ _).alloc _)
 clear hl; go_enter Tryz.func21, Tryz.ntmps21
 go_wp2_with fail
 go_ret; exact ⟨_, rfl, HL.out, HM.out⟩
end
section
open Go Go.RowKit
def rvV (x : RV) : Value := .tuple #[.agg #[.int .i64 x.v.n, .string x.v.s], .int .i64 (x.n : Int), .bool x.ok]
theorem qWc : ∀ (l : List UInt8) (c : UInt8), Lib.indexByte l c <= (l.length : Int)
 | [], c => by simp [Lib.indexByte]
 | b :: l, c => by
  have ih := qWc l c; rw [Lib.indexByte]; simp only [List.length_cons]; split
  ·omega
  ·split <;> omega
theorem jLe {s : ByteArray} {a : Nat} (h : (rdT s a).e = 0) : rtV (rdT s a) = .tuple #[.string (rdT s a).t, .int .i64 ((rdT s a).n : Int), .int .i64 0] := by unfold rtV; rw [h]; rfl
theorem jIv {s : ByteArray} {a : Nat} (h : (rdT s a).e ≠ 0) : rtV (rdT s a) = .tuple #[.string ⟨#[]⟩, .int .i64 0, .int .i64 ((rdT s a).e : Int)] := by
 unfold rtV rdT rtOf at *; by_cases h1 : (rdU 0 (s.data.toList.drop a)).e = 0
 ·rw [if_pos h1] at h ⊢; by_cases h2 : s.size < a + (rdU 0 (s.data.toList.drop a)).n + (rdU 0 (s.data.toList.drop a)).v
  ·rw [if_pos h2]; rfl
  ·rw [if_neg h2] at h; exact absurd rfl h
 ·rw [if_neg h1]; rfl
set_option maxRecDepth 100000
set_option maxHeartbeats 2000000 in
theorem qXk (s : ByteArray) (a : Nat) (w : World) (hs : s.size <= maxLen) (ha : a <= s.size) : Calls Tryz.prog 58 #[.int .i64 0, .string s, .int .i64 (a : Int)] w fun e w' => e = .returned (rvV (rdO s a)) /\ Mod (fun _ => False) w w' := by
 have HO := hid (fun W : World => qTa s a W hs ha)
 unfold roV at HO; unfold rdO; by_cases h8 : s.size < a + 8
 ·rw [if_pos h8] at HO ⊢; clear h8; go_enter Tryz.func58, Tryz.ntmps58
  go_wp2_with (go_at_call 91; refine (HO.out _).mono ?_; rintro e w1 ⟨rfl, rfl⟩)
  exact bodyPost_ret (v := rvV noV) (by simp [rvV, noV, results, Tryz.results58, go_sem]) rfl ⟨rfl, (Mod.refl _ _).alloc _⟩
 ·rw [if_neg h8] at HO ⊢; generalize (rdBE 0 ((s.data.toList.drop a).take 8) : Int) - 9223372036854775808 = n at *; clear h8; go_enter Tryz.func58, Tryz.ntmps58
  go_wp2_with (go_at_call 91; refine (HO.out _).mono ?_; rintro e w1 ⟨rfl, rfl⟩)
  exact bodyPost_ret (v := .tuple #[.agg #[.int .i64 n, .string ⟨#[]⟩], .int .i64 ((a : Int) + 8), .bool true]) (by simp [results, Tryz.results58, go_sem]) rfl ⟨rfl, (Mod.refl _ _).alloc _⟩
set_option maxHeartbeats 2000000 in
theorem qSs (k : Int) (hk : k ≠ 0) (s : ByteArray) (a : Nat) (w : World) (hs : s.size <= 140737488351232) (ha : a <= s.size) : Calls Tryz.prog 58 #[.int .i64 k, .string s, .int .i64 (a : Int)] w fun e w' => e = .returned (rvV (rdZ s a)) /\ Mod (fun _ => False) w w' := by
 have e0 : (k == 0) = false := by simpa using hk
 have hsl : ∀ v : World, (Instr.slice 9 (.string s) (some (.int .i64 (a : Int))) none none).run Tryz.prog v = .ok (.string (s.extract a s.size)) v := fun v => by
  have := run_slice_string_l (P := Tryz.prog) v 9 s Tryz.underlying9 .i64 (a : Int) (by omega) (by omega)
  simpa using this
 have hx : (s.extract a s.size).data.toList = s.data.toList.drop a := by
  rw [ByteArray.data_extract, Array.toList_extract, List.extract_eq_take_drop, List.take_of_length_le]; have : s.data.toList.length = s.size := rfl; rw [List.length_drop]; omega
 have hi : ∀ v : World, Calls Tryz.prog 92 #[.string (s.extract a s.size), .int .u8 0] v fun e w' => e = .returned (.int .i64 (Lib.indexByte (s.data.toList.drop a) 0)) /\ w' = v := fun v => by
  have := Tryz.strings_IndexByte (s.extract a s.size) 0 v; rw [hx] at this; exact this
 have HI := hid hi; have hge := Lib.indexByte_ge (s.data.toList.drop a) 0; have hle := qWc (s.data.toList.drop a) 0; rw [List.length_drop] at hle; have hsl0 : s.data.toList.length = s.size := rfl; unfold rdZ; clear hi hx hk; generalize Lib.indexByte (s.data.toList.drop a) 0 = i at *; by_cases h0 : i < 0
 ·rw [if_pos h0]; have d0 : decide (i < 0) = true := by rw [decide_eq_true_iff]; exact h0
  clear h0 hge hle; go_enter Tryz.func58, Tryz.ntmps58
  go_wp2_with (go_at_call 92; refine (HI.out _).mono ?_; rintro e w1 ⟨rfl, rfl⟩)
  exact bodyPost_ret (v := rvV noV) (by simp [rvV, noV, results, Tryz.results58, go_sem]) rfl ⟨rfl, (Mod.refl _ _).alloc _⟩
 ·rw [if_neg h0]; have d0 : decide (i < 0) = false := by rw [decide_eq_false_iff_not]; exact h0
  obtain ⟨m, rfl⟩ := Int.eq_ofNat_of_zero_le (show 0 <= i by omega)
  have hs2 : ∀ v : World, (Instr.slice 9 (.string s) (some (.int .i64 (a : Int))) (some (.int .i64 ((a : Int) + (m : Int)))) none).run Tryz.prog v = .ok (.string (s.extract a (a + m))) v := fun v => by
   have := run_slice_string (P := Tryz.prog) v 9 s .i64 .i64 (a : Int) ((a : Int) + (m : Int)) Tryz.underlying9 (by omega) (by omega) (by omega)
   rw [show ((a : Int) + (m : Int)).toNat = a + m by omega, show ((a : Int)).toNat = a by omega] at this
   exact this
  clear h0 hge; go_enter Tryz.func58, Tryz.ntmps58
  go_wp2_with (go_at_call 92; refine (HI.out _).mono ?_; rintro e w1 ⟨rfl, rfl⟩)
  exact bodyPost_ret (v := .tuple #[.agg #[.int .i64 0, .string (s.extract a (a + m))], .int .i64 ((a : Int) + (m : Int) + 1), .bool true]) (by simp [results, Tryz.results58, go_sem]) rfl ⟨rfl, (Mod.refl _ _).alloc _⟩
theorem qXl (k : Int) (s : ByteArray) (a : Nat) (w : World) (hs : s.size <= 140737488351232) (ha : a <= s.size) : Calls Tryz.prog 58 #[.int .i64 k, .string s, .int .i64 (a : Int)] w fun e w' => e = .returned (rvV (qCc k s a)) /\ Mod (fun _ => False) w w' := by
 unfold qCc; by_cases hk : k = 0
 ·subst hk; rw [if_pos rfl]; exact qXk s a w (by unfold maxLen; omega) ha
 ·rw [if_neg hk]; exact qSs k hk s a w hs ha
set_option maxHeartbeats 2000000 in
theorem qXi (s : ByteArray) (a : Nat) (w : World) (hs : s.size <= maxLen) : Calls Tryz.prog 59 #[.int .i64 0, .string s, .int .i64 (a : Int)] w fun e w' => e = .returned (rvV (rdI s a)) /\ Mod (fun _ => False) w w' := by
 have HO := hid (fun W : World => qTb s a W hs)
 unfold riV at HO; unfold rdI; generalize rdU 0 (s.data.toList.drop a) = x at *; obtain ⟨v, n, er⟩ := x; by_cases he : er = 0
 ·subst he; simp only [if_true] at HO ⊢; go_enter Tryz.func59, Tryz.ntmps59
  go_wp2_with (go_at_call 93; refine (HO.out _).mono ?_; rintro e w1 ⟨rfl, rfl⟩)
  exact bodyPost_ret (v := .tuple #[.agg #[.int .i64 (unzz v), .string ⟨#[]⟩], .int .i64 ((a : Int) + (n : Int)), .bool true]) (by simp [results, Tryz.results59, go_sem]) rfl ⟨rfl, (Mod.refl _ _).alloc _⟩
 ·simp only [if_neg he] at HO ⊢; have e1 : ((er : Int) == 0) = false := by rw [beq_eq_false_iff_ne]; omega
  clear he; go_enter Tryz.func59, Tryz.ntmps59
  go_wp2_with (go_at_call 93; refine (HO.out _).mono ?_; rintro e w1 ⟨rfl, rfl⟩)
  exact bodyPost_ret (v := rvV noV) (by simp [rvV, noV, results, Tryz.results59, go_sem]) rfl ⟨rfl, (Mod.refl _ _).alloc _⟩
set_option maxHeartbeats 2000000 in
theorem qSr (k : Int) (hk : k ≠ 0) (s : ByteArray) (a : Nat) (w : World) (hs : s.size <= maxLen) : Calls Tryz.prog 59 #[.int .i64 k, .string s, .int .i64 (a : Int)] w fun e w' => e = .returned (rvV (rdX s a)) /\ Mod (fun _ => False) w w' := by
 have HO := hid (fun W : World => qRh s a W hs)
 have e0 : (k == 0) = false := by simpa using hk
 unfold rdX; clear hk; by_cases he : (rdT s a).e = 0
 ·rw [jLe he] at HO; rw [if_pos he]; clear he; generalize rdT s a = x at *; obtain ⟨t, n, er⟩ := x; simp only at HO ⊢; go_enter Tryz.func59, Tryz.ntmps59
  go_wp2_with (go_at_call 94; refine (HO.out _).mono ?_; rintro e w1 ⟨rfl, rfl⟩)
  exact bodyPost_ret (v := .tuple #[.agg #[.int .i64 0, .string t], .int .i64 (n : Int), .bool true]) (by simp [results, Tryz.results59, go_sem]) rfl ⟨rfl, (Mod.refl _ _).alloc _⟩
 ·rw [jIv he] at HO; rw [if_neg he]; have e1 : (((rdT s a).e : Int) == 0) = false := by rw [beq_eq_false_iff_ne]; omega
  clear he; generalize rdT s a = x at *; obtain ⟨t, n, er⟩ := x; simp only at HO e1; go_enter Tryz.func59, Tryz.ntmps59
  go_wp2_with (go_at_call 94; refine (HO.out _).mono ?_; rintro e w1 ⟨rfl, rfl⟩)
  exact bodyPost_ret (v := rvV noV) (by simp [rvV, noV, results, Tryz.results59, go_sem]) rfl ⟨rfl, (Mod.refl _ _).alloc _⟩
theorem qXj (k : Int) (s : ByteArray) (a : Nat) (w : World) (hs : s.size <= maxLen) : Calls Tryz.prog 59 #[.int .i64 k, .string s, .int .i64 (a : Int)] w fun e w' => e = .returned (rvV (qCu k s a)) /\ Mod (fun _ => False) w w' := by
 unfold qCu; by_cases hk : k = 0
 ·subst hk; rw [if_pos rfl]; exact qXi s a w hs
 ·rw [if_neg hk]; exact qSr k hk s a w hs
end
section
open Go Go.RowKit
def qSa : Option PX -> Value
 | some p => .tuple #[.agg #[.string (ba p.k), .string (ba p.v)], .int .i64 0]
 | none => .tuple #[.agg #[.string ⟨#[]⟩, .string ⟨#[]⟩], .int .i64 60]
set_option maxRecDepth 100000
set_option maxHeartbeats 2000000 in
theorem qWi {w : World} {ca ra : Option Addr} {cols : List Int} {r : List Vl} (name keys idx : Int) (cc rc : Nat) (hl : Lies w 1 oneI ca cols) (hr : Lies w 2 Vl.cs ra r) (hn : cols.length <= 140737488351232) (hrn : r.length <= 140737488351232) (hv : ∀ v ∈ r, v.Ok) (hsz : ∀ k, (qEb cols r k).length <= 1152921504606846976) (hsv : ∀ j k, (valL cols r j k).length <= 1152921504606846976) :
  Calls Tryz.prog 19 #[.agg #[.int .u8 name, .slice ca cols.length cc, .int .i64 keys, .int .i64 idx], .slice ra r.length rc] w fun e w' => e = .returned (qSa (qBt name cols keys idx r)) /\ Mod (fun _ => False) w w' := by
 have hma : Mod (fun _ => False) w ((w.alloc (.cells #[.int .u8 name, .slice ca cols.length cc, .int .i64 keys, .int .i64 idx] 24)).alloc (.cells #[.string ⟨#[]⟩, .string ⟨#[]⟩] 41)) := ((Mod.refl _ _).alloc _).alloc _
 have HP := hid (qHj name keys idx cc rc (hl.ext hma) (hr.ext hma) hn hrn hv hsz hsv); have hsz1 : (w.alloc (.cells #[.int .u8 name, .slice ca cols.length cc, .int .i64 keys, .int .i64 idx] 24)).heap.size = w.heap.size + 1 := by simp
 have ha : ((w.alloc (.cells #[.int .u8 name, .slice ca cols.length cc, .int .i64 keys, .int .i64 idx] 24)).alloc (.cells #[.string ⟨#[]⟩, .string ⟨#[]⟩] 41)).heap[w.heap.size]? = some (.cells #[.int .u8 name, .slice ca cols.length cc, .int .i64 keys, .int .i64 idx] 24 (0, 0)) := by
  rw [Below.heap_alloc _ _ _ (by omega)]
  exact heap_alloc_new _ _
 have hb : ((w.alloc (.cells #[.int .u8 name, .slice ca cols.length cc, .int .i64 keys, .int .i64 idx] 24)).alloc (.cells #[.string ⟨#[]⟩, .string ⟨#[]⟩] 41)).heap[w.heap.size + 1]? = some (.cells #[.string ⟨#[]⟩, .string ⟨#[]⟩] 41 (0, 0)) := by
  rw [<- hsz1]; exact heap_alloc_new _ _
 have HM := hid hma; have HB := hid hb; obtain ⟨b0, b1, b2, b3⟩ := row4 ha; clear hl hr hv hsz hsv hma hsz1 ha hb; generalize qBt name cols keys idx r = P at *; cases P with
 | none =>
  have hp : qDc none = .tuple #[.agg #[.string ⟨#[]⟩, .string ⟨#[]⟩], .agg #[.string ⟨#[]⟩, .string ⟨#[]⟩], .bool false] := rfl; rw [hp] at HP; clear hp; go_enter Tryz.func19, Tryz.ntmps19
  go_upto_region 2 with (go_at_call 31; refine HP.out.mono ?_; rintro e w1 ⟨rfl, hm⟩; have HM1 := hid hm; clear hm)
  clear b0 b1 b2 b3; have hm2 : Mod (fun _ => False) w1 ((w1.alloc (.cells #[.string ⟨#[]⟩, .string ⟨#[]⟩] 41)).alloc (.cells #[.string ⟨#[]⟩, .string ⟨#[]⟩] 41)) := ((Mod.refl _ _).alloc _).alloc _
  have hs2 : (w1.alloc (.cells #[.string ⟨#[]⟩, .string ⟨#[]⟩] 41)).heap.size = w1.heap.size + 1 := by simp
  have hp1 : ((w1.alloc (.cells #[.string ⟨#[]⟩, .string ⟨#[]⟩] 41)).alloc (.cells #[.string ⟨#[]⟩, .string ⟨#[]⟩] 41)).heap[w1.heap.size]? = some (.cells #[.string ⟨#[]⟩, .string ⟨#[]⟩] 41 (0, 0)) := by
   rw [Below.heap_alloc _ _ _ (by omega)]
   exact heap_alloc_new _ _
  have HM2 := hid ((HM.out.trans HM1.out).trans hm2); have hB2 := ((HM1.out.trans hm2).block _ (lth HB.out) (fun h => h)).trans HB.out
  have HB2 := hid hB2; obtain ⟨c0, c1, _, _⟩ := row2 hp1; obtain ⟨_, _, f0, f1⟩ := row2 hB2; clear hm2 hs2 hp1 hB2; generalize (w1.alloc (.cells #[.string ⟨#[]⟩, .string ⟨#[]⟩] 41)).alloc (.cells #[.string ⟨#[]⟩, .string ⟨#[]⟩] 41) = V at *; obtain ⟨d0, d1, _, _⟩ := row2 HB2.out; go_wp2_with fail
  obtain ⟨z0, z1, z2⟩ := val2 HM2.out (Nat.le_succ _) HB2.out (.string ⟨#[]⟩) (.string ⟨#[]⟩); clear c0 c1 f0 f1 d0 d1; generalize (V.setCell ⟨w.heap.size + 1, 0, none⟩ (.string ⟨#[]⟩)).setCell ⟨w.heap.size + 1, 1, none⟩ (.string ⟨#[]⟩) = Z at *; exact bodyPost_ret (v := qSa (none)) (by simp [qSa, results, Tryz.results19, go_sem, z0, z1]) rfl ⟨rfl, z2⟩
 | some p =>
  have hp : qDc (some p) = .tuple #[.agg #[.string (ba p.k), .string (ba p.v)], .agg #[.string (ba p.x), .string ⟨#[]⟩], .bool true] := rfl; rw [hp] at HP; clear hp; go_enter Tryz.func19, Tryz.ntmps19
  go_upto_region 2 with (go_at_call 31; refine HP.out.mono ?_; rintro e w1 ⟨rfl, hm⟩; have HM1 := hid hm; clear hm)
  clear b0 b1 b2 b3; have hm2 : Mod (fun _ => False) w1 ((w1.alloc (.cells #[.string (ba p.k), .string (ba p.v)] 41)).alloc (.cells #[.string (ba p.x), .string ⟨#[]⟩] 41)) := ((Mod.refl _ _).alloc _).alloc _
  have hs2 : (w1.alloc (.cells #[.string (ba p.k), .string (ba p.v)] 41)).heap.size = w1.heap.size + 1 := by simp
  have hp1 : ((w1.alloc (.cells #[.string (ba p.k), .string (ba p.v)] 41)).alloc (.cells #[.string (ba p.x), .string ⟨#[]⟩] 41)).heap[w1.heap.size]? = some (.cells #[.string (ba p.k), .string (ba p.v)] 41 (0, 0)) := by
   rw [Below.heap_alloc _ _ _ (by omega)]
   exact heap_alloc_new _ _
  have HM2 := hid ((HM.out.trans HM1.out).trans hm2); have hB2 := ((HM1.out.trans hm2).block _ (lth HB.out) (fun h => h)).trans HB.out
  have HB2 := hid hB2; obtain ⟨c0, c1, _, _⟩ := row2 hp1; obtain ⟨_, _, f0, f1⟩ := row2 hB2; clear hm2 hs2 hp1 hB2; generalize (w1.alloc (.cells #[.string (ba p.k), .string (ba p.v)] 41)).alloc (.cells #[.string (ba p.x), .string ⟨#[]⟩] 41) = V at *; obtain ⟨d0, d1, _, _⟩ := row2 HB2.out; go_wp2_with fail
  obtain ⟨z0, z1, z2⟩ := val2 HM2.out (Nat.le_succ _) HB2.out (.string (ba p.k)) (.string (ba p.v)); clear c0 c1 f0 f1 d0 d1; generalize (V.setCell ⟨w.heap.size + 1, 0, none⟩ (.string (ba p.k))).setCell ⟨w.heap.size + 1, 1, none⟩ (.string (ba p.v)) = Z at *; exact bodyPost_ret (v := qSa (some p)) (by simp [qSa, results, Tryz.results19, go_sem, z0, z1]) rfl ⟨rfl, z2⟩
end
section
open Go Go.RowKit
theorem jJq : (Tryz.prog.info? 46).map (fun i => (i.zero, i.size, i.bytes)) = some (some (.agg #[.int .i64 0, .string ⟨#[]⟩]), 2, 24) := by kernel_rfl
theorem qLm {a b : ByteArray} (h : a.toList = b.toList) : a = b := by
 rw [ByteArray.toList_eq, ByteArray.toList_eq] at h; exact qMw h
def qNd (w : World) (name : Int) (cols : List Int) (keys idx : Int) (ks vs : ByteArray) (e : Ending) (w' : World) : Prop :=
 Mod (fun _ => False) w w' /\ ((∃ r la cap, qEr name cols keys idx ks vs r /\ r.length = cols.length /\ (∀ v ∈ r, v.Ok /\ v.s.size <= 4194304) /\ e = .returned (.tuple #[.slice la r.length cap, .int .i64 0]) /\ Lies w' 2 Vl.cs la r /\ ∀ b, blk la b -> w.heap.size <= b) ∨
  ((∀ r, ¬ qEr name cols keys idx ks vs r) /\ e = .returned (.tuple #[.slice none 0 0, .int .i64 60])))
theorem qIj {w w' : World} {name : Int} {cols : List Int} {keys idx : Int} {ks vs : ByteArray} (hm : Mod (fun _ => False) w w') (h : ∀ r, ¬ qEr name cols keys idx ks vs r) : qNd w name cols keys idx ks vs (.returned (.tuple #[.slice none 0 0, .int .i64 60])) w' := ⟨hm, .inr ⟨h, rfl⟩⟩
structure DLoop (C wr : World) (cols : List Int) (K : Nat) (ks vs : ByteArray) (k : Nat) (la : Option Addr) (cap : Nat) (done : List Vl) (a b : Nat) : Prop where
 own : Own wr 46 2 la k cap (done.flatMap Vl.cs)
 new : ∀ b, blk la b -> C.heap.size <= b
 mod : Mod (fun _ => False) C wr
 len : done.length = k
 at' : a <= ks.size
 rd : qFc K ks vs 0 cols 2 0 = (qFc K ks vs k (cols.drop k) a b).map (done ++ ·)
set_option maxRecDepth 100000
set_option maxHeartbeats 8000000 in
theorem qKt {w : World} {ca : Option Addr} {cols : List Int} (name keys idx : Int) (cc : Nat) (ks vs : ByteArray) (hl : Lies w 1 oneI ca cols) (hn : cols.length <= 4194304) (hks : ks.size <= 4194304) (hvs : vs.size <= 4194304) :
  Calls Tryz.prog 30 #[.agg #[.int .u8 name, .slice ca cols.length cc, .int .i64 keys, .int .i64 idx], .agg #[.string ks, .string vs]] w fun e w' => qNd w name cols keys idx ks vs e w' := by
 obtain ⟨i0, hi0, hz0, hz1, hz2⟩ := info_parts jJq; have hma : Mod (fun _ => False) w ((w.alloc (.cells #[.int .u8 name, .slice ca cols.length cc, .int .i64 keys, .int .i64 idx] 24)).alloc (.cells #[.string ks, .string vs] 41)) := ((Mod.refl _ _).alloc _).alloc _
 have hs1 : (w.alloc (.cells #[.int .u8 name, .slice ca cols.length cc, .int .i64 keys, .int .i64 idx] 24)).heap.size = w.heap.size + 1 := by simp
 have ha : ((w.alloc (.cells #[.int .u8 name, .slice ca cols.length cc, .int .i64 keys, .int .i64 idx] 24)).alloc (.cells #[.string ks, .string vs] 41)).heap[w.heap.size]? = some (.cells #[.int .u8 name, .slice ca cols.length cc, .int .i64 keys, .int .i64 idx] 24 (0, 0)) := by
  rw [Below.heap_alloc _ _ _ (by omega)]
  exact heap_alloc_new _ _
 have hb : ((w.alloc (.cells #[.int .u8 name, .slice ca cols.length cc, .int .i64 keys, .int .i64 idx] 24)).alloc (.cells #[.string ks, .string vs] 41)).heap[w.heap.size + 1]? = some (.cells #[.string ks, .string vs] 41 (0, 0)) := by
  rw [<- hs1]; exact heap_alloc_new _ _
 have HM := hid hma; have HA := hid ha; have HB := hid hb; have HL := hid hl; have HF := hid (qLq name keys idx cc (hl.ext hma) (by omega))
 clear hma hs1 ha hb hl; obtain ⟨b0, b1, b2, b3⟩ := row4 HA.out; obtain ⟨c0, c1, _, _⟩ := row2 HB.out; cases hfit : qJj name cols keys idx with
 | false =>
  have HN : Hid (∀ r, ¬ qEr name cols keys idx ks vs r) := hid (fun r h => by have := jKf h; rw [hfit] at this; cases this)
  rw [hfit] at HF; clear hfit; go_enter Tryz.func30, Tryz.ntmps30
  go_wp2_with (go_at_call 37; refine HF.out.mono ?_; rintro e w1 ⟨rfl, hm⟩; have HM1 := hid (HM.out.trans hm); clear hm)
  go_ret2; exact qIj HM1.out HN.out
 | true =>
  obtain ⟨i1, n1, n2, i2, i3, i4, i5⟩ := qJl hfit; obtain ⟨K, rfl⟩ : ∃ K : Nat, keys = (K : Int) := ⟨keys.toNat, by omega⟩
  rw [hfit] at HF; clear hfit i1; have HPx := hid (fun W : World => Tryz.strings_HasPrefix ks (ba (qAe name.toNat 0)) W)
  rw [qBk] at HPx; have HRow := hid (fun (W : World) (hm : Mod (fun _ => False) ((w.alloc (.cells #[.int .u8 name, .slice ca cols.length cc, .int .i64 (K : Int), .int .i64 idx] 24)).alloc (.cells #[.string ks, .string vs] 41)) W) => (fun x y => And.intro x y) (row4 ((hm.block _ (lth HA.out) (fun h => h)).trans HA.out)) (row2 ((hm.block _ (lth HB.out) (fun h => h)).trans HB.out)))
  have HCv : Hid (∀ W : World, (convert 128 9 (.slice (some ⟨W.heap.size, 0, none⟩) 2 2)).run Tryz.prog (W.alloc (.cells #[.int .u8 name, .int .u8 0] 5)) = .ok (.string (ba (qAe name.toNat 0))) (W.alloc (.cells #[.int .u8 name, .int .u8 0] 5))) := hid (fun W =>
   run_convert_bytes_back (P := Tryz.prog) _ 128 9 5 ⟨W.heap.size, 0, none⟩ 2 (qAe name.toNat 0) Tryz.underlying128 Tryz.underlying5 Tryz.underlying9 (fun j hj => by
    rw [Addr.add_lit, cell_of_row _ _ _ _ _ _ (heap_alloc_new _ _)]; have : j = 0 \/ j = 1 := by simp [qAe] at hj; omega
    rcases this with rfl | rfl
    ·simp [qAe]; omega
    ·simp [qAe]))
  cases hpre : Lib.hasPrefix ks.data.toList (qAe name.toNat 0) with
  | false =>
   have HN : Hid (∀ r, ¬ qEr name cols (K : Int) idx ks vs r) := hid (fun r h => by have := qYq h; rw [hpre] at this; cases this)
   rw [hpre] at HPx; clear hpre; go_enter Tryz.func30, Tryz.ntmps30
   go_wp2_with (first | (go_at_call 37; refine HF.out.mono ?_; rintro e w1 ⟨rfl, hm⟩; have HM1 := hid (HM.out.trans hm); clear b0 b1 b2 b3 c0 c1; obtain ⟨⟨b0, b1, b2, b3⟩, c0, c1, _, _⟩ := HRow.out w1 hm; have hcv := HCv.out w1; clear hm) | (go_at_call 54; refine (HPx.out _).mono ?_; rintro e w2 ⟨rfl, rfl⟩))
   go_ret2; exact qIj (HM1.out.alloc _) HN.out
  | true =>
   rw [hpre] at HPx; have h2 : 2 <= ks.size := qXy hpre; clear hpre; go_enter Tryz.func30, Tryz.ntmps30
   go_upto_region 5 with (first | (go_at_call 37; refine HF.out.mono ?_; rintro e w1 ⟨rfl, hm⟩; have HM1 := hid hm; clear b0 b1 b2 b3 c0 c1; obtain ⟨⟨b0, b1, b2, b3⟩, c0, c1, _, _⟩ := HRow.out w1 hm; have hcv := HCv.out w1; clear hm) | (go_at_call 54; refine (HPx.out _).mono ?_; rintro e w2 ⟨rfl, rfl⟩))
   obtain ⟨C, hC⟩ : ∃ C, ((w.alloc (.cells #[.int .u8 name, .slice ca cols.length cc, .int .i64 (K : Int), .int .i64 idx] 24)).alloc (.cells #[.string ks, .string vs] 41)) = C := ⟨_, rfl⟩; rw [hC] at HM HA HB HM1 HRow; clear hC HF b0 b1 b2 b3 c0 c1 hcv; have HMV := hid (HM1.out.alloc (.cells #[.int .u8 name, .int .u8 0] 5)); generalize w1.alloc (.cells #[.int .u8 name, .int .u8 0] 5) = V at *; obtain ⟨⟨b0, b1, b2, b3⟩, c0, c1, _, _⟩ := HRow.out V HMV.out; go_wp2_with fail
   clear b0 b1 b2 b3 c0 c1; go_loopw [6, 7, 8, 31] (fun so sa sb sc wr => ∃ (k : Nat) (la : Option Addr) (cap : Nat) (done : List Vl) (a b : Nat), k <= cols.length /\ so = .slice la k cap /\ sa = .int .i64 (a : Int) /\ sb = .int .i64 (b : Int) /\ sc = .int .i64 (k : Int) /\ DLoop C wr cols K ks vs k la cap done a b) (fun _ _ _ sc _ => cols.length - (intOf sc).toNat)
   case atStart => exact ⟨0, none, 0, [], 2, 0, Nat.zero_le _, rfl, rfl, rfl, rfl, ⟨Own.nil _ _ _, (fun k hk => (qAj k hk).elim), HMV.out, rfl, h2, by simp⟩⟩
   case round =>
    obtain ⟨k, la, cap, done, a, b, hk, rfl, rfl, rfl, rfl, hd⟩ := hrel; have HD := hid hd; clear hd; obtain ⟨⟨b0, b1, b2, b3⟩, c0, c1, _, _⟩ := HRow.out wr HD.out.mod; by_cases hlt : k < cols.length
    case neg =>
     have hke : k = cols.length := by omega
     subst hke; have hrd : qFc K ks vs 0 cols 2 0 = some done := by rw [HD.out.rd, List.drop_length]; unfold qFc; simp
     obtain ⟨hdl, hdo⟩ := qPd hks hvs (by decide) cols 0 2 0 done hrd
     obtain ⟨z1, z2⟩ := qGb hn (fun v hv => (hdo v hv).1) (fun v hv => (hdo v hv).2)
     have HOw := hid HD.out.own; have hlen := HD.out.len; have HE := hid (qWi (w := wr) name (K : Int) idx cc cap ((HL.out.ext HM.out).ext HD.out.mod) (by have := HOw.out; rw [<- hdl] at this; exact this.lies) (by omega) (by omega) (fun v hv => (hdo v hv).1) z1 z2)
     rw [hdl] at HE; have HRd := hid hrd; have HDo := hid hdo; have HDl := hid hdl; clear hrd hdo hlen hdl z1 z2; cases hP : qBt name cols (K : Int) idx done with
     | none =>
      have HN : Hid (∀ r, ¬ qEr name cols (K : Int) idx ks vs r) := hid (fun r h => by
       have h1 := h.1; rw [Int.toNat_natCast, HRd.out] at h1; cases h1
       obtain ⟨p, hp, _⟩ := h.2; rw [hP] at hp; cases hp)
      rw [hP, show qSa none = .tuple #[.agg #[.string ⟨#[]⟩, .string ⟨#[]⟩], .int .i64 60] from rfl] at HE
      clear hP; go_wp2_with (go_at_call 19; refine HE.out.mono ?_; rintro e w5 ⟨rfl, hm5⟩; have HM5 := hid hm5; clear hm5)
      go_ret2; exact qIj ((HM.out.trans (HD.out.mod.trans HM5.out)).alloc _) HN.out
     | some p =>
      have HP := hid hP; rw [hP, show qSa (some p) = .tuple #[.agg #[.string (ba p.k), .string (ba p.v)], .int .i64 0] from rfl] at HE
      clear hP; go_upto_region 18 with (go_at_call 19; refine HE.out.mono ?_; rintro e w5 ⟨rfl, hm5⟩; have HM5 := hid hm5; clear hm5)
      have HM6 := hid (HM5.out.alloc (.cells #[.string (ba p.k), .string (ba p.v)] 41)); have hnew : (w5.alloc (.cells #[.string (ba p.k), .string (ba p.v)] 41)).heap[w5.heap.size]? = some (.cells #[.string (ba p.k), .string (ba p.v)] 41 (0, 0)) := heap_alloc_new _ _; obtain ⟨d0, d1, _, _⟩ := row2 hnew; clear b0 b1 b2 b3 c0 c1 hnew; obtain ⟨⟨b0, b1, b2, b3⟩, c0, c1, _, _⟩ := HRow.out _ (HD.out.mod.trans HM6.out); generalize w5.alloc (.cells #[.string (ba p.k), .string (ba p.v)] 41) = V6 at *; have HBad : Hid ((¬ (ba p.k = ks /\ ba p.v = vs)) -> ∀ r, ¬ qEr name cols (K : Int) idx ks vs r) := hid (fun hne r h => by
       have h1 := h.1; rw [Int.toNat_natCast, HRd.out] at h1; cases h1
       obtain ⟨p', hp, h2, h3⟩ := h.2; rw [HP.out] at hp; cases hp
       exact hne ⟨h2, h3⟩)
      by_cases e1 : (ba p.k).toList = ks.toList
      case neg =>
       have HN := hid (HBad.out (fun h => e1 (by rw [h.1])))
       go_wp2_with fail
       go_ret2; exact qIj (HM.out.trans (HD.out.mod.trans HM6.out)) HN.out
      case pos =>
       by_cases e2 : (ba p.v).toList = vs.toList
       case neg =>
        have HN := hid (HBad.out (fun h => e2 (by rw [h.2])))
        go_wp2_with fail
        go_ret2; exact qIj (HM.out.trans (HD.out.mod.trans HM6.out)) HN.out
       case pos =>
        have HY : Hid (qEr name cols (K : Int) idx ks vs done) := hid ⟨by rw [Int.toNat_natCast]; exact HRd.out, p, HP.out, qLm e1, qLm e2⟩
        go_wp2_with fail
        go_ret2; refine ⟨HM.out.trans (HD.out.mod.trans HM6.out), .inl ⟨done, la, cap, HY.out, HDl.out, HDo.out, by rw [HDl.out]; rfl, ?_, fun b hb => by have := HD.out.new b hb; have := HM.out.size; omega⟩⟩
        have hown := HOw.out; rw [<- HDl.out] at hown; exact hown.lies.ext HM6.out
    case pos =>
     obtain ⟨c, hc⟩ : ∃ c, cols[k]? = some c := ⟨_, List.getElem?_eq_getElem hlt⟩; have HDr : Hid (cols.drop k = c :: cols.drop (k + 1)) := hid (by rw [List.drop_eq_getElem_cons hlt]; rw [List.getElem?_eq_getElem hlt] at hc; cases hc; rfl)
     have hlc := (HL.out.ext HM.out).ext HD.out.mod; obtain ⟨g, off, rfl⟩ := hlc.some (by omega)
     have q0 := hlc.cell oneI_len hc (j := 0) rfl; rw [Nat.add_zero, Nat.mul_one] at q0; have HRd := hid HD.out.rd; rw [HDr.out] at HRd; have hVA : Mod (fun _ => False) wr (wr.alloc (.cells #[.int .i64 0, .string ⟨#[]⟩] 46)) := (Mod.refl _ _).alloc _
     have HVA := hid hVA; have HVb : Hid ((wr.alloc (.cells #[.int .i64 0, .string ⟨#[]⟩] 46)).heap[wr.heap.size]? = some (.cells #[.int .i64 0, .string ⟨#[]⟩] 46 (0, 0))) := hid (heap_alloc_new _ _); clear hlc hc hVA; by_cases hkK : k < K
     case pos =>
      have dk : decide (k < K) = true := by rw [decide_eq_true_iff]; exact hkK
      have HU := hid (fun W : World => qXl c ks a W (by omega) HD.out.at')
      have HNx := hid (jAu HRd.out hkK); have HUo := hid (qQu c ks a (by omega))
      obtain ⟨⟨x0, x1, x2, x3⟩, y0, y1, _, _⟩ := HRow.out _ (HD.out.mod.trans HVA.out); go_upto_region 11 with fail
      clear b0 b1 b2 b3 q0 c0 c1; generalize wr.alloc (.cells #[.int .i64 0, .string ⟨#[]⟩] 46) = VA at *; generalize qCc c ks a = x at *; obtain ⟨⟨n, t⟩, nx, ok⟩ := x; have hrv : rvV ⟨⟨n, t⟩, nx, ok⟩ = .tuple #[.agg #[.int .i64 n, .string t], .int .i64 (nx : Int), .bool ok] := rfl; rw [hrv] at HU; have HX := hid (fun (W : World) (hm : Mod (fun _ => False) VA W) => row2 ((hm.block _ (lth HVb.out) (fun h => h)).trans HVb.out))
      clear hrv; go_upto_region 13 with (go_at_call 58; refine (HU.out _).mono ?_; rintro e w5 ⟨rfl, hm5⟩; have HM5 := hid hm5; clear hm5; obtain ⟨d0, d1, f0, f1⟩ := HX.out w5 HM5.out)
      have hZ : (((w5.setCell ⟨wr.heap.size, 0, none⟩ (.int .i64 n)).setCell ⟨wr.heap.size, 1, none⟩ (.string t)).heap[wr.heap.size]? = some (.cells #[.int .i64 n, .string t] 46 (0, 0))) := (set2 (set2 ((HM5.out.block _ (lth HVb.out) (fun h => h)).trans HVb.out) (.int .i64 n)).1 (.string t)).2
      have HMZ : Hid (Mod (fun j => wr.heap.size <= j) wr ((w5.setCell ⟨wr.heap.size, 0, none⟩ (.int .i64 n)).setCell ⟨wr.heap.size, 1, none⟩ (.string t))) := hid (Mod.setCell (S := fun j => wr.heap.size <= j) (p := ⟨wr.heap.size, 1, none⟩) (Mod.setCell (S := fun j => wr.heap.size <= j) (p := ⟨wr.heap.size, 0, none⟩) ((HVA.out.trans HM5.out).mono (fun _ _ h => h.elim)) (fun _ => Nat.le_refl _) _) (fun _ => Nat.le_refl _) _)
      clear d0 d1 f0 f1 x0 x1 x2 x3 y0 y1; generalize (w5.setCell ⟨wr.heap.size, 0, none⟩ (.int .i64 n)).setCell ⟨wr.heap.size, 1, none⟩ (.string t) = Z at *; have HMCZ := hid (HD.out.mod.then HMZ.out (fun i hi h => by have := HD.out.mod.size; omega))
      have HZ := hid hZ; clear hZ; cases ok with
      | false =>
       have HN : Hid (∀ r, ¬ qEr name cols (K : Int) idx ks vs r) := hid (fun r h => by
        have h1 := h.1; rw [Int.toNat_natCast, HNx.out.2 (by trivial)] at h1
        cases h1)
       go_wp2_with fail
       go_ret2; exact qIj (HM.out.trans HMCZ.out) HN.out
      | true =>
       obtain ⟨d0, d1, _, _⟩ := row2 HZ.out; have HRn := hid (HNx.out.1 (by trivial))
       have HOz := hid (HD.out.own.mod HMZ.out (fun j hj h => by have := HD.out.own.lt j hj; omega))
       have HOa := hid (HOz.out.mod (S := fun _ => False) ((Mod.refl _ _).alloc (.cells #[.int .i64 n, .string t] 46)) (fun _ _ h => h))
       have HSa : Hid (Src (Z.alloc (.cells #[.int .i64 n, .string t] 46)) 2 (some ⟨Z.heap.size, 0, none⟩) 1 [.int .i64 n, .string t]) := hid (qAw (heap_alloc_new _ _) rfl); have HMa := hid (HMCZ.out.alloc (.cells #[.int .i64 n, .string t] 46)); clear HU HNx
       go_wp2_with (at_builtin; refine qAd rfl (.tmp 60) (.tmp 62) 26 rfl 46 i0 _ 2 24 Tryz.underlying26 hi0 hz0 hz1 hz2 rfl la k cap _ rfl HOa.out (some ⟨Z.heap.size, 0, none⟩) 1 1 _ rfl HSa.out (by intro u hu; simp at hu; rcases hu with rfl | rfl <;> rfl) (by unfold maxLen; omega) (by omega) ?_; intro la' cap' w6 hown6 hm6 hb6 hn6 hr6; have HO6 := hid hown6; have HM6 := hid hm6; have HB6 := hid hb6; clear hown6 hm6 hb6 hn6 hr6 d0 d1)
       go_roundw
       case rel =>
        refine ⟨k + 1, la', cap', done ++ [⟨n, t⟩], nx, b, by omega, rfl, rfl, rfl, by go_num, ⟨?_, fun j hj => ?_, ?_, by rw [List.length_append, HD.out.len]; rfl, HUo.out.2.2 (by trivial) HD.out.at', HRn.out⟩⟩
        ·have := HO6.out; rw [List.flatMap_append]
         simpa [Vl.cs] using this
        ·rcases HB6.out j hj with h | h
         ·exact HD.out.new j h
         ·have := HMa.out.size; omega
        ·exact HMa.out.then HM6.out (fun i hi h => by have := HD.out.new i h; omega)
       case measure => simp [intOf]; omega
     case neg =>
      have dk : decide (k < K) = false := by rw [decide_eq_false_iff_not]; exact hkK
      have HU := hid (fun W : World => qXj c vs b W (by unfold maxLen; omega))
      have HNx := hid (jAt HRd.out hkK); have HUo := hid (qQt c vs b (by omega))
      obtain ⟨⟨x0, x1, x2, x3⟩, y0, y1, _, _⟩ := HRow.out _ (HD.out.mod.trans HVA.out); go_upto_region 12 with fail
      clear b0 b1 b2 b3 q0 c0 c1; generalize wr.alloc (.cells #[.int .i64 0, .string ⟨#[]⟩] 46) = VA at *; generalize qCu c vs b = x at *; obtain ⟨⟨n, t⟩, nx, ok⟩ := x; have hrv : rvV ⟨⟨n, t⟩, nx, ok⟩ = .tuple #[.agg #[.int .i64 n, .string t], .int .i64 (nx : Int), .bool ok] := rfl; rw [hrv] at HU; have HX := hid (fun (W : World) (hm : Mod (fun _ => False) VA W) => row2 ((hm.block _ (lth HVb.out) (fun h => h)).trans HVb.out))
      clear hrv; go_upto_region 13 with (go_at_call 59; refine (HU.out _).mono ?_; rintro e w5 ⟨rfl, hm5⟩; have HM5 := hid hm5; clear hm5; obtain ⟨d0, d1, f0, f1⟩ := HX.out w5 HM5.out)
      have hZ : (((w5.setCell ⟨wr.heap.size, 0, none⟩ (.int .i64 n)).setCell ⟨wr.heap.size, 1, none⟩ (.string t)).heap[wr.heap.size]? = some (.cells #[.int .i64 n, .string t] 46 (0, 0))) := (set2 (set2 ((HM5.out.block _ (lth HVb.out) (fun h => h)).trans HVb.out) (.int .i64 n)).1 (.string t)).2
      have HMZ : Hid (Mod (fun j => wr.heap.size <= j) wr ((w5.setCell ⟨wr.heap.size, 0, none⟩ (.int .i64 n)).setCell ⟨wr.heap.size, 1, none⟩ (.string t))) := hid (Mod.setCell (S := fun j => wr.heap.size <= j) (p := ⟨wr.heap.size, 1, none⟩) (Mod.setCell (S := fun j => wr.heap.size <= j) (p := ⟨wr.heap.size, 0, none⟩) ((HVA.out.trans HM5.out).mono (fun _ _ h => h.elim)) (fun _ => Nat.le_refl _) _) (fun _ => Nat.le_refl _) _)
      clear d0 d1 f0 f1 x0 x1 x2 x3 y0 y1; generalize (w5.setCell ⟨wr.heap.size, 0, none⟩ (.int .i64 n)).setCell ⟨wr.heap.size, 1, none⟩ (.string t) = Z at *; have HMCZ := hid (HD.out.mod.then HMZ.out (fun i hi h => by have := HD.out.mod.size; omega))
      have HZ := hid hZ; clear hZ; cases ok with
      | false =>
       have HN : Hid (∀ r, ¬ qEr name cols (K : Int) idx ks vs r) := hid (fun r h => by
        have h1 := h.1; rw [Int.toNat_natCast, HNx.out.2 (by trivial)] at h1
        cases h1)
       go_wp2_with fail
       go_ret2; exact qIj (HM.out.trans HMCZ.out) HN.out
      | true =>
       obtain ⟨d0, d1, _, _⟩ := row2 HZ.out; have HRn := hid (HNx.out.1 (by trivial))
       have HOz := hid (HD.out.own.mod HMZ.out (fun j hj h => by have := HD.out.own.lt j hj; omega))
       have HOa := hid (HOz.out.mod (S := fun _ => False) ((Mod.refl _ _).alloc (.cells #[.int .i64 n, .string t] 46)) (fun _ _ h => h))
       have HSa : Hid (Src (Z.alloc (.cells #[.int .i64 n, .string t] 46)) 2 (some ⟨Z.heap.size, 0, none⟩) 1 [.int .i64 n, .string t]) := hid (qAw (heap_alloc_new _ _) rfl); have HMa := hid (HMCZ.out.alloc (.cells #[.int .i64 n, .string t] 46)); clear HU HNx
       go_wp2_with (at_builtin; refine qAd rfl (.tmp 60) (.tmp 62) 26 rfl 46 i0 _ 2 24 Tryz.underlying26 hi0 hz0 hz1 hz2 rfl la k cap _ rfl HOa.out (some ⟨Z.heap.size, 0, none⟩) 1 1 _ rfl HSa.out (by intro u hu; simp at hu; rcases hu with rfl | rfl <;> rfl) (by unfold maxLen; omega) (by omega) ?_; intro la' cap' w6 hown6 hm6 hb6 hn6 hr6; have HO6 := hid hown6; have HM6 := hid hm6; have HB6 := hid hb6; clear hown6 hm6 hb6 hn6 hr6 d0 d1)
       go_roundw
       case rel =>
        refine ⟨k + 1, la', cap', done ++ [⟨n, t⟩], a, nx, by omega, rfl, rfl, rfl, by go_num, ⟨?_, fun j hj => ?_, ?_, by rw [List.length_append, HD.out.len]; rfl, HD.out.at', HRn.out⟩⟩
        ·have := HO6.out; rw [List.flatMap_append]
         simpa [Vl.cs] using this
        ·rcases HB6.out j hj with h | h
         ·exact HD.out.new j h
         ·have := HMa.out.size; omega
        ·exact HMa.out.then HM6.out (fun i hi h => by have := HD.out.new i h; omega)
       case measure => simp [intOf]; omega
end
end Go.Proofs.YtkinkgbmlhiakaaGreatDoor
