/- merged: TrP RdT Push DecL Round BackL BackF -/
import Derived.Test.YtgbcibdfeeiilaaGreatDoorMa13
import Derived.Test.YtgbcibdfeeiilaaGreatDoorMa04
import Derived.IntWalk
import Derived.Test.YtgbcibdfeeiilaaGreatDoorMa06
import Derived.Test.YtgbcibdfeeiilaaGreatDoorMa08
import Derived.Test.YtgbcibdfeeiilaaGreatDoorMa10
import Derived.Test.YtgbcibdfeeiilaaGreatDoorMa03
namespace Go.Proofs.YtgbcibdfeeiilaaGreatDoor
section
open Go Go.RowKit
theorem done_look {T : TM} {W : WM} {x : Int} (ha : W.after x = none) : (W.done T).nodes x = W.look T x := by
 unfold WM.done WM.look
 simp only [ha]
 rfl
theorem done_link {T : TM} {W : WM} {x : Int} (hn : W.nodes x = none) (ht : W.after x = none -> W.taken x = false) : (W.done T).after x = W.link T x := by
 unfold WM.done WM.link
 simp only [hn]
 cases ha : W.after x with
 | some y => rfl
 | none => simp [ht ha]
theorem done_acc {T : TM} {W : WM} {U F : List Int} (h : Acc T W U [] F) : Acc (W.done T) (W.done T).begin U [] F := by
 refine ⟨?_, h.cnt, fun x hx => ⟨rfl, fun _ => ⟨rfl, ?_⟩⟩, fun x hx => ⟨rfl, fun _ => ⟨rfl, ?_⟩⟩, fun x hx => ⟨rfl, rfl, rfl, ?_, ?_⟩, h.pos⟩
 ·refine chain_congr h.chain (fun x hx => ?_)
  obtain ⟨h1, h2⟩ := h.free x hx
  show (W.done T).after x = _
  exact done_link h1 (fun e => (h2 e).1)
 ·obtain ⟨h1, h2⟩ := h.used x hx
  show (W.done T).after x = none
  cases hn : W.nodes x with
  | some n => unfold WM.done; simp [hn]
  | none =>
   obtain ⟨h3, h4⟩ := h2 hn
   rw [done_link hn (fun _ => h3)]
   unfold WM.link
   rw [h1]
   exact h4
 ·obtain ⟨h1, h2⟩ := h.free x hx
  show (W.done T).nodes x = none
  cases ha : W.after x with
  | some y => unfold WM.done; simp [h1, ha]
  | none =>
   rw [done_look ha]
   unfold WM.look
   rw [h1]
   exact (h2 ha).2
 ·obtain ⟨h1, h2, h3, h4, h5⟩ := h.out x hx
  show (W.done T).nodes x = none
  rw [done_look h2]
  unfold WM.look
  rw [h1]
  exact h4
 ·obtain ⟨h1, h2, h3, h4, h5⟩ := h.out x hx
  show (W.done T).after x = none
  rw [done_link h1 (fun _ => h3)]
  unfold WM.link
  rw [h2]
  exact h5
def TI (T : TM) (m : Nat) (l : List KV) (H N : Nat) : Prop := WI T m T.begin l H N
theorem done_law {T : TM} {W : WM} {m : Nat} {l : List KV} {H N : Nat} (h : WI T m W l H N) : TI (W.done T) m l H N := by
 obtain ⟨h1, h2, h3⟩ := h
 refine ⟨h1, h2, ?_⟩
 rcases h3 with ⟨h4, h5, h6, F, h7⟩ | ⟨ht, t, F, h4, h5⟩
 ·exact .inl ⟨h4, h5, h6, F, done_acc h7⟩
 ·refine .inr ⟨ht, t, F, ⟨h4.nz, h4.le, ?_, h4.two, h4.fl, done_acc h4.acc⟩, h5⟩
  refine sd_congr h4.sd (fun x hx => ?_)
  show (W.done T).nodes x = _
  exact done_look ((h4.acc.used x (.inl hx)).1)
def newT : TM := ⟨0, 1, 0, 0, fun _ => none, fun _ => none⟩
theorem new_law (m H : Nat) : TI newT m [] H 0 := by
 refine ⟨⟨List.Pairwise.nil, (fun _ h => by cases h)⟩, rfl, .inl ⟨rfl, rfl, rfl, [], ⟨rfl, fun x => ?_, fun x hx => ?_, (fun x hx => by cases hx), fun x hx => ⟨rfl, rfl, rfl, rfl, rfl⟩, Int.le_refl _⟩⟩⟩
 ·have : ¬ (1 <= x /\ x < (newT.begin).next) := fun h => by
   have h2 : x < 1 := h.2
   omega
  rw [if_neg this]
  rfl
 ·rcases hx with hx | hx <;> cases hx
theorem secs_five {look : Int -> Option NP} : ∀ {h : Nat} {s : Int} {t : Tr h}, Sd look 250 h s t -> 250 <= wtN h t -> 5 ^ h <= (secs h s t).length
 | 0, _, _, _, _ => Nat.le_refl _
 | h + 1, s, l, k, hw => by
  have hl : 5 <= (entsOf (h + 1) l).length := GoodE.many k.1.2 hw
  have hl2 : 5 <= List.length (α := TE (Tr h)) l := by
   have e : (entsOf (h + 1) l).length = List.length (α := TE (Tr h)) l := List.length_map ..
   omega
  have aux : ∀ r : List (TE (Tr h)), (∀ e ∈ r, Sd look 250 h e.spot e.sub /\ 250 <= wtN h e.sub) -> r.length * 5 ^ h <= (psecs r).length := by
   intro r
   induction r with
   | nil => intro _; simp [psecs_nil]
   | cons e r ih =>
    intro hr
    rw [psecs_cons, List.length_append, List.length_cons, Nat.add_mul]
    have h1 := secs_five (hr e List.mem_cons_self).1 (hr e List.mem_cons_self).2
    have h2 := ih (fun x hx => hr x (List.mem_cons_of_mem _ hx))
    omega
  have h1 := aux l (fun e he => ⟨(k.2 e he).1, (k.2 e he).2.2⟩)
  have h2 : 5 * 5 ^ h <= List.length (α := TE (Tr h)) l * 5 ^ h := Nat.mul_le_mul_right _ hl2
  show 5 ^ (h + 1) <= (s :: psecs l).length
  rw [List.length_cons, Nat.pow_succ]
  omega
theorem secs_two {look : Int -> Option NP} {h : Nat} {s : Int} {t : Tr (h + 1)} (k : Sd look 250 (h + 1) s t) (h2 : 2 <= tlen (h + 1) t) : 2 * 5 ^ h <= (secs (h + 1) s t).length := by
 have hl2 : 2 <= List.length (α := TE (Tr h)) t := by
  have e : (entsOf (h + 1) t).length = List.length (α := TE (Tr h)) t := List.length_map ..
  unfold tlen at h2
  omega
 have aux : ∀ r : List (TE (Tr h)), (∀ e ∈ r, Sd look 250 h e.spot e.sub /\ 250 <= wtN h e.sub) -> r.length * 5 ^ h <= (psecs r).length := by
  intro r
  induction r with
  | nil => intro _; simp [psecs_nil]
  | cons e r ih =>
   intro hr
   rw [psecs_cons, List.length_append, List.length_cons, Nat.add_mul]
   have h1 := secs_five (hr e List.mem_cons_self).1 (hr e List.mem_cons_self).2
   have h2 := ih (fun x hx => hr x (List.mem_cons_of_mem _ hx))
   omega
 have h1 := aux t (fun e he => ⟨(k.2 e he).1, (k.2 e he).2.2⟩)
 have h2 : 2 * 5 ^ h <= List.length (α := TE (Tr h)) t * 5 ^ h := Nat.mul_le_mul_right _ hl2
 show 2 * 5 ^ h <= (s :: psecs t).length
 rw [List.length_cons]
 omega
theorem WI.high {T : TM} {W : WM} {l : List KV} {H N : Nat} (h : WI T 250 W l H N) (k : Nat) (hk : N < 2 * 5 ^ k) : WI T 250 W l k N := by
 obtain ⟨h1, h2, h3⟩ := h
 refine ⟨h1, h2, ?_⟩
 rcases h3 with h4 | ⟨ht, t, F, h4, h5⟩
 ·exact .inl h4
 ·refine .inr ⟨ht, t, F, ⟨h4.nz, ?_, h4.sd, h4.two, h4.fl, h4.acc⟩, h5⟩
  cases ht with
  | zero => exact Nat.zero_le _
  | succ g =>
   have h6 := secs_two h4.sd (h4.two (by omega) (by omega))
   by_cases hg : g + 1 <= k
   ·exact hg
   ·have : 5 ^ k <= 5 ^ g := Nat.pow_le_pow_right (by omega) (by omega)
    omega
theorem WI.spots {T : TM} {m : Nat} {W : WM} {l : List KV} {H N : Nat} (h : WI T m W l H N) : (N : Int) <= W.next - 1 /\ 1 <= W.next := by
 obtain ⟨_, _, h3⟩ := h
 rcases h3 with ⟨_, _, rfl, F, hA⟩ | ⟨ht, t, F, h4, h5⟩
 ·have := hA.len
  have := hA.pos
  simp only [List.length_nil] at *
  omega
 ·have := h4.acc.len
  have := h4.acc.pos
  simp only [List.length_nil] at *
  omega
def chgs (cs : List Cg) (l : List KV) : List KV := cs.foldl (fun l c => chg c l) l
def Touch (W : WM) (y : Int) : Prop := W.nodes y ≠ none \/ W.after y ≠ none
structure Allx (L : Int) (W W' : WM) (N N' k : Nat) : Prop where
 lo : W.next <= W'.next
 hi : W'.next <= W.next + 32 * k
 mono : W.full = true -> W'.full = true
 use : N' <= N + 32 * k
 sharp : W.full = false -> W.next <= L -> L <= 16384 -> (W'.full = true -> L <= (N : Int) + 8 * k) /\ (W'.full = false -> W'.next <= L /\ N' <= N + 8 * k /\ ∃ X : List Int, X.length <= 21 * k /\ ∀ y, Touch W' y -> y ∈ X \/ Touch W y)
theorem all_law {T : TM} {L : Int} : ∀ (cs : List Cg) (W : WM) (l : List KV) (H N : Nat), (∀ c ∈ cs, CgOk c) -> WI T 250 W l H N -> W.next + 32 * cs.length <= 576460752303423488 →
  ∃ (W' : WM) (N' : Nat), allM T L 70 cs W = some W' /\ WI T 250 W' (chgs cs l) 26 N' /\ Allx L W W' N N' cs.length
 | [], W, l, H, N, _, hW, hn => by
  have hs := hW.spots
  simp only [List.length_nil] at hn
  exact ⟨W, N, rfl, hW.high 26 (by omega), Int.le_refl _, by simp, fun h => h, by simp, fun hf hl _ => ⟨fun h => (by rw [hf] at h; cases h), fun _ => ⟨hl, by simp, [], by simp, fun y hy => .inr hy⟩⟩⟩
 | c :: cs, W, l, H, N, hc, hW, hn => by
  have hs := hW.spots
  simp only [List.length_cons] at hn
  have hW1 := hW.high 26 (by omega)
  obtain ⟨W1, N1, k1, k2, k3, k4⟩ := one_law (L := L) (f := 70) (.inr rfl) (hc c List.mem_cons_self) hW1 (by omega) (by omega)
  have hhi := k4.hi
  obtain ⟨W', N', r1, r2, r3⟩ := all_law (L := L) cs W1 (chg c l) _ N1 (fun x hx => hc x (List.mem_cons_of_mem _ hx)) k2 (by omega)
  have rhi := r3.hi
  have rlo := r3.lo
  have ruse := r3.use
  have klo := k4.lo
  refine ⟨W', N', ?_, r2, Int.le_trans klo rlo, ?_, fun h => r3.mono (k4.mono h), ?_, fun hf hl hL => ?_⟩
  ·show (oneM T L 70 W c).bind _ = _
   rw [k1]
   exact r1
  ·simp only [List.length_cons]; omega
  ·simp only [List.length_cons]; omega
  ·simp only [List.length_cons]
   have hW6 := hW.high 6 (by omega)
   obtain ⟨W2, N2, j1, j2, j3, j4⟩ := one_law (L := L) (f := 70) (.inr rfl) (hc c List.mem_cons_self) hW6 (by omega) (by omega)
   rw [k1] at j1
   cases j1
   have hN : N1 = N2 := by
    obtain ⟨_, _, a⟩ := k2
    obtain ⟨_, _, b⟩ := j2
    rcases a with ⟨a1, _, a3, _⟩ | ⟨h1, t1, F1, a1, a2⟩
    ·rcases b with ⟨b1, _, b3, _⟩ | ⟨h2, t2, F2, b1, _⟩
     ·rw [a3, b3]
     ·exact absurd a1 b1.nz
    ·rcases b with ⟨b1, _, b3, _⟩ | ⟨h2, t2, F2, b1, b2⟩
     ·exact absurd b1 a1.nz
     ·have hF : F1 = F2 := by
       have u : ∀ {A B : List Int} {f : Int}, Chain (W1.link T) f A -> Chain (W1.link T) f B -> A = B := by
        intro A
        induction A with
        | nil =>
         intro B f h1 h2
         cases B with
         | nil => rfl
         | cons y r => exact absurd (h2.1.symm.trans h1) h2.2.1
        | cons x r ih =>
         intro B f h1 h2
         cases B with
         | nil => exact absurd (h1.1.symm.trans h2) h1.2.1
         | cons y q =>
          obtain ⟨e1, _, z1, g1, g2⟩ := h1
          obtain ⟨e2, _, z2, g3, g4⟩ := h2
          subst e1
          subst e2
          rw [g1] at g3
          cases g3
          rw [ih g2 g4]
       exact u a1.acc.chain b1.acc.chain
      have l1 := a1.acc.len
      have l2 := b1.acc.len
      rw [hF] at l1
      omega
   subst hN
   cases hf1 : W1.full with
   | true =>
    have hL2 := (j4.full hf1).resolve_left (by rw [hf]; exact Bool.false_ne_true)
    have hm := r3.mono hf1
    exact ⟨fun _ => by omega, fun h => (by rw [hm] at h; cases h)⟩
   | false =>
    have hn1 : W1.next <= L := (j4.room hf1).elim (fun h => by omega) id
    obtain ⟨q1, q2⟩ := r3.sharp hf1 hn1 hL
    refine ⟨fun h => ?_, fun h => ?_⟩
    ·have := q1 h
     omega
    ·obtain ⟨p1, p2, X, p3, p4⟩ := q2 h
     obtain ⟨Y, y1, y2⟩ := j4.touch (by omega)
     refine ⟨p1, by omega, Y ++ X, by rw [List.length_append]; omega, fun y hy => ?_⟩
     rcases p4 y hy with h5 | h5
     ·exact .inl (List.mem_append_right _ h5)
     ·exact (y2 y h5).imp (fun h6 => List.mem_append_left _ h6) id
theorem apply_law {T : TM} {L : Int} (cs : List Cg) {l : List KV} {H N : Nat} (hc : ∀ c ∈ cs, CgOk c) (h : TI T 250 l H N) (hn : T.next + 32 * cs.length <= 576460752303423488) :
  ∃ (W' : WM) (N' : Nat), allM T L 70 cs T.begin = some W' /\ WI T 250 W' (chgs cs l) 26 N' /\ Allx L T.begin W' N N' cs.length := all_law cs T.begin l H N hc h hn
end
section
open Go Go.RowKit
structure RT where
 t : ByteArray
 n : Nat
 e : Nat
def rtOf (s : ByteArray) (at' : Nat) (x : RU) : RT :=
 if x.e = 0 then (if s.size < at' + x.n + x.v then ⟨⟨#[]⟩, 0, 20⟩ else ⟨s.extract (at' + x.n) (at' + x.n + x.v), at' + x.n + x.v, 0⟩) else ⟨⟨#[]⟩, 0, x.e⟩
def rdT (s : ByteArray) (at' : Nat) : RT := rtOf s at' (rdU 0 (s.data.toList.drop at'))
def rtV (x : RT) : Value := .tuple #[.string x.t, .int .i64 (x.n : Int), .int .i64 (x.e : Int)]
theorem rdU_in (s : ByteArray) (at' : Nat) (he : (rdU 0 (s.data.toList.drop at')).e = 0) : at' + (rdU 0 (s.data.toList.drop at')).n <= s.size /\ 1 <= (rdU 0 (s.data.toList.drop at')).n /\ (rdU 0 (s.data.toList.drop at')).v < 18446744073709551616 := by
 obtain ⟨h1, h2, _, h4⟩ := rdU_bound (s.data.toList.drop at') 0
 have h3 := h2 he
 have h5 := h4 (by omega)
 rw [Nat.pow_zero, Nat.mul_one] at h5
 have h6 : two64 = 18446744073709551616 := by decide
 rw [List.length_drop, Array.length_toList] at h1
 have h7 : s.data.size = s.size := rfl
 omega
set_option maxRecDepth 100000
set_option maxHeartbeats 2000000 in
theorem readText_any (s : ByteArray) (at' : Nat) (w : World) (hs : s.size <= maxLen) : Calls Tryz.prog 119 #[.string s, .int .i64 (at' : Int)] w fun e w' => e = .returned (rtV (rdT s at')) /\ w = w' := by
 have HU := hid (readUint_any s at' w hs)
 unfold rdT
 unfold maxLen at hs
 have hin := rdU_in s at'
 generalize rdU 0 (s.data.toList.drop at') = x at *
 obtain ⟨v, n, er⟩ := x
 by_cases he : er = 0
 ·subst he
  obtain ⟨h1, h2, h3⟩ := hin rfl
  simp only at h1 h2 h3
  clear hin
  have hv : ruV at' ⟨v, n, 0⟩ = .tuple #[.int .u64 (v : Int), .int .i64 ((at' + n : Nat) : Int), .int .i64 0] := by unfold ruV; simp
  have hr : rtOf s at' ⟨v, n, 0⟩ = if s.size < at' + n + v then ⟨⟨#[]⟩, 0, 20⟩ else ⟨s.extract (at' + n) (at' + n + v), at' + n + v, 0⟩ := rfl
  rw [hv] at HU
  rw [hr]
  clear hv hr
  generalize at' + n = m at *
  have hwr : IntKind.u64.wrap ((s.size : Int) - (m : Int)) = (s.size : Int) - (m : Int) := by rw [IntKind.wrap_u64]; omega
  by_cases hbig : s.size < m + v
  ·have d : decide ((s.size : Int) - (m : Int) < (v : Int)) = true := by rw [decide_eq_true_iff]; omega
   rw [if_pos hbig]
   go_enter Tryz.func119, Tryz.ntmps119
   go_wp2_with fail
   refine HU.out.mono ?_
   rintro e w' ⟨rfl, rfl⟩
   go_wp2_with fail
   exact bodyPost_ret (v := .tuple #[.string ⟨#[]⟩, .int .i64 0, .int .i64 20]) (by simp [results, Tryz.results119, go_sem]) rfl ⟨rfl, rfl⟩
  ·have d : decide ((s.size : Int) - (m : Int) < (v : Int)) = false := by rw [decide_eq_false_iff_not]; omega
   have hv2 : IntKind.i64.wrap (v : Int) = (v : Int) := IntWalk.i64_in _ (by omega)
   have hsl : ∀ w : World, (Instr.slice 9 (.string s) (some (.int .i64 (m : Int))) (some (.int .i64 ((m : Int) + (v : Int)))) none).run Tryz.prog w = .ok (.string (s.extract m (m + v))) w := fun w => by
    have := run_slice_string (P := Tryz.prog) w 9 s .i64 .i64 (m : Int) ((m : Int) + (v : Int)) Tryz.underlying9 (by omega) (by omega) (by omega)
    rw [show ((m : Int) + (v : Int)).toNat = m + v by omega, show ((m : Int)).toNat = m by omega] at this
    exact this
   have e5 : ((m + v : Nat) : Int) = (m : Int) + (v : Int) := by omega
   have HE5 := hid e5
   clear e5
   rw [if_neg hbig]
   go_enter Tryz.func119, Tryz.ntmps119
   go_wp2_with fail
   refine HU.out.mono ?_
   rintro e w' ⟨rfl, rfl⟩
   go_wp2_with fail
   exact bodyPost_ret (v := .tuple #[.string (s.extract m (m + v)), .int .i64 ((m : Int) + (v : Int)), .int .i64 0]) (by simp [results, Tryz.results119, go_sem]) rfl ⟨by unfold rtV; rw [HE5.out]; rfl, rfl⟩
 ·have hv : ruV at' ⟨v, n, er⟩ = .tuple #[.int .u64 0, .int .i64 0, .int .i64 (er : Int)] := by unfold ruV; rw [if_neg he]
  rw [hv] at HU
  clear hv hin
  have HA : Hid (rtOf s at' ⟨v, n, er⟩ = ⟨⟨#[]⟩, 0, er⟩) := hid (by unfold rtOf; rw [if_neg he])
  have hne : ((er : Int) != 0) = true := by rw [bne_iff_ne]; omega
  rw [HA.out]
  clear HA
  go_enter Tryz.func119, Tryz.ntmps119
  go_wp2_with fail
  refine HU.out.mono ?_
  rintro e w' ⟨rfl, rfl⟩
  go_wp2_with fail
  exact bodyPost_ret (v := .tuple #[.string ⟨#[]⟩, .int .i64 0, .int .i64 (er : Int)]) (by simp [results, Tryz.results119, go_sem]) rfl ⟨rfl, rfl⟩
end
section
open Go Go.RowKit
def Bx (w : World) (b : Nat) (m : Nd) : Prop := w.heap[b]? = some (.cells #[.bool m.leaf, .slice m.ka m.keys.length m.kc, .slice m.va m.values.length m.vc, .slice m.ia m.kids.length m.ic] 116 (0, 0))
theorem Bx.cells {w : World} {b : Nat} {m : Nd} (h : Bx w b m) : w.cell? ⟨b, 0, none⟩ = some (.bool m.leaf) /\ w.cell? ⟨b, 1, none⟩ = some (.slice m.ka m.keys.length m.kc) /\ w.cell? ⟨b, 2, none⟩ = some (.slice m.va m.values.length m.vc) /\ w.cell? ⟨b, 3, none⟩ = some (.slice m.ia m.kids.length m.ic) := cells4 h
theorem Bx.lt {w : World} {b : Nat} {m : Nd} (h : Bx w b m) : b < w.heap.size := lt_of_heap h
theorem Bx.mod {w w' : World} {b : Nat} {m : Nd} {S : Nat -> Prop} (h : Bx w b m) (hm : Mod S w w') (hs : ¬ S b) : Bx w' b m := (hm.block b h.lt hs).trans h
structure Hold (w : World) (L B : Nat) (m : Nd) : Prop where
 box : Bx w B m
 gd : Gd w m
 bs : ∀ b, m.bs b -> L <= b /\ b ≠ B
 lb : L <= B
theorem Hold.ext {w w' : World} {L B : Nat} {m : Nd} (h : Hold w L B m) (hm : Mod (fun _ => False) w w') : Hold w' L B m :=
 ⟨h.box.mod hm (fun h => h), h.gd.ext hm (fun _ _ h => h), h.bs, h.lb⟩
theorem Hold.key {w w5 : World} {L B : Nat} {m : Nd} {x : ByteArray} {a' : Option Addr} {c' : Nat} (h : Hold w L B m)
  (ho : Own w5 9 1 a' (m.keys.length + 1) c' (m.keys.flatMap scs ++ [.string x])) (hm : Mod (blk m.ka) (w.alloc (.cells #[.string x] 9)) w5) (hb : ∀ k, blk a' k -> blk m.ka k \/ (w.alloc (.cells #[.string x] 9)).heap.size <= k) :
  Hold (w5.setCell ⟨B, 1, none⟩ (.slice a' (m.keys.length + 1) c')) L B { m with keys := m.keys ++ [x], ka := a', kc := c' } /\ Mod (fun k => L <= k) w (w5.setCell ⟨B, 1, none⟩ (.slice a' (m.keys.length + 1) c')) := by
 have hlen : (m.keys ++ [x]).length = m.keys.length + 1 := by simp
 have hsz : (w.alloc (.cells #[.string x] 9)).heap.size = w.heap.size + 1 := by simp
 have hlB := h.box.lt
 have hlb := h.lb
 have M0 : Mod (blk m.ka) w w5 := ((Mod.refl _ w).alloc _).trans hm
 have hxB : ¬ blk m.ka B := fun hk => (h.bs B (.inl hk)).2 rfl
 have hbx5 : Bx w5 B m := h.box.mod M0 hxB
 have hb' : ∀ k, blk a' k -> L <= k /\ k ≠ B /\ (blk m.ka k \/ w.heap.size <= k) := fun k hk => by
  rcases hb k hk with hk | hk
  ·have := h.bs k (.inl hk); exact ⟨this.1, this.2, .inl hk⟩
  ·exact ⟨by omega, by omega, .inr (by omega)⟩
 have MB : Mod (fun k => k = B) w5 (w5.setCell ⟨B, 1, none⟩ (.slice a' (m.keys.length + 1) c')) := Mod.setCell (S := fun k => k = B) (Mod.refl _ _) (fun _ => rfl) _
 have M6 : Mod (fun k => L <= k) w (w5.setCell ⟨B, 1, none⟩ (.slice a' (m.keys.length + 1) c')) := (M0.mono (T := fun k => L <= k) (fun k _ hk => (h.bs k (.inl hk)).1)).then MB (fun i _ e => by subst e; exact hlb)
 refine ⟨⟨?_, ⟨?_, ?_, ?_, ?_, ?_, ?_⟩, (fun b hk => by rcases hk with hk | hk | hk; exact ⟨(hb' b hk).1, (hb' b hk).2.1⟩; exact h.bs b (.inr (.inl hk)); exact h.bs b (.inr (.inr hk))), hlb⟩, M6⟩
 ·have := (set4 hbx5 (.slice a' (m.keys.length + 1) c')).2.1
  show (w5.setCell ⟨B, 1, none⟩ (.slice a' (m.keys.length + 1) c')).heap[B]? = _
  rw [this]
  simp only [hlen]
 ·exact (by have := ho.mod MB (fun k hk e => (hb' k hk).2.1 e); rw [← hlen] at this; simpa using this)
 ·exact ((h.gd.v.mod M0 (fun k hk hk2 => h.gd.kv k hk2 hk)).mod MB (fun k hk e => (h.bs k (.inr (.inl hk))).2 e))
 ·exact ((h.gd.i.mod M0 (fun k hk hk2 => h.gd.ki k hk2 hk)).mod MB (fun k hk e => (h.bs k (.inr (.inr hk))).2 e))
 ·exact (fun b h1 h2 => by rcases (hb' b h1).2.2 with h3 | h3; exact h.gd.kv b h3 h2; have := h.gd.v.lt b h2; omega)
 ·exact (fun b h1 h2 => by rcases (hb' b h1).2.2 with h3 | h3; exact h.gd.ki b h3 h2; have := h.gd.i.lt b h2; omega)
 ·exact (h.gd.vi)
theorem Hold.value {w w5 : World} {L B : Nat} {m : Nd} {x : ByteArray} {a' : Option Addr} {c' : Nat} (h : Hold w L B m)
  (ho : Own w5 9 1 a' (m.values.length + 1) c' (m.values.flatMap scs ++ [.string x])) (hm : Mod (blk m.va) (w.alloc (.cells #[.string x] 9)) w5) (hb : ∀ k, blk a' k -> blk m.va k \/ (w.alloc (.cells #[.string x] 9)).heap.size <= k) :
  Hold (w5.setCell ⟨B, 2, none⟩ (.slice a' (m.values.length + 1) c')) L B { m with values := m.values ++ [x], va := a', vc := c' } /\ Mod (fun k => L <= k) w (w5.setCell ⟨B, 2, none⟩ (.slice a' (m.values.length + 1) c')) := by
 have hlen : (m.values ++ [x]).length = m.values.length + 1 := by simp
 have hsz : (w.alloc (.cells #[.string x] 9)).heap.size = w.heap.size + 1 := by simp
 have hlB := h.box.lt
 have hlb := h.lb
 have M0 : Mod (blk m.va) w w5 := ((Mod.refl _ w).alloc _).trans hm
 have hxB : ¬ blk m.va B := fun hk => (h.bs B (.inr (.inl hk))).2 rfl
 have hbx5 : Bx w5 B m := h.box.mod M0 hxB
 have hb' : ∀ k, blk a' k -> L <= k /\ k ≠ B /\ (blk m.va k \/ w.heap.size <= k) := fun k hk => by
  rcases hb k hk with hk | hk
  ·have := h.bs k (.inr (.inl hk)); exact ⟨this.1, this.2, .inl hk⟩
  ·exact ⟨by omega, by omega, .inr (by omega)⟩
 have MB : Mod (fun k => k = B) w5 (w5.setCell ⟨B, 2, none⟩ (.slice a' (m.values.length + 1) c')) := Mod.setCell (S := fun k => k = B) (Mod.refl _ _) (fun _ => rfl) _
 have M6 : Mod (fun k => L <= k) w (w5.setCell ⟨B, 2, none⟩ (.slice a' (m.values.length + 1) c')) := (M0.mono (T := fun k => L <= k) (fun k _ hk => (h.bs k (.inr (.inl hk))).1)).then MB (fun i _ e => by subst e; exact hlb)
 refine ⟨⟨?_, ⟨?_, ?_, ?_, ?_, ?_, ?_⟩, (fun b hk => by rcases hk with hk | hk | hk; exact h.bs b (.inl hk); exact ⟨(hb' b hk).1, (hb' b hk).2.1⟩; exact h.bs b (.inr (.inr hk))), hlb⟩, M6⟩
 ·have := (set4 hbx5 (.slice a' (m.values.length + 1) c')).2.2.1
  show (w5.setCell ⟨B, 2, none⟩ (.slice a' (m.values.length + 1) c')).heap[B]? = _
  rw [this]
  simp only [hlen]
 ·exact ((h.gd.k.mod M0 (fun k hk hk2 => h.gd.kv k hk hk2)).mod MB (fun k hk e => (h.bs k (.inl hk)).2 e))
 ·exact (by have := ho.mod MB (fun k hk e => (hb' k hk).2.1 e); rw [← hlen] at this; simpa using this)
 ·exact ((h.gd.i.mod M0 (fun k hk hk2 => h.gd.vi k hk2 hk)).mod MB (fun k hk e => (h.bs k (.inr (.inr hk))).2 e))
 ·exact (fun b h1 h2 => by rcases (hb' b h2).2.2 with h3 | h3; exact h.gd.kv b h1 h3; have := h.gd.k.lt b h1; omega)
 ·exact (h.gd.ki)
 ·exact (fun b h1 h2 => by rcases (hb' b h1).2.2 with h3 | h3; exact h.gd.vi b h3 h2; have := h.gd.i.lt b h2; omega)
theorem Hold.kid {w w5 : World} {L B : Nat} {m : Nd} {x : Int} {a' : Option Addr} {c' : Nat} (h : Hold w L B m)
  (ho : Own w5 3 1 a' (m.kids.length + 1) c' (m.kids.flatMap ics ++ [.int .i64 x])) (hm : Mod (blk m.ia) (w.alloc (.cells #[.int .i64 x] 3)) w5) (hb : ∀ k, blk a' k -> blk m.ia k \/ (w.alloc (.cells #[.int .i64 x] 3)).heap.size <= k) :
  Hold (w5.setCell ⟨B, 3, none⟩ (.slice a' (m.kids.length + 1) c')) L B { m with kids := m.kids ++ [x], ia := a', ic := c' } /\ Mod (fun k => L <= k) w (w5.setCell ⟨B, 3, none⟩ (.slice a' (m.kids.length + 1) c')) := by
 have hlen : (m.kids ++ [x]).length = m.kids.length + 1 := by simp
 have hsz : (w.alloc (.cells #[.int .i64 x] 3)).heap.size = w.heap.size + 1 := by simp
 have hlB := h.box.lt
 have hlb := h.lb
 have M0 : Mod (blk m.ia) w w5 := ((Mod.refl _ w).alloc _).trans hm
 have hxB : ¬ blk m.ia B := fun hk => (h.bs B (.inr (.inr hk))).2 rfl
 have hbx5 : Bx w5 B m := h.box.mod M0 hxB
 have hb' : ∀ k, blk a' k -> L <= k /\ k ≠ B /\ (blk m.ia k \/ w.heap.size <= k) := fun k hk => by
  rcases hb k hk with hk | hk
  ·have := h.bs k (.inr (.inr hk)); exact ⟨this.1, this.2, .inl hk⟩
  ·exact ⟨by omega, by omega, .inr (by omega)⟩
 have MB : Mod (fun k => k = B) w5 (w5.setCell ⟨B, 3, none⟩ (.slice a' (m.kids.length + 1) c')) := Mod.setCell (S := fun k => k = B) (Mod.refl _ _) (fun _ => rfl) _
 have M6 : Mod (fun k => L <= k) w (w5.setCell ⟨B, 3, none⟩ (.slice a' (m.kids.length + 1) c')) := (M0.mono (T := fun k => L <= k) (fun k _ hk => (h.bs k (.inr (.inr hk))).1)).then MB (fun i _ e => by subst e; exact hlb)
 refine ⟨⟨?_, ⟨?_, ?_, ?_, ?_, ?_, ?_⟩, (fun b hk => by rcases hk with hk | hk | hk; exact h.bs b (.inl hk); exact h.bs b (.inr (.inl hk)); exact ⟨(hb' b hk).1, (hb' b hk).2.1⟩), hlb⟩, M6⟩
 ·have := (set4 hbx5 (.slice a' (m.kids.length + 1) c')).2.2.2
  show (w5.setCell ⟨B, 3, none⟩ (.slice a' (m.kids.length + 1) c')).heap[B]? = _
  rw [this]
  simp only [hlen]
 ·exact ((h.gd.k.mod M0 (fun k hk hk2 => h.gd.ki k hk hk2)).mod MB (fun k hk e => (h.bs k (.inl hk)).2 e))
 ·exact ((h.gd.v.mod M0 (fun k hk hk2 => h.gd.vi k hk hk2)).mod MB (fun k hk e => (h.bs k (.inr (.inl hk))).2 e))
 ·exact (by have := ho.mod MB (fun k hk e => (hb' k hk).2.1 e); rw [← hlen] at this; simpa using this)
 ·exact (h.gd.kv)
 ·exact (fun b h1 h2 => by rcases (hb' b h2).2.2 with h3 | h3; exact h.gd.ki b h1 h3; have := h.gd.k.lt b h1; omega)
 ·exact (fun b h1 h2 => by rcases (hb' b h2).2.2 with h3 | h3; exact h.gd.vi b h1 h3; have := h.gd.v.lt b h1; omega)
end
section
open Go Go.RowKit
def readE (leaf : Bool) (s : ByteArray) (a : Nat) : Option (Ent × Nat) :=
 if (rdT s a).e = 0 then
  (if leaf then (if (rdT s (rdT s a).n).e = 0 then some (⟨(rdT s a).t, (rdT s (rdT s a).n).t, 0⟩, (rdT s (rdT s a).n).n) else none)
   else (if (rdU 0 (s.data.toList.drop (rdT s a).n)).e = 0 then some (⟨(rdT s a).t, emp, ((min (rdU 0 (s.data.toList.drop (rdT s a).n)).v 16384 : Nat) : Int)⟩, (rdT s a).n + (rdU 0 (s.data.toList.drop (rdT s a).n)).n) else none))
 else none
def readL (leaf : Bool) (s : ByteArray) : Nat -> Nat -> Option (List Ent × Nat)
 | 0, a => some ([], a)
 | c + 1, a => (readE leaf s a).bind fun p => (readL leaf s c p.2).map fun q => (p.1 :: q.1, q.2)
theorem readL_succ (leaf : Bool) (s : ByteArray) (c a : Nat) : readL leaf s (c + 1) a = (readE leaf s a).bind fun p => (readL leaf s c p.2).map fun q => (p.1 :: q.1, q.2) := rfl
def pre (es : List Ent) (o : Option (List Ent × Nat)) : Option (List Ent × Nat) := o.map fun q => (es ++ q.1, q.2)
theorem pre_nil (o : Option (List Ent × Nat)) : pre [] o = o := by unfold pre; cases o <;> rfl
theorem pre_step {leaf : Bool} {s : ByteArray} {c a a' : Nat} {es : List Ent} {x : Ent} (h : readE leaf s a = some (x, a')) : pre es (readL leaf s (c + 1) a) = pre (es ++ [x]) (readL leaf s c a') := by
 unfold pre
 rw [readL_succ, h, Option.bind_some]
 generalize readL leaf s c a' = o
 cases o <;> simp
theorem pre_fail {leaf : Bool} {s : ByteArray} {c a : Nat} {es : List Ent} (h : readE leaf s a = none) : pre es (readL leaf s (c + 1) a) = none := by
 unfold pre
 rw [readL_succ, h]
 rfl
theorem rdT_in (s : ByteArray) (a : Nat) (he : (rdT s a).e = 0) : a < (rdT s a).n /\ (rdT s a).n <= s.size /\ (rdT s a).t.size <= s.size := by
 unfold rdT rtOf at he ⊢
 by_cases h : (rdU 0 (s.data.toList.drop a)).e = 0
 ·obtain ⟨h1, h2, h3⟩ := rdU_in s a h
  rw [if_pos h] at he ⊢
  by_cases hb : s.size < a + (rdU 0 (s.data.toList.drop a)).n + (rdU 0 (s.data.toList.drop a)).v
  ·rw [if_pos hb] at he; simp at he
  ·rw [if_neg hb]
   refine ⟨by simp only; omega, by simp only; omega, ?_⟩
   simp only [ByteArray.size_extract]
   omega
 ·rw [if_neg h] at he
  exact absurd he h
def cn (leaf : Bool) (es : List Ent) : Nd := ⟨leaf, es.map (·.key), if leaf then es.map (·.value) else [], if leaf then [] else es.map (·.kid), none, 0, none, 0, none, 0⟩
theorem Has.cn_ents {m : Nd} {leaf : Bool} {es : List Ent} (h : Has m leaf es) : m.ents = (cn leaf es).ents := by
 unfold Nd.ents
 rw [h.k]
 show (List.range (es.map (·.key)).length).map (entAt m) = (List.range (es.map (·.key)).length).map (entAt (cn leaf es))
 apply List.map_congr_left
 intro i _
 unfold entAt valueOf kidOf
 rw [h.k, h.v, h.i, h.l]
 rfl
theorem Has.cn_enc {m : Nd} {leaf : Bool} {es : List Ent} (h : Has m leaf es) : encOk m = encOk (cn leaf es) := by
 have hf : fitB m = fitB (cn leaf es) := by
  have : FitP m ↔ FitP (cn leaf es) := by
   unfold FitP restB
   rw [h.k, h.v, h.i, h.l]
   exact Iff.rfl
  cases hb : fitB (cn leaf es) with
  | true => exact fitB_true (this.2 (fitB_iff.1 hb))
  | false => exact fitB_false (fun hp => by rw [fitB_true (this.1 hp)] at hb; cases hb)
 unfold encOk
 rw [hf, h.cn_ents, h.l]
 rfl
noncomputable def decFin (leaf : Bool) (s : ByteArray) (o : Option (List Ent × Nat)) : Option (Bool × List Ent) :=
 o.bind fun q => if @decide (AllZ (s.data.toList.drop q.2)) (Classical.propDecidable _) && encOk (cn leaf q.1) then some (leaf, q.1) else none
noncomputable def decIn (leaf : Bool) (s : ByteArray) : Option (Bool × List Ent) :=
 if (rdU 0 (s.data.toList.drop 1)).e = 0 then decFin leaf s (readL leaf s (rdU 0 (s.data.toList.drop 1)).v (1 + (rdU 0 (s.data.toList.drop 1)).n)) else none
noncomputable def decP (s : ByteArray) : Option (Bool × List Ent) :=
 match s.data.toList with
 | [] => none
 | b :: _ => if b.toNat = 1 \/ b.toNat = 2 then decIn (b.toNat == 1) s else none
theorem decP_head {s : ByteArray} {b : UInt8} {r : List UInt8} {leaf : Bool} (h : s.data.toList = b :: r) (hb : b.toNat = 1 \/ b.toNat = 2) (hl : (b.toNat == 1) = leaf) : decP s = decIn leaf s := by
 unfold decP
 rw [h]
 simp only
 rw [if_pos hb, hl]
theorem decP_none {s : ByteArray} (h : ∀ b r, s.data.toList = b :: r -> ¬ (b.toNat = 1 \/ b.toNat = 2)) : decP s = none := by
 unfold decP
 cases hs : s.data.toList with
 | nil => rfl
 | cons b r => simp only; rw [if_neg (h b r hs)]
theorem fin_yes {leaf : Bool} {s : ByteArray} {es : List Ent} {z : Nat} (h1 : AllZ (s.data.toList.drop z)) (h2 : encOk (cn leaf es) = true) : decFin leaf s (some (es, z)) = some (leaf, es) := by
 unfold decFin
 rw [Option.bind_some]
 simp only
 rw [@decide_eq_true _ (Classical.propDecidable _) h1, h2]
 rfl
theorem fin_no {leaf : Bool} {s : ByteArray} {es : List Ent} {z : Nat} (h : ¬ (AllZ (s.data.toList.drop z) /\ encOk (cn leaf es) = true)) : decFin leaf s (some (es, z)) = none := by
 unfold decFin
 rw [Option.bind_some]
 simp only
 rw [if_neg]
 intro hh
 rw [Bool.and_eq_true] at hh
 exact h ⟨@of_decide_eq_true _ (Classical.propDecidable _) hh.1, hh.2⟩
theorem ru_shape (a : Nat) (x : RU) : ∃ c p e : Nat, ruV a x = .tuple #[.int .u64 (c : Int), .int .i64 (p : Int), .int .i64 (e : Int)] /\ ((e = 0 /\ x.e = 0 /\ c = x.v /\ p = a + x.n) \/ (e ≠ 0 /\ x.e = e /\ c = 0 /\ p = 0)) := by
 by_cases h : x.e = 0
 ·exact ⟨x.v, a + x.n, 0, by unfold ruV; rw [if_pos h, Int.natCast_add]; rfl, .inl ⟨rfl, h, rfl, rfl⟩⟩
 ·exact ⟨0, 0, x.e, by unfold ruV; rw [if_neg h]; rfl, .inr ⟨h, rfl, rfl, rfl⟩⟩
def DecAns (w : World) (r : Option (Bool × List Ent)) (e : Ending) (w' : World) : Prop :=
 Mod (fun _ => False) w w' /\ match r with
  | some (leaf, es) => ∃ m : Nd, Has m leaf es /\ e = .returned (.tuple #[.agg #[.bool m.leaf, .slice m.ka m.keys.length m.kc, .slice m.va m.values.length m.vc, .slice m.ia m.kids.length m.ic], .int .i64 0]) /\ Gd w' m /\ (∀ b, m.bs b -> w.heap.size <= b) /\ encOk m = true /\ (∀ x ∈ es, x.Ok) /\ es.length <= 1048576
  | none => e = .returned (.tuple #[.agg #[.bool false, .slice none 0 0, .slice none 0 0, .slice none 0 0], .int .i64 40])
end
section
open Go Go.RowKit
theorem rdU_take : ∀ (L : List UInt8) (i : Nat), (rdU i L).e = 0 -> L.take (rdU i L).n = uvar (rdU i L).v /\ (0 < i -> 0 < (rdU i L).v)
 | [], i => fun h => by rw [rdU_nil] at h; simp at h
 | b :: r, i => fun h => by
  have hb8 := b.toNat_lt
  have ih := rdU_take r (i + 1)
  rw [rdU] at h ⊢
  by_cases hc : (i = 9 /\ 1 < b.toNat) \/ (0 < i /\ b.toNat = 0) \/ 9 < i
  ·rw [if_pos hc] at h; simp at h
  ·rw [if_neg hc] at h ⊢
   by_cases hlt : b.toNat < 128
   ·rw [if_pos hlt] at h ⊢
    simp only
    rw [uvar_small (by omega)]
    refine ⟨by simp, fun h0 => by omega⟩
   ·rw [if_neg hlt] at h ⊢
    by_cases he : (rdU (i + 1) r).e = 0
    ·rw [if_pos he] at h ⊢
     obtain ⟨h1, h2⟩ := ih he
     have h3 := h2 (by omega)
     simp only
     refine ⟨?_, fun _ => by omega⟩
     rw [uvar_big (by omega), List.take_succ_cons, h1]
     have e1 : (b.toNat - 128 + 128 * (rdU (i + 1) r).v) % 128 + 128 = b.toNat := by omega
     have e2 : (b.toNat - 128 + 128 * (rdU (i + 1) r).v) / 128 = (rdU (i + 1) r).v := by omega
     rw [e1, e2]
     congr 1
     simp
    ·rw [if_neg he] at h; exact absurd h he
def seg (s : ByteArray) (a b : Nat) : List UInt8 := (s.data.toList.drop a).take (b - a)
theorem seg_append {s : ByteArray} {a b c : Nat} (h1 : a <= b) (h2 : b <= c) : seg s a c = seg s a b ++ seg s b c := by
 unfold seg
 rw [show c - a = (b - a) + (c - b) by omega, List.take_add, List.drop_drop, show a + (b - a) = b by omega]
theorem seg_u {s : ByteArray} {a : Nat} (h : (rdU 0 (s.data.toList.drop a)).e = 0) : seg s a (a + (rdU 0 (s.data.toList.drop a)).n) = uvar (rdU 0 (s.data.toList.drop a)).v := by
 unfold seg
 rw [show a + (rdU 0 (s.data.toList.drop a)).n - a = (rdU 0 (s.data.toList.drop a)).n by omega]
 exact (rdU_take _ 0 h).1
theorem seg_t {s : ByteArray} {a : Nat} (h : (rdT s a).e = 0) : seg s a (rdT s a).n = textL (rdT s a).t := by
 unfold rdT rtOf at h ⊢
 by_cases hu : (rdU 0 (s.data.toList.drop a)).e = 0
 ·obtain ⟨h1, h2, h3⟩ := rdU_in s a hu
  have hs := seg_u hu
  rw [if_pos hu] at h ⊢
  generalize rdU 0 (s.data.toList.drop a) = u at *
  by_cases hb : s.size < a + u.n + u.v
  ·rw [if_pos hb] at h; simp at h
  ·rw [if_neg hb]
   simp only
   rw [seg_append (b := a + u.n) (by omega) (by omega), hs]
   unfold textL
   have e1 : (s.extract (a + u.n) (a + u.n + u.v)).size = u.v := by rw [ByteArray.size_extract]; omega
   rw [e1]
   congr 1
   rw [ByteArray.data_extract, Array.toList_extract, List.extract_eq_take_drop]
   rfl
 ·rw [if_neg hu] at h; exact absurd h hu
theorem readE_in {leaf : Bool} {s : ByteArray} {a z : Nat} {x : Ent} (h : readE leaf s a = some (x, z)) : a < z /\ z <= s.size /\ ((leaf = true -> x.kid = 0) /\ (leaf = false -> x.value = emp)) /\ ((leaf = false -> x.kid < 16384) -> seg s a z = entL leaf x) := by
 unfold readE at h
 by_cases hk : (rdT s a).e = 0
 ·rw [if_pos hk] at h
  obtain ⟨k1, k2, k3⟩ := rdT_in s a hk
  have ks := seg_t hk
  cases leaf with
  | true =>
   simp only [if_true] at h
   by_cases hv : (rdT s (rdT s a).n).e = 0
   ·rw [if_pos hv] at h
    obtain ⟨v1, v2, v3⟩ := rdT_in s _ hv
    have vs := seg_t hv
    cases h
    refine ⟨by omega, v2, ⟨fun _ => rfl, fun h => (by cases h)⟩, fun _ => ?_⟩
    rw [seg_append (b := (rdT s a).n) (by omega) (by omega), ks, vs]
    rfl
   ·rw [if_neg hv] at h; cases h
  | false =>
   simp only [Bool.false_eq_true, if_false] at h
   by_cases hv : (rdU 0 (s.data.toList.drop (rdT s a).n)).e = 0
   ·rw [if_pos hv] at h
    obtain ⟨v1, v2, v3⟩ := rdU_in s _ hv
    have vs := seg_u hv
    cases h
    refine ⟨by omega, v1, ⟨fun h => (by cases h), fun _ => rfl⟩, fun hlt => ?_⟩
    have hlt := hlt rfl
    simp only at hlt
    rw [seg_append (b := (rdT s a).n) (by omega) (by omega), ks, vs]
    unfold entL
    simp only [Bool.false_eq_true, if_false]
    congr 2
    omega
   ·rw [if_neg hv] at h; cases h
 ·rw [if_neg hk] at h; cases h
theorem readL_in {leaf : Bool} {s : ByteArray} : ∀ (c a : Nat) {es : List Ent} {z : Nat}, a <= s.size -> readL leaf s c a = some (es, z) -> a <= z /\ z <= s.size /\ es.length = c /\ Clean leaf es /\ ((∀ x ∈ es, leaf = false -> x.kid < 16384) -> seg s a z = es.flatMap (entL leaf))
 | 0, a, es, z => fun ha h => by
  unfold readL at h
  cases h
  exact ⟨Nat.le_refl _, ha, rfl, (fun x hx => by cases hx), fun _ => by unfold seg; simp⟩
 | c + 1, a, es, z => fun ha h => by
  rw [readL_succ] at h
  cases he : readE leaf s a with
  | none => rw [he] at h; cases h
  | some p =>
   obtain ⟨x, a2⟩ := p
   rw [he, Option.bind_some] at h
   obtain ⟨e1, e2, e3, e4⟩ := readE_in he
   cases hr : readL leaf s c a2 with
   | none => simp only at h; rw [hr] at h; cases h
   | some q =>
    obtain ⟨es2, z2⟩ := q
    simp only at h
    rw [hr] at h
    cases h
    obtain ⟨i1, i2, i3, i4, i5⟩ := readL_in c a2 e2 hr
    refine ⟨by omega, i2, by simp [i3], fun y hy => ?_, fun hk => ?_⟩
    ·rcases List.mem_cons.1 hy with h | h
     ·rw [h]; exact e3
     ·exact i4 y h
    ·rw [seg_append (b := a2) (by omega) (by omega), e4 (hk x List.mem_cons_self), i5 (fun y hy => hk y (List.mem_cons_of_mem _ hy)), List.flatMap_cons]
theorem enc_kids {leaf : Bool} {es : List Ent} (h : encOk (cn leaf es) = true) : ∀ x ∈ es, leaf = false -> x.kid < 16384 := fun x hx hl => by
 subst hl
 unfold encOk at h
 rw [Bool.and_eq_true, fitB_iff] at h
 have h3 := h.1.2
 unfold restB cn at h3
 simp only [Bool.false_eq_true, if_false, Bool.and_eq_true, Bool.not_eq_true'] at h3
 have := List.any_eq_false.1 h3.2 x.kid (List.mem_map.2 ⟨x, hx, rfl⟩)
 unfold outB at this
 simp at this
 omega
theorem dec_round {s : ByteArray} {leaf : Bool} {es : List Ent} (h : decP s = some (leaf, es)) : Clean leaf es /\ s.data.toList.take (bytesL leaf es).length = bytesL leaf es /\ (bytesL leaf es).length <= s.size := by
 unfold decP at h
 have hlen : s.data.toList.length = s.size := rfl
 cases hs : s.data.toList with
 | nil => rw [hs] at h; cases h
 | cons b r =>
  rw [hs] at h
  simp only at h
  by_cases hb : b.toNat = 1 \/ b.toNat = 2
  ·rw [if_pos hb] at h
   unfold decIn at h
   by_cases hu : (rdU 0 (s.data.toList.drop 1)).e = 0
   ·rw [if_pos hu] at h
    obtain ⟨u1, u2, u3⟩ := rdU_in s 1 hu
    have us := seg_u hu
    generalize rdU 0 (s.data.toList.drop 1) = u at *
    cases hr : readL (b.toNat == 1) s u.v (1 + u.n) with
    | none => rw [hr] at h; cases h
    | some q =>
     obtain ⟨es2, z⟩ := q
     rw [hr] at h
     by_cases hok : AllZ (s.data.toList.drop z) /\ encOk (cn (b.toNat == 1) es2) = true
     ·rw [fin_yes hok.1 hok.2] at h
      cases h
      obtain ⟨i1, i2, i3, i4, i5⟩ := readL_in _ _ u1 hr
      have i6 := i5 (enc_kids hok.2)
      refine ⟨i4, ?_⟩
      have e0 : seg s 0 1 = [b] := by unfold seg; rw [hs]; rfl
      have e1 : seg s 0 z = bytesL (b.toNat == 1) es := by
       rw [seg_append (b := 1) (by omega) (by omega), seg_append (a := 1) (b := 1 + u.n) (by omega) (by omega), e0, us, i6, ← i3]
       unfold bytesL
       rw [List.singleton_append]
       congr 1
       have hb8 := b.toNat_lt
       rcases hb with h | h
       ·have : b = 1 := UInt8.toNat_inj.1 h
        rw [this]; rfl
       ·have : b = 2 := UInt8.toNat_inj.1 h
        rw [this]; rfl
      have e2 : seg s 0 z = s.data.toList.take z := by unfold seg; rw [List.drop_zero, Nat.sub_zero]
      have e3 : (bytesL (b.toNat == 1) es).length = z := by rw [← e1, e2, List.length_take]; omega
      rw [← hs, e3, ← e2]
      exact ⟨e1, i2⟩
     ·rw [fin_no hok] at h; cases h
   ·rw [if_neg hu] at h; cases h
  ·rw [if_neg hb] at h; cases h
end
section
open Go Go.RowKit
theorem rdT_at {s t : ByteArray} {a : Nat} {r : List UInt8} (h : s.data.toList.drop a = textL t ++ r) (hs : s.size < two64) : rdT s a = ⟨t, a + (textL t).length, 0⟩ := by
 have hlen : s.data.toList.length = s.size := rfl
 have h2 : s.data.toList.drop a = uvar t.size ++ (t.data.toList ++ r) := by rw [h]; unfold textL; rw [List.append_assoc]
 have htl : t.data.toList.length = t.size := rfl
 have hll : s.size - a = (uvar t.size).length + (t.size + r.length) := by
  have := congrArg List.length h2
  rw [List.length_drop, List.length_append, List.length_append, htl, hlen] at this
  exact this
 have hp := uvar_len_pos t.size
 have hr := rdU_at h2 (by omega)
 have hd := drop_after h2
 unfold rdT rtOf
 rw [hr]
 simp only [if_true]
 rw [if_neg (by omega)]
 have e1 : (textL t).length = (uvar t.size).length + t.size := by unfold textL; rw [List.length_append, htl]
 have e2 : s.extract (a + (uvar t.size).length) (a + (uvar t.size).length + t.size) = t := by
  apply ByteArray.ext
  apply Array.toList_inj.1
  rw [ByteArray.data_extract, Array.toList_extract, List.extract_eq_take_drop, hd, show a + (uvar t.size).length + t.size - (a + (uvar t.size).length) = t.data.toList.length by rw [htl]; omega, List.take_left]
 rw [e2, e1, Nat.add_assoc]
def Fair (leaf : Bool) (x : Ent) : Prop := (leaf = true -> x.kid = 0) /\ (leaf = false -> x.value = emp /\ 0 <= x.kid /\ x.kid < 16384)
theorem readE_at {s : ByteArray} {leaf : Bool} {a : Nat} {x : Ent} {r : List UInt8} (h : s.data.toList.drop a = entL leaf x ++ r) (hs : s.size < two64) (hf : Fair leaf x) : readE leaf s a = some (x, a + (entL leaf x).length) := by
 cases leaf with
 | true =>
  have h1 : s.data.toList.drop a = textL x.key ++ (textL x.value ++ r) := by rw [h]; unfold entL; rw [List.append_assoc]; rfl
  have k := rdT_at h1 hs
  have v := rdT_at (drop_after h1) hs
  unfold readE
  rw [k]
  simp only [if_true]
  rw [v]
  simp only [if_true]
  have e : (entL true x).length = (textL x.key).length + (textL x.value).length := by unfold entL; rw [List.length_append]; rfl
  rw [e, ← Nat.add_assoc, ← hf.1 rfl]
 | false =>
  obtain ⟨f1, f2, f3⟩ := hf.2 rfl
  have h1 : s.data.toList.drop a = textL x.key ++ (uvar (max 0 x.kid).toNat ++ r) := by rw [h]; unfold entL; rw [List.append_assoc]; rfl
  have k := rdT_at h1 hs
  have t6 : two64 = 18446744073709551616 := by decide
  have v := rdU_at (drop_after h1) (by rw [t6]; omega)
  unfold readE
  rw [k]
  simp only [if_true, Bool.false_eq_true, if_false]
  rw [v]
  simp only [if_true]
  have e : (entL false x).length = (textL x.key).length + (uvar (max 0 x.kid).toNat).length := by unfold entL; rw [List.length_append]; rfl
  have e2 : ((min (max 0 x.kid).toNat 16384 : Nat) : Int) = x.kid := by omega
  rw [e, ← Nat.add_assoc, e2, ← f1]
theorem readL_at {s : ByteArray} {leaf : Bool} (hs : s.size < two64) : ∀ (es : List Ent) (a : Nat) (r : List UInt8), s.data.toList.drop a = es.flatMap (entL leaf) ++ r -> (∀ x ∈ es, Fair leaf x) -> readL leaf s es.length a = some (es, a + (es.flatMap (entL leaf)).length)
 | [], a, r => fun _ _ => by simp [readL]
 | x :: es, a, r => fun h hf => by
  rw [List.flatMap_cons, List.append_assoc] at h
  have e := readE_at h hs (hf x List.mem_cons_self)
  have i := readL_at hs es _ r (drop_after h) (fun y hy => hf y (List.mem_cons_of_mem _ hy))
  rw [List.length_cons, readL_succ, e, Option.bind_some]
  simp only
  rw [i]
  simp [Nat.add_assoc]
theorem decP_at {s : ByteArray} {leaf : Bool} {es : List Ent} {r : List UInt8} (h : s.data.toList = bytesL leaf es ++ r) (hs : s.size < two64) (hf : ∀ x ∈ es, Fair leaf x) : decP s = decFin leaf s (some (es, (bytesL leaf es).length)) := by
 have hlen : s.data.toList.length = s.size := rfl
 have h1 : s.data.toList = (if leaf then (1 : UInt8) else 2) :: (uvar es.length ++ (es.flatMap (entL leaf) ++ r)) := by
  rw [h]; unfold bytesL; rw [List.cons_append, List.append_assoc]
 have hd : s.data.toList.drop 1 = uvar es.length ++ (es.flatMap (entL leaf) ++ r) := by rw [h1]; rfl
 have hge : es.length <= (es.flatMap (entL leaf)).length := by
  have := wt_ge leaf es
  unfold wt at this
  omega
 have hsz : es.length < two64 := by
  have := congrArg List.length h1
  rw [hlen, List.length_cons, List.length_append, List.length_append] at this
  omega
 have u := rdU_at hd hsz
 have l := readL_at hs es _ r (drop_after hd) hf
 rw [decP_head h1 (by cases leaf <;> decide) (leaf := leaf) (by cases leaf <;> rfl)]
 unfold decIn
 rw [u]
 simp only [if_true]
 rw [show 1 + (uvar es.length).length = 1 + (uvar es.length).length from rfl, l]
 congr 3
 unfold bytesL
 rw [List.length_cons, List.length_append]
 omega
end
section
open Go Go.RowKit
theorem ents_get (n : Nd) (i : Nat) (hi : i < n.keys.length) : n.ents[i]? = some (entAt n i) := by
 unfold Nd.ents
 rw [List.getElem?_map, List.getElem?_range hi]
 rfl
theorem ents_map {α : Type} (n : Nd) (f : Ent -> α) (l : List α) (hl : l.length = n.keys.length) (h : ∀ i, i < n.keys.length -> l[i]? = some (f (entAt n i))) : l = n.ents.map f := by
 apply List.ext_getElem?
 intro i
 rw [List.getElem?_map]
 by_cases hi : i < n.keys.length
 ·rw [ents_get n i hi, h i hi]; rfl
 ·rw [List.getElem?_eq_none (by omega), List.getElem?_eq_none (by rw [ents_len]; omega)]; rfl
theorem get_some {α : Type} (l : List α) (i : Nat) (hi : i < l.length) (d : α) : l[i]? = some ((l[i]?).getD d) := by
 rw [List.getElem?_eq_getElem hi]; rfl
theorem has_self {n : Nd} (h : encOk n = true) : Has n n.leaf n.ents := by
 unfold encOk at h
 rw [Bool.and_eq_true, fitB_iff] at h
 have h2 := h.1.2
 unfold restB at h2
 refine ⟨rfl, ents_map n _ _ rfl (fun i hi => get_some _ i hi emp), ?_, ?_⟩
 ·cases hl : n.leaf with
  | true =>
   rw [hl] at h2
   simp only [if_true, Bool.and_eq_true, decide_eq_true_eq] at h2 ⊢
   refine ents_map n _ _ h2.1.2 (fun i hi => ?_)
   show n.values[i]? = some (valueOf n i)
   unfold valueOf
   rw [hl]
   exact get_some _ i (by omega) emp
  | false =>
   rw [hl] at h2
   simp only [Bool.false_eq_true, if_false, Bool.and_eq_true, decide_eq_true_eq] at h2 ⊢
   exact List.eq_nil_of_length_eq_zero h2.1.1.1
 ·cases hl : n.leaf with
  | true =>
   rw [hl] at h2
   simp only [if_true, Bool.and_eq_true, decide_eq_true_eq] at h2 ⊢
   exact List.eq_nil_of_length_eq_zero h2.1.1
  | false =>
   rw [hl] at h2
   simp only [Bool.false_eq_true, if_false, Bool.and_eq_true, decide_eq_true_eq] at h2 ⊢
   refine ents_map n _ _ h2.1.1.2 (fun i hi => ?_)
   show n.kids[i]? = some (kidOf n i)
   unfold kidOf
   rw [hl]
   exact get_some _ i (by omega) 0
theorem fair_self {n : Nd} (h : encOk n = true) : ∀ x ∈ n.ents, Fair n.leaf x := fun x hx => by
 obtain ⟨c1, c2⟩ := clean_ents n x hx
 refine ⟨c1, fun hl => ⟨c2 hl, ?_⟩⟩
 have hs := has_self h
 unfold encOk at h
 rw [Bool.and_eq_true, fitB_iff] at h
 have h2 := h.1.2
 unfold restB at h2
 rw [hl] at h2
 simp only [Bool.false_eq_true, if_false, Bool.and_eq_true, Bool.not_eq_true'] at h2
 have hi := hs.i
 rw [hl] at hi
 simp only [Bool.false_eq_true, if_false] at hi
 have := List.any_eq_false.1 h2.2 x.kid (by rw [hi]; exact List.mem_map.2 ⟨x, hx, rfl⟩)
 unfold outB at this
 simp at this
 omega
theorem dec_yes {n : Nd} {s : ByteArray} {r : List UInt8} (h : encOk n = true) (hs : s.data.toList = bytesL n.leaf n.ents ++ r) (hz : s.size < two64) (hr : AllZ r) : decP s = some (n.leaf, n.ents) := by
 rw [decP_at hs hz (fair_self h)]
 refine fin_yes ?_ ?_
 ·rw [hs, List.drop_left]; exact hr
 ·rw [← (has_self h).cn_enc]; exact h
end
end Go.Proofs.YtgbcibdfeeiilaaGreatDoor
