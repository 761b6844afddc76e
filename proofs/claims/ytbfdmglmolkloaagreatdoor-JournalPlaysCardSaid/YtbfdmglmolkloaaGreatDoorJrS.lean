/- Disks and journals in memory of the call's own -/
import Derived.Test.YtbfdmglmolkloaaGreatDoorJrC
namespace Go.Proofs.YtbfdmglmolkloaaGreatDoor
open Go Go.RowKit

/-- A disk that stands so, in memory that was made behind W; nothing that W had has changed. -/
def St (W w : World) (b : Nat) (D : Dsk) : Prop :=
  ∃ sa, DiskAt w b sa D ∧ (∀ k, diskF b sa k → W.heap.size ≤ k) ∧ Mod (fun k => W.heap.size ≤ k) W w

theorem St.mod {W w : World} {b : Nat} {D : Dsk} (h : St W w b D) : Mod (fun k => W.heap.size ≤ k) W w := by obtain ⟨sa, _, _, h3⟩ := h; exact h3
theorem St.ext {W w w' : World} {b : Nat} {D : Dsk} (h : St W w b D) (hm : Mod (fun _ => False) w w') : St W w' b D := by
  obtain ⟨sa, h1, h2, h3⟩ := h
  exact ⟨sa, h1.mod hm (fun _ _ h => h), h2, h3.then hm (fun _ _ h => h.elim)⟩
theorem St.below {W w : World} {b : Nat} {D : Dsk} (h : St W w b D) : Below W.heap.size W w := h.mod.below (Nat.le_refl _) (fun _ h => h)

/-- A disk with a journal over it. -/
def JSt (W w : World) (b j room : Nat) (D : Dsk) : Prop :=
  ∃ sa, DiskAt w b sa D ∧ (∀ k, diskF b sa k → W.heap.size ≤ k) ∧ Mod (fun k => W.heap.size ≤ k) W w ∧ JAt w j b room ∧ ¬ diskF b sa j ∧ W.heap.size ≤ j

theorem JSt.st {W w : World} {b j room : Nat} {D : Dsk} (h : JSt W w b j room D) : St W w b D := by obtain ⟨sa, h1, h2, h3, _⟩ := h; exact ⟨sa, h1, h2, h3⟩
theorem JSt.mod {W w : World} {b j room : Nat} {D : Dsk} (h : JSt W w b j room D) : Mod (fun k => W.heap.size ≤ k) W w := h.st.mod
theorem JSt.below {W w : World} {b j room : Nat} {D : Dsk} (h : JSt W w b j room D) : Below W.heap.size W w := h.st.below
theorem JSt.ext {W w w' : World} {b j room : Nat} {D : Dsk} (h : JSt W w b j room D) (hm : Mod (fun _ => False) w w') : JSt W w' b j room D := by
  obtain ⟨sa, h1, h2, h3, h4, h5, h6⟩ := h
  exact ⟨sa, h1.mod hm (fun _ _ h => h), h2, h3.then hm (fun _ _ h => h.elim), h4.mod hm (fun h => h), h5, h6⟩

theorem st_step {W w w' : World} {b : Nat} {sa : Option Addr} {D' : Dsk} (h2 : ∀ k, diskF b sa k → W.heap.size ≤ k) (h3 : Mod (fun k => W.heap.size ≤ k) W w) (hd : DiskAt w' b sa D') (hm : Mod (diskF b sa) w w') : St W w' b D' :=
  ⟨sa, hd, h2, h3.then hm (fun i _ hi => h2 i hi)⟩
theorem js_step {W w w' : World} {b j room : Nat} {sa : Option Addr} {D' : Dsk} (h2 : ∀ k, diskF b sa k → W.heap.size ≤ k) (h3 : Mod (fun k => W.heap.size ≤ k) W w) (h4 : JAt w j b room) (h5 : ¬ diskF b sa j) (h6 : W.heap.size ≤ j) (hd : DiskAt w' b sa D') (hm : Mod (diskF b sa) w w') : JSt W w' b j room D' :=
  ⟨sa, hd, h2, h3.then hm (fun i _ hi => h2 i hi), h4.mod hm h5, h5, h6⟩

theorem st_new {W w : World} (hm : Mod (fun k => W.heap.size ≤ k) W w) (n : Int) : Calls Tryz.prog 4 #[.int .i64 n] w fun e w' => ∃ b, e = .returned (.pointer (some ⟨b, 0, none⟩)) ∧ St W w' b (newD n) := by
  refine (new_any n).mono ?_
  rintro e w' ⟨b, sa, rfl, h1, h2, h3, h4⟩
  have := hm.size
  refine ⟨b, rfl, sa, h3, ?_, hm.then h4 (fun _ _ h => h.elim)⟩
  rintro k (rfl | hk)
  · omega
  · have := h2 k hk; omega

theorem st_open {W w : World} {b k0 room : Nat} {D : Dsk} (h : St W w b D) (hb : Bud D k0) (hk0 : k0 ≤ 2305843009213693952) (h1 : 1 ≤ room) (hr : room ≤ 500) :
    Calls Tryz.prog 10 #[.pointer (some ⟨b, 0, none⟩), .int .i64 (room : Int)] w fun e w' =>
      ((openF room D).1 = 0 ∧ ∃ j, e = .returned (.tuple #[.pointer (some ⟨j, 0, none⟩), .int .i64 0]) ∧ JSt W w' b j room (openF room D).2) ∨ ((openF room D).1 ≠ 0 ∧ e = .returned (.tuple #[.pointer none, .int .i64 (openF room D).1]) ∧ St W w' b (openF room D).2) := by
  obtain ⟨sa, hd, h2, h3⟩ := h
  have hlt := hd.lt
  have hsz := h3.size
  refine (open_any hd hb hk0 h1 hr).mono ?_
  rintro e w' ⟨a1, a2, ⟨a3, j, rfl, a4, a5⟩ | ⟨a3, rfl⟩⟩
  · exact .inl ⟨a3, j, rfl, sa, a1, h2, h3.then a2 (fun i _ hi => h2 i hi), a4, fun h => by have := hlt j h; omega, by omega⟩
  · exact .inr ⟨a3, rfl, st_step h2 h3 a1 a2⟩

theorem js_open {W w : World} {b k0 room : Nat} {D : Dsk} (h : St W w b D) (hb : Lit D k0) (hk0 : k0 ≤ 2305843009213693952) (h1 : 1 ≤ room) (hr : room ≤ 500) (h0 : 0 < D.secs.length) (hc : Clear D) :
    Calls Tryz.prog 10 #[.pointer (some ⟨b, 0, none⟩), .int .i64 (room : Int)] w fun e w' => ∃ j, e = .returned (.tuple #[.pointer (some ⟨j, 0, none⟩), .int .i64 0]) ∧ JSt W w' b j room D := by
  have e := open_lit (room := room) hb h0 hc
  refine (st_open h hb.b hk0 h1 hr).mono ?_
  rw [e]
  rintro e w' (⟨_, hj⟩ | ⟨h, _⟩)
  · exact hj
  · exact absurd rfl h

theorem js_len {W w : World} {b j room : Nat} {D : Dsk} (h : JSt W w b j room D) (hn : D.secs.length ≤ 16384) (hr : room ≤ 500) : Calls Tryz.prog 11 #[.pointer (some ⟨j, 0, none⟩)] w fun e w' => e = .returned (.int .i64 (jlen room D : Int)) ∧ JSt W w' b j room D ∧ Mod (fun _ => False) w w' := by
  obtain ⟨sa, h1, h2, h3, h4, h5, h6⟩ := id h
  refine (jlen_any h1 h4 hn hr).mono ?_
  rintro e w' ⟨rfl, hm⟩
  exact ⟨rfl, h.ext hm, hm⟩

theorem js_read {W w : World} {b j room : Nat} {D : Dsk} (h : JSt W w b j room D) (hn : D.secs.length ≤ 16384) (hr : room ≤ 500) (i : Int) : Calls Tryz.prog 13 #[.pointer (some ⟨j, 0, none⟩), .int .i64 i] w fun e w' => e = .returned (.tuple #[.string (readJ room D i).1, .int .i64 (readJ room D i).2]) ∧ JSt W w' b j room D ∧ Mod (fun k => W.heap.size ≤ k) w w' := by
  obtain ⟨sa, h1, h2, h3, h4, h5, h6⟩ := h
  refine (jread_any h1 h4 h5 hn hr i).mono ?_
  rintro e w' ⟨rfl, hd, hm⟩
  exact ⟨rfl, js_step h2 h3 h4 h5 h6 hd hm, hm.mono (fun k _ hk => h2 k hk)⟩

theorem js_commit {W w : World} {b j room k0 : Nat} {D : Dsk} (h : JSt W w b j room D) (hb : Bud D k0) (hk0 : k0 ≤ 1152921504606846976) (hr : room ≤ 500) {a : Option Addr} (cap0 : Nat) {cs : List Chg} (hc : ChAt w a cs) (hap : 0 < cs.length → ∀ k, blk a k → k < W.heap.size) (hlen : cs.length ≤ maxLen) :
    Calls Tryz.prog 12 #[.pointer (some ⟨j, 0, none⟩), .slice a cs.length cap0] w fun e w' => e = .returned (.int .i64 (commitF room cs D).1) ∧ JSt W w' b j room (commitF room cs D).2 ∧ Mod (fun k => W.heap.size ≤ k) w w' := by
  obtain ⟨sa, h1, h2, h3, h4, h5, h6⟩ := h
  refine (commit_any h1 h4 h5 hb hk0 hr cap0 hc (fun h0 k hk hf => by have := hap h0 k hk; have := h2 k hf; omega) hlen).mono ?_
  rintro e w' ⟨rfl, hd, hm⟩
  exact ⟨rfl, js_step h2 h3 h4 h5 h6 hd hm, hm.mono (fun k _ hk => h2 k hk)⟩

/-- Changes that were just laid. -/
theorem js_commit_new {W w : World} {b j room k0 n : Nat} {D : Dsk} (h : JSt W w b j room D) (hb : Bud D k0) (hk0 : k0 ≤ 1152921504606846976) (hr : room ≤ 500) (cs : List Chg) (hn : cs.length = n) (hs : ∀ c ∈ cs, c.data.size ≤ 1024) (hp : ∀ c ∈ cs, -9223372036854775808 ≤ c.pos ∧ c.pos ≤ 9223372036854775807) {arr : Array Value} (ha : (cs.flatMap Chg.cs).toArray = arr) (hl : cs.length ≤ 500) :
    Calls Tryz.prog 12 #[.pointer (some ⟨j, 0, none⟩), .slice (some ⟨w.heap.size, 0, none⟩) n n] (w.alloc (.cells arr 65)) fun e w' => e = .returned (.int .i64 (commitF room cs D).1) ∧ JSt W w' b j room (commitF room cs D).2 ∧ Mod (fun k => W.heap.size ≤ k) w w' := by
  subst hn
  subst ha
  have hw := h.mod.size
  obtain ⟨sa, h1, h2, h3, h4, h5, h6⟩ := id h
  have hlt := h1.lt
  have hm : Mod (fun _ => False) w (w.alloc (.cells (cs.flatMap Chg.cs).toArray 65)) := (Mod.refl _ _).alloc _
  have hca : ChAt (w.alloc (.cells (cs.flatMap Chg.cs).toArray 65)) (some ⟨w.heap.size, 0, none⟩) cs := ⟨lies_new chg_len (heap_alloc_new _ _), fun c hc => by have := hs c hc; unfold maxLen; omega, hp⟩
  refine (commit_any (h1.mod hm (fun _ _ h => h)) (h4.mod hm (fun h => h)) h5 hb hk0 hr cs.length hca (fun _ k hk hf => by rw [blk_some] at hk; have := hlt k hf; omega) (by unfold maxLen; omega)).mono ?_
  rintro e w' ⟨rfl, hd, hm2⟩
  refine ⟨rfl, js_step h2 (h3.then hm (fun _ _ h => h.elim)) (h4.mod hm (fun h => h)) h5 h6 hd hm2, (hm.mono (fun _ _ h => h.elim)).trans (hm2.mono (fun k _ hk => h2 k hk))⟩

theorem st_writes {W w : World} {b : Nat} {D : Dsk} (h : St W w b D) : Calls Tryz.prog 14 #[.pointer (some ⟨b, 0, none⟩)] w fun e w' => e = .returned (.int .i64 D.writes) ∧ w = w' := by
  obtain ⟨sa, h1, _, _⟩ := h
  exact writes_any h1
theorem st_len {W w : World} {b : Nat} {D : Dsk} (h : St W w b D) : Calls Tryz.prog 31 #[.pointer (some ⟨b, 0, none⟩)] w fun e w' => e = .returned (.int .i64 D.secs.length) ∧ w = w' := by
  obtain ⟨sa, h1, _, _⟩ := h
  exact len_any h1
theorem st_write {W w : World} {b : Nat} {D : Dsk} (h : St W w b D) (ok : D.Ok) (i : Int) (s : ByteArray) (hs : s.size ≤ maxLen) : Calls Tryz.prog 24 #[.pointer (some ⟨b, 0, none⟩), .int .i64 i, .string s] w fun e w' => e = .returned (.int .i64 (writeF D i s).1) ∧ St W w' b (writeF D i s).2 := by
  obtain ⟨sa, h1, h2, h3⟩ := h
  refine (write_any h1 ok i s hs).mono ?_
  rintro e w' ⟨rfl, hd, hm⟩
  exact ⟨rfl, st_step h2 h3 hd hm⟩

end Go.Proofs.YtbfdmglmolkloaaGreatDoor
