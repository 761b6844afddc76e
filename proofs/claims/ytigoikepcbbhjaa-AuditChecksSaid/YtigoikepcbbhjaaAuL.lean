/- What the audit's laws say, in plain terms: lists of records. No program is named. -/
import Derived.Test.YtigoikepcbbhjaaLies
namespace Go.Proofs.Ytigoikepcbbhjaa
open Go Go.RowKit

structure Hl where
  o : Int
  c : Int
  a : Int
def Hl.cs (x : Hl) : List Value := [.int .i64 x.o, .int .i64 x.c, .int .i64 x.a]
theorem Hl.len (x : Hl) : x.cs.length = 3 := rfl

structure Lv where
  i : Int
  r : Int
  h : Int
  a : Int
  s : Int
  b : Int
def Lv.cs (x : Lv) : List Value := [.int .i64 x.i, .int .i64 x.r, .int .i64 x.h, .int .i64 x.a, .int .i64 x.s, .int .i64 x.b]
theorem Lv.len (x : Lv) : x.cs.length = 6 := rfl

structure Ln where
  i : Int
  q : Int
def Ln.cs (x : Ln) : List Value := [.int .i64 x.i, .int .i64 x.q]
theorem Ln.len (x : Ln) : x.cs.length = 2 := rfl

/-- Goods, in plain terms. -/
structure GP where
  o : Int
  s : Int
  ls : List Ln
/-- Goods as they lie. -/
structure Gd where
  o : Int
  s : Int
  la : Option Addr
  lc : Nat
  ls : List Ln
def Gd.cs (x : Gd) : List Value := [.int .i64 x.o, .int .i64 x.s, .slice x.la x.ls.length x.lc]
theorem Gd.len (x : Gd) : x.cs.length = 3 := rfl
def Gd.pl (x : Gd) : GP := ⟨x.o, x.s, x.ls⟩

/-- An account, in plain terms, and as the document has it. -/
structure AP where
  o : Int
  c : Int
  s : Int
  n : Int
  t : Int
def AP.cs (x : AP) : List Value := [.int .i64 x.o, .int .i64 x.c, .int .i64 x.s, .int .i64 0, .int .i64 x.n, .int .i64 x.t, .int .i64 0, .int .i64 0, .int .i64 0]
theorem AP.len (x : AP) : x.cs.length = 9 := rfl
/-- An account as it lies. -/
structure Ac where
  o : Int
  c : Int
  s : Int
  l : Int
  n : Int
  t : Int
  p : Int
  w : Int
  d : Int
def Ac.cs (x : Ac) : List Value := [.int .i64 x.o, .int .i64 x.c, .int .i64 x.s, .int .i64 x.l, .int .i64 x.n, .int .i64 x.t, .int .i64 x.p, .int .i64 x.w, .int .i64 x.d]
theorem Ac.len (x : Ac) : x.cs.length = 9 := rfl
def Ac.pl (x : Ac) : AP := ⟨x.o, x.c, x.s, x.n, x.t⟩

/-- An order, in plain terms, and as the document has it. -/
structure OP where
  i : Int
  c : Int
  n : Int
  t : Int
def OP.cs (x : OP) : List Value := [.int .i64 x.i, .int .i64 x.c, .string ⟨#[]⟩, .slice none 0 0, .int .i64 x.n, .int .i64 x.t]
theorem OP.len (x : OP) : x.cs.length = 6 := rfl
structure Od where
  i : Int
  c : Int
  f : ByteArray
  la : Option Addr
  ll : Nat
  lc : Nat
  n : Int
  t : Int
def Od.cs (x : Od) : List Value := [.int .i64 x.i, .int .i64 x.c, .string x.f, .slice x.la x.ll x.lc, .int .i64 x.n, .int .i64 x.t]
theorem Od.len (x : Od) : x.cs.length = 6 := rfl
def Od.pl (x : Od) : OP := ⟨x.i, x.c, x.n, x.t⟩

structure KP where
  i : Int
def KP.cs (x : KP) : List Value := [.int .i64 x.i, .int .i64 0, .int .i64 0, .int .i64 0, .int .i64 0, .int .i64 0, .int .i64 0, .string ⟨#[]⟩]
theorem KP.len (x : KP) : x.cs.length = 8 := rfl
structure Lt where
  i : Int
  a : Int
  b : Int
  c : Int
  d : Int
  e : Int
  f : Int
  s : ByteArray
def Lt.cs (x : Lt) : List Value := [.int .i64 x.i, .int .i64 x.a, .int .i64 x.b, .int .i64 x.c, .int .i64 x.d, .int .i64 x.e, .int .i64 x.f, .string x.s]
theorem Lt.len (x : Lt) : x.cs.length = 8 := rfl
def Lt.pl (x : Lt) : KP := ⟨x.i⟩

structure IP where
  o : Int
  s : Int
def IP.cs (x : IP) : List Value := [.int .i64 x.o, .int .i64 x.s, .bool false, .slice none 0 0, .slice none 0 0, .pointer none]
theorem IP.len (x : IP) : x.cs.length = 6 := rfl
structure In where
  o : Int
  s : Int
  p : Bool
  ma : Option Addr
  ml : Nat
  mc : Nat
  ta : Option Addr
  tl : Nat
  tc : Nat
  f : ByteArray
def In.cs (x : In) : List Value := [.int .i64 x.o, .int .i64 x.s, .bool x.p, .slice x.ma x.ml x.mc, .slice x.ta x.tl x.tc, .string x.f]
theorem In.len (x : In) : x.cs.length = 6 := rfl
def In.pl (x : In) : IP := ⟨x.o, x.s⟩

/-- What is told, in plain terms. -/
structure Td where
  hs : List Hl
  ls : List Lv
  gs : List GP
  acs : List AP
  os : List OP
  next : Int
  ts : List KP
  ins : List IP

/- the first place -/
def idxP {α : Type} (f : α → Bool) (l : List α) : Int := match l.findIdx? f with
  | some k => (k : Int)
  | none => -1

theorem idx_hit {α : Type} {f : α → Bool} {l : List α} {k : Nat} {x : α} (h : ∀ j y, j < k → l[j]? = some y → f y = false) (hx : l[k]? = some x) (hf : f x = true) : idxP f l = (k : Int) := by
  have hk := (List.getElem?_eq_some_iff.1 hx)
  obtain ⟨hlt, he⟩ := hk
  have : l.findIdx? f = some k := by
    rw [List.findIdx?_eq_some_iff_getElem]
    refine ⟨hlt, by rw [he]; exact hf, fun j hj => ?_⟩
    rw [h j l[j] hj (List.getElem?_eq_getElem _)]
    simp
  unfold idxP
  rw [this]

theorem idx_miss {α : Type} {f : α → Bool} {l : List α} (h : ∀ j y, j < l.length → l[j]? = some y → f y = false) : idxP f l = -1 := by
  have : l.findIdx? f = none := by
    rw [List.findIdx?_eq_none_iff]
    intro x hx
    obtain ⟨j, hj⟩ := List.getElem?_of_mem hx
    exact h j x (List.getElem?_eq_some_iff.1 hj).1 hj
  unfold idxP
  rw [this]

theorem idx_any {α : Type} (f : α → Bool) (l : List α) : decide (0 ≤ idxP f l) = l.any f := by
  unfold idxP
  cases h : l.findIdx? f with
  | none =>
    rw [List.findIdx?_eq_none_iff] at h
    have : l.any f = false := by
      rw [List.any_eq_false]
      intro x hx
      rw [h x hx]
      simp
    rw [this]
    rfl
  | some k =>
    obtain ⟨hlt, hf, _⟩ := List.findIdx?_eq_some_iff_getElem.1 h
    have : l.any f = true := List.any_eq_true.2 ⟨l[k], List.getElem_mem hlt, hf⟩
    rw [this]
    simp

/-- Where the first is, and what it is. -/
theorem idx_find {α : Type} (f : α → Bool) (l : List α) : (idxP f l = -1 ∧ l.find? f = none) ∨ ∃ k x, idxP f l = (k : Nat) ∧ l[k]? = some x ∧ l.find? f = some x := by
  unfold idxP
  cases h : l.findIdx? f with
  | none =>
    rw [List.findIdx?_eq_none_iff] at h
    refine .inl ⟨rfl, ?_⟩
    rw [List.find?_eq_none]
    intro x hx
    rw [h x hx]
    simp
  | some k =>
    obtain ⟨hlt, hf, hj⟩ := List.findIdx?_eq_some_iff_getElem.1 h
    refine .inr ⟨k, l[k], rfl, List.getElem?_eq_getElem hlt, ?_⟩
    rw [List.find?_eq_some_iff_getElem]
    exact ⟨hf, k, hlt, rfl, fun j hjk => by simpa using hj j hjk⟩

/- the tally of the goods -/
def stepL (p : Int → Bool) (item s n : Int) (l : Ln) : Int := if l.i = item ∧ p s = true then wrap64 (n + l.q) else n
def tallyL (p : Int → Bool) (item s : Int) (n : Int) (ls : List Ln) : Int := ls.foldl (stepL p item s) n
def tally (p : Int → Bool) (item : Int) (gs : List GP) : Int := gs.foldl (fun n g => tallyL p item g.s n g.ls) 0

theorem tallyL_succ (p : Int → Bool) (item s n : Int) {ls : List Ln} {k : Nat} {x : Ln} (hx : ls[k]? = some x) : tallyL p item s n (ls.take (k + 1)) = stepL p item s (tallyL p item s n (ls.take k)) x := by
  obtain ⟨hk, he⟩ := List.getElem?_eq_some_iff.1 hx
  unfold tallyL
  rw [List.take_succ_eq_append_getElem hk, List.foldl_append, he]
  rfl

theorem tally_succ (p : Int → Bool) (item : Int) {gs : List GP} {k : Nat} {x : GP} (hx : gs[k]? = some x) : tally p item (gs.take (k + 1)) = tallyL p item x.s (tally p item (gs.take k)) x.ls := by
  obtain ⟨hk, he⟩ := List.getElem?_eq_some_iff.1 hx
  unfold tally
  rw [List.take_succ_eq_append_getElem hk, List.foldl_append, he]
  rfl

/-- Is the state among these? -/
def conP (sts : List Int) (v : Int) : Bool := sts.any (fun x => v == x)

def levelP (gs : List GP) (l : Lv) : Bool :=
  decide (l.r = wrap64 (wrap64 (wrap64 (l.h + l.a) + l.s) - l.b)) && (decide (l.a = tally (conP [1]) l.i gs) && (decide (l.s = tally (conP [2, 3]) l.i gs) && decide (l.b = tally (conP [3]) l.i gs)))

def holdP (os : List OP) (h : Hl) : Bool := match os.find? (fun o => o.i == h.o) with
  | none => false
  | some o => decide (o.c = h.c) && decide (wrap64 (o.n + o.t) = h.a)

def accP (os : List OP) (a : AP) : Bool := if a.s = 1 ∨ a.s = 2 then (match os.find? (fun o => o.i == a.o) with
    | none => false
    | some o => decide (o.c = a.c) && (decide (o.n = a.n) && decide (o.t = a.t)))
  else true

def clearP (hs : List Hl) (gs : List GP) (acs : List AP) (i : IP) : Bool := if i.s = 3 ∧ 0 < i.o then
    !(hs.any (fun h => h.o == i.o) || (gs.any (fun g => g.o == i.o && (g.s == 1 || g.s == 2)) || acs.any (fun a => a.o == i.o && a.s == 1)))
  else true

def isLive (i : IP) : Bool := i.s == 0 || i.s == 1
def liveP (ins : List IP) : Nat := ins.countP isLive

theorem live_succ {ins : List IP} {k : Nat} {x : IP} (hx : ins[k]? = some x) : liveP (ins.take (k + 1)) = if isLive x = true then liveP (ins.take k) + 1 else liveP (ins.take k) := by
  obtain ⟨hk, he⟩ := List.getElem?_eq_some_iff.1 hx
  unfold liveP
  rw [List.take_succ_eq_append_getElem hk, List.countP_append, he]
  cases h : isLive x <;> simp [h]

theorem live_le (ins : List IP) (k : Nat) : liveP (ins.take k) ≤ k := by
  unfold liveP
  exact Nat.le_trans List.countP_le_length (by simp; omega)

/-- The letter at place j is in its order. -/
def okAt (ts : List KP) (next : Int) (j : Nat) : Bool := match ts[j]? with
  | none => true
  | some x => decide (x.i < next) && (match j with
    | 0 => true
    | i + 1 => match ts[i]? with
      | some y => decide (y.i < x.i)
      | none => true)

def boundP (ts : List KP) (next : Int) (live : Nat) : Bool := (decide (live ≤ 16) && decide (ts.length ≤ 4096)) && (List.range ts.length).all (okAt ts next)

def lawsP (d : Td) : List Bool := [d.ls.all (levelP d.gs), d.hs.all (holdP d.os), d.acs.all (accP d.os), d.ins.all (clearP d.hs d.gs d.acs), boundP d.ts d.next (liveP d.ins)]

/-- The numbers of the laws that are broken, of the first k. -/
def outK (laws : List Bool) (k : Nat) : List Int := ((List.range k).filter (fun i => laws[i]? == some false)).map (fun i => ((i + 1 : Nat) : Int))

theorem outK_succ (laws : List Bool) (k : Nat) : outK laws (k + 1) = if laws[k]? = some false then outK laws k ++ [((k + 1 : Nat) : Int)] else outK laws k := by
  unfold outK
  rw [List.range_succ, List.filter_append, List.map_append]
  by_cases h : laws[k]? = some false
  · rw [if_pos h]
    simp [h]
  · rw [if_neg h]
    simp [h]

theorem outK_len (laws : List Bool) (k : Nat) : (outK laws k).length ≤ k := by
  unfold outK
  rw [List.length_map]
  exact Nat.le_trans (List.length_filter_le _ _) (by simp)

def checkP (d : Td) : List Int := outK (lawsP d) 5

theorem all_succ {α : Type} (p : α → Bool) {l : List α} {k : Nat} {x : α} (hx : l[k]? = some x) : (l.take (k + 1)).all p = ((l.take k).all p && p x) := by
  obtain ⟨hk, he⟩ := List.getElem?_eq_some_iff.1 hx
  rw [List.take_succ_eq_append_getElem hk, List.all_append, he]
  simp

theorem all_not {α : Type} (p : α → Bool) (l : List α) : (!(l.any fun x => !(p x))) = l.all p := by
  induction l with
  | nil => rfl
  | cons x r ih =>
    simp only [List.any_cons, List.all_cons, Bool.not_or, Bool.not_not, ih]

def oneI (n : Int) : List Value := [.int .i64 n]
theorem oneI_len (n : Int) : (oneI n).length = 1 := rfl

/- the wakes -/
theorem wake1 : checkP ⟨[⟨1, 0, 0⟩], [⟨1, 5, 4, 0, 0, 0⟩], [], [], [], 0, [], []⟩ = [1, 2] := by decide +kernel
theorem wake2 : checkP ⟨[], [], [], [], [], 0, [], []⟩ = [] := by decide +kernel

end Go.Proofs.Ytigoikepcbbhjaa
