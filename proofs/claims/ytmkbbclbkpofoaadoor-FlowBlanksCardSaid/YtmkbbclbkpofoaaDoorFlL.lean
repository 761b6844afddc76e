/- Flow, plain: what is read of a text, and where it is refused. No program is named. -/
import Derived.WalkKit
import Derived.Lib.AtoiAll
import Derived.Lib.ItoaNum
import Derived.Lib.IndexMore
namespace Go.Proofs.YtmkbbclbkpofoaaDoor
open Go Go.RowKit

def ba (l : List UInt8) : ByteArray := ⟨l.toArray⟩
theorem ba_ext {a b : ByteArray} (h : a.data.toList = b.data.toList) : a = b := by
  cases a; cases b
  simp only [ByteArray.mk.injEq]
  exact Array.ext' h
theorem ba_data (l : List UInt8) : (ba l).data.toList = l := by simp [ba]
theorem ba_size (l : List UInt8) : (ba l).size = l.length := by simp [ba, ByteArray.size]
theorem ba_list (s : ByteArray) : ba s.data.toList = s := ba_ext (ba_data _)
theorem list_inj {a b : ByteArray} (h : a.toList = b.toList) : a = b := by
  rw [ByteArray.toList_eq, ByteArray.toList_eq] at h
  exact ba_ext h

/-- A word: a small letter, then small letters, digits and '-', twelve bytes at the most. -/
def lowB (b : UInt8) : Bool := decide (97 ≤ b.toNat) && decide (b.toNat ≤ 122)
def restB (b : UInt8) : Bool := lowB b || (decide (48 ≤ b.toNat) && decide (b.toNat ≤ 57)) || decide (b.toNat = 45)
def charB (i : Nat) (b : UInt8) : Bool := if i = 0 then lowB b else restB b
def wordL (l : List UInt8) : Bool := l.head?.any lowB && l.all restB && decide (l.length ≤ 12)
def wordS (s : ByteArray) : Bool := wordL s.data.toList
/-- A verb: two words with a point between. -/
def verbS (s : ByteArray) : Bool := (Lib.cut s.data.toList [46]).2.2 && wordL (Lib.cut s.data.toList [46]).1 && wordL (Lib.cut s.data.toList [46]).2.1
/-- A number of the range, in its one form. -/
def numS (least most : Int) (s : ByteArray) : Option Int :=
  match Lib.atoiAll s.data.toList with
  | .ok n => if least ≤ n ∧ n ≤ most ∧ Lib.itoa n = s.data.toList then some n else none
  | _ => none

theorem num_range {least most n : Int} {s : ByteArray} (h : numS least most s = some n) : least ≤ n ∧ n ≤ most := by
  unfold numS at h
  split at h
  · split at h
    · next hh => cases h; exact ⟨hh.1, hh.2.1⟩
    · cases h
  · cases h

/-- A step of a definition. -/
structure Sp where
  name : ByteArray
  verb : ByteArray
  undo : ByteArray
  event : ByteArray
  final : Bool
  retry : Int
  every : Int
  within : Int
  after : List ByteArray
/-- A definition. -/
structure Df where
  name : ByteArray
  steps : List Sp

abbrev Fs := List ByteArray
/-- What a part of a line gives: a value and the fields that are left, or a fault. -/
inductive Rs (α : Type) where
  | ok (v : α) (r : Fs)
  | bad (e : Int)
def Rs.bind {α β : Type} (x : Rs α) (f : α → Fs → Rs β) : Rs β :=
  match x with
  | .ok v r => f v r
  | .bad e => .bad e

def emp : ByteArray := ⟨#[]⟩
def wFlow : ByteArray := ⟨#[102, 108, 111, 119]⟩
def wStep : ByteArray := ⟨#[115, 116, 101, 112]⟩
def wWait : ByteArray := ⟨#[119, 97, 105, 116]⟩
def wUndo : ByteArray := ⟨#[117, 110, 100, 111]⟩
def wFinal : ByteArray := ⟨#[102, 105, 110, 97, 108]⟩
def wRetry : ByteArray := ⟨#[114, 101, 116, 114, 121]⟩
def wEvery : ByteArray := ⟨#[101, 118, 101, 114, 121]⟩
def wWithin : ByteArray := ⟨#[119, 105, 116, 104, 105, 110]⟩
def wAfter : ByteArray := ⟨#[97, 102, 116, 101, 114]⟩

def nextP (p : ByteArray → Bool) (e : Int) : Fs → Rs ByteArray
  | [] => .bad e
  | s :: r => if p s = true then .ok s r else .bad e
def wordP : Fs → Rs ByteArray := nextP wordS 100
def verbP : Fs → Rs ByteArray := nextP verbS 100
def keyP (k : ByteArray) : Fs → Rs ByteArray := nextP (fun s => s.toList == k.toList) 100
def numP (least most : Int) : Fs → Rs Int
  | [] => .bad 102
  | s :: r =>
    match numS least most s with
    | some n => .ok n r
    | none => .bad 102
def hasB (k : ByteArray) : Fs → Bool
  | [] => false
  | s :: _ => s.toList == k.toList
def hasR (k : ByteArray) (fs : Fs) : Fs := if hasB k fs = true then fs.drop 1 else fs
def afterP (fs : Fs) : Rs (List ByteArray) :=
  if hasB wAfter fs = true then (if fs.drop 1 = [] then .bad 100 else if (fs.drop 1).all wordS = true then .ok (fs.drop 1) [] else .bad 100) else .ok [] fs
def undoP (fs : Fs) : Rs (ByteArray × Bool) :=
  if hasB wUndo fs = true then (verbP (fs.drop 1)).bind fun u r => .ok (u, false) r else .ok (emp, hasB wFinal fs) (hasR wFinal fs)
def retryP (fs : Fs) : Rs (Int × Int) :=
  if hasB wRetry fs = true then (numP 0 5 (fs.drop 1)).bind fun a r => (keyP wEvery r).bind fun _ r => (numP 1 100 r).bind fun b r => .ok (a, b) r else .ok (0, 0) fs
def stepP (fs : Fs) : Rs Sp :=
  (wordP fs).bind fun n r => (verbP r).bind fun v r => (undoP r).bind fun u r => (retryP r).bind fun t r => (afterP r).bind fun a r => .ok ⟨n, v, u.1, emp, u.2, t.1, t.2, 0, a⟩ r
def waitP (fs : Fs) : Rs Sp :=
  (wordP fs).bind fun n r => (wordP r).bind fun v r => (keyP wWithin r).bind fun _ r => (numP 1 100 r).bind fun t r => (afterP r).bind fun a r => .ok ⟨n, emp, emp, v, false, 0, 0, t, a⟩ r
def endP {α : Type} (v : α) (r : Fs) : Rs α := if r = [] then .ok v [] else .bad 101
def readP (d : Df) (fs : Fs) : Rs Df :=
  if d.name.toList.isEmpty = true then
    (if hasB wFlow fs = true then (wordP (fs.drop 1)).bind fun n r => endP ⟨n, d.steps⟩ r else .bad 101)
  else if hasB wStep fs = true then
    (if d.steps.length < 8 then (stepP (fs.drop 1)).bind fun s r => endP ⟨d.name, d.steps ++ [s]⟩ r else .bad 72)
  else if hasB wWait fs = true then
    (if d.steps.length < 8 then (waitP (fs.drop 1)).bind fun s r => endP ⟨d.name, d.steps ++ [s]⟩ r else .bad 72)
  else .bad 101

/-- What stands between two such bytes. -/
def pieces (c : UInt8) : List UInt8 → List (List UInt8)
  | [] => [[]]
  | b :: t => if b = c then [] :: pieces c t else
    match pieces c t with
    | [] => [[b]]
    | p :: ps => (b :: p) :: ps
def fieldsL (l : List UInt8) : Fs := ((pieces 32 l).filter (fun p => !p.isEmpty)).map ba
/-- A line without fields, or a remark. -/
def skipF : Fs → Bool
  | [] => true
  | s :: _ => s.data.toList.head? == some 35
def noD : Df := ⟨emp, []⟩
def goL : List (List UInt8) → Nat → Df → Df × Int × Int
  | [], _, d => if d.name.toList.isEmpty = true then (noD, 0, 101) else (d, 0, 0)
  | l :: ls, i, d => if skipF (fieldsL l) = true then goL ls (i + 1) d else
    match readP d (fieldsL l) with
    | .ok d' _ => goL ls (i + 1) d'
    | .bad e => (noD, (i : Int) + 1, e)
/-- Parse. -/
def parseL (t : ByteArray) : Df × Int × Int := if 2048 < t.size then (noD, 0, 11) else goL (pieces 10 t.data.toList) 0 noD

theorem next_ok {p : ByteArray → Bool} {e : Int} {s : ByteArray} {r : Fs} (h : p s = true) : nextP p e (s :: r) = .ok s r := if_pos h
theorem next_bad {p : ByteArray → Bool} {e : Int} {s : ByteArray} {r : Fs} (h : p s = false) : nextP p e (s :: r) = .bad e := if_neg (by rw [h]; exact Bool.false_ne_true)
theorem num_ok {a b n : Int} {s : ByteArray} {r : Fs} (h : numS a b s = some n) : numP a b (s :: r) = .ok n r := by unfold numP; simp only [h]
theorem num_bad {a b : Int} {s : ByteArray} {r : Fs} (h : numS a b s = none) : numP a b (s :: r) = .bad 102 := by unfold numP; simp only [h]

theorem pieces_ne (c : UInt8) (l : List UInt8) : pieces c l ≠ [] := by
  cases l with
  | nil => simp [pieces]
  | cons b t =>
    unfold pieces
    split
    · simp
    · split <;> simp

end Go.Proofs.YtmkbbclbkpofoaaDoor
