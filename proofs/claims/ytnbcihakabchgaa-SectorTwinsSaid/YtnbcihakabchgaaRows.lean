/-
  No cell of these rows narrows 'for every input' (looked for: loops, veiled, ifaces, maps, wideKeys, modest, calm, conditions, laid).
  DERIVED. THE GIVEN ROWS OF THIS SEAT. 7 by the template 'for every input the law returns true; each argument reads behind the call as it read before'; 0 by the template 'total and deterministic' (their statements: YtnbcihakabchgaaTotals.lean).
  GIVEN WITH THE SEED: the statements are not yours to turn. If you find one false, say at which input.
  Laid BY PROGRAM, IN A SANDBOX (cutbox-rows.mjs): the forced cells as the released guide's own fill.sh prints them over the translation 151f4566d115a604… (all of the seat's roots in one cut). By AI agents, Wed Nov 11 2026. No macro, syntax, notation, axiom, sorry.
-/
import Derived.Test.YtnbcihakabchgaaChecked
import GoSem.Claim
import GoSem.ClaimJoined
import GoSem.ClaimMapViews
import Derived.JoinedTies
import Derived.KernelRfl
namespace Go.Proofs.Ytnbcihakabchgaa
/- THE CELL 'sum', in the pinned program and in every row, IS THE sha256 OF THE DUMP (.gsa) THAT YtnbcihakabchgaaProg.lean LOADS. Nothing in Lean hashes anything: it is a label: what it is worth is what the hold of that sum in a sandbox is worth. -/
noncomputable def Try.pinned : Pinned := { name := "ytnbcihakabchgaa", sum := "151f4566d115a604a79398bd161f988e4bc6f3f35f4a7a15ca7d50b955e36cc8", checked := Try.checked }
namespace Rows
def none {H : Type} : Left H := { results := [], args := [] }

/-- 'chandlerlaw01.SectorHigh': WHATEVER THE INPUT: true; the input reads as it did. -/
def sectorHighSpec : ChangeSpec := { name := "sectorHigh", fn := fun _ => fun
  | [d] => { results := [.lit (.bool true)], args := [d] }
  | _ => none }
def sectorHighRow : OpenClaim := { program := "ytnbcihakabchgaa", sum := "151f4566d115a604a79398bd161f988e4bc6f3f35f4a7a15ca7d50b955e36cc8", func := "chandler/chandlerlaw01.SectorHigh", spec := "sectorHigh", inPlace := ["sync/atomic.LoadUint32", "sync/atomic.LoadInt64", "sync/atomic.StoreUint32", "sync/atomic.StoreInt64", "internal/abi.NoEscape", "internal/bytealg.MakeNoZero", "(*internal/sync.Mutex).Lock", "internal/race.Disable", "sync/atomic.CompareAndSwapInt32", "internal/race.Enable", "internal/race.Acquire", "(*internal/sync.Mutex).lockSlow", "internal/sync.runtime_canSpin", "internal/sync.runtime_doSpin", "internal/sync.throw", "internal/sync.runtime_nanotime", "internal/sync.runtime_SemacquireMutex", "sync/atomic.AddInt32", "(*internal/sync.Mutex).Unlock", "internal/race.ReleaseMerge", "(*internal/sync.Mutex).unlockSlow", "internal/sync.fatal", "internal/sync.runtime_Semrelease", "sync/atomic.AddInt64"], unfollowed := true, recurses := true, apart := false }
def SectorHighSaid : Prop := sectorHighRow.holds Try.pinned (OpenSpec.ofChange sectorHighSpec)

/-- ITS FALSE NEIGHBOUR: 'it returns false'. Refute it at one input. -/
def sectorHighWrong : ChangeSpec := { name := "sectorHigh", fn := fun _ => fun
  | [d] => { results := [.lit (.bool false)], args := [d] }
  | _ => none }
def SectorHighWrongFalsely : Prop := sectorHighRow.holds Try.pinned (OpenSpec.ofChange sectorHighWrong)

/-- 'chandlerlaw01.SectorAlone': WHATEVER THE INPUT: true; the input reads as it did. -/
def sectorAloneSpec : ChangeSpec := { name := "sectorAlone", fn := fun _ => fun
  | [d1, d2] => { results := [.lit (.bool true)], args := [d1, d2] }
  | _ => none }
def sectorAloneRow : OpenClaim := { program := "ytnbcihakabchgaa", sum := "151f4566d115a604a79398bd161f988e4bc6f3f35f4a7a15ca7d50b955e36cc8", func := "chandler/chandlerlaw01.SectorAlone", spec := "sectorAlone", inPlace := ["sync/atomic.LoadUint32", "sync/atomic.LoadInt64", "sync/atomic.StoreUint32", "sync/atomic.StoreInt64", "internal/abi.NoEscape", "internal/bytealg.MakeNoZero", "(*internal/sync.Mutex).Lock", "internal/race.Disable", "sync/atomic.CompareAndSwapInt32", "internal/race.Enable", "internal/race.Acquire", "(*internal/sync.Mutex).lockSlow", "internal/sync.runtime_canSpin", "internal/sync.runtime_doSpin", "internal/sync.throw", "internal/sync.runtime_nanotime", "internal/sync.runtime_SemacquireMutex", "sync/atomic.AddInt32", "(*internal/sync.Mutex).Unlock", "internal/race.ReleaseMerge", "(*internal/sync.Mutex).unlockSlow", "internal/sync.fatal", "internal/sync.runtime_Semrelease", "sync/atomic.AddInt64"], unfollowed := true, recurses := true, apart := false }
def SectorAloneSaid : Prop := sectorAloneRow.holds Try.pinned (OpenSpec.ofChange sectorAloneSpec)

/-- ITS FALSE NEIGHBOUR: 'it returns false'. Refute it at one input. -/
def sectorAloneWrong : ChangeSpec := { name := "sectorAlone", fn := fun _ => fun
  | [d1, d2] => { results := [.lit (.bool false)], args := [d1, d2] }
  | _ => none }
def SectorAloneWrongFalsely : Prop := sectorAloneRow.holds Try.pinned (OpenSpec.ofChange sectorAloneWrong)

/-- 'chandlerlaw01.SectorLast': WHATEVER THE INPUT: true; the input reads as it did. -/
def sectorLastSpec : ChangeSpec := { name := "sectorLast", fn := fun _ => fun
  | [d] => { results := [.lit (.bool true)], args := [d] }
  | _ => none }
def sectorLastRow : OpenClaim := { program := "ytnbcihakabchgaa", sum := "151f4566d115a604a79398bd161f988e4bc6f3f35f4a7a15ca7d50b955e36cc8", func := "chandler/chandlerlaw01.SectorLast", spec := "sectorLast", inPlace := ["sync/atomic.LoadUint32", "sync/atomic.LoadInt64", "sync/atomic.StoreUint32", "sync/atomic.StoreInt64", "internal/abi.NoEscape", "internal/bytealg.MakeNoZero", "(*internal/sync.Mutex).Lock", "internal/race.Disable", "sync/atomic.CompareAndSwapInt32", "internal/race.Enable", "internal/race.Acquire", "(*internal/sync.Mutex).lockSlow", "internal/sync.runtime_canSpin", "internal/sync.runtime_doSpin", "internal/sync.throw", "internal/sync.runtime_nanotime", "internal/sync.runtime_SemacquireMutex", "sync/atomic.AddInt32", "(*internal/sync.Mutex).Unlock", "internal/race.ReleaseMerge", "(*internal/sync.Mutex).unlockSlow", "internal/sync.fatal", "internal/sync.runtime_Semrelease", "sync/atomic.AddInt64"], unfollowed := true, recurses := true, apart := false }
def SectorLastSaid : Prop := sectorLastRow.holds Try.pinned (OpenSpec.ofChange sectorLastSpec)

/-- ITS FALSE NEIGHBOUR: 'it returns false'. Refute it at one input. -/
def sectorLastWrong : ChangeSpec := { name := "sectorLast", fn := fun _ => fun
  | [d] => { results := [.lit (.bool false)], args := [d] }
  | _ => none }
def SectorLastWrongFalsely : Prop := sectorLastRow.holds Try.pinned (OpenSpec.ofChange sectorLastWrong)

/-- 'chandlerlaw01.SectorCuts': WHATEVER THE INPUT: true; the input reads as it did. -/
def sectorCutsSpec : ChangeSpec := { name := "sectorCuts", fn := fun _ => fun
  | [d1, d2] => { results := [.lit (.bool true)], args := [d1, d2] }
  | _ => none }
def sectorCutsRow : OpenClaim := { program := "ytnbcihakabchgaa", sum := "151f4566d115a604a79398bd161f988e4bc6f3f35f4a7a15ca7d50b955e36cc8", func := "chandler/chandlerlaw01.SectorCuts", spec := "sectorCuts", inPlace := ["sync/atomic.LoadUint32", "sync/atomic.LoadInt64", "sync/atomic.StoreUint32", "sync/atomic.StoreInt64", "internal/abi.NoEscape", "internal/bytealg.MakeNoZero", "(*internal/sync.Mutex).Lock", "internal/race.Disable", "sync/atomic.CompareAndSwapInt32", "internal/race.Enable", "internal/race.Acquire", "(*internal/sync.Mutex).lockSlow", "internal/sync.runtime_canSpin", "internal/sync.runtime_doSpin", "internal/sync.throw", "internal/sync.runtime_nanotime", "internal/sync.runtime_SemacquireMutex", "sync/atomic.AddInt32", "(*internal/sync.Mutex).Unlock", "internal/race.ReleaseMerge", "(*internal/sync.Mutex).unlockSlow", "internal/sync.fatal", "internal/sync.runtime_Semrelease", "sync/atomic.AddInt64"], unfollowed := true, recurses := true, apart := false }
def SectorCutsSaid : Prop := sectorCutsRow.holds Try.pinned (OpenSpec.ofChange sectorCutsSpec)

/-- ITS FALSE NEIGHBOUR: 'it returns false'. Refute it at one input. -/
def sectorCutsWrong : ChangeSpec := { name := "sectorCuts", fn := fun _ => fun
  | [d1, d2] => { results := [.lit (.bool false)], args := [d1, d2] }
  | _ => none }
def SectorCutsWrongFalsely : Prop := sectorCutsRow.holds Try.pinned (OpenSpec.ofChange sectorCutsWrong)

/-- 'chandlerlaw01.SectorOff': WHATEVER THE INPUT: true; the input reads as it did. -/
def sectorOffSpec : ChangeSpec := { name := "sectorOff", fn := fun _ => fun
  | [d1, d2] => { results := [.lit (.bool true)], args := [d1, d2] }
  | _ => none }
def sectorOffRow : OpenClaim := { program := "ytnbcihakabchgaa", sum := "151f4566d115a604a79398bd161f988e4bc6f3f35f4a7a15ca7d50b955e36cc8", func := "chandler/chandlerlaw01.SectorOff", spec := "sectorOff", inPlace := ["sync/atomic.LoadUint32", "sync/atomic.LoadInt64", "sync/atomic.StoreUint32", "sync/atomic.StoreInt64", "internal/abi.NoEscape", "internal/bytealg.MakeNoZero", "(*internal/sync.Mutex).Lock", "internal/race.Disable", "sync/atomic.CompareAndSwapInt32", "internal/race.Enable", "internal/race.Acquire", "(*internal/sync.Mutex).lockSlow", "internal/sync.runtime_canSpin", "internal/sync.runtime_doSpin", "internal/sync.throw", "internal/sync.runtime_nanotime", "internal/sync.runtime_SemacquireMutex", "sync/atomic.AddInt32", "(*internal/sync.Mutex).Unlock", "internal/race.ReleaseMerge", "(*internal/sync.Mutex).unlockSlow", "internal/sync.fatal", "internal/sync.runtime_Semrelease", "sync/atomic.AddInt64"], unfollowed := true, recurses := true, apart := false }
def SectorOffSaid : Prop := sectorOffRow.holds Try.pinned (OpenSpec.ofChange sectorOffSpec)

/-- ITS FALSE NEIGHBOUR: 'it returns false'. Refute it at one input. -/
def sectorOffWrong : ChangeSpec := { name := "sectorOff", fn := fun _ => fun
  | [d1, d2] => { results := [.lit (.bool false)], args := [d1, d2] }
  | _ => none }
def SectorOffWrongFalsely : Prop := sectorOffRow.holds Try.pinned (OpenSpec.ofChange sectorOffWrong)

/-- 'chandlerlaw01.SectorPlays': WHATEVER THE INPUT: true; the input reads as it did. -/
def sectorPlaysSpec : ChangeSpec := { name := "sectorPlays", fn := fun _ => fun
  | [d1, d2] => { results := [.lit (.bool true)], args := [d1, d2] }
  | _ => none }
def sectorPlaysRow : OpenClaim := { program := "ytnbcihakabchgaa", sum := "151f4566d115a604a79398bd161f988e4bc6f3f35f4a7a15ca7d50b955e36cc8", func := "chandler/chandlerlaw01.SectorPlays", spec := "sectorPlays", inPlace := ["sync/atomic.LoadUint32", "sync/atomic.LoadInt64", "sync/atomic.StoreUint32", "sync/atomic.StoreInt64", "internal/abi.NoEscape", "internal/bytealg.MakeNoZero", "(*internal/sync.Mutex).Lock", "internal/race.Disable", "sync/atomic.CompareAndSwapInt32", "internal/race.Enable", "internal/race.Acquire", "(*internal/sync.Mutex).lockSlow", "internal/sync.runtime_canSpin", "internal/sync.runtime_doSpin", "internal/sync.throw", "internal/sync.runtime_nanotime", "internal/sync.runtime_SemacquireMutex", "sync/atomic.AddInt32", "(*internal/sync.Mutex).Unlock", "internal/race.ReleaseMerge", "(*internal/sync.Mutex).unlockSlow", "internal/sync.fatal", "internal/sync.runtime_Semrelease", "sync/atomic.AddInt64"], unfollowed := true, recurses := true, apart := false }
def SectorPlaysSaid : Prop := sectorPlaysRow.holds Try.pinned (OpenSpec.ofChange sectorPlaysSpec)

/-- ITS FALSE NEIGHBOUR: 'it returns false'. Refute it at one input. -/
def sectorPlaysWrong : ChangeSpec := { name := "sectorPlays", fn := fun _ => fun
  | [d1, d2] => { results := [.lit (.bool false)], args := [d1, d2] }
  | _ => none }
def SectorPlaysWrongFalsely : Prop := sectorPlaysRow.holds Try.pinned (OpenSpec.ofChange sectorPlaysWrong)

/-- 'chandlerlaw01.SectorTwins': WHATEVER THE INPUT: true; the input reads as it did. -/
def sectorTwinsSpec : ChangeSpec := { name := "sectorTwins", fn := fun _ => fun
  | [d1, d2] => { results := [.lit (.bool true)], args := [d1, d2] }
  | _ => none }
def sectorTwinsRow : OpenClaim := { program := "ytnbcihakabchgaa", sum := "151f4566d115a604a79398bd161f988e4bc6f3f35f4a7a15ca7d50b955e36cc8", func := "chandler/chandlerlaw01.SectorTwins", spec := "sectorTwins", inPlace := ["sync/atomic.StoreInt64", "sync/atomic.StoreUint32", "sync/atomic.LoadUint32", "internal/abi.NoEscape", "internal/bytealg.MakeNoZero", "(*internal/sync.Mutex).Lock", "internal/race.Disable", "sync/atomic.CompareAndSwapInt32", "internal/race.Enable", "internal/race.Acquire", "(*internal/sync.Mutex).lockSlow", "internal/sync.runtime_canSpin", "internal/sync.runtime_doSpin", "internal/sync.throw", "internal/sync.runtime_nanotime", "internal/sync.runtime_SemacquireMutex", "sync/atomic.AddInt32", "(*internal/sync.Mutex).Unlock", "internal/race.ReleaseMerge", "(*internal/sync.Mutex).unlockSlow", "internal/sync.fatal", "internal/sync.runtime_Semrelease", "sync/atomic.LoadInt64", "sync/atomic.AddInt64"], unfollowed := true, recurses := true, apart := false }
def SectorTwinsSaid : Prop := sectorTwinsRow.holds Try.pinned (OpenSpec.ofChange sectorTwinsSpec)

/-- ITS FALSE NEIGHBOUR: 'it returns false'. Refute it at one input. -/
def sectorTwinsWrong : ChangeSpec := { name := "sectorTwins", fn := fun _ => fun
  | [d1, d2] => { results := [.lit (.bool false)], args := [d1, d2] }
  | _ => none }
def SectorTwinsWrongFalsely : Prop := sectorTwinsRow.holds Try.pinned (OpenSpec.ofChange sectorTwinsWrong)

/- THE SECOND FORM. 'bulk': how many values and letters a reading holds, each counted each time it is reached (what is shared counts as often as it is met; a slice's spare places count too). A statement '..UptoSaid' is the law's where the arguments, and the package variables that the reading takes, are together of bulk at most 1048576: NARROWER than '..Said'. Prove '..Said' where nothing that the law and all that it calls make is longer than what came in: it says more and counts as full. Else prove '..UptoSaid'. A law counts once. -/
mutual
def uptoBulk {H : Type} : DataW H → Nat
  | .lit (.string bytes) => bytes.length + 1
  | .lit _ => 1
  | .nil => 1
  | .ptr d => uptoBulk d + 1
  | .slice elems spare => uptoBulkAll elems + uptoBulkAll spare + 1
  | .agg parts => uptoBulkAll parts + 1
  | .iface _ d => uptoBulk d + 1
  | .map entries => uptoBulkEntries entries + 1
  | .held _ => 1
def uptoBulkAll {H : Type} : List (DataW H) → Nat
  | [] => 0
  | d :: r => uptoBulk d + uptoBulkAll r
def uptoBulkEntries {H : Type} : List (Lit × DataW H) → Nat
  | [] => 0
  | x :: r => uptoBulkEntry x + uptoBulkEntries r
def uptoBulkEntry {H : Type} : Lit × DataW H → Nat
  | (.string bytes, d) => bytes.length + uptoBulk d + 1
  | (_, d) => uptoBulk d + 1
 end
def uptoSmall : (H : Type) → List (DataW H) → Bool := fun _ ds => decide (uptoBulkAll ds ≤ 1048576)
def OpenSpec.upto (s : _root_.Go.ChangeSpec) : _root_.Go.OpenSpec := { _root_.Go.OpenSpec.ofChange s with cond := some uptoSmall }

/-- 'chandlerlaw01.SectorHigh', WHERE WHAT IT READS IS OF BULK AT MOST 1048576: true; the input reads as it did. -/
def sectorHighUptoRow : OpenClaim := { program := "ytnbcihakabchgaa", sum := "151f4566d115a604a79398bd161f988e4bc6f3f35f4a7a15ca7d50b955e36cc8", func := "chandler/chandlerlaw01.SectorHigh", spec := "sectorHigh", inPlace := ["sync/atomic.LoadUint32", "sync/atomic.LoadInt64", "sync/atomic.StoreUint32", "sync/atomic.StoreInt64", "internal/abi.NoEscape", "internal/bytealg.MakeNoZero", "(*internal/sync.Mutex).Lock", "internal/race.Disable", "sync/atomic.CompareAndSwapInt32", "internal/race.Enable", "internal/race.Acquire", "(*internal/sync.Mutex).lockSlow", "internal/sync.runtime_canSpin", "internal/sync.runtime_doSpin", "internal/sync.throw", "internal/sync.runtime_nanotime", "internal/sync.runtime_SemacquireMutex", "sync/atomic.AddInt32", "(*internal/sync.Mutex).Unlock", "internal/race.ReleaseMerge", "(*internal/sync.Mutex).unlockSlow", "internal/sync.fatal", "internal/sync.runtime_Semrelease", "sync/atomic.AddInt64"], unfollowed := true, recurses := true, apart := false, narrowed := true }
def SectorHighUptoSaid : Prop := sectorHighUptoRow.holds Try.pinned (OpenSpec.upto sectorHighSpec)

/-- 'chandlerlaw01.SectorAlone', WHERE WHAT IT READS IS OF BULK AT MOST 1048576: true; the input reads as it did. -/
def sectorAloneUptoRow : OpenClaim := { program := "ytnbcihakabchgaa", sum := "151f4566d115a604a79398bd161f988e4bc6f3f35f4a7a15ca7d50b955e36cc8", func := "chandler/chandlerlaw01.SectorAlone", spec := "sectorAlone", inPlace := ["sync/atomic.LoadUint32", "sync/atomic.LoadInt64", "sync/atomic.StoreUint32", "sync/atomic.StoreInt64", "internal/abi.NoEscape", "internal/bytealg.MakeNoZero", "(*internal/sync.Mutex).Lock", "internal/race.Disable", "sync/atomic.CompareAndSwapInt32", "internal/race.Enable", "internal/race.Acquire", "(*internal/sync.Mutex).lockSlow", "internal/sync.runtime_canSpin", "internal/sync.runtime_doSpin", "internal/sync.throw", "internal/sync.runtime_nanotime", "internal/sync.runtime_SemacquireMutex", "sync/atomic.AddInt32", "(*internal/sync.Mutex).Unlock", "internal/race.ReleaseMerge", "(*internal/sync.Mutex).unlockSlow", "internal/sync.fatal", "internal/sync.runtime_Semrelease", "sync/atomic.AddInt64"], unfollowed := true, recurses := true, apart := false, narrowed := true }
def SectorAloneUptoSaid : Prop := sectorAloneUptoRow.holds Try.pinned (OpenSpec.upto sectorAloneSpec)

/-- 'chandlerlaw01.SectorLast', WHERE WHAT IT READS IS OF BULK AT MOST 1048576: true; the input reads as it did. -/
def sectorLastUptoRow : OpenClaim := { program := "ytnbcihakabchgaa", sum := "151f4566d115a604a79398bd161f988e4bc6f3f35f4a7a15ca7d50b955e36cc8", func := "chandler/chandlerlaw01.SectorLast", spec := "sectorLast", inPlace := ["sync/atomic.LoadUint32", "sync/atomic.LoadInt64", "sync/atomic.StoreUint32", "sync/atomic.StoreInt64", "internal/abi.NoEscape", "internal/bytealg.MakeNoZero", "(*internal/sync.Mutex).Lock", "internal/race.Disable", "sync/atomic.CompareAndSwapInt32", "internal/race.Enable", "internal/race.Acquire", "(*internal/sync.Mutex).lockSlow", "internal/sync.runtime_canSpin", "internal/sync.runtime_doSpin", "internal/sync.throw", "internal/sync.runtime_nanotime", "internal/sync.runtime_SemacquireMutex", "sync/atomic.AddInt32", "(*internal/sync.Mutex).Unlock", "internal/race.ReleaseMerge", "(*internal/sync.Mutex).unlockSlow", "internal/sync.fatal", "internal/sync.runtime_Semrelease", "sync/atomic.AddInt64"], unfollowed := true, recurses := true, apart := false, narrowed := true }
def SectorLastUptoSaid : Prop := sectorLastUptoRow.holds Try.pinned (OpenSpec.upto sectorLastSpec)

/-- 'chandlerlaw01.SectorCuts', WHERE WHAT IT READS IS OF BULK AT MOST 1048576: true; the input reads as it did. -/
def sectorCutsUptoRow : OpenClaim := { program := "ytnbcihakabchgaa", sum := "151f4566d115a604a79398bd161f988e4bc6f3f35f4a7a15ca7d50b955e36cc8", func := "chandler/chandlerlaw01.SectorCuts", spec := "sectorCuts", inPlace := ["sync/atomic.LoadUint32", "sync/atomic.LoadInt64", "sync/atomic.StoreUint32", "sync/atomic.StoreInt64", "internal/abi.NoEscape", "internal/bytealg.MakeNoZero", "(*internal/sync.Mutex).Lock", "internal/race.Disable", "sync/atomic.CompareAndSwapInt32", "internal/race.Enable", "internal/race.Acquire", "(*internal/sync.Mutex).lockSlow", "internal/sync.runtime_canSpin", "internal/sync.runtime_doSpin", "internal/sync.throw", "internal/sync.runtime_nanotime", "internal/sync.runtime_SemacquireMutex", "sync/atomic.AddInt32", "(*internal/sync.Mutex).Unlock", "internal/race.ReleaseMerge", "(*internal/sync.Mutex).unlockSlow", "internal/sync.fatal", "internal/sync.runtime_Semrelease", "sync/atomic.AddInt64"], unfollowed := true, recurses := true, apart := false, narrowed := true }
def SectorCutsUptoSaid : Prop := sectorCutsUptoRow.holds Try.pinned (OpenSpec.upto sectorCutsSpec)

/-- 'chandlerlaw01.SectorOff', WHERE WHAT IT READS IS OF BULK AT MOST 1048576: true; the input reads as it did. -/
def sectorOffUptoRow : OpenClaim := { program := "ytnbcihakabchgaa", sum := "151f4566d115a604a79398bd161f988e4bc6f3f35f4a7a15ca7d50b955e36cc8", func := "chandler/chandlerlaw01.SectorOff", spec := "sectorOff", inPlace := ["sync/atomic.LoadUint32", "sync/atomic.LoadInt64", "sync/atomic.StoreUint32", "sync/atomic.StoreInt64", "internal/abi.NoEscape", "internal/bytealg.MakeNoZero", "(*internal/sync.Mutex).Lock", "internal/race.Disable", "sync/atomic.CompareAndSwapInt32", "internal/race.Enable", "internal/race.Acquire", "(*internal/sync.Mutex).lockSlow", "internal/sync.runtime_canSpin", "internal/sync.runtime_doSpin", "internal/sync.throw", "internal/sync.runtime_nanotime", "internal/sync.runtime_SemacquireMutex", "sync/atomic.AddInt32", "(*internal/sync.Mutex).Unlock", "internal/race.ReleaseMerge", "(*internal/sync.Mutex).unlockSlow", "internal/sync.fatal", "internal/sync.runtime_Semrelease", "sync/atomic.AddInt64"], unfollowed := true, recurses := true, apart := false, narrowed := true }
def SectorOffUptoSaid : Prop := sectorOffUptoRow.holds Try.pinned (OpenSpec.upto sectorOffSpec)

/-- 'chandlerlaw01.SectorPlays', WHERE WHAT IT READS IS OF BULK AT MOST 1048576: true; the input reads as it did. -/
def sectorPlaysUptoRow : OpenClaim := { program := "ytnbcihakabchgaa", sum := "151f4566d115a604a79398bd161f988e4bc6f3f35f4a7a15ca7d50b955e36cc8", func := "chandler/chandlerlaw01.SectorPlays", spec := "sectorPlays", inPlace := ["sync/atomic.LoadUint32", "sync/atomic.LoadInt64", "sync/atomic.StoreUint32", "sync/atomic.StoreInt64", "internal/abi.NoEscape", "internal/bytealg.MakeNoZero", "(*internal/sync.Mutex).Lock", "internal/race.Disable", "sync/atomic.CompareAndSwapInt32", "internal/race.Enable", "internal/race.Acquire", "(*internal/sync.Mutex).lockSlow", "internal/sync.runtime_canSpin", "internal/sync.runtime_doSpin", "internal/sync.throw", "internal/sync.runtime_nanotime", "internal/sync.runtime_SemacquireMutex", "sync/atomic.AddInt32", "(*internal/sync.Mutex).Unlock", "internal/race.ReleaseMerge", "(*internal/sync.Mutex).unlockSlow", "internal/sync.fatal", "internal/sync.runtime_Semrelease", "sync/atomic.AddInt64"], unfollowed := true, recurses := true, apart := false, narrowed := true }
def SectorPlaysUptoSaid : Prop := sectorPlaysUptoRow.holds Try.pinned (OpenSpec.upto sectorPlaysSpec)

/-- 'chandlerlaw01.SectorTwins', WHERE WHAT IT READS IS OF BULK AT MOST 1048576: true; the input reads as it did. -/
def sectorTwinsUptoRow : OpenClaim := { program := "ytnbcihakabchgaa", sum := "151f4566d115a604a79398bd161f988e4bc6f3f35f4a7a15ca7d50b955e36cc8", func := "chandler/chandlerlaw01.SectorTwins", spec := "sectorTwins", inPlace := ["sync/atomic.StoreInt64", "sync/atomic.StoreUint32", "sync/atomic.LoadUint32", "internal/abi.NoEscape", "internal/bytealg.MakeNoZero", "(*internal/sync.Mutex).Lock", "internal/race.Disable", "sync/atomic.CompareAndSwapInt32", "internal/race.Enable", "internal/race.Acquire", "(*internal/sync.Mutex).lockSlow", "internal/sync.runtime_canSpin", "internal/sync.runtime_doSpin", "internal/sync.throw", "internal/sync.runtime_nanotime", "internal/sync.runtime_SemacquireMutex", "sync/atomic.AddInt32", "(*internal/sync.Mutex).Unlock", "internal/race.ReleaseMerge", "(*internal/sync.Mutex).unlockSlow", "internal/sync.fatal", "internal/sync.runtime_Semrelease", "sync/atomic.LoadInt64", "sync/atomic.AddInt64"], unfollowed := true, recurses := true, apart := false, narrowed := true }
def SectorTwinsUptoSaid : Prop := sectorTwinsUptoRow.holds Try.pinned (OpenSpec.upto sectorTwinsSpec)

end Rows
end Go.Proofs.Ytnbcihakabchgaa
