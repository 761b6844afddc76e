/-
  No cell of these rows narrows 'for every input' (looked for: loops, veiled, ifaces, maps, wideKeys, modest, calm, conditions, laid).
  DERIVED. THE GIVEN ROWS OF THIS SEAT. 5 by the template 'for every input the law returns true; each argument reads behind the call as it read before'; 0 by the template 'total and deterministic' (their statements: YthbfgeaojgfafaaTotals.lean).
  GIVEN WITH THE SEED: the statements are not yours to turn. If you find one false, say at which input.
  Laid BY PROGRAM, IN A SANDBOX (cutbox-rows.mjs): the forced cells as the released guide's own fill.sh prints them over the translation 22adb464f4147e1f… (all of the seat's roots in one cut). By AI agents, Wed Nov 11 2026. No macro, syntax, notation, axiom, sorry.
-/
import Derived.Test.YthbfgeaojgfafaaChecked
import GoSem.Claim
import GoSem.ClaimJoined
import GoSem.ClaimMapViews
import Derived.JoinedTies
import Derived.KernelRfl
namespace Go.Proofs.Ythbfgeaojgfafaa
/- THE CELL 'sum', in the pinned program and in every row, IS THE sha256 OF THE DUMP (.gsa) THAT YthbfgeaojgfafaaProg.lean LOADS. Nothing in Lean hashes anything: it is a label: what it is worth is what the hold of that sum in a sandbox is worth. -/
noncomputable def Try.pinned : Pinned := { name := "ythbfgeaojgfafaa", sum := "22adb464f4147e1fa0318eae6d09c66ef92702c12a7bc43cadfae47bab957483", checked := Try.checked }
namespace Rows
def none {H : Type} : Left H := { results := [], args := [] }

/-- 'chandlerlaw11.CheckVerbs': WHATEVER THE INPUT: true; the input reads as it did. -/
def checkVerbsSpec : ChangeSpec := { name := "checkVerbs", fn := fun _ => fun
  | [d] => { results := [.lit (.bool true)], args := [d] }
  | _ => none }
def checkVerbsRow : OpenClaim := { program := "ythbfgeaojgfafaa", sum := "22adb464f4147e1fa0318eae6d09c66ef92702c12a7bc43cadfae47bab957483", func := "chandler/chandlerlaw11.CheckVerbs", spec := "checkVerbs", unfollowed := true, recurses := true, apart := false }
def CheckVerbsSaid : Prop := checkVerbsRow.holds Try.pinned (OpenSpec.ofChange checkVerbsSpec)

/-- ITS FALSE NEIGHBOUR: 'it returns false'. Refute it at one input. -/
def checkVerbsWrong : ChangeSpec := { name := "checkVerbs", fn := fun _ => fun
  | [d] => { results := [.lit (.bool false)], args := [d] }
  | _ => none }
def CheckVerbsWrongFalsely : Prop := checkVerbsRow.holds Try.pinned (OpenSpec.ofChange checkVerbsWrong)

/-- 'chandlerlaw11.CheckOrders': WHATEVER THE INPUT: true; the input reads as it did. -/
def checkOrdersSpec : ChangeSpec := { name := "checkOrders", fn := fun _ => fun
  | [d1, d2] => { results := [.lit (.bool true)], args := [d1, d2] }
  | _ => none }
def checkOrdersRow : OpenClaim := { program := "ythbfgeaojgfafaa", sum := "22adb464f4147e1fa0318eae6d09c66ef92702c12a7bc43cadfae47bab957483", func := "chandler/chandlerlaw11.CheckOrders", spec := "checkOrders", unfollowed := true, recurses := true, apart := false }
def CheckOrdersSaid : Prop := checkOrdersRow.holds Try.pinned (OpenSpec.ofChange checkOrdersSpec)

/-- ITS FALSE NEIGHBOUR: 'it returns false'. Refute it at one input. -/
def checkOrdersWrong : ChangeSpec := { name := "checkOrders", fn := fun _ => fun
  | [d1, d2] => { results := [.lit (.bool false)], args := [d1, d2] }
  | _ => none }
def CheckOrdersWrongFalsely : Prop := checkOrdersRow.holds Try.pinned (OpenSpec.ofChange checkOrdersWrong)

/-- 'chandlerlaw11.CheckNames': WHATEVER THE INPUT: true; the input reads as it did. -/
def checkNamesSpec : ChangeSpec := { name := "checkNames", fn := fun _ => fun
  | [d1, d2] => { results := [.lit (.bool true)], args := [d1, d2] }
  | _ => none }
def checkNamesRow : OpenClaim := { program := "ythbfgeaojgfafaa", sum := "22adb464f4147e1fa0318eae6d09c66ef92702c12a7bc43cadfae47bab957483", func := "chandler/chandlerlaw11.CheckNames", spec := "checkNames", unfollowed := true, recurses := true, apart := false }
def CheckNamesSaid : Prop := checkNamesRow.holds Try.pinned (OpenSpec.ofChange checkNamesSpec)

/-- ITS FALSE NEIGHBOUR: 'it returns false'. Refute it at one input. -/
def checkNamesWrong : ChangeSpec := { name := "checkNames", fn := fun _ => fun
  | [d1, d2] => { results := [.lit (.bool false)], args := [d1, d2] }
  | _ => none }
def CheckNamesWrongFalsely : Prop := checkNamesRow.holds Try.pinned (OpenSpec.ofChange checkNamesWrong)

/-- 'chandlerlaw11.CheckFewer': WHATEVER THE INPUT: true; the input reads as it did. -/
def checkFewerSpec : ChangeSpec := { name := "checkFewer", fn := fun _ => fun
  | [d] => { results := [.lit (.bool true)], args := [d] }
  | _ => none }
def checkFewerRow : OpenClaim := { program := "ythbfgeaojgfafaa", sum := "22adb464f4147e1fa0318eae6d09c66ef92702c12a7bc43cadfae47bab957483", func := "chandler/chandlerlaw11.CheckFewer", spec := "checkFewer", unfollowed := true, recurses := true, apart := false }
def CheckFewerSaid : Prop := checkFewerRow.holds Try.pinned (OpenSpec.ofChange checkFewerSpec)

/-- ITS FALSE NEIGHBOUR: 'it returns false'. Refute it at one input. -/
def checkFewerWrong : ChangeSpec := { name := "checkFewer", fn := fun _ => fun
  | [d] => { results := [.lit (.bool false)], args := [d] }
  | _ => none }
def CheckFewerWrongFalsely : Prop := checkFewerRow.holds Try.pinned (OpenSpec.ofChange checkFewerWrong)

/-- 'chandlerlaw11.CheckPairs': WHATEVER THE INPUT: true; the input reads as it did. -/
def checkPairsSpec : ChangeSpec := { name := "checkPairs", fn := fun _ => fun
  | [d1, d2] => { results := [.lit (.bool true)], args := [d1, d2] }
  | _ => none }
def checkPairsRow : OpenClaim := { program := "ythbfgeaojgfafaa", sum := "22adb464f4147e1fa0318eae6d09c66ef92702c12a7bc43cadfae47bab957483", func := "chandler/chandlerlaw11.CheckPairs", spec := "checkPairs", unfollowed := true, recurses := true, apart := false }
def CheckPairsSaid : Prop := checkPairsRow.holds Try.pinned (OpenSpec.ofChange checkPairsSpec)

/-- ITS FALSE NEIGHBOUR: 'it returns false'. Refute it at one input. -/
def checkPairsWrong : ChangeSpec := { name := "checkPairs", fn := fun _ => fun
  | [d1, d2] => { results := [.lit (.bool false)], args := [d1, d2] }
  | _ => none }
def CheckPairsWrongFalsely : Prop := checkPairsRow.holds Try.pinned (OpenSpec.ofChange checkPairsWrong)

/- THE SECOND FORM. 'bulk': how many values and letters a reading holds, each counted each time it is reached (what is shared counts as often as it is met; a slice's spare places count too). A statement '..UptoSaid' is the law's where the arguments, and the package variables that the reading takes, are together of bulk at most 1048576: NARROWER than '..Said'. Prove '..Said' where nothing that the law and all that it calls make is longer than what came in: it says more and counts as full. Else prove '..UptoSaid'. A law counts once. -/
mutual
def uptoBulk {H : Type} : DataW H → Nat
  | .lit (.string bytes) => bytes.length + 1
  | .lit _ => 1
  | .nil => 1
  | .ptr d => uptoBulk d + 1
  | .slice elems spare => uptoBulkAll elems + uptoBulkAll spare + 1
  | .agg parts => uptoBulkAll parts + 1
  | .iface _ d => uptoBulk d + 1
  | .map entries => uptoBulkEntries entries + 1
  | .held _ => 1
def uptoBulkAll {H : Type} : List (DataW H) → Nat
  | [] => 0
  | d :: r => uptoBulk d + uptoBulkAll r
def uptoBulkEntries {H : Type} : List (Lit × DataW H) → Nat
  | [] => 0
  | x :: r => uptoBulkEntry x + uptoBulkEntries r
def uptoBulkEntry {H : Type} : Lit × DataW H → Nat
  | (.string bytes, d) => bytes.length + uptoBulk d + 1
  | (_, d) => uptoBulk d + 1
 end
def uptoSmall : (H : Type) → List (DataW H) → Bool := fun _ ds => decide (uptoBulkAll ds ≤ 1048576)
def OpenSpec.upto (s : _root_.Go.ChangeSpec) : _root_.Go.OpenSpec := { _root_.Go.OpenSpec.ofChange s with cond := some uptoSmall }

/-- 'chandlerlaw11.CheckVerbs', WHERE WHAT IT READS IS OF BULK AT MOST 1048576: true; the input reads as it did. -/
def checkVerbsUptoRow : OpenClaim := { program := "ythbfgeaojgfafaa", sum := "22adb464f4147e1fa0318eae6d09c66ef92702c12a7bc43cadfae47bab957483", func := "chandler/chandlerlaw11.CheckVerbs", spec := "checkVerbs", unfollowed := true, recurses := true, apart := false, narrowed := true }
def CheckVerbsUptoSaid : Prop := checkVerbsUptoRow.holds Try.pinned (OpenSpec.upto checkVerbsSpec)

/-- 'chandlerlaw11.CheckOrders', WHERE WHAT IT READS IS OF BULK AT MOST 1048576: true; the input reads as it did. -/
def checkOrdersUptoRow : OpenClaim := { program := "ythbfgeaojgfafaa", sum := "22adb464f4147e1fa0318eae6d09c66ef92702c12a7bc43cadfae47bab957483", func := "chandler/chandlerlaw11.CheckOrders", spec := "checkOrders", unfollowed := true, recurses := true, apart := false, narrowed := true }
def CheckOrdersUptoSaid : Prop := checkOrdersUptoRow.holds Try.pinned (OpenSpec.upto checkOrdersSpec)

/-- 'chandlerlaw11.CheckNames', WHERE WHAT IT READS IS OF BULK AT MOST 1048576: true; the input reads as it did. -/
def checkNamesUptoRow : OpenClaim := { program := "ythbfgeaojgfafaa", sum := "22adb464f4147e1fa0318eae6d09c66ef92702c12a7bc43cadfae47bab957483", func := "chandler/chandlerlaw11.CheckNames", spec := "checkNames", unfollowed := true, recurses := true, apart := false, narrowed := true }
def CheckNamesUptoSaid : Prop := checkNamesUptoRow.holds Try.pinned (OpenSpec.upto checkNamesSpec)

/-- 'chandlerlaw11.CheckFewer', WHERE WHAT IT READS IS OF BULK AT MOST 1048576: true; the input reads as it did. -/
def checkFewerUptoRow : OpenClaim := { program := "ythbfgeaojgfafaa", sum := "22adb464f4147e1fa0318eae6d09c66ef92702c12a7bc43cadfae47bab957483", func := "chandler/chandlerlaw11.CheckFewer", spec := "checkFewer", unfollowed := true, recurses := true, apart := false, narrowed := true }
def CheckFewerUptoSaid : Prop := checkFewerUptoRow.holds Try.pinned (OpenSpec.upto checkFewerSpec)

/-- 'chandlerlaw11.CheckPairs', WHERE WHAT IT READS IS OF BULK AT MOST 1048576: true; the input reads as it did. -/
def checkPairsUptoRow : OpenClaim := { program := "ythbfgeaojgfafaa", sum := "22adb464f4147e1fa0318eae6d09c66ef92702c12a7bc43cadfae47bab957483", func := "chandler/chandlerlaw11.CheckPairs", spec := "checkPairs", unfollowed := true, recurses := true, apart := false, narrowed := true }
def CheckPairsUptoSaid : Prop := checkPairsUptoRow.holds Try.pinned (OpenSpec.upto checkPairsSpec)

end Rows
end Go.Proofs.Ythbfgeaojgfafaa
