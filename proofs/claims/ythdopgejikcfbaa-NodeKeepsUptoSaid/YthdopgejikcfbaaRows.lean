/-
  No cell of these rows narrows 'for every input' (looked for: loops, veiled, ifaces, maps, wideKeys, modest, calm, conditions, laid).
  DERIVED. THE GIVEN ROWS OF THIS SEAT. 6 by the template 'for every input the law returns true; each argument reads behind the call as it read before'; 0 by the template 'total and deterministic' (their statements: YthdopgejikcfbaaTotals.lean).
  GIVEN WITH THE SEED: the statements are not yours to turn. If you find one false, say at which input.
  Laid BY PROGRAM, IN A SANDBOX (cutbox-rows.mjs): the forced cells as the released guide's own fill.sh prints them over the translation 6d8edb45b2cc6069… (all of the seat's roots in one cut). By AI agents, Wed Nov 11 2026. No macro, syntax, notation, axiom, sorry.
-/
import Derived.Test.YthdopgejikcfbaaChecked
import GoSem.Claim
import GoSem.ClaimJoined
import GoSem.ClaimMapViews
import Derived.JoinedTies
import Derived.KernelRfl
namespace Go.Proofs.Ythdopgejikcfbaa
/- THE CELL 'sum', in the pinned program and in every row, IS THE sha256 OF THE DUMP (.gsa) THAT YthdopgejikcfbaaProg.lean LOADS. Nothing in Lean hashes anything: it is a label: what it is worth is what the hold of that sum in a sandbox is worth. -/
noncomputable def Try.pinned : Pinned := { name := "ythdopgejikcfbaa", sum := "6d8edb45b2cc6069d8d1a22da94eb86a94f85b69542703e869ddb2b909ee5b5f", checked := Try.checked }
namespace Rows
def none {H : Type} : Left H := { results := [], args := [] }

/-- 'chandlerlaw04.NodePlaces': WHATEVER THE INPUT: true; the input reads as it did. -/
def nodePlacesSpec : ChangeSpec := { name := "nodePlaces", fn := fun _ => fun
  | [d1, d2] => { results := [.lit (.bool true)], args := [d1, d2] }
  | _ => none }
def nodePlacesRow : OpenClaim := { program := "ythdopgejikcfbaa", sum := "6d8edb45b2cc6069d8d1a22da94eb86a94f85b69542703e869ddb2b909ee5b5f", func := "chandler/chandlerlaw04.NodePlaces", spec := "nodePlaces", inPlace := ["internal/abi.NoEscape"], unfollowed := true, recurses := true, apart := false }
def NodePlacesSaid : Prop := nodePlacesRow.holds Try.pinned (OpenSpec.ofChange nodePlacesSpec)

/-- ITS FALSE NEIGHBOUR: 'it returns false'. Refute it at one input. -/
def nodePlacesWrong : ChangeSpec := { name := "nodePlaces", fn := fun _ => fun
  | [d1, d2] => { results := [.lit (.bool false)], args := [d1, d2] }
  | _ => none }
def NodePlacesWrongFalsely : Prop := nodePlacesRow.holds Try.pinned (OpenSpec.ofChange nodePlacesWrong)

/-- 'chandlerlaw04.NodeGuides': WHATEVER THE INPUT: true; the input reads as it did. -/
def nodeGuidesSpec : ChangeSpec := { name := "nodeGuides", fn := fun _ => fun
  | [d1, d2] => { results := [.lit (.bool true)], args := [d1, d2] }
  | _ => none }
def nodeGuidesRow : OpenClaim := { program := "ythdopgejikcfbaa", sum := "6d8edb45b2cc6069d8d1a22da94eb86a94f85b69542703e869ddb2b909ee5b5f", func := "chandler/chandlerlaw04.NodeGuides", spec := "nodeGuides", inPlace := ["internal/abi.NoEscape"], unfollowed := true, recurses := true, apart := false }
def NodeGuidesSaid : Prop := nodeGuidesRow.holds Try.pinned (OpenSpec.ofChange nodeGuidesSpec)

/-- ITS FALSE NEIGHBOUR: 'it returns false'. Refute it at one input. -/
def nodeGuidesWrong : ChangeSpec := { name := "nodeGuides", fn := fun _ => fun
  | [d1, d2] => { results := [.lit (.bool false)], args := [d1, d2] }
  | _ => none }
def NodeGuidesWrongFalsely : Prop := nodeGuidesRow.holds Try.pinned (OpenSpec.ofChange nodeGuidesWrong)

/-- 'chandlerlaw04.NodeBytes': WHATEVER THE INPUT: true; the input reads as it did. -/
def nodeBytesSpec : ChangeSpec := { name := "nodeBytes", fn := fun _ => fun
  | [d] => { results := [.lit (.bool true)], args := [d] }
  | _ => none }
def nodeBytesRow : OpenClaim := { program := "ythdopgejikcfbaa", sum := "6d8edb45b2cc6069d8d1a22da94eb86a94f85b69542703e869ddb2b909ee5b5f", func := "chandler/chandlerlaw04.NodeBytes", spec := "nodeBytes", inPlace := ["internal/abi.NoEscape"], unfollowed := true, recurses := true, apart := false }
def NodeBytesSaid : Prop := nodeBytesRow.holds Try.pinned (OpenSpec.ofChange nodeBytesSpec)

/-- ITS FALSE NEIGHBOUR: 'it returns false'. Refute it at one input. -/
def nodeBytesWrong : ChangeSpec := { name := "nodeBytes", fn := fun _ => fun
  | [d] => { results := [.lit (.bool false)], args := [d] }
  | _ => none }
def NodeBytesWrongFalsely : Prop := nodeBytesRow.holds Try.pinned (OpenSpec.ofChange nodeBytesWrong)

/-- 'chandlerlaw04.NodeSums': WHATEVER THE INPUT: true; the input reads as it did. -/
def nodeSumsSpec : ChangeSpec := { name := "nodeSums", fn := fun _ => fun
  | [d1, d2] => { results := [.lit (.bool true)], args := [d1, d2] }
  | _ => none }
def nodeSumsRow : OpenClaim := { program := "ythdopgejikcfbaa", sum := "6d8edb45b2cc6069d8d1a22da94eb86a94f85b69542703e869ddb2b909ee5b5f", func := "chandler/chandlerlaw04.NodeSums", spec := "nodeSums", inPlace := ["internal/abi.NoEscape"], unfollowed := true, recurses := true, apart := false }
def NodeSumsSaid : Prop := nodeSumsRow.holds Try.pinned (OpenSpec.ofChange nodeSumsSpec)

/-- ITS FALSE NEIGHBOUR: 'it returns false'. Refute it at one input. -/
def nodeSumsWrong : ChangeSpec := { name := "nodeSums", fn := fun _ => fun
  | [d1, d2] => { results := [.lit (.bool false)], args := [d1, d2] }
  | _ => none }
def NodeSumsWrongFalsely : Prop := nodeSumsRow.holds Try.pinned (OpenSpec.ofChange nodeSumsWrong)

/-- 'chandlerlaw04.NodeHalves': WHATEVER THE INPUT: true; the input reads as it did. -/
def nodeHalvesSpec : ChangeSpec := { name := "nodeHalves", fn := fun _ => fun
  | [d1, d2, d3] => { results := [.lit (.bool true)], args := [d1, d2, d3] }
  | _ => none }
def nodeHalvesRow : OpenClaim := { program := "ythdopgejikcfbaa", sum := "6d8edb45b2cc6069d8d1a22da94eb86a94f85b69542703e869ddb2b909ee5b5f", func := "chandler/chandlerlaw04.NodeHalves", spec := "nodeHalves", inPlace := ["internal/abi.NoEscape"], unfollowed := true, recurses := true, apart := false }
def NodeHalvesSaid : Prop := nodeHalvesRow.holds Try.pinned (OpenSpec.ofChange nodeHalvesSpec)

/-- ITS FALSE NEIGHBOUR: 'it returns false'. Refute it at one input. -/
def nodeHalvesWrong : ChangeSpec := { name := "nodeHalves", fn := fun _ => fun
  | [d1, d2, d3] => { results := [.lit (.bool false)], args := [d1, d2, d3] }
  | _ => none }
def NodeHalvesWrongFalsely : Prop := nodeHalvesRow.holds Try.pinned (OpenSpec.ofChange nodeHalvesWrong)

/-- 'chandlerlaw04.NodeKeeps': WHATEVER THE INPUT: true; the input reads as it did. -/
def nodeKeepsSpec : ChangeSpec := { name := "nodeKeeps", fn := fun _ => fun
  | [d1, d2] => { results := [.lit (.bool true)], args := [d1, d2] }
  | _ => none }
def nodeKeepsRow : OpenClaim := { program := "ythdopgejikcfbaa", sum := "6d8edb45b2cc6069d8d1a22da94eb86a94f85b69542703e869ddb2b909ee5b5f", func := "chandler/chandlerlaw04.NodeKeeps", spec := "nodeKeeps", inPlace := ["internal/abi.NoEscape"], unfollowed := true, recurses := true, apart := false }
def NodeKeepsSaid : Prop := nodeKeepsRow.holds Try.pinned (OpenSpec.ofChange nodeKeepsSpec)

/-- ITS FALSE NEIGHBOUR: 'it returns false'. Refute it at one input. -/
def nodeKeepsWrong : ChangeSpec := { name := "nodeKeeps", fn := fun _ => fun
  | [d1, d2] => { results := [.lit (.bool false)], args := [d1, d2] }
  | _ => none }
def NodeKeepsWrongFalsely : Prop := nodeKeepsRow.holds Try.pinned (OpenSpec.ofChange nodeKeepsWrong)

/- THE SECOND FORM. 'bulk': how many values and letters a reading holds, each counted each time it is reached (what is shared counts as often as it is met; a slice's spare places count too). A statement '..UptoSaid' is the law's where the arguments, and the package variables that the reading takes, are together of bulk at most 1048576: NARROWER than '..Said'. Prove '..Said' where nothing that the law and all that it calls make is longer than what came in: it says more and counts as full. Else prove '..UptoSaid'. A law counts once. -/
mutual
def uptoBulk {H : Type} : DataW H → Nat
  | .lit (.string bytes) => bytes.length + 1
  | .lit _ => 1
  | .nil => 1
  | .ptr d => uptoBulk d + 1
  | .slice elems spare => uptoBulkAll elems + uptoBulkAll spare + 1
  | .agg parts => uptoBulkAll parts + 1
  | .iface _ d => uptoBulk d + 1
  | .map entries => uptoBulkEntries entries + 1
  | .held _ => 1
def uptoBulkAll {H : Type} : List (DataW H) → Nat
  | [] => 0
  | d :: r => uptoBulk d + uptoBulkAll r
def uptoBulkEntries {H : Type} : List (Lit × DataW H) → Nat
  | [] => 0
  | x :: r => uptoBulkEntry x + uptoBulkEntries r
def uptoBulkEntry {H : Type} : Lit × DataW H → Nat
  | (.string bytes, d) => bytes.length + uptoBulk d + 1
  | (_, d) => uptoBulk d + 1
 end
def uptoSmall : (H : Type) → List (DataW H) → Bool := fun _ ds => decide (uptoBulkAll ds ≤ 1048576)
def OpenSpec.upto (s : _root_.Go.ChangeSpec) : _root_.Go.OpenSpec := { _root_.Go.OpenSpec.ofChange s with cond := some uptoSmall }

/-- 'chandlerlaw04.NodePlaces', WHERE WHAT IT READS IS OF BULK AT MOST 1048576: true; the input reads as it did. -/
def nodePlacesUptoRow : OpenClaim := { program := "ythdopgejikcfbaa", sum := "6d8edb45b2cc6069d8d1a22da94eb86a94f85b69542703e869ddb2b909ee5b5f", func := "chandler/chandlerlaw04.NodePlaces", spec := "nodePlaces", inPlace := ["internal/abi.NoEscape"], unfollowed := true, recurses := true, apart := false, narrowed := true }
def NodePlacesUptoSaid : Prop := nodePlacesUptoRow.holds Try.pinned (OpenSpec.upto nodePlacesSpec)

/-- 'chandlerlaw04.NodeGuides', WHERE WHAT IT READS IS OF BULK AT MOST 1048576: true; the input reads as it did. -/
def nodeGuidesUptoRow : OpenClaim := { program := "ythdopgejikcfbaa", sum := "6d8edb45b2cc6069d8d1a22da94eb86a94f85b69542703e869ddb2b909ee5b5f", func := "chandler/chandlerlaw04.NodeGuides", spec := "nodeGuides", inPlace := ["internal/abi.NoEscape"], unfollowed := true, recurses := true, apart := false, narrowed := true }
def NodeGuidesUptoSaid : Prop := nodeGuidesUptoRow.holds Try.pinned (OpenSpec.upto nodeGuidesSpec)

/-- 'chandlerlaw04.NodeBytes', WHERE WHAT IT READS IS OF BULK AT MOST 1048576: true; the input reads as it did. -/
def nodeBytesUptoRow : OpenClaim := { program := "ythdopgejikcfbaa", sum := "6d8edb45b2cc6069d8d1a22da94eb86a94f85b69542703e869ddb2b909ee5b5f", func := "chandler/chandlerlaw04.NodeBytes", spec := "nodeBytes", inPlace := ["internal/abi.NoEscape"], unfollowed := true, recurses := true, apart := false, narrowed := true }
def NodeBytesUptoSaid : Prop := nodeBytesUptoRow.holds Try.pinned (OpenSpec.upto nodeBytesSpec)

/-- 'chandlerlaw04.NodeSums', WHERE WHAT IT READS IS OF BULK AT MOST 1048576: true; the input reads as it did. -/
def nodeSumsUptoRow : OpenClaim := { program := "ythdopgejikcfbaa", sum := "6d8edb45b2cc6069d8d1a22da94eb86a94f85b69542703e869ddb2b909ee5b5f", func := "chandler/chandlerlaw04.NodeSums", spec := "nodeSums", inPlace := ["internal/abi.NoEscape"], unfollowed := true, recurses := true, apart := false, narrowed := true }
def NodeSumsUptoSaid : Prop := nodeSumsUptoRow.holds Try.pinned (OpenSpec.upto nodeSumsSpec)

/-- 'chandlerlaw04.NodeHalves', WHERE WHAT IT READS IS OF BULK AT MOST 1048576: true; the input reads as it did. -/
def nodeHalvesUptoRow : OpenClaim := { program := "ythdopgejikcfbaa", sum := "6d8edb45b2cc6069d8d1a22da94eb86a94f85b69542703e869ddb2b909ee5b5f", func := "chandler/chandlerlaw04.NodeHalves", spec := "nodeHalves", inPlace := ["internal/abi.NoEscape"], unfollowed := true, recurses := true, apart := false, narrowed := true }
def NodeHalvesUptoSaid : Prop := nodeHalvesUptoRow.holds Try.pinned (OpenSpec.upto nodeHalvesSpec)

/-- 'chandlerlaw04.NodeKeeps', WHERE WHAT IT READS IS OF BULK AT MOST 1048576: true; the input reads as it did. -/
def nodeKeepsUptoRow : OpenClaim := { program := "ythdopgejikcfbaa", sum := "6d8edb45b2cc6069d8d1a22da94eb86a94f85b69542703e869ddb2b909ee5b5f", func := "chandler/chandlerlaw04.NodeKeeps", spec := "nodeKeeps", inPlace := ["internal/abi.NoEscape"], unfollowed := true, recurses := true, apart := false, narrowed := true }
def NodeKeepsUptoSaid : Prop := nodeKeepsUptoRow.holds Try.pinned (OpenSpec.upto nodeKeepsSpec)

end Rows
end Go.Proofs.Ythdopgejikcfbaa
