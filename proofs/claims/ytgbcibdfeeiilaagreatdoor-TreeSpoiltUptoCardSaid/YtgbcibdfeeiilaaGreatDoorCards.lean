/-
  DERIVED. GIVEN WITH THE SEED: THE CARDS: each row of YtgbcibdfeeiilaaGreatDoorRows.lean that lists a variable, with what it lists TIED to the program's text (the seventh form; the later family's looks); each row that meets fmt, with fmt's text TOLD by the authors' own Lean function (tested against real Go, not proved from fmt's source: count such statements apart). THE CARD IS WHAT COUNTS. Prove the row's statement (the work); the ties are given (YtgbcibdfeeiilaaGreatDoorTie.lean); close each card by the builder's one call (the guide's Derived/Test/ToyasCard.lean, 'card_holds'). Laid BY PROGRAM, IN A SANDBOX (cutbox-door.mjs). By AI agents, Wed Nov 11 2026. No macro, syntax, notation, axiom, sorry.
-/
import Derived.Test.YtgbcibdfeeiilaaGreatDoorRows
import GoSem.ClaimSeven
namespace Go.Proofs.YtgbcibdfeeiilaaGreatDoor
namespace Rows

/-- THE TIED CARD OF 'chandlerlaw05.TreeHalves'. -/
def treeHalvesCard : Claim7 := { stood := { row := treeHalvesRow, standIns := [], harness := (true, "75b7a2a354c5a957d2f3d53c5921a4a53f9c516919c25918924b691b402c1f53"), looks := false }, kinds := [], alts := [], laidByText := true, laidKinds := [.data, .pinned], laidTests := true, laidLooks := .later }
def TreeHalvesCardSaid : Prop := Claim7.holds Tryz.pinned (.plain (OpenSpec.ofChange treeHalvesSpec)) treeHalvesCard

/-- THE TIED CARD OF 'chandlerlaw05.TreeCuts'. -/
def treeCutsCard : Claim7 := { stood := { row := treeCutsRow, standIns := [], harness := (true, "75b7a2a354c5a957d2f3d53c5921a4a53f9c516919c25918924b691b402c1f53"), looks := false }, kinds := [], alts := [], laidByText := true, laidKinds := [.data, .pinned], laidTests := true, laidLooks := .later }
def TreeCutsCardSaid : Prop := Claim7.holds Tryz.pinned (.plain (OpenSpec.ofChange treeCutsSpec)) treeCutsCard

/-- THE TIED CARD OF 'chandlerlaw05.TreePlays'. -/
def treePlaysCard : Claim7 := { stood := { row := treePlaysRow, standIns := [], harness := (true, "75b7a2a354c5a957d2f3d53c5921a4a53f9c516919c25918924b691b402c1f53"), looks := false }, kinds := [], alts := [], laidByText := true, laidKinds := [.data, .pinned], laidTests := true, laidLooks := .later }
def TreePlaysCardSaid : Prop := Claim7.holds Tryz.pinned (.plain (OpenSpec.ofChange treePlaysSpec)) treePlaysCard

/-- THE TIED CARD OF 'chandlerlaw05.TreeSpoilt'. -/
def treeSpoiltCard : Claim7 := { stood := { row := treeSpoiltRow, standIns := [], harness := (true, "75b7a2a354c5a957d2f3d53c5921a4a53f9c516919c25918924b691b402c1f53"), looks := false }, kinds := [], alts := [], laidByText := true, laidKinds := [.data, .pinned], laidTests := true, laidLooks := .later }
def TreeSpoiltCardSaid : Prop := Claim7.holds Tryz.pinned (.plain (OpenSpec.ofChange treeSpoiltSpec)) treeSpoiltCard

/-- THE TIED CARD OF 'chandlerlaw05.TreeGets'. -/
def treeGetsCard : Claim7 := { stood := { row := treeGetsRow, standIns := [], harness := (true, "75b7a2a354c5a957d2f3d53c5921a4a53f9c516919c25918924b691b402c1f53"), looks := false }, kinds := [], alts := [], laidByText := true, laidKinds := [.data, .pinned], laidTests := true, laidLooks := .later }
def TreeGetsCardSaid : Prop := Claim7.holds Tryz.pinned (.plain (OpenSpec.ofChange treeGetsSpec)) treeGetsCard

/-- THE SECOND FORM's CARD OF 'chandlerlaw05.TreeHalves'. -/
def treeHalvesUptoCard : Claim7 := { stood := { row := treeHalvesUptoRow, standIns := [], harness := (true, "75b7a2a354c5a957d2f3d53c5921a4a53f9c516919c25918924b691b402c1f53"), looks := false }, kinds := [], alts := [], laidByText := true, laidKinds := [.data, .pinned], laidTests := true, laidLooks := .later }
def TreeHalvesUptoCardSaid : Prop := Claim7.holds Tryz.pinned (.plain (OpenSpec.upto treeHalvesSpec)) treeHalvesUptoCard

/-- THE SECOND FORM's CARD OF 'chandlerlaw05.TreeCuts'. -/
def treeCutsUptoCard : Claim7 := { stood := { row := treeCutsUptoRow, standIns := [], harness := (true, "75b7a2a354c5a957d2f3d53c5921a4a53f9c516919c25918924b691b402c1f53"), looks := false }, kinds := [], alts := [], laidByText := true, laidKinds := [.data, .pinned], laidTests := true, laidLooks := .later }
def TreeCutsUptoCardSaid : Prop := Claim7.holds Tryz.pinned (.plain (OpenSpec.upto treeCutsSpec)) treeCutsUptoCard

/-- THE SECOND FORM's CARD OF 'chandlerlaw05.TreePlays'. -/
def treePlaysUptoCard : Claim7 := { stood := { row := treePlaysUptoRow, standIns := [], harness := (true, "75b7a2a354c5a957d2f3d53c5921a4a53f9c516919c25918924b691b402c1f53"), looks := false }, kinds := [], alts := [], laidByText := true, laidKinds := [.data, .pinned], laidTests := true, laidLooks := .later }
def TreePlaysUptoCardSaid : Prop := Claim7.holds Tryz.pinned (.plain (OpenSpec.upto treePlaysSpec)) treePlaysUptoCard

/-- THE SECOND FORM's CARD OF 'chandlerlaw05.TreeSpoilt'. -/
def treeSpoiltUptoCard : Claim7 := { stood := { row := treeSpoiltUptoRow, standIns := [], harness := (true, "75b7a2a354c5a957d2f3d53c5921a4a53f9c516919c25918924b691b402c1f53"), looks := false }, kinds := [], alts := [], laidByText := true, laidKinds := [.data, .pinned], laidTests := true, laidLooks := .later }
def TreeSpoiltUptoCardSaid : Prop := Claim7.holds Tryz.pinned (.plain (OpenSpec.upto treeSpoiltSpec)) treeSpoiltUptoCard

/-- THE SECOND FORM's CARD OF 'chandlerlaw05.TreeGets'. -/
def treeGetsUptoCard : Claim7 := { stood := { row := treeGetsUptoRow, standIns := [], harness := (true, "75b7a2a354c5a957d2f3d53c5921a4a53f9c516919c25918924b691b402c1f53"), looks := false }, kinds := [], alts := [], laidByText := true, laidKinds := [.data, .pinned], laidTests := true, laidLooks := .later }
def TreeGetsUptoCardSaid : Prop := Claim7.holds Tryz.pinned (.plain (OpenSpec.upto treeGetsSpec)) treeGetsUptoCard
end Rows
end Go.Proofs.YtgbcibdfeeiilaaGreatDoor
