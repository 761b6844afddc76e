/-
  DERIVED. GIVEN WITH THE SEED: THE CARDS: each row of YtkinkgbmlhiakaaGreatDoorRows.lean that lists a variable, with what it lists TIED to the program's text (the seventh form; the later family's looks); each row that meets fmt, with fmt's text TOLD by the authors' own Lean function (tested against real Go, not proved from fmt's source: count such statements apart). THE CARD IS WHAT COUNTS. Prove the row's statement (the work); the ties are given (YtkinkgbmlhiakaaGreatDoorTie.lean); close each card by the builder's one call (the guide's Derived/Test/ToyasCard.lean, 'card_holds'). Laid BY PROGRAM, IN A SANDBOX (cutbox-door.mjs). By AI agents, Wed Nov 11 2026. No macro, syntax, notation, axiom, sorry.
-/
import Derived.Test.YtkinkgbmlhiakaaGreatDoorRows
import GoSem.ClaimSeven
namespace Go.Proofs.YtkinkgbmlhiakaaGreatDoor
namespace Rows

/-- THE TIED CARD OF 'chandlerlaw06.RowsTurn'. -/
def rowsTurnCard : Claim7 := { stood := { row := rowsTurnRow, standIns := [], harness := (true, "70e45b898653383c6984f46a7eb29c18251557a8b20ff6ca66c0a4464698747d"), looks := false }, kinds := [], alts := [], laidByText := true, laidKinds := [.data, .pinned], laidTests := true, laidLooks := .later }
def RowsTurnCardSaid : Prop := Claim7.holds Tryz.pinned (.plain (OpenSpec.ofChange rowsTurnSpec)) rowsTurnCard

/-- THE TIED CARD OF 'chandlerlaw06.RowsTables'. -/
def rowsTablesCard : Claim7 := { stood := { row := rowsTablesRow, standIns := [], harness := (true, "70e45b898653383c6984f46a7eb29c18251557a8b20ff6ca66c0a4464698747d"), looks := false }, kinds := [], alts := [], laidByText := true, laidKinds := [.data, .pinned], laidTests := true, laidLooks := .later }
def RowsTablesCardSaid : Prop := Claim7.holds Tryz.pinned (.plain (OpenSpec.ofChange rowsTablesSpec)) rowsTablesCard

/-- THE TIED CARD OF 'chandlerlaw06.RowsFinds'. -/
def rowsFindsCard : Claim7 := { stood := { row := rowsFindsRow, standIns := [], harness := (true, "70e45b898653383c6984f46a7eb29c18251557a8b20ff6ca66c0a4464698747d"), looks := false }, kinds := [], alts := [], laidByText := true, laidKinds := [.data, .pinned], laidTests := true, laidLooks := .later }
def RowsFindsCardSaid : Prop := Claim7.holds Tryz.pinned (.plain (OpenSpec.ofChange rowsFindsSpec)) rowsFindsCard

/-- THE TIED CARD OF 'chandlerlaw06.RowsKept'. -/
def rowsKeptCard : Claim7 := { stood := { row := rowsKeptRow, standIns := [], harness := (true, "70e45b898653383c6984f46a7eb29c18251557a8b20ff6ca66c0a4464698747d"), looks := false }, kinds := [], alts := [], laidByText := true, laidKinds := [.data, .pinned], laidTests := true, laidLooks := .later }
def RowsKeptCardSaid : Prop := Claim7.holds Tryz.pinned (.plain (OpenSpec.ofChange rowsKeptSpec)) rowsKeptCard

/-- THE SECOND FORM's CARD OF 'chandlerlaw06.RowsTurn'. -/
def rowsTurnUptoCard : Claim7 := { stood := { row := rowsTurnUptoRow, standIns := [], harness := (true, "70e45b898653383c6984f46a7eb29c18251557a8b20ff6ca66c0a4464698747d"), looks := false }, kinds := [], alts := [], laidByText := true, laidKinds := [.data, .pinned], laidTests := true, laidLooks := .later }
def RowsTurnUptoCardSaid : Prop := Claim7.holds Tryz.pinned (.plain (OpenSpec.upto rowsTurnSpec)) rowsTurnUptoCard

/-- THE SECOND FORM's CARD OF 'chandlerlaw06.RowsTables'. -/
def rowsTablesUptoCard : Claim7 := { stood := { row := rowsTablesUptoRow, standIns := [], harness := (true, "70e45b898653383c6984f46a7eb29c18251557a8b20ff6ca66c0a4464698747d"), looks := false }, kinds := [], alts := [], laidByText := true, laidKinds := [.data, .pinned], laidTests := true, laidLooks := .later }
def RowsTablesUptoCardSaid : Prop := Claim7.holds Tryz.pinned (.plain (OpenSpec.upto rowsTablesSpec)) rowsTablesUptoCard

/-- THE SECOND FORM's CARD OF 'chandlerlaw06.RowsFinds'. -/
def rowsFindsUptoCard : Claim7 := { stood := { row := rowsFindsUptoRow, standIns := [], harness := (true, "70e45b898653383c6984f46a7eb29c18251557a8b20ff6ca66c0a4464698747d"), looks := false }, kinds := [], alts := [], laidByText := true, laidKinds := [.data, .pinned], laidTests := true, laidLooks := .later }
def RowsFindsUptoCardSaid : Prop := Claim7.holds Tryz.pinned (.plain (OpenSpec.upto rowsFindsSpec)) rowsFindsUptoCard

/-- THE SECOND FORM's CARD OF 'chandlerlaw06.RowsKept'. -/
def rowsKeptUptoCard : Claim7 := { stood := { row := rowsKeptUptoRow, standIns := [], harness := (true, "70e45b898653383c6984f46a7eb29c18251557a8b20ff6ca66c0a4464698747d"), looks := false }, kinds := [], alts := [], laidByText := true, laidKinds := [.data, .pinned], laidTests := true, laidLooks := .later }
def RowsKeptUptoCardSaid : Prop := Claim7.holds Tryz.pinned (.plain (OpenSpec.upto rowsKeptSpec)) rowsKeptUptoCard
end Rows
end Go.Proofs.YtkinkgbmlhiakaaGreatDoor
