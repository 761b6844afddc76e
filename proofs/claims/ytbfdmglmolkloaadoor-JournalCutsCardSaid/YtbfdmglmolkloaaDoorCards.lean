/-
  DERIVED. GIVEN WITH THE SEED: THE CARDS: each row of YtbfdmglmolkloaaDoorRows.lean that lists a variable, with what it lists TIED to the program's text (the seventh form; the later family's looks); each row that meets fmt, with fmt's text TOLD by the authors' own Lean function (tested against real Go, not proved from fmt's source: count such statements apart). THE CARD IS WHAT COUNTS. Prove the row's statement (the work); the ties are given (YtbfdmglmolkloaaDoorTie.lean); close each card by the builder's one call (the guide's Derived/Test/ToyasCard.lean, 'card_holds'). Laid BY PROGRAM, IN A SANDBOX (cutbox-door.mjs). By AI agents, Wed Nov 11 2026. No macro, syntax, notation, axiom, sorry.
-/
import Derived.Test.YtbfdmglmolkloaaDoorRows
import GoSem.ClaimSeven
namespace Go.Proofs.YtbfdmglmolkloaaDoor
namespace Rows

/-- THE TIED CARD OF 'chandlerlaw03.JournalCosts'. -/
def journalCostsCard : Claim7 := { stood := { row := journalCostsRow, standIns := [], harness := (true, "ed5bad7b32d21ca380dca07cd82589a462620ae05a27c9de07a810a0d0c66811"), looks := false }, kinds := [], alts := [], laidByText := true, laidKinds := [.data, .pinned], laidTests := true, laidLooks := .later }
def JournalCostsCardSaid : Prop := Claim7.holds Tryd.pinned (.plain (OpenSpec.ofChange journalCostsSpec)) journalCostsCard

/-- THE TIED CARD OF 'chandlerlaw03.JournalLast'. -/
def journalLastCard : Claim7 := { stood := { row := journalLastRow, standIns := [], harness := (true, "ed5bad7b32d21ca380dca07cd82589a462620ae05a27c9de07a810a0d0c66811"), looks := false }, kinds := [], alts := [], laidByText := true, laidKinds := [.data, .pinned], laidTests := true, laidLooks := .later }
def JournalLastCardSaid : Prop := Claim7.holds Tryd.pinned (.plain (OpenSpec.ofChange journalLastSpec)) journalLastCard

/-- THE TIED CARD OF 'chandlerlaw03.JournalHeads'. -/
def journalHeadsCard : Claim7 := { stood := { row := journalHeadsRow, standIns := [], harness := (true, "ed5bad7b32d21ca380dca07cd82589a462620ae05a27c9de07a810a0d0c66811"), looks := false }, kinds := [], alts := [], laidByText := true, laidKinds := [.data, .pinned], laidTests := true, laidLooks := .later }
def JournalHeadsCardSaid : Prop := Claim7.holds Tryd.pinned (.plain (OpenSpec.ofChange journalHeadsSpec)) journalHeadsCard

/-- THE TIED CARD OF 'chandlerlaw03.JournalRefuses'. -/
def journalRefusesCard : Claim7 := { stood := { row := journalRefusesRow, standIns := [], harness := (true, "ed5bad7b32d21ca380dca07cd82589a462620ae05a27c9de07a810a0d0c66811"), looks := false }, kinds := [], alts := [], laidByText := true, laidKinds := [.data, .pinned], laidTests := true, laidLooks := .later }
def JournalRefusesCardSaid : Prop := Claim7.holds Tryd.pinned (.plain (OpenSpec.ofChange journalRefusesSpec)) journalRefusesCard

/-- THE TIED CARD OF 'chandlerlaw03.JournalRooms'. -/
def journalRoomsCard : Claim7 := { stood := { row := journalRoomsRow, standIns := [], harness := (true, "ed5bad7b32d21ca380dca07cd82589a462620ae05a27c9de07a810a0d0c66811"), looks := false }, kinds := [], alts := [], laidByText := true, laidKinds := [.data, .pinned], laidTests := true, laidLooks := .later }
def JournalRoomsCardSaid : Prop := Claim7.holds Tryd.pinned (.plain (OpenSpec.ofChange journalRoomsSpec)) journalRoomsCard

/-- THE TIED CARD OF 'chandlerlaw03.JournalCuts'. -/
def journalCutsCard : Claim7 := { stood := { row := journalCutsRow, standIns := [], harness := (true, "ed5bad7b32d21ca380dca07cd82589a462620ae05a27c9de07a810a0d0c66811"), looks := false }, kinds := [], alts := [], laidByText := true, laidKinds := [.data, .pinned], laidTests := true, laidLooks := .later }
def JournalCutsCardSaid : Prop := Claim7.holds Tryd.pinned (.plain (OpenSpec.ofChange journalCutsSpec)) journalCutsCard

/-- THE SECOND FORM's CARD OF 'chandlerlaw03.JournalCosts'. -/
def journalCostsUptoCard : Claim7 := { stood := { row := journalCostsUptoRow, standIns := [], harness := (true, "ed5bad7b32d21ca380dca07cd82589a462620ae05a27c9de07a810a0d0c66811"), looks := false }, kinds := [], alts := [], laidByText := true, laidKinds := [.data, .pinned], laidTests := true, laidLooks := .later }
def JournalCostsUptoCardSaid : Prop := Claim7.holds Tryd.pinned (.plain (OpenSpec.upto journalCostsSpec)) journalCostsUptoCard

/-- THE SECOND FORM's CARD OF 'chandlerlaw03.JournalLast'. -/
def journalLastUptoCard : Claim7 := { stood := { row := journalLastUptoRow, standIns := [], harness := (true, "ed5bad7b32d21ca380dca07cd82589a462620ae05a27c9de07a810a0d0c66811"), looks := false }, kinds := [], alts := [], laidByText := true, laidKinds := [.data, .pinned], laidTests := true, laidLooks := .later }
def JournalLastUptoCardSaid : Prop := Claim7.holds Tryd.pinned (.plain (OpenSpec.upto journalLastSpec)) journalLastUptoCard

/-- THE SECOND FORM's CARD OF 'chandlerlaw03.JournalHeads'. -/
def journalHeadsUptoCard : Claim7 := { stood := { row := journalHeadsUptoRow, standIns := [], harness := (true, "ed5bad7b32d21ca380dca07cd82589a462620ae05a27c9de07a810a0d0c66811"), looks := false }, kinds := [], alts := [], laidByText := true, laidKinds := [.data, .pinned], laidTests := true, laidLooks := .later }
def JournalHeadsUptoCardSaid : Prop := Claim7.holds Tryd.pinned (.plain (OpenSpec.upto journalHeadsSpec)) journalHeadsUptoCard

/-- THE SECOND FORM's CARD OF 'chandlerlaw03.JournalRefuses'. -/
def journalRefusesUptoCard : Claim7 := { stood := { row := journalRefusesUptoRow, standIns := [], harness := (true, "ed5bad7b32d21ca380dca07cd82589a462620ae05a27c9de07a810a0d0c66811"), looks := false }, kinds := [], alts := [], laidByText := true, laidKinds := [.data, .pinned], laidTests := true, laidLooks := .later }
def JournalRefusesUptoCardSaid : Prop := Claim7.holds Tryd.pinned (.plain (OpenSpec.upto journalRefusesSpec)) journalRefusesUptoCard

/-- THE SECOND FORM's CARD OF 'chandlerlaw03.JournalRooms'. -/
def journalRoomsUptoCard : Claim7 := { stood := { row := journalRoomsUptoRow, standIns := [], harness := (true, "ed5bad7b32d21ca380dca07cd82589a462620ae05a27c9de07a810a0d0c66811"), looks := false }, kinds := [], alts := [], laidByText := true, laidKinds := [.data, .pinned], laidTests := true, laidLooks := .later }
def JournalRoomsUptoCardSaid : Prop := Claim7.holds Tryd.pinned (.plain (OpenSpec.upto journalRoomsSpec)) journalRoomsUptoCard

/-- THE SECOND FORM's CARD OF 'chandlerlaw03.JournalCuts'. -/
def journalCutsUptoCard : Claim7 := { stood := { row := journalCutsUptoRow, standIns := [], harness := (true, "ed5bad7b32d21ca380dca07cd82589a462620ae05a27c9de07a810a0d0c66811"), looks := false }, kinds := [], alts := [], laidByText := true, laidKinds := [.data, .pinned], laidTests := true, laidLooks := .later }
def JournalCutsUptoCardSaid : Prop := Claim7.holds Tryd.pinned (.plain (OpenSpec.upto journalCutsSpec)) journalCutsUptoCard
end Rows
end Go.Proofs.YtbfdmglmolkloaaDoor
