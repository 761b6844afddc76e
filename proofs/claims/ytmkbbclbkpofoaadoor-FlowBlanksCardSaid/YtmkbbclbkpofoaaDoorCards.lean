/-
  DERIVED. GIVEN WITH THE SEED: THE CARDS: each row of YtmkbbclbkpofoaaDoorRows.lean that lists a variable, with what it lists TIED to the program's text (the seventh form; the later family's looks); each row that meets fmt, with fmt's text TOLD by the authors' own Lean function (tested against real Go, not proved from fmt's source: count such statements apart). THE CARD IS WHAT COUNTS. Prove the row's statement (the work); the ties are given (YtmkbbclbkpofoaaDoorTie.lean); close each card by the builder's one call (the guide's Derived/Test/ToyasCard.lean, 'card_holds'). Laid BY PROGRAM, IN A SANDBOX (cutbox-door.mjs). By AI agents, Wed Nov 11 2026. No macro, syntax, notation, axiom, sorry.
-/
import Derived.Test.YtmkbbclbkpofoaaDoorRows
import GoSem.ClaimSeven
namespace Go.Proofs.YtmkbbclbkpofoaaDoor
namespace Rows

/-- THE TIED CARD OF 'chandlerlaw10.FlowParses'. -/
def flowParsesCard : Claim7 := { stood := { row := flowParsesRow, standIns := [], harness := (true, "e5c44cc4d87dfee01f1a878683a8fe7f89a9ca89ce6c15dcf3ff8d074ddbde8b"), looks := true }, kinds := [], alts := [], laidByText := true, laidKinds := [.data, .data, .data, .data, .sentinel, .sentinel, .pinned], laidTests := true, laidLooks := .later }
def FlowParsesCardSaid : Prop := Claim7.holds Tryd.pinned (.plain (OpenSpec.ofChange flowParsesSpec)) flowParsesCard

/-- THE TIED CARD OF 'chandlerlaw10.FlowWords'. -/
def flowWordsCard : Claim7 := { stood := { row := flowWordsRow, standIns := [], harness := (true, "e5c44cc4d87dfee01f1a878683a8fe7f89a9ca89ce6c15dcf3ff8d074ddbde8b"), looks := true }, kinds := [], alts := [], laidByText := true, laidKinds := [.data, .data, .data, .data, .sentinel, .sentinel, .pinned], laidTests := true, laidLooks := .later }
def FlowWordsCardSaid : Prop := Claim7.holds Tryd.pinned (.plain (OpenSpec.ofChange flowWordsSpec)) flowWordsCard

/-- THE TIED CARD OF 'chandlerlaw10.FlowBlanks'. -/
def flowBlanksCard : Claim7 := { stood := { row := flowBlanksRow, standIns := [], harness := (true, "e5c44cc4d87dfee01f1a878683a8fe7f89a9ca89ce6c15dcf3ff8d074ddbde8b"), looks := true }, kinds := [], alts := [], laidByText := true, laidKinds := [.data, .data, .data, .data, .sentinel, .sentinel, .pinned], laidTests := true, laidLooks := .later }
def FlowBlanksCardSaid : Prop := Claim7.holds Tryd.pinned (.plain (OpenSpec.ofChange flowBlanksSpec)) flowBlanksCard

/-- THE TIED CARD OF 'chandlerlaw10.FlowFirst'. -/
def flowFirstCard : Claim7 := { stood := { row := flowFirstRow, standIns := [], harness := (true, "e5c44cc4d87dfee01f1a878683a8fe7f89a9ca89ce6c15dcf3ff8d074ddbde8b"), looks := true }, kinds := [], alts := [], laidByText := true, laidKinds := [.data, .data, .data, .data, .sentinel, .sentinel, .pinned], laidTests := true, laidLooks := .later }
def FlowFirstCardSaid : Prop := Claim7.holds Tryd.pinned (.plain (OpenSpec.ofChange flowFirstSpec)) flowFirstCard

/-- THE TIED CARD OF 'chandlerlaw10.FlowSteps'. -/
def flowStepsCard : Claim7 := { stood := { row := flowStepsRow, standIns := [], harness := (true, "e5c44cc4d87dfee01f1a878683a8fe7f89a9ca89ce6c15dcf3ff8d074ddbde8b"), looks := true }, kinds := [], alts := [], laidByText := true, laidKinds := [.data, .data, .data, .data, .sentinel, .sentinel, .pinned], laidTests := true, laidLooks := .later }
def FlowStepsCardSaid : Prop := Claim7.holds Tryd.pinned (.plain (OpenSpec.ofChange flowStepsSpec)) flowStepsCard

/-- THE TIED CARD OF 'chandlerlaw10.FlowRanges'. -/
def flowRangesCard : Claim7 := { stood := { row := flowRangesRow, standIns := [], harness := (true, "e5c44cc4d87dfee01f1a878683a8fe7f89a9ca89ce6c15dcf3ff8d074ddbde8b"), looks := true }, kinds := [], alts := [], laidByText := true, laidKinds := [.data, .data, .data, .data, .sentinel, .sentinel, .pinned], laidTests := true, laidLooks := .later }
def FlowRangesCardSaid : Prop := Claim7.holds Tryd.pinned (.plain (OpenSpec.ofChange flowRangesSpec)) flowRangesCard

/-- THE SECOND FORM's CARD OF 'chandlerlaw10.FlowParses'. -/
def flowParsesUptoCard : Claim7 := { stood := { row := flowParsesUptoRow, standIns := [], harness := (true, "e5c44cc4d87dfee01f1a878683a8fe7f89a9ca89ce6c15dcf3ff8d074ddbde8b"), looks := true }, kinds := [], alts := [], laidByText := true, laidKinds := [.data, .data, .data, .data, .sentinel, .sentinel, .pinned], laidTests := true, laidLooks := .later }
def FlowParsesUptoCardSaid : Prop := Claim7.holds Tryd.pinned (.plain (OpenSpec.upto flowParsesSpec)) flowParsesUptoCard

/-- THE SECOND FORM's CARD OF 'chandlerlaw10.FlowWords'. -/
def flowWordsUptoCard : Claim7 := { stood := { row := flowWordsUptoRow, standIns := [], harness := (true, "e5c44cc4d87dfee01f1a878683a8fe7f89a9ca89ce6c15dcf3ff8d074ddbde8b"), looks := true }, kinds := [], alts := [], laidByText := true, laidKinds := [.data, .data, .data, .data, .sentinel, .sentinel, .pinned], laidTests := true, laidLooks := .later }
def FlowWordsUptoCardSaid : Prop := Claim7.holds Tryd.pinned (.plain (OpenSpec.upto flowWordsSpec)) flowWordsUptoCard

/-- THE SECOND FORM's CARD OF 'chandlerlaw10.FlowBlanks'. -/
def flowBlanksUptoCard : Claim7 := { stood := { row := flowBlanksUptoRow, standIns := [], harness := (true, "e5c44cc4d87dfee01f1a878683a8fe7f89a9ca89ce6c15dcf3ff8d074ddbde8b"), looks := true }, kinds := [], alts := [], laidByText := true, laidKinds := [.data, .data, .data, .data, .sentinel, .sentinel, .pinned], laidTests := true, laidLooks := .later }
def FlowBlanksUptoCardSaid : Prop := Claim7.holds Tryd.pinned (.plain (OpenSpec.upto flowBlanksSpec)) flowBlanksUptoCard

/-- THE SECOND FORM's CARD OF 'chandlerlaw10.FlowFirst'. -/
def flowFirstUptoCard : Claim7 := { stood := { row := flowFirstUptoRow, standIns := [], harness := (true, "e5c44cc4d87dfee01f1a878683a8fe7f89a9ca89ce6c15dcf3ff8d074ddbde8b"), looks := true }, kinds := [], alts := [], laidByText := true, laidKinds := [.data, .data, .data, .data, .sentinel, .sentinel, .pinned], laidTests := true, laidLooks := .later }
def FlowFirstUptoCardSaid : Prop := Claim7.holds Tryd.pinned (.plain (OpenSpec.upto flowFirstSpec)) flowFirstUptoCard

/-- THE SECOND FORM's CARD OF 'chandlerlaw10.FlowSteps'. -/
def flowStepsUptoCard : Claim7 := { stood := { row := flowStepsUptoRow, standIns := [], harness := (true, "e5c44cc4d87dfee01f1a878683a8fe7f89a9ca89ce6c15dcf3ff8d074ddbde8b"), looks := true }, kinds := [], alts := [], laidByText := true, laidKinds := [.data, .data, .data, .data, .sentinel, .sentinel, .pinned], laidTests := true, laidLooks := .later }
def FlowStepsUptoCardSaid : Prop := Claim7.holds Tryd.pinned (.plain (OpenSpec.upto flowStepsSpec)) flowStepsUptoCard

/-- THE SECOND FORM's CARD OF 'chandlerlaw10.FlowRanges'. -/
def flowRangesUptoCard : Claim7 := { stood := { row := flowRangesUptoRow, standIns := [], harness := (true, "e5c44cc4d87dfee01f1a878683a8fe7f89a9ca89ce6c15dcf3ff8d074ddbde8b"), looks := true }, kinds := [], alts := [], laidByText := true, laidKinds := [.data, .data, .data, .data, .sentinel, .sentinel, .pinned], laidTests := true, laidLooks := .later }
def FlowRangesUptoCardSaid : Prop := Claim7.holds Tryd.pinned (.plain (OpenSpec.upto flowRangesSpec)) flowRangesUptoCard
end Rows
end Go.Proofs.YtmkbbclbkpofoaaDoor
