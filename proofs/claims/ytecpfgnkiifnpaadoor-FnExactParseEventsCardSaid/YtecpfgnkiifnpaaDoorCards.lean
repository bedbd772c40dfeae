/-
  DERIVED. GIVEN WITH THE SEED: THE CARDS: each row of YtecpfgnkiifnpaaDoorRows.lean that lists a variable, with what it lists TIED to the program's text (the seventh form; the later family's looks); each row that meets fmt, with fmt's text TOLD by the authors' own Lean function (tested against real Go, not proved from fmt's source: count such statements apart). THE CARD IS WHAT COUNTS. Prove the row's statement (the work); the ties are given (YtecpfgnkiifnpaaDoorTie.lean); close each card by the builder's one call (the guide's Derived/Test/ToyasCard.lean, 'card_holds'). Laid BY PROGRAM, IN A SANDBOX (cutbox-door.mjs). By AI agents, Wed Nov 11 2026. No macro, syntax, notation, axiom, sorry.
-/
import Derived.Test.YtecpfgnkiifnpaaDoorRows
import GoSem.ClaimSeven
namespace Go.Proofs.YtecpfgnkiifnpaaDoor
namespace Rows

/-- THE TIED CARD OF 'laws.FnExactJoinFlat'. -/
def fnExactJoinFlatCard : Claim7 := { stood := { row := fnExactJoinFlatRow, standIns := [], harness := (true, "14ab636a0c061b0acaa288f53437b899bdee3e80a2584d0b6dffdf82a581d770"), looks := true }, kinds := [], alts := [], laidByText := true, laidKinds := [.data], laidTests := true, laidLooks := .later }
def FnExactJoinFlatCardSaid : Prop := Claim7.holds Tryd.pinned (.plain (OpenSpec.ofChange fnExactJoinFlatSpec)) fnExactJoinFlatCard

/-- THE TIED CARD OF 'laws.FnExactFlatLines'. -/
def fnExactFlatLinesCard : Claim7 := { stood := { row := fnExactFlatLinesRow, standIns := [], harness := (true, "14ab636a0c061b0acaa288f53437b899bdee3e80a2584d0b6dffdf82a581d770"), looks := true }, kinds := [], alts := [], laidByText := true, laidKinds := [.data], laidTests := true, laidLooks := .later }
def FnExactFlatLinesCardSaid : Prop := Claim7.holds Tryd.pinned (.plain (OpenSpec.ofChange fnExactFlatLinesSpec)) fnExactFlatLinesCard

/-- THE TIED CARD OF 'laws.FnExactParseFlat'. -/
def fnExactParseFlatCard : Claim7 := { stood := { row := fnExactParseFlatRow, standIns := [], harness := (true, "14ab636a0c061b0acaa288f53437b899bdee3e80a2584d0b6dffdf82a581d770"), looks := true }, kinds := [], alts := [], laidByText := true, laidKinds := [.data], laidTests := true, laidLooks := .later }
def FnExactParseFlatCardSaid : Prop := Claim7.holds Tryd.pinned (.plain (OpenSpec.ofChange fnExactParseFlatSpec)) fnExactParseFlatCard

/-- THE TIED CARD OF 'laws.FnExactParseEvents'. -/
def fnExactParseEventsCard : Claim7 := { stood := { row := fnExactParseEventsRow, standIns := [], harness := (true, "14ab636a0c061b0acaa288f53437b899bdee3e80a2584d0b6dffdf82a581d770"), looks := true }, kinds := [], alts := [], laidByText := true, laidKinds := [.data, .data, .data, .data, .sentinel, .sentinel, .data, .pinned], laidTests := true, laidLooks := .later }
def FnExactParseEventsCardSaid : Prop := Claim7.holds Tryd.pinned (.plain (OpenSpec.ofChange fnExactParseEventsSpec)) fnExactParseEventsCard

/-- THE SECOND FORM's CARD OF 'laws.FnExactJoinFlat'. -/
def fnExactJoinFlatUptoCard : Claim7 := { stood := { row := fnExactJoinFlatUptoRow, standIns := [], harness := (true, "14ab636a0c061b0acaa288f53437b899bdee3e80a2584d0b6dffdf82a581d770"), looks := true }, kinds := [], alts := [], laidByText := true, laidKinds := [.data], laidTests := true, laidLooks := .later }
def FnExactJoinFlatUptoCardSaid : Prop := Claim7.holds Tryd.pinned (.plain (OpenSpec.upto fnExactJoinFlatSpec)) fnExactJoinFlatUptoCard

/-- THE SECOND FORM's CARD OF 'laws.FnExactFlatLines'. -/
def fnExactFlatLinesUptoCard : Claim7 := { stood := { row := fnExactFlatLinesUptoRow, standIns := [], harness := (true, "14ab636a0c061b0acaa288f53437b899bdee3e80a2584d0b6dffdf82a581d770"), looks := true }, kinds := [], alts := [], laidByText := true, laidKinds := [.data], laidTests := true, laidLooks := .later }
def FnExactFlatLinesUptoCardSaid : Prop := Claim7.holds Tryd.pinned (.plain (OpenSpec.upto fnExactFlatLinesSpec)) fnExactFlatLinesUptoCard

/-- THE SECOND FORM's CARD OF 'laws.FnExactParseFlat'. -/
def fnExactParseFlatUptoCard : Claim7 := { stood := { row := fnExactParseFlatUptoRow, standIns := [], harness := (true, "14ab636a0c061b0acaa288f53437b899bdee3e80a2584d0b6dffdf82a581d770"), looks := true }, kinds := [], alts := [], laidByText := true, laidKinds := [.data], laidTests := true, laidLooks := .later }
def FnExactParseFlatUptoCardSaid : Prop := Claim7.holds Tryd.pinned (.plain (OpenSpec.upto fnExactParseFlatSpec)) fnExactParseFlatUptoCard

/-- THE SECOND FORM's CARD OF 'laws.FnExactParseEvents'. -/
def fnExactParseEventsUptoCard : Claim7 := { stood := { row := fnExactParseEventsUptoRow, standIns := [], harness := (true, "14ab636a0c061b0acaa288f53437b899bdee3e80a2584d0b6dffdf82a581d770"), looks := true }, kinds := [], alts := [], laidByText := true, laidKinds := [.data, .data, .data, .data, .sentinel, .sentinel, .data, .pinned], laidTests := true, laidLooks := .later }
def FnExactParseEventsUptoCardSaid : Prop := Claim7.holds Tryd.pinned (.plain (OpenSpec.upto fnExactParseEventsSpec)) fnExactParseEventsUptoCard
end Rows
end Go.Proofs.YtecpfgnkiifnpaaDoor
