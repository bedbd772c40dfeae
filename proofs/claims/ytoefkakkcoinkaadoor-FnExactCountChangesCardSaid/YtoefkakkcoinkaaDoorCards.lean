/-
  DERIVED. GIVEN WITH THE SEED: THE CARDS: each row of YtoefkakkcoinkaaDoorRows.lean that lists a variable, with what it lists TIED to the program's text (the seventh form; the later family's looks); each row that meets fmt, with fmt's text TOLD by the authors' own Lean function (tested against real Go, not proved from fmt's source: count such statements apart). THE CARD IS WHAT COUNTS. Prove the row's statement (the work); the ties are given (YtoefkakkcoinkaaDoorTie.lean); close each card by the builder's one call (the guide's Derived/Test/ToyasCard.lean, 'card_holds'). Laid BY PROGRAM, IN A SANDBOX (cutbox-door.mjs). By AI agents, Wed Nov 11 2026. No macro, syntax, notation, axiom, sorry.
-/
import Derived.Test.YtoefkakkcoinkaaDoorRows
import GoSem.ClaimSeven
namespace Go.Proofs.YtoefkakkcoinkaaDoor
namespace Rows

/-- THE TIED CARD OF 'laws.FnExactIsChange'. -/
def fnExactIsChangeCard : Claim7 := { stood := { row := fnExactIsChangeRow, standIns := [], harness := (true, "f309048ae0707541efef2c2a477ac738632d6465618817115123a4ca6d291631"), looks := false }, kinds := [], alts := [], laidByText := true, laidKinds := [.data], laidTests := true, laidLooks := .later }
def FnExactIsChangeCardSaid : Prop := Claim7.holds Tryd.pinned (.plain (OpenSpec.ofChange fnExactIsChangeSpec)) fnExactIsChangeCard

/-- THE TIED CARD OF 'laws.FnExactCountChanges'. -/
def fnExactCountChangesCard : Claim7 := { stood := { row := fnExactCountChangesRow, standIns := [], harness := (true, "f309048ae0707541efef2c2a477ac738632d6465618817115123a4ca6d291631"), looks := false }, kinds := [], alts := [], laidByText := true, laidKinds := [.data], laidTests := true, laidLooks := .later }
def FnExactCountChangesCardSaid : Prop := Claim7.holds Tryd.pinned (.plain (OpenSpec.ofChange fnExactCountChangesSpec)) fnExactCountChangesCard

/-- THE TIED CARD OF 'laws.FnExactFlatClass'. -/
def fnExactFlatClassCard : Claim7 := { stood := { row := fnExactFlatClassRow, standIns := [], harness := (true, "f309048ae0707541efef2c2a477ac738632d6465618817115123a4ca6d291631"), looks := false }, kinds := [], alts := [], laidByText := true, laidKinds := [.data, .data, .data], laidTests := true, laidLooks := .later }
def FnExactFlatClassCardSaid : Prop := Claim7.holds Tryd.pinned (.plain (OpenSpec.ofChange fnExactFlatClassSpec)) fnExactFlatClassCard

/-- THE TIED CARD OF 'laws.FnExactFlatFilter'. -/
def fnExactFlatFilterCard : Claim7 := { stood := { row := fnExactFlatFilterRow, standIns := [], harness := (true, "f309048ae0707541efef2c2a477ac738632d6465618817115123a4ca6d291631"), looks := false }, kinds := [], alts := [], laidByText := true, laidKinds := [.data, .data, .data], laidTests := true, laidLooks := .later }
def FnExactFlatFilterCardSaid : Prop := Claim7.holds Tryd.pinned (.plain (OpenSpec.ofChange fnExactFlatFilterSpec)) fnExactFlatFilterCard

/-- THE TIED CARD OF 'laws.FnExactJoinFlat'. -/
def fnExactJoinFlatCard : Claim7 := { stood := { row := fnExactJoinFlatRow, standIns := [], harness := (true, "f309048ae0707541efef2c2a477ac738632d6465618817115123a4ca6d291631"), looks := false }, kinds := [], alts := [], laidByText := true, laidKinds := [.data], laidTests := true, laidLooks := .later }
def FnExactJoinFlatCardSaid : Prop := Claim7.holds Tryd.pinned (.plain (OpenSpec.ofChange fnExactJoinFlatSpec)) fnExactJoinFlatCard

/-- THE TIED CARD OF 'laws.FnExactEventsText'. -/
def fnExactEventsTextCard : Claim7 := { stood := { row := fnExactEventsTextRow, standIns := [], harness := (true, "f309048ae0707541efef2c2a477ac738632d6465618817115123a4ca6d291631"), looks := false }, kinds := [], alts := [], laidByText := true, laidKinds := [.data, .data, .data, .data], laidTests := true, laidLooks := .later }
def FnExactEventsTextCardSaid : Prop := Claim7.holds Tryd.pinned (.plain (OpenSpec.ofChange fnExactEventsTextSpec)) fnExactEventsTextCard

/-- THE TIED CARD OF 'laws.FnExactFlatLines'. -/
def fnExactFlatLinesCard : Claim7 := { stood := { row := fnExactFlatLinesRow, standIns := [], harness := (true, "f309048ae0707541efef2c2a477ac738632d6465618817115123a4ca6d291631"), looks := false }, kinds := [], alts := [], laidByText := true, laidKinds := [.data], laidTests := true, laidLooks := .later }
def FnExactFlatLinesCardSaid : Prop := Claim7.holds Tryd.pinned (.plain (OpenSpec.ofChange fnExactFlatLinesSpec)) fnExactFlatLinesCard

/-- THE SECOND FORM's CARD OF 'laws.FnExactIsChange'. -/
def fnExactIsChangeUptoCard : Claim7 := { stood := { row := fnExactIsChangeUptoRow, standIns := [], harness := (true, "f309048ae0707541efef2c2a477ac738632d6465618817115123a4ca6d291631"), looks := false }, kinds := [], alts := [], laidByText := true, laidKinds := [.data], laidTests := true, laidLooks := .later }
def FnExactIsChangeUptoCardSaid : Prop := Claim7.holds Tryd.pinned (.plain (OpenSpec.upto fnExactIsChangeSpec)) fnExactIsChangeUptoCard

/-- THE SECOND FORM's CARD OF 'laws.FnExactCountChanges'. -/
def fnExactCountChangesUptoCard : Claim7 := { stood := { row := fnExactCountChangesUptoRow, standIns := [], harness := (true, "f309048ae0707541efef2c2a477ac738632d6465618817115123a4ca6d291631"), looks := false }, kinds := [], alts := [], laidByText := true, laidKinds := [.data], laidTests := true, laidLooks := .later }
def FnExactCountChangesUptoCardSaid : Prop := Claim7.holds Tryd.pinned (.plain (OpenSpec.upto fnExactCountChangesSpec)) fnExactCountChangesUptoCard

/-- THE SECOND FORM's CARD OF 'laws.FnExactFlatClass'. -/
def fnExactFlatClassUptoCard : Claim7 := { stood := { row := fnExactFlatClassUptoRow, standIns := [], harness := (true, "f309048ae0707541efef2c2a477ac738632d6465618817115123a4ca6d291631"), looks := false }, kinds := [], alts := [], laidByText := true, laidKinds := [.data, .data, .data], laidTests := true, laidLooks := .later }
def FnExactFlatClassUptoCardSaid : Prop := Claim7.holds Tryd.pinned (.plain (OpenSpec.upto fnExactFlatClassSpec)) fnExactFlatClassUptoCard

/-- THE SECOND FORM's CARD OF 'laws.FnExactFlatFilter'. -/
def fnExactFlatFilterUptoCard : Claim7 := { stood := { row := fnExactFlatFilterUptoRow, standIns := [], harness := (true, "f309048ae0707541efef2c2a477ac738632d6465618817115123a4ca6d291631"), looks := false }, kinds := [], alts := [], laidByText := true, laidKinds := [.data, .data, .data], laidTests := true, laidLooks := .later }
def FnExactFlatFilterUptoCardSaid : Prop := Claim7.holds Tryd.pinned (.plain (OpenSpec.upto fnExactFlatFilterSpec)) fnExactFlatFilterUptoCard

/-- THE SECOND FORM's CARD OF 'laws.FnExactJoinFlat'. -/
def fnExactJoinFlatUptoCard : Claim7 := { stood := { row := fnExactJoinFlatUptoRow, standIns := [], harness := (true, "f309048ae0707541efef2c2a477ac738632d6465618817115123a4ca6d291631"), looks := false }, kinds := [], alts := [], laidByText := true, laidKinds := [.data], laidTests := true, laidLooks := .later }
def FnExactJoinFlatUptoCardSaid : Prop := Claim7.holds Tryd.pinned (.plain (OpenSpec.upto fnExactJoinFlatSpec)) fnExactJoinFlatUptoCard

/-- THE SECOND FORM's CARD OF 'laws.FnExactEventsText'. -/
def fnExactEventsTextUptoCard : Claim7 := { stood := { row := fnExactEventsTextUptoRow, standIns := [], harness := (true, "f309048ae0707541efef2c2a477ac738632d6465618817115123a4ca6d291631"), looks := false }, kinds := [], alts := [], laidByText := true, laidKinds := [.data, .data, .data, .data], laidTests := true, laidLooks := .later }
def FnExactEventsTextUptoCardSaid : Prop := Claim7.holds Tryd.pinned (.plain (OpenSpec.upto fnExactEventsTextSpec)) fnExactEventsTextUptoCard

/-- THE SECOND FORM's CARD OF 'laws.FnExactFlatLines'. -/
def fnExactFlatLinesUptoCard : Claim7 := { stood := { row := fnExactFlatLinesUptoRow, standIns := [], harness := (true, "f309048ae0707541efef2c2a477ac738632d6465618817115123a4ca6d291631"), looks := false }, kinds := [], alts := [], laidByText := true, laidKinds := [.data], laidTests := true, laidLooks := .later }
def FnExactFlatLinesUptoCardSaid : Prop := Claim7.holds Tryd.pinned (.plain (OpenSpec.upto fnExactFlatLinesSpec)) fnExactFlatLinesUptoCard
end Rows
end Go.Proofs.YtoefkakkcoinkaaDoor
