/-
  DERIVED. GIVEN WITH THE SEED: THE CARDS: each row of YtlfgjdfecgjphaaGreatDoorRows.lean that lists a variable, with what it lists TIED to the program's text (the seventh form; the later family's looks); each row that meets fmt, with fmt's text TOLD by the authors' own Lean function (tested against real Go, not proved from fmt's source: count such statements apart). THE CARD IS WHAT COUNTS. Prove the row's statement (the work); the ties are given (YtlfgjdfecgjphaaGreatDoorTie.lean); close each card by the builder's one call (the guide's Derived/Test/ToyasCard.lean, 'card_holds'). Laid BY PROGRAM, IN A SANDBOX (cutbox-door.mjs). By AI agents, Wed Nov 11 2026. No macro, syntax, notation, axiom, sorry.
-/
import Derived.Test.YtlfgjdfecgjphaaGreatDoorRows
import GoSem.ClaimSeven
namespace Go.Proofs.YtlfgjdfecgjphaaGreatDoor
namespace Rows

/-- THE TIED CARD OF 'laws.FnExactLineOfClass'. -/
def fnExactLineOfClassCard : Claim7 := { stood := { row := fnExactLineOfClassRow, standIns := [], harness := (true, "9a33447e405a1449ecf1ab694c7e27507f2af49978b92f2858a85b2c0fcfef8b"), looks := false }, kinds := [], alts := [], laidByText := true, laidKinds := [.data, .data, .data, .data], laidTests := true, laidLooks := .later }
def FnExactLineOfClassCardSaid : Prop := Claim7.holds Tryz.pinned (.plain (OpenSpec.ofChange fnExactLineOfClassSpec)) fnExactLineOfClassCard

/-- THE TIED CARD OF 'laws.FnExactLinesOfPart'. -/
def fnExactLinesOfPartCard : Claim7 := { stood := { row := fnExactLinesOfPartRow, standIns := [], harness := (true, "9a33447e405a1449ecf1ab694c7e27507f2af49978b92f2858a85b2c0fcfef8b"), looks := false }, kinds := [], alts := [], laidByText := true, laidKinds := [.data, .data, .data, .data], laidTests := true, laidLooks := .later }
def FnExactLinesOfPartCardSaid : Prop := Claim7.holds Tryz.pinned (.plain (OpenSpec.ofChange fnExactLinesOfPartSpec)) fnExactLinesOfPartCard

/-- THE TIED CARD OF 'laws.FnExactTreeText'. -/
def fnExactTreeTextCard : Claim7 := { stood := { row := fnExactTreeTextRow, standIns := [], harness := (true, "9a33447e405a1449ecf1ab694c7e27507f2af49978b92f2858a85b2c0fcfef8b"), looks := false }, kinds := [], alts := [], laidByText := true, laidKinds := [.data, .data, .data, .data], laidTests := true, laidLooks := .later }
def FnExactTreeTextCardSaid : Prop := Claim7.holds Tryz.pinned (.plain (OpenSpec.ofChange fnExactTreeTextSpec)) fnExactTreeTextCard

/-- THE TIED CARD OF 'laws.FnExactWalkClasses'. -/
def fnExactWalkClassesCard : Claim7 := { stood := { row := fnExactWalkClassesRow, standIns := [], harness := (true, "9a33447e405a1449ecf1ab694c7e27507f2af49978b92f2858a85b2c0fcfef8b"), looks := false }, kinds := [], alts := [], laidByText := true, laidKinds := [.data, .data, .data, .data], laidTests := true, laidLooks := .later }
def FnExactWalkClassesCardSaid : Prop := Claim7.holds Tryz.pinned (.plain (OpenSpec.ofChange fnExactWalkClassesSpec)) fnExactWalkClassesCard

/-- THE TIED CARD OF 'laws.FnExactPrintConfig'. -/
def fnExactPrintConfigCard : Claim7 := { stood := { row := fnExactPrintConfigRow, standIns := [], harness := (true, "9a33447e405a1449ecf1ab694c7e27507f2af49978b92f2858a85b2c0fcfef8b"), looks := false }, kinds := [], alts := [], laidByText := true, laidKinds := [.data, .data, .data, .data], laidTests := true, laidLooks := .later }
def FnExactPrintConfigCardSaid : Prop := Claim7.holds Tryz.pinned (.plain (OpenSpec.ofChange fnExactPrintConfigSpec)) fnExactPrintConfigCard

/-- THE TIED CARD OF 'laws.FnExactLoadConfig'. -/
def fnExactLoadConfigCard : Claim7 := { stood := { row := fnExactLoadConfigRow, standIns := [], harness := (true, "9a33447e405a1449ecf1ab694c7e27507f2af49978b92f2858a85b2c0fcfef8b"), looks := false }, kinds := [], alts := [], laidByText := true, laidKinds := [.data, .data, .data, .data], laidTests := true, laidLooks := .later }
def FnExactLoadConfigCardSaid : Prop := Claim7.holds Tryz.pinned (.plain (OpenSpec.ofChange fnExactLoadConfigSpec)) fnExactLoadConfigCard

/-- THE SECOND FORM's CARD OF 'laws.FnExactLineOfClass'. -/
def fnExactLineOfClassUptoCard : Claim7 := { stood := { row := fnExactLineOfClassUptoRow, standIns := [], harness := (true, "9a33447e405a1449ecf1ab694c7e27507f2af49978b92f2858a85b2c0fcfef8b"), looks := false }, kinds := [], alts := [], laidByText := true, laidKinds := [.data, .data, .data, .data], laidTests := true, laidLooks := .later }
def FnExactLineOfClassUptoCardSaid : Prop := Claim7.holds Tryz.pinned (.plain (OpenSpec.upto fnExactLineOfClassSpec)) fnExactLineOfClassUptoCard

/-- THE SECOND FORM's CARD OF 'laws.FnExactLinesOfPart'. -/
def fnExactLinesOfPartUptoCard : Claim7 := { stood := { row := fnExactLinesOfPartUptoRow, standIns := [], harness := (true, "9a33447e405a1449ecf1ab694c7e27507f2af49978b92f2858a85b2c0fcfef8b"), looks := false }, kinds := [], alts := [], laidByText := true, laidKinds := [.data, .data, .data, .data], laidTests := true, laidLooks := .later }
def FnExactLinesOfPartUptoCardSaid : Prop := Claim7.holds Tryz.pinned (.plain (OpenSpec.upto fnExactLinesOfPartSpec)) fnExactLinesOfPartUptoCard

/-- THE SECOND FORM's CARD OF 'laws.FnExactTreeText'. -/
def fnExactTreeTextUptoCard : Claim7 := { stood := { row := fnExactTreeTextUptoRow, standIns := [], harness := (true, "9a33447e405a1449ecf1ab694c7e27507f2af49978b92f2858a85b2c0fcfef8b"), looks := false }, kinds := [], alts := [], laidByText := true, laidKinds := [.data, .data, .data, .data], laidTests := true, laidLooks := .later }
def FnExactTreeTextUptoCardSaid : Prop := Claim7.holds Tryz.pinned (.plain (OpenSpec.upto fnExactTreeTextSpec)) fnExactTreeTextUptoCard

/-- THE SECOND FORM's CARD OF 'laws.FnExactWalkClasses'. -/
def fnExactWalkClassesUptoCard : Claim7 := { stood := { row := fnExactWalkClassesUptoRow, standIns := [], harness := (true, "9a33447e405a1449ecf1ab694c7e27507f2af49978b92f2858a85b2c0fcfef8b"), looks := false }, kinds := [], alts := [], laidByText := true, laidKinds := [.data, .data, .data, .data], laidTests := true, laidLooks := .later }
def FnExactWalkClassesUptoCardSaid : Prop := Claim7.holds Tryz.pinned (.plain (OpenSpec.upto fnExactWalkClassesSpec)) fnExactWalkClassesUptoCard

/-- THE SECOND FORM's CARD OF 'laws.FnExactPrintConfig'. -/
def fnExactPrintConfigUptoCard : Claim7 := { stood := { row := fnExactPrintConfigUptoRow, standIns := [], harness := (true, "9a33447e405a1449ecf1ab694c7e27507f2af49978b92f2858a85b2c0fcfef8b"), looks := false }, kinds := [], alts := [], laidByText := true, laidKinds := [.data, .data, .data, .data], laidTests := true, laidLooks := .later }
def FnExactPrintConfigUptoCardSaid : Prop := Claim7.holds Tryz.pinned (.plain (OpenSpec.upto fnExactPrintConfigSpec)) fnExactPrintConfigUptoCard

/-- THE SECOND FORM's CARD OF 'laws.FnExactLoadConfig'. -/
def fnExactLoadConfigUptoCard : Claim7 := { stood := { row := fnExactLoadConfigUptoRow, standIns := [], harness := (true, "9a33447e405a1449ecf1ab694c7e27507f2af49978b92f2858a85b2c0fcfef8b"), looks := false }, kinds := [], alts := [], laidByText := true, laidKinds := [.data, .data, .data, .data], laidTests := true, laidLooks := .later }
def FnExactLoadConfigUptoCardSaid : Prop := Claim7.holds Tryz.pinned (.plain (OpenSpec.upto fnExactLoadConfigSpec)) fnExactLoadConfigUptoCard
end Rows
end Go.Proofs.YtlfgjdfecgjphaaGreatDoor
