/-
  DERIVED. GIVEN WITH THE SEED: THE CARDS: each row of YteleljfnjdlnkaaGreatDoorRows.lean that lists a variable, with what it lists TIED to the program's text (the seventh form; the later family's looks); each row that meets fmt, with fmt's text TOLD by the authors' own Lean function (tested against real Go, not proved from fmt's source: count such statements apart). THE CARD IS WHAT COUNTS. Prove the row's statement (the work); the ties are given (YteleljfnjdlnkaaGreatDoorTie.lean); close each card by the builder's one call (the guide's Derived/Test/ToyasCard.lean, 'card_holds'). Laid BY PROGRAM, IN A SANDBOX (cutbox-door.mjs). By AI agents, Wed Nov 11 2026. No macro, syntax, notation, axiom, sorry.
-/
import Derived.Test.YteleljfnjdlnkaaGreatDoorRows
import GoSem.ClaimSeven
namespace Go.Proofs.YteleljfnjdlnkaaGreatDoor
namespace Rows

/-- THE TIED CARD OF 'laws.FnExactFirstBadStep'. -/
def fnExactFirstBadStepCard : Claim7 := { stood := { row := fnExactFirstBadStepRow, standIns := [], harness := (true, "a35c0db9320b3725184108ca0f4e388a26ec2c0bd284d6aca52425ab09e57a8d"), looks := false }, kinds := [], alts := [], laidByText := true, laidKinds := [.data], laidTests := true, laidLooks := .later }
def FnExactFirstBadStepCardSaid : Prop := Claim7.holds Tryz.pinned (.plain (OpenSpec.ofChange fnExactFirstBadStepSpec)) fnExactFirstBadStepCard

/-- THE TIED CARD OF 'laws.FnExactApplyChanges'. -/
def fnExactApplyChangesCard : Claim7 := { stood := { row := fnExactApplyChangesRow, standIns := [], harness := (true, "a35c0db9320b3725184108ca0f4e388a26ec2c0bd284d6aca52425ab09e57a8d"), looks := false }, kinds := [], alts := [], laidByText := true, laidKinds := [.data], laidTests := true, laidLooks := .later }
def FnExactApplyChangesCardSaid : Prop := Claim7.holds Tryz.pinned (.plain (OpenSpec.ofChange fnExactApplyChangesSpec)) fnExactApplyChangesCard

/-- THE TIED CARD OF 'laws.FnExactUndoOf'. -/
def fnExactUndoOfCard : Claim7 := { stood := { row := fnExactUndoOfRow, standIns := [], harness := (true, "a35c0db9320b3725184108ca0f4e388a26ec2c0bd284d6aca52425ab09e57a8d"), looks := false }, kinds := [], alts := [], laidByText := true, laidKinds := [.data], laidTests := true, laidLooks := .later }
def FnExactUndoOfCardSaid : Prop := Claim7.holds Tryz.pinned (.plain (OpenSpec.ofChange fnExactUndoOfSpec)) fnExactUndoOfCard

/-- THE SECOND FORM's CARD OF 'laws.FnExactFirstBadStep'. -/
def fnExactFirstBadStepUptoCard : Claim7 := { stood := { row := fnExactFirstBadStepUptoRow, standIns := [], harness := (true, "a35c0db9320b3725184108ca0f4e388a26ec2c0bd284d6aca52425ab09e57a8d"), looks := false }, kinds := [], alts := [], laidByText := true, laidKinds := [.data], laidTests := true, laidLooks := .later }
def FnExactFirstBadStepUptoCardSaid : Prop := Claim7.holds Tryz.pinned (.plain (OpenSpec.upto fnExactFirstBadStepSpec)) fnExactFirstBadStepUptoCard

/-- THE SECOND FORM's CARD OF 'laws.FnExactApplyChanges'. -/
def fnExactApplyChangesUptoCard : Claim7 := { stood := { row := fnExactApplyChangesUptoRow, standIns := [], harness := (true, "a35c0db9320b3725184108ca0f4e388a26ec2c0bd284d6aca52425ab09e57a8d"), looks := false }, kinds := [], alts := [], laidByText := true, laidKinds := [.data], laidTests := true, laidLooks := .later }
def FnExactApplyChangesUptoCardSaid : Prop := Claim7.holds Tryz.pinned (.plain (OpenSpec.upto fnExactApplyChangesSpec)) fnExactApplyChangesUptoCard

/-- THE SECOND FORM's CARD OF 'laws.FnExactUndoOf'. -/
def fnExactUndoOfUptoCard : Claim7 := { stood := { row := fnExactUndoOfUptoRow, standIns := [], harness := (true, "a35c0db9320b3725184108ca0f4e388a26ec2c0bd284d6aca52425ab09e57a8d"), looks := false }, kinds := [], alts := [], laidByText := true, laidKinds := [.data], laidTests := true, laidLooks := .later }
def FnExactUndoOfUptoCardSaid : Prop := Claim7.holds Tryz.pinned (.plain (OpenSpec.upto fnExactUndoOfSpec)) fnExactUndoOfUptoCard
end Rows
end Go.Proofs.YteleljfnjdlnkaaGreatDoor
