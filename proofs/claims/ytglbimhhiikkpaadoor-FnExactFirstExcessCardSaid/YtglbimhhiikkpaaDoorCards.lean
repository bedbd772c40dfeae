/-
  DERIVED. GIVEN WITH THE SEED: THE CARDS: each row of YtglbimhhiikkpaaDoorRows.lean that lists a variable, with what it lists TIED to the program's text (the seventh form; the later family's looks); each row that meets fmt, with fmt's text TOLD by the authors' own Lean function (tested against real Go, not proved from fmt's source: count such statements apart). THE CARD IS WHAT COUNTS. Prove the row's statement (the work); the ties are given (YtglbimhhiikkpaaDoorTie.lean); close each card by the builder's one call (the guide's Derived/Test/ToyasCard.lean, 'card_holds'). Laid BY PROGRAM, IN A SANDBOX (cutbox-door.mjs). By AI agents, Wed Nov 11 2026. No macro, syntax, notation, axiom, sorry.
-/
import Derived.Test.YtglbimhhiikkpaaDoorRows
import GoSem.ClaimSeven
namespace Go.Proofs.YtglbimhhiikkpaaDoor
namespace Rows

/-- THE TIED CARD OF 'laws.FnExactKeptClasses'. -/
def fnExactKeptClassesCard : Claim7 := { stood := { row := fnExactKeptClassesRow, standIns := [], harness := (true, "5722bbc4a05b62a5686d7933c49cbfef860ba630a201cc5e4cb4e3ece5c904f1"), looks := false }, kinds := [], alts := [], laidByText := true, laidKinds := [.data], laidTests := true, laidLooks := .later }
def FnExactKeptClassesCardSaid : Prop := Claim7.holds Tryd.pinned (.plain (OpenSpec.ofChange fnExactKeptClassesSpec)) fnExactKeptClassesCard

/-- THE TIED CARD OF 'laws.FnExactCeilsHold'. -/
def fnExactCeilsHoldCard : Claim7 := { stood := { row := fnExactCeilsHoldRow, standIns := [], harness := (true, "5722bbc4a05b62a5686d7933c49cbfef860ba630a201cc5e4cb4e3ece5c904f1"), looks := false }, kinds := [], alts := [], laidByText := true, laidKinds := [.data], laidTests := true, laidLooks := .later }
def FnExactCeilsHoldCardSaid : Prop := Claim7.holds Tryd.pinned (.plain (OpenSpec.ofChange fnExactCeilsHoldSpec)) fnExactCeilsHoldCard

/-- THE TIED CARD OF 'laws.FnExactFirstExcess'. -/
def fnExactFirstExcessCard : Claim7 := { stood := { row := fnExactFirstExcessRow, standIns := [], harness := (true, "5722bbc4a05b62a5686d7933c49cbfef860ba630a201cc5e4cb4e3ece5c904f1"), looks := false }, kinds := [], alts := [], laidByText := true, laidKinds := [.data], laidTests := true, laidLooks := .later }
def FnExactFirstExcessCardSaid : Prop := Claim7.holds Tryd.pinned (.plain (OpenSpec.ofChange fnExactFirstExcessSpec)) fnExactFirstExcessCard

/-- THE TIED CARD OF 'laws.FnExactDiffConfigs'. -/
def fnExactDiffConfigsCard : Claim7 := { stood := { row := fnExactDiffConfigsRow, standIns := [], harness := (true, "5722bbc4a05b62a5686d7933c49cbfef860ba630a201cc5e4cb4e3ece5c904f1"), looks := false }, kinds := [], alts := [], laidByText := true, laidKinds := [.data], laidTests := true, laidLooks := .later }
def FnExactDiffConfigsCardSaid : Prop := Claim7.holds Tryd.pinned (.plain (OpenSpec.ofChange fnExactDiffConfigsSpec)) fnExactDiffConfigsCard

/-- THE TIED CARD OF 'laws.FnExactApplyChange'. -/
def fnExactApplyChangeCard : Claim7 := { stood := { row := fnExactApplyChangeRow, standIns := [], harness := (true, "5722bbc4a05b62a5686d7933c49cbfef860ba630a201cc5e4cb4e3ece5c904f1"), looks := false }, kinds := [], alts := [], laidByText := true, laidKinds := [.data], laidTests := true, laidLooks := .later }
def FnExactApplyChangeCardSaid : Prop := Claim7.holds Tryd.pinned (.plain (OpenSpec.ofChange fnExactApplyChangeSpec)) fnExactApplyChangeCard

/-- THE TIED CARD OF 'laws.FnExactAccountBelow'. -/
def fnExactAccountBelowCard : Claim7 := { stood := { row := fnExactAccountBelowRow, standIns := [], harness := (true, "5722bbc4a05b62a5686d7933c49cbfef860ba630a201cc5e4cb4e3ece5c904f1"), looks := false }, kinds := [], alts := [], laidByText := true, laidKinds := [.data], laidTests := true, laidLooks := .later }
def FnExactAccountBelowCardSaid : Prop := Claim7.holds Tryd.pinned (.plain (OpenSpec.ofChange fnExactAccountBelowSpec)) fnExactAccountBelowCard

/-- THE SECOND FORM's CARD OF 'laws.FnExactKeptClasses'. -/
def fnExactKeptClassesUptoCard : Claim7 := { stood := { row := fnExactKeptClassesUptoRow, standIns := [], harness := (true, "5722bbc4a05b62a5686d7933c49cbfef860ba630a201cc5e4cb4e3ece5c904f1"), looks := false }, kinds := [], alts := [], laidByText := true, laidKinds := [.data], laidTests := true, laidLooks := .later }
def FnExactKeptClassesUptoCardSaid : Prop := Claim7.holds Tryd.pinned (.plain (OpenSpec.upto fnExactKeptClassesSpec)) fnExactKeptClassesUptoCard

/-- THE SECOND FORM's CARD OF 'laws.FnExactCeilsHold'. -/
def fnExactCeilsHoldUptoCard : Claim7 := { stood := { row := fnExactCeilsHoldUptoRow, standIns := [], harness := (true, "5722bbc4a05b62a5686d7933c49cbfef860ba630a201cc5e4cb4e3ece5c904f1"), looks := false }, kinds := [], alts := [], laidByText := true, laidKinds := [.data], laidTests := true, laidLooks := .later }
def FnExactCeilsHoldUptoCardSaid : Prop := Claim7.holds Tryd.pinned (.plain (OpenSpec.upto fnExactCeilsHoldSpec)) fnExactCeilsHoldUptoCard

/-- THE SECOND FORM's CARD OF 'laws.FnExactFirstExcess'. -/
def fnExactFirstExcessUptoCard : Claim7 := { stood := { row := fnExactFirstExcessUptoRow, standIns := [], harness := (true, "5722bbc4a05b62a5686d7933c49cbfef860ba630a201cc5e4cb4e3ece5c904f1"), looks := false }, kinds := [], alts := [], laidByText := true, laidKinds := [.data], laidTests := true, laidLooks := .later }
def FnExactFirstExcessUptoCardSaid : Prop := Claim7.holds Tryd.pinned (.plain (OpenSpec.upto fnExactFirstExcessSpec)) fnExactFirstExcessUptoCard

/-- THE SECOND FORM's CARD OF 'laws.FnExactDiffConfigs'. -/
def fnExactDiffConfigsUptoCard : Claim7 := { stood := { row := fnExactDiffConfigsUptoRow, standIns := [], harness := (true, "5722bbc4a05b62a5686d7933c49cbfef860ba630a201cc5e4cb4e3ece5c904f1"), looks := false }, kinds := [], alts := [], laidByText := true, laidKinds := [.data], laidTests := true, laidLooks := .later }
def FnExactDiffConfigsUptoCardSaid : Prop := Claim7.holds Tryd.pinned (.plain (OpenSpec.upto fnExactDiffConfigsSpec)) fnExactDiffConfigsUptoCard

/-- THE SECOND FORM's CARD OF 'laws.FnExactApplyChange'. -/
def fnExactApplyChangeUptoCard : Claim7 := { stood := { row := fnExactApplyChangeUptoRow, standIns := [], harness := (true, "5722bbc4a05b62a5686d7933c49cbfef860ba630a201cc5e4cb4e3ece5c904f1"), looks := false }, kinds := [], alts := [], laidByText := true, laidKinds := [.data], laidTests := true, laidLooks := .later }
def FnExactApplyChangeUptoCardSaid : Prop := Claim7.holds Tryd.pinned (.plain (OpenSpec.upto fnExactApplyChangeSpec)) fnExactApplyChangeUptoCard

/-- THE SECOND FORM's CARD OF 'laws.FnExactAccountBelow'. -/
def fnExactAccountBelowUptoCard : Claim7 := { stood := { row := fnExactAccountBelowUptoRow, standIns := [], harness := (true, "5722bbc4a05b62a5686d7933c49cbfef860ba630a201cc5e4cb4e3ece5c904f1"), looks := false }, kinds := [], alts := [], laidByText := true, laidKinds := [.data], laidTests := true, laidLooks := .later }
def FnExactAccountBelowUptoCardSaid : Prop := Claim7.holds Tryd.pinned (.plain (OpenSpec.upto fnExactAccountBelowSpec)) fnExactAccountBelowUptoCard
end Rows
end Go.Proofs.YtglbimhhiikkpaaDoor
