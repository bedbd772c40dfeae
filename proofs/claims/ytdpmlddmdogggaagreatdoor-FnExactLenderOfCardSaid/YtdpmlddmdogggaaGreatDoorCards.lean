/-
  DERIVED. GIVEN WITH THE SEED: THE CARDS: each row of YtdpmlddmdogggaaGreatDoorRows.lean that lists a variable, with what it lists TIED to the program's text (the seventh form; the later family's looks); each row that meets fmt, with fmt's text TOLD by the authors' own Lean function (tested against real Go, not proved from fmt's source: count such statements apart). THE CARD IS WHAT COUNTS. Prove the row's statement (the work); the ties are given (YtdpmlddmdogggaaGreatDoorTie.lean); close each card by the builder's one call (the guide's Derived/Test/ToyasCard.lean, 'card_holds'). Laid BY PROGRAM, IN A SANDBOX (cutbox-door.mjs). By AI agents, Wed Nov 11 2026. No macro, syntax, notation, axiom, sorry.
-/
import Derived.Test.YtdpmlddmdogggaaGreatDoorRows
import GoSem.ClaimSeven
namespace Go.Proofs.YtdpmlddmdogggaaGreatDoor
namespace Rows

/-- THE TIED CARD OF 'laws.FnExactFullTokens'. -/
def fnExactFullTokensCard : Claim7 := { stood := { row := fnExactFullTokensRow, standIns := [], harness := (true, "9b28aaf4dfae8bfaf25b79cfbef94c6771199226a3a878099a6defaa4eda291f"), looks := false }, kinds := [], alts := [], laidByText := true, laidKinds := [.data, .data, .data, .data], laidTests := true, laidLooks := .later }
def FnExactFullTokensCardSaid : Prop := Claim7.holds Tryz.pinned (.plain (OpenSpec.ofChange fnExactFullTokensSpec)) fnExactFullTokensCard

/-- THE TIED CARD OF 'laws.FnExactMaySend'. -/
def fnExactMaySendCard : Claim7 := { stood := { row := fnExactMaySendRow, standIns := [], harness := (true, "9b28aaf4dfae8bfaf25b79cfbef94c6771199226a3a878099a6defaa4eda291f"), looks := false }, kinds := [], alts := [], laidByText := true, laidKinds := [.data, .data, .data, .data], laidTests := true, laidLooks := .later }
def FnExactMaySendCardSaid : Prop := Claim7.holds Tryz.pinned (.plain (OpenSpec.ofChange fnExactMaySendSpec)) fnExactMaySendCard

/-- THE TIED CARD OF 'laws.FnExactWaitOf'. -/
def fnExactWaitOfCard : Claim7 := { stood := { row := fnExactWaitOfRow, standIns := [], harness := (true, "9b28aaf4dfae8bfaf25b79cfbef94c6771199226a3a878099a6defaa4eda291f"), looks := false }, kinds := [], alts := [], laidByText := true, laidKinds := [.data, .data, .data, .data], laidTests := true, laidLooks := .later }
def FnExactWaitOfCardSaid : Prop := Claim7.holds Tryz.pinned (.plain (OpenSpec.ofChange fnExactWaitOfSpec)) fnExactWaitOfCard

/-- THE TIED CARD OF 'laws.FnExactIsLoaded'. -/
def fnExactIsLoadedCard : Claim7 := { stood := { row := fnExactIsLoadedRow, standIns := [], harness := (true, "9b28aaf4dfae8bfaf25b79cfbef94c6771199226a3a878099a6defaa4eda291f"), looks := false }, kinds := [], alts := [], laidByText := true, laidKinds := [.data, .data, .data, .data], laidTests := true, laidLooks := .later }
def FnExactIsLoadedCardSaid : Prop := Claim7.holds Tryz.pinned (.plain (OpenSpec.ofChange fnExactIsLoadedSpec)) fnExactIsLoadedCard

/-- THE TIED CARD OF 'laws.FnExactIsInside'. -/
def fnExactIsInsideCard : Claim7 := { stood := { row := fnExactIsInsideRow, standIns := [], harness := (true, "9b28aaf4dfae8bfaf25b79cfbef94c6771199226a3a878099a6defaa4eda291f"), looks := false }, kinds := [], alts := [], laidByText := true, laidKinds := [.data, .data, .data, .data], laidTests := true, laidLooks := .later }
def FnExactIsInsideCardSaid : Prop := Claim7.holds Tryz.pinned (.plain (OpenSpec.ofChange fnExactIsInsideSpec)) fnExactIsInsideCard

/-- THE TIED CARD OF 'laws.FnExactMostIn'. -/
def fnExactMostInCard : Claim7 := { stood := { row := fnExactMostInRow, standIns := [], harness := (true, "9b28aaf4dfae8bfaf25b79cfbef94c6771199226a3a878099a6defaa4eda291f"), looks := false }, kinds := [], alts := [], laidByText := true, laidKinds := [.data, .data, .data, .data], laidTests := true, laidLooks := .later }
def FnExactMostInCardSaid : Prop := Claim7.holds Tryz.pinned (.plain (OpenSpec.ofChange fnExactMostInSpec)) fnExactMostInCard

/-- THE TIED CARD OF 'laws.FnExactCommonAt'. -/
def fnExactCommonAtCard : Claim7 := { stood := { row := fnExactCommonAtRow, standIns := [], harness := (true, "9b28aaf4dfae8bfaf25b79cfbef94c6771199226a3a878099a6defaa4eda291f"), looks := false }, kinds := [], alts := [], laidByText := true, laidKinds := [.data, .data, .data, .data], laidTests := true, laidLooks := .later }
def FnExactCommonAtCardSaid : Prop := Claim7.holds Tryz.pinned (.plain (OpenSpec.ofChange fnExactCommonAtSpec)) fnExactCommonAtCard

/-- THE TIED CARD OF 'laws.FnExactAreTokens'. -/
def fnExactAreTokensCard : Claim7 := { stood := { row := fnExactAreTokensRow, standIns := [], harness := (true, "9b28aaf4dfae8bfaf25b79cfbef94c6771199226a3a878099a6defaa4eda291f"), looks := false }, kinds := [], alts := [], laidByText := true, laidKinds := [.data, .data, .data, .data], laidTests := true, laidLooks := .later }
def FnExactAreTokensCardSaid : Prop := Claim7.holds Tryz.pinned (.plain (OpenSpec.ofChange fnExactAreTokensSpec)) fnExactAreTokensCard

/-- THE TIED CARD OF 'laws.FnExactLeafAt'. -/
def fnExactLeafAtCard : Claim7 := { stood := { row := fnExactLeafAtRow, standIns := [], harness := (true, "9b28aaf4dfae8bfaf25b79cfbef94c6771199226a3a878099a6defaa4eda291f"), looks := false }, kinds := [], alts := [], laidByText := true, laidKinds := [.data, .data, .data, .data], laidTests := true, laidLooks := .later }
def FnExactLeafAtCardSaid : Prop := Claim7.holds Tryz.pinned (.plain (OpenSpec.ofChange fnExactLeafAtSpec)) fnExactLeafAtCard

/-- THE TIED CARD OF 'laws.FnExactKidsAt'. -/
def fnExactKidsAtCard : Claim7 := { stood := { row := fnExactKidsAtRow, standIns := [], harness := (true, "9b28aaf4dfae8bfaf25b79cfbef94c6771199226a3a878099a6defaa4eda291f"), looks := false }, kinds := [], alts := [], laidByText := true, laidKinds := [.data, .data, .data, .data], laidTests := true, laidLooks := .later }
def FnExactKidsAtCardSaid : Prop := Claim7.holds Tryz.pinned (.plain (OpenSpec.ofChange fnExactKidsAtSpec)) fnExactKidsAtCard

/-- THE TIED CARD OF 'laws.FnExactWayAt'. -/
def fnExactWayAtCard : Claim7 := { stood := { row := fnExactWayAtRow, standIns := [], harness := (true, "9b28aaf4dfae8bfaf25b79cfbef94c6771199226a3a878099a6defaa4eda291f"), looks := false }, kinds := [], alts := [], laidByText := true, laidKinds := [.data, .data, .data, .data], laidTests := true, laidLooks := .later }
def FnExactWayAtCardSaid : Prop := Claim7.holds Tryz.pinned (.plain (OpenSpec.ofChange fnExactWayAtSpec)) fnExactWayAtCard

/-- THE TIED CARD OF 'laws.FnExactLeavesAt'. -/
def fnExactLeavesAtCard : Claim7 := { stood := { row := fnExactLeavesAtRow, standIns := [], harness := (true, "9b28aaf4dfae8bfaf25b79cfbef94c6771199226a3a878099a6defaa4eda291f"), looks := false }, kinds := [], alts := [], laidByText := true, laidKinds := [.data, .data, .data, .data], laidTests := true, laidLooks := .later }
def FnExactLeavesAtCardSaid : Prop := Claim7.holds Tryz.pinned (.plain (OpenSpec.ofChange fnExactLeavesAtSpec)) fnExactLeavesAtCard

/-- THE TIED CARD OF 'laws.FnExactDepthsAt'. -/
def fnExactDepthsAtCard : Claim7 := { stood := { row := fnExactDepthsAtRow, standIns := [], harness := (true, "9b28aaf4dfae8bfaf25b79cfbef94c6771199226a3a878099a6defaa4eda291f"), looks := false }, kinds := [], alts := [], laidByText := true, laidKinds := [.data, .data, .data, .data], laidTests := true, laidLooks := .later }
def FnExactDepthsAtCardSaid : Prop := Claim7.holds Tryz.pinned (.plain (OpenSpec.ofChange fnExactDepthsAtSpec)) fnExactDepthsAtCard

/-- THE TIED CARD OF 'laws.FnExactLenderOf'. -/
def fnExactLenderOfCard : Claim7 := { stood := { row := fnExactLenderOfRow, standIns := [], harness := (true, "9b28aaf4dfae8bfaf25b79cfbef94c6771199226a3a878099a6defaa4eda291f"), looks := false }, kinds := [], alts := [], laidByText := true, laidKinds := [.data, .data, .data, .data], laidTests := true, laidLooks := .later }
def FnExactLenderOfCardSaid : Prop := Claim7.holds Tryz.pinned (.plain (OpenSpec.ofChange fnExactLenderOfSpec)) fnExactLenderOfCard

/-- THE SECOND FORM's CARD OF 'laws.FnExactFullTokens'. -/
def fnExactFullTokensUptoCard : Claim7 := { stood := { row := fnExactFullTokensUptoRow, standIns := [], harness := (true, "9b28aaf4dfae8bfaf25b79cfbef94c6771199226a3a878099a6defaa4eda291f"), looks := false }, kinds := [], alts := [], laidByText := true, laidKinds := [.data, .data, .data, .data], laidTests := true, laidLooks := .later }
def FnExactFullTokensUptoCardSaid : Prop := Claim7.holds Tryz.pinned (.plain (OpenSpec.upto fnExactFullTokensSpec)) fnExactFullTokensUptoCard

/-- THE SECOND FORM's CARD OF 'laws.FnExactMaySend'. -/
def fnExactMaySendUptoCard : Claim7 := { stood := { row := fnExactMaySendUptoRow, standIns := [], harness := (true, "9b28aaf4dfae8bfaf25b79cfbef94c6771199226a3a878099a6defaa4eda291f"), looks := false }, kinds := [], alts := [], laidByText := true, laidKinds := [.data, .data, .data, .data], laidTests := true, laidLooks := .later }
def FnExactMaySendUptoCardSaid : Prop := Claim7.holds Tryz.pinned (.plain (OpenSpec.upto fnExactMaySendSpec)) fnExactMaySendUptoCard

/-- THE SECOND FORM's CARD OF 'laws.FnExactWaitOf'. -/
def fnExactWaitOfUptoCard : Claim7 := { stood := { row := fnExactWaitOfUptoRow, standIns := [], harness := (true, "9b28aaf4dfae8bfaf25b79cfbef94c6771199226a3a878099a6defaa4eda291f"), looks := false }, kinds := [], alts := [], laidByText := true, laidKinds := [.data, .data, .data, .data], laidTests := true, laidLooks := .later }
def FnExactWaitOfUptoCardSaid : Prop := Claim7.holds Tryz.pinned (.plain (OpenSpec.upto fnExactWaitOfSpec)) fnExactWaitOfUptoCard

/-- THE SECOND FORM's CARD OF 'laws.FnExactIsLoaded'. -/
def fnExactIsLoadedUptoCard : Claim7 := { stood := { row := fnExactIsLoadedUptoRow, standIns := [], harness := (true, "9b28aaf4dfae8bfaf25b79cfbef94c6771199226a3a878099a6defaa4eda291f"), looks := false }, kinds := [], alts := [], laidByText := true, laidKinds := [.data, .data, .data, .data], laidTests := true, laidLooks := .later }
def FnExactIsLoadedUptoCardSaid : Prop := Claim7.holds Tryz.pinned (.plain (OpenSpec.upto fnExactIsLoadedSpec)) fnExactIsLoadedUptoCard

/-- THE SECOND FORM's CARD OF 'laws.FnExactIsInside'. -/
def fnExactIsInsideUptoCard : Claim7 := { stood := { row := fnExactIsInsideUptoRow, standIns := [], harness := (true, "9b28aaf4dfae8bfaf25b79cfbef94c6771199226a3a878099a6defaa4eda291f"), looks := false }, kinds := [], alts := [], laidByText := true, laidKinds := [.data, .data, .data, .data], laidTests := true, laidLooks := .later }
def FnExactIsInsideUptoCardSaid : Prop := Claim7.holds Tryz.pinned (.plain (OpenSpec.upto fnExactIsInsideSpec)) fnExactIsInsideUptoCard

/-- THE SECOND FORM's CARD OF 'laws.FnExactMostIn'. -/
def fnExactMostInUptoCard : Claim7 := { stood := { row := fnExactMostInUptoRow, standIns := [], harness := (true, "9b28aaf4dfae8bfaf25b79cfbef94c6771199226a3a878099a6defaa4eda291f"), looks := false }, kinds := [], alts := [], laidByText := true, laidKinds := [.data, .data, .data, .data], laidTests := true, laidLooks := .later }
def FnExactMostInUptoCardSaid : Prop := Claim7.holds Tryz.pinned (.plain (OpenSpec.upto fnExactMostInSpec)) fnExactMostInUptoCard

/-- THE SECOND FORM's CARD OF 'laws.FnExactCommonAt'. -/
def fnExactCommonAtUptoCard : Claim7 := { stood := { row := fnExactCommonAtUptoRow, standIns := [], harness := (true, "9b28aaf4dfae8bfaf25b79cfbef94c6771199226a3a878099a6defaa4eda291f"), looks := false }, kinds := [], alts := [], laidByText := true, laidKinds := [.data, .data, .data, .data], laidTests := true, laidLooks := .later }
def FnExactCommonAtUptoCardSaid : Prop := Claim7.holds Tryz.pinned (.plain (OpenSpec.upto fnExactCommonAtSpec)) fnExactCommonAtUptoCard

/-- THE SECOND FORM's CARD OF 'laws.FnExactAreTokens'. -/
def fnExactAreTokensUptoCard : Claim7 := { stood := { row := fnExactAreTokensUptoRow, standIns := [], harness := (true, "9b28aaf4dfae8bfaf25b79cfbef94c6771199226a3a878099a6defaa4eda291f"), looks := false }, kinds := [], alts := [], laidByText := true, laidKinds := [.data, .data, .data, .data], laidTests := true, laidLooks := .later }
def FnExactAreTokensUptoCardSaid : Prop := Claim7.holds Tryz.pinned (.plain (OpenSpec.upto fnExactAreTokensSpec)) fnExactAreTokensUptoCard

/-- THE SECOND FORM's CARD OF 'laws.FnExactLeafAt'. -/
def fnExactLeafAtUptoCard : Claim7 := { stood := { row := fnExactLeafAtUptoRow, standIns := [], harness := (true, "9b28aaf4dfae8bfaf25b79cfbef94c6771199226a3a878099a6defaa4eda291f"), looks := false }, kinds := [], alts := [], laidByText := true, laidKinds := [.data, .data, .data, .data], laidTests := true, laidLooks := .later }
def FnExactLeafAtUptoCardSaid : Prop := Claim7.holds Tryz.pinned (.plain (OpenSpec.upto fnExactLeafAtSpec)) fnExactLeafAtUptoCard

/-- THE SECOND FORM's CARD OF 'laws.FnExactKidsAt'. -/
def fnExactKidsAtUptoCard : Claim7 := { stood := { row := fnExactKidsAtUptoRow, standIns := [], harness := (true, "9b28aaf4dfae8bfaf25b79cfbef94c6771199226a3a878099a6defaa4eda291f"), looks := false }, kinds := [], alts := [], laidByText := true, laidKinds := [.data, .data, .data, .data], laidTests := true, laidLooks := .later }
def FnExactKidsAtUptoCardSaid : Prop := Claim7.holds Tryz.pinned (.plain (OpenSpec.upto fnExactKidsAtSpec)) fnExactKidsAtUptoCard

/-- THE SECOND FORM's CARD OF 'laws.FnExactWayAt'. -/
def fnExactWayAtUptoCard : Claim7 := { stood := { row := fnExactWayAtUptoRow, standIns := [], harness := (true, "9b28aaf4dfae8bfaf25b79cfbef94c6771199226a3a878099a6defaa4eda291f"), looks := false }, kinds := [], alts := [], laidByText := true, laidKinds := [.data, .data, .data, .data], laidTests := true, laidLooks := .later }
def FnExactWayAtUptoCardSaid : Prop := Claim7.holds Tryz.pinned (.plain (OpenSpec.upto fnExactWayAtSpec)) fnExactWayAtUptoCard

/-- THE SECOND FORM's CARD OF 'laws.FnExactLeavesAt'. -/
def fnExactLeavesAtUptoCard : Claim7 := { stood := { row := fnExactLeavesAtUptoRow, standIns := [], harness := (true, "9b28aaf4dfae8bfaf25b79cfbef94c6771199226a3a878099a6defaa4eda291f"), looks := false }, kinds := [], alts := [], laidByText := true, laidKinds := [.data, .data, .data, .data], laidTests := true, laidLooks := .later }
def FnExactLeavesAtUptoCardSaid : Prop := Claim7.holds Tryz.pinned (.plain (OpenSpec.upto fnExactLeavesAtSpec)) fnExactLeavesAtUptoCard

/-- THE SECOND FORM's CARD OF 'laws.FnExactDepthsAt'. -/
def fnExactDepthsAtUptoCard : Claim7 := { stood := { row := fnExactDepthsAtUptoRow, standIns := [], harness := (true, "9b28aaf4dfae8bfaf25b79cfbef94c6771199226a3a878099a6defaa4eda291f"), looks := false }, kinds := [], alts := [], laidByText := true, laidKinds := [.data, .data, .data, .data], laidTests := true, laidLooks := .later }
def FnExactDepthsAtUptoCardSaid : Prop := Claim7.holds Tryz.pinned (.plain (OpenSpec.upto fnExactDepthsAtSpec)) fnExactDepthsAtUptoCard

/-- THE SECOND FORM's CARD OF 'laws.FnExactLenderOf'. -/
def fnExactLenderOfUptoCard : Claim7 := { stood := { row := fnExactLenderOfUptoRow, standIns := [], harness := (true, "9b28aaf4dfae8bfaf25b79cfbef94c6771199226a3a878099a6defaa4eda291f"), looks := false }, kinds := [], alts := [], laidByText := true, laidKinds := [.data, .data, .data, .data], laidTests := true, laidLooks := .later }
def FnExactLenderOfUptoCardSaid : Prop := Claim7.holds Tryz.pinned (.plain (OpenSpec.upto fnExactLenderOfSpec)) fnExactLenderOfUptoCard
end Rows
end Go.Proofs.YtdpmlddmdogggaaGreatDoor
