/-
  DERIVED. GIVEN WITH THE SEED: THE CARDS: each row of YtflhbkcjfmajeaaGreatDoorRows.lean that lists a variable, with what it lists TIED to the program's text (the seventh form; the later family's looks); each row that meets fmt, with fmt's text TOLD by the authors' own Lean function (tested against real Go, not proved from fmt's source: count such statements apart). THE CARD IS WHAT COUNTS. Prove the row's statement (the work); the ties are given (YtflhbkcjfmajeaaGreatDoorTie.lean); close each card by the builder's one call (the guide's Derived/Test/ToyasCard.lean, 'card_holds'). Laid BY PROGRAM, IN A SANDBOX (cutbox-door.mjs). By AI agents, Wed Nov 11 2026. No macro, syntax, notation, axiom, sorry.
-/
import Derived.Test.YtflhbkcjfmajeaaGreatDoorRows
import GoSem.ClaimSeven
namespace Go.Proofs.YtflhbkcjfmajeaaGreatDoor
namespace Rows

/-- THE TIED CARD OF 'laws.FnExactLoadConfig'. -/
def fnExactLoadConfigCard : Claim7 := { stood := { row := fnExactLoadConfigRow, standIns := [], harness := (true, "04cf1beb367ed918909747b91546f17a386c721056e3b69dce21034c2ee896e1"), looks := false }, kinds := [], alts := [], laidByText := true, laidKinds := [.data, .data, .data, .data], laidTests := true, laidLooks := .later }
def FnExactLoadConfigCardSaid : Prop := Claim7.holds Tryz.pinned (.plain (OpenSpec.ofChange fnExactLoadConfigSpec)) fnExactLoadConfigCard

/-- THE TIED CARD OF 'laws.FnExactIsLoaded'. -/
def fnExactIsLoadedCard : Claim7 := { stood := { row := fnExactIsLoadedRow, standIns := [], harness := (true, "04cf1beb367ed918909747b91546f17a386c721056e3b69dce21034c2ee896e1"), looks := false }, kinds := [], alts := [], laidByText := true, laidKinds := [.data, .data, .data, .data], laidTests := true, laidLooks := .later }
def FnExactIsLoadedCardSaid : Prop := Claim7.holds Tryz.pinned (.plain (OpenSpec.ofChange fnExactIsLoadedSpec)) fnExactIsLoadedCard

/-- THE SECOND FORM's CARD OF 'laws.FnExactLoadConfig'. -/
def fnExactLoadConfigUptoCard : Claim7 := { stood := { row := fnExactLoadConfigUptoRow, standIns := [], harness := (true, "04cf1beb367ed918909747b91546f17a386c721056e3b69dce21034c2ee896e1"), looks := false }, kinds := [], alts := [], laidByText := true, laidKinds := [.data, .data, .data, .data], laidTests := true, laidLooks := .later }
def FnExactLoadConfigUptoCardSaid : Prop := Claim7.holds Tryz.pinned (.plain (OpenSpec.upto fnExactLoadConfigSpec)) fnExactLoadConfigUptoCard

/-- THE SECOND FORM's CARD OF 'laws.FnExactIsLoaded'. -/
def fnExactIsLoadedUptoCard : Claim7 := { stood := { row := fnExactIsLoadedUptoRow, standIns := [], harness := (true, "04cf1beb367ed918909747b91546f17a386c721056e3b69dce21034c2ee896e1"), looks := false }, kinds := [], alts := [], laidByText := true, laidKinds := [.data, .data, .data, .data], laidTests := true, laidLooks := .later }
def FnExactIsLoadedUptoCardSaid : Prop := Claim7.holds Tryz.pinned (.plain (OpenSpec.upto fnExactIsLoadedSpec)) fnExactIsLoadedUptoCard
end Rows
end Go.Proofs.YtflhbkcjfmajeaaGreatDoor
