/-
  DERIVED. GIVEN WITH THE SEED: THE CARDS: each row of YtecpfgnkiifnpaaGreatDoorRows.lean that lists a variable, with what it lists TIED to the program's text (the seventh form; the later family's looks); each row that meets fmt, with fmt's text TOLD by the authors' own Lean function (tested against real Go, not proved from fmt's source: count such statements apart). THE CARD IS WHAT COUNTS. Prove the row's statement (the work); the ties are given (YtecpfgnkiifnpaaGreatDoorTie.lean); close each card by the builder's one call (the guide's Derived/Test/ToyasCard.lean, 'card_holds'). Laid BY PROGRAM, IN A SANDBOX (cutbox-door.mjs). By AI agents, Wed Nov 11 2026. No macro, syntax, notation, axiom, sorry.
-/
import Derived.Test.YtecpfgnkiifnpaaGreatDoorRows
import GoSem.ClaimSeven
namespace Go.Proofs.YtecpfgnkiifnpaaGreatDoor
namespace Rows

/-- THE TIED CARD OF 'laws.FnExactReadFlat'. -/
def fnExactReadFlatCard : Claim7 := { stood := { row := fnExactReadFlatRow, standIns := [], harness := (true, "e60ca34d2616cf770609942b31397a7971b9739ffb14f7b328e5ef9ed952bfb9"), looks := false }, kinds := [], alts := [], laidByText := true, laidKinds := [.data], laidTests := true, laidLooks := .later }
def FnExactReadFlatCardSaid : Prop := Claim7.holds Tryz.pinned (.plain (OpenSpec.ofChange fnExactReadFlatSpec)) fnExactReadFlatCard

/-- THE TIED CARD OF 'laws.FnExactTidyFlat'. -/
def fnExactTidyFlatCard : Claim7 := { stood := { row := fnExactTidyFlatRow, standIns := [], harness := (true, "e60ca34d2616cf770609942b31397a7971b9739ffb14f7b328e5ef9ed952bfb9"), looks := false }, kinds := [], alts := [], laidByText := true, laidKinds := [.data, .data, .data, .data], laidTests := true, laidLooks := .later }
def FnExactTidyFlatCardSaid : Prop := Claim7.holds Tryz.pinned (.plain (OpenSpec.ofChange fnExactTidyFlatSpec)) fnExactTidyFlatCard

/-- THE SECOND FORM's CARD OF 'laws.FnExactReadFlat'. -/
def fnExactReadFlatUptoCard : Claim7 := { stood := { row := fnExactReadFlatUptoRow, standIns := [], harness := (true, "e60ca34d2616cf770609942b31397a7971b9739ffb14f7b328e5ef9ed952bfb9"), looks := false }, kinds := [], alts := [], laidByText := true, laidKinds := [.data], laidTests := true, laidLooks := .later }
def FnExactReadFlatUptoCardSaid : Prop := Claim7.holds Tryz.pinned (.plain (OpenSpec.upto fnExactReadFlatSpec)) fnExactReadFlatUptoCard

/-- THE SECOND FORM's CARD OF 'laws.FnExactTidyFlat'. -/
def fnExactTidyFlatUptoCard : Claim7 := { stood := { row := fnExactTidyFlatUptoRow, standIns := [], harness := (true, "e60ca34d2616cf770609942b31397a7971b9739ffb14f7b328e5ef9ed952bfb9"), looks := false }, kinds := [], alts := [], laidByText := true, laidKinds := [.data, .data, .data, .data], laidTests := true, laidLooks := .later }
def FnExactTidyFlatUptoCardSaid : Prop := Claim7.holds Tryz.pinned (.plain (OpenSpec.upto fnExactTidyFlatSpec)) fnExactTidyFlatUptoCard
end Rows
end Go.Proofs.YtecpfgnkiifnpaaGreatDoor
