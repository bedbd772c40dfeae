/-
  DERIVED. GIVEN WITH THE SEED: THE CARDS: each row of YtbiakbagcdghlaaDoorRows.lean that lists a variable, with what it lists TIED to the program's text (the seventh form; the later family's looks); each row that meets fmt, with fmt's text TOLD by the authors' own Lean function (tested against real Go, not proved from fmt's source: count such statements apart). THE CARD IS WHAT COUNTS. Prove the row's statement (the work); the ties are given (YtbiakbagcdghlaaDoorTie.lean); close each card by the builder's one call (the guide's Derived/Test/ToyasCard.lean, 'card_holds'). Laid BY PROGRAM, IN A SANDBOX (cutbox-door.mjs). By AI agents, Wed Nov 11 2026. No macro, syntax, notation, axiom, sorry.
-/
import Derived.Test.YtbiakbagcdghlaaDoorRows
import GoSem.ClaimSeven
namespace Go.Proofs.YtbiakbagcdghlaaDoor
namespace Rows

/-- THE TIED CARD OF 'laws.FnExactFlatText'. -/
def fnExactFlatTextCard : Claim7 := { stood := { row := fnExactFlatTextRow, standIns := [], harness := (true, "b82dd26293b6b5c6902d176f45923839fd5e2004211de32fc238408f72ee8f81"), looks := false }, kinds := [], alts := [], laidByText := true, laidKinds := [.data, .data, .data, .data], laidTests := true, laidLooks := .later }
def FnExactFlatTextCardSaid : Prop := Claim7.holds Tryd.pinned (.plain (OpenSpec.ofChange fnExactFlatTextSpec)) fnExactFlatTextCard

/-- THE SECOND FORM's CARD OF 'laws.FnExactFlatText'. -/
def fnExactFlatTextUptoCard : Claim7 := { stood := { row := fnExactFlatTextUptoRow, standIns := [], harness := (true, "b82dd26293b6b5c6902d176f45923839fd5e2004211de32fc238408f72ee8f81"), looks := false }, kinds := [], alts := [], laidByText := true, laidKinds := [.data, .data, .data, .data], laidTests := true, laidLooks := .later }
def FnExactFlatTextUptoCardSaid : Prop := Claim7.holds Tryd.pinned (.plain (OpenSpec.upto fnExactFlatTextSpec)) fnExactFlatTextUptoCard
end Rows
end Go.Proofs.YtbiakbagcdghlaaDoor
