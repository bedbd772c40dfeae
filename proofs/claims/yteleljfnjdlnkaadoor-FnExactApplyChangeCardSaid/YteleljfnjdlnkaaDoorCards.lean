/-
  DERIVED. GIVEN WITH THE SEED: THE CARDS: each row of YteleljfnjdlnkaaDoorRows.lean that lists a variable, with what it lists TIED to the program's text (the seventh form; the later family's looks); each row that meets fmt, with fmt's text TOLD by the authors' own Lean function (tested against real Go, not proved from fmt's source: count such statements apart). THE CARD IS WHAT COUNTS. Prove the row's statement (the work); the ties are given (YteleljfnjdlnkaaDoorTie.lean); close each card by the builder's one call (the guide's Derived/Test/ToyasCard.lean, 'card_holds'). Laid BY PROGRAM, IN A SANDBOX (cutbox-door.mjs). By AI agents, Wed Nov 11 2026. No macro, syntax, notation, axiom, sorry.
-/
import Derived.Test.YteleljfnjdlnkaaDoorRows
import GoSem.ClaimSeven
namespace Go.Proofs.YteleljfnjdlnkaaDoor
namespace Rows

/-- THE TIED CARD OF 'laws.FnExactApplyChange'. -/
def fnExactApplyChangeCard : Claim7 := { stood := { row := fnExactApplyChangeRow, standIns := [], harness := (true, "ecc9ab79b895940f9db09e07ef48cc19541a6b6f4d56711ed2a1ba60a6698cab"), looks := false }, kinds := [], alts := [], laidByText := true, laidKinds := [.data], laidTests := true, laidLooks := .later }
def FnExactApplyChangeCardSaid : Prop := Claim7.holds Tryd.pinned (.plain (OpenSpec.ofChange fnExactApplyChangeSpec)) fnExactApplyChangeCard

/-- THE SECOND FORM's CARD OF 'laws.FnExactApplyChange'. -/
def fnExactApplyChangeUptoCard : Claim7 := { stood := { row := fnExactApplyChangeUptoRow, standIns := [], harness := (true, "ecc9ab79b895940f9db09e07ef48cc19541a6b6f4d56711ed2a1ba60a6698cab"), looks := false }, kinds := [], alts := [], laidByText := true, laidKinds := [.data], laidTests := true, laidLooks := .later }
def FnExactApplyChangeUptoCardSaid : Prop := Claim7.holds Tryd.pinned (.plain (OpenSpec.upto fnExactApplyChangeSpec)) fnExactApplyChangeUptoCard
end Rows
end Go.Proofs.YteleljfnjdlnkaaDoor
