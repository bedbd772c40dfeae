/-
  DERIVED. GIVEN WITH THE SEED: THE CARDS: each row of YtlkohlnkhpknhaaDoorRows.lean that lists a variable, with what it lists TIED to the program's text (the seventh form; the later family's looks); each row that meets fmt, with fmt's text TOLD by the authors' own Lean function (tested against real Go, not proved from fmt's source: count such statements apart). THE CARD IS WHAT COUNTS. Prove the row's statement (the work); the ties are given (YtlkohlnkhpknhaaDoorTie.lean); close each card by the builder's one call (the guide's Derived/Test/ToyasCard.lean, 'card_holds'). Laid BY PROGRAM, IN A SANDBOX (cutbox-door.mjs). By AI agents, Wed Nov 11 2026. No macro, syntax, notation, axiom, sorry.
-/
import Derived.Test.YtlkohlnkhpknhaaDoorRows
import GoSem.ClaimSeven
namespace Go.Proofs.YtlkohlnkhpknhaaDoor
namespace Rows

/-- THE TIED CARD OF 'laws.FnExactFlatClass'. -/
def fnExactFlatClassCard : Claim7 := { stood := { row := fnExactFlatClassRow, standIns := [], harness := (true, "b2febd78d971bcfb913dfbd07eb76c1386ff4bf83a3bd2147511f4d017c91773"), looks := false }, kinds := [], alts := [], laidByText := true, laidKinds := [.data, .data, .data], laidTests := true, laidLooks := .later }
def FnExactFlatClassCardSaid : Prop := Claim7.holds Tryd.pinned (.plain (OpenSpec.ofChange fnExactFlatClassSpec)) fnExactFlatClassCard

/-- THE TIED CARD OF 'laws.FnExactFlatFilter'. -/
def fnExactFlatFilterCard : Claim7 := { stood := { row := fnExactFlatFilterRow, standIns := [], harness := (true, "b2febd78d971bcfb913dfbd07eb76c1386ff4bf83a3bd2147511f4d017c91773"), looks := false }, kinds := [], alts := [], laidByText := true, laidKinds := [.data, .data, .data], laidTests := true, laidLooks := .later }
def FnExactFlatFilterCardSaid : Prop := Claim7.holds Tryd.pinned (.plain (OpenSpec.ofChange fnExactFlatFilterSpec)) fnExactFlatFilterCard

/-- THE TIED CARD OF 'laws.FnExactEventsText'. -/
def fnExactEventsTextCard : Claim7 := { stood := { row := fnExactEventsTextRow, standIns := [], harness := (true, "b2febd78d971bcfb913dfbd07eb76c1386ff4bf83a3bd2147511f4d017c91773"), looks := false }, kinds := [], alts := [], laidByText := true, laidKinds := [.data, .data, .data, .data], laidTests := true, laidLooks := .later }
def FnExactEventsTextCardSaid : Prop := Claim7.holds Tryd.pinned (.plain (OpenSpec.ofChange fnExactEventsTextSpec)) fnExactEventsTextCard

/-- THE TIED CARD OF 'laws.FnExactChangeText'. -/
def fnExactChangeTextCard : Claim7 := { stood := { row := fnExactChangeTextRow, standIns := [], harness := (true, "b2febd78d971bcfb913dfbd07eb76c1386ff4bf83a3bd2147511f4d017c91773"), looks := false }, kinds := [], alts := [], laidByText := true, laidKinds := [.data, .data, .data, .data], laidTests := true, laidLooks := .later }
def FnExactChangeTextCardSaid : Prop := Claim7.holds Tryd.pinned (.plain (OpenSpec.ofChange fnExactChangeTextSpec)) fnExactChangeTextCard

/-- THE SECOND FORM's CARD OF 'laws.FnExactFlatClass'. -/
def fnExactFlatClassUptoCard : Claim7 := { stood := { row := fnExactFlatClassUptoRow, standIns := [], harness := (true, "b2febd78d971bcfb913dfbd07eb76c1386ff4bf83a3bd2147511f4d017c91773"), looks := false }, kinds := [], alts := [], laidByText := true, laidKinds := [.data, .data, .data], laidTests := true, laidLooks := .later }
def FnExactFlatClassUptoCardSaid : Prop := Claim7.holds Tryd.pinned (.plain (OpenSpec.upto fnExactFlatClassSpec)) fnExactFlatClassUptoCard

/-- THE SECOND FORM's CARD OF 'laws.FnExactFlatFilter'. -/
def fnExactFlatFilterUptoCard : Claim7 := { stood := { row := fnExactFlatFilterUptoRow, standIns := [], harness := (true, "b2febd78d971bcfb913dfbd07eb76c1386ff4bf83a3bd2147511f4d017c91773"), looks := false }, kinds := [], alts := [], laidByText := true, laidKinds := [.data, .data, .data], laidTests := true, laidLooks := .later }
def FnExactFlatFilterUptoCardSaid : Prop := Claim7.holds Tryd.pinned (.plain (OpenSpec.upto fnExactFlatFilterSpec)) fnExactFlatFilterUptoCard

/-- THE SECOND FORM's CARD OF 'laws.FnExactEventsText'. -/
def fnExactEventsTextUptoCard : Claim7 := { stood := { row := fnExactEventsTextUptoRow, standIns := [], harness := (true, "b2febd78d971bcfb913dfbd07eb76c1386ff4bf83a3bd2147511f4d017c91773"), looks := false }, kinds := [], alts := [], laidByText := true, laidKinds := [.data, .data, .data, .data], laidTests := true, laidLooks := .later }
def FnExactEventsTextUptoCardSaid : Prop := Claim7.holds Tryd.pinned (.plain (OpenSpec.upto fnExactEventsTextSpec)) fnExactEventsTextUptoCard

/-- THE SECOND FORM's CARD OF 'laws.FnExactChangeText'. -/
def fnExactChangeTextUptoCard : Claim7 := { stood := { row := fnExactChangeTextUptoRow, standIns := [], harness := (true, "b2febd78d971bcfb913dfbd07eb76c1386ff4bf83a3bd2147511f4d017c91773"), looks := false }, kinds := [], alts := [], laidByText := true, laidKinds := [.data, .data, .data, .data], laidTests := true, laidLooks := .later }
def FnExactChangeTextUptoCardSaid : Prop := Claim7.holds Tryd.pinned (.plain (OpenSpec.upto fnExactChangeTextSpec)) fnExactChangeTextUptoCard
end Rows
end Go.Proofs.YtlkohlnkhpknhaaDoor
