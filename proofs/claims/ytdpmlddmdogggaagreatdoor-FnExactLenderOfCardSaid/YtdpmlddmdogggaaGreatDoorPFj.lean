/-
  What is proved here: what a row asks of the program as a whole. Condition: none.
-/
import Derived.Test.YtdpmlddmdogggaaGreatDoorRows
import Derived.Test.YtdpmlddmdogggaaGreatDoorTie
import Derived.Test.YtdpmlddmdogggaaGreatDoorCards
import Derived.WalkKit
import Derived.ProofKit
import Derived.JoinedOf
import Derived.SevenTiedAt
namespace Go.Proofs.YtdpmlddmdogggaaGreatDoor.pf
open Go.ChangeShapes Go.WideShapes Go.ChangeAt Go.RowKit
theorem laid : laidOutB Tryz.pinned.checked.prog = true := by kernel_rfl
theorem maps : mapsRowed Tryz.pinned.checked.prog = true := by kernel_rfl
theorem keys : Tryz.pinned.checked.prog.plainKeys = true := by kernel_rfl
theorem heard : Tryz.pinned.checked.prog.stopsHeard = true := by kernel_rfl
theorem enter : Tryz.pinned.checked.prog.mayEnter = true := by kernel_rfl
theorem lifts : Tryz.pinned.checked.prog.liftsFinal = false := by kernel_rfl
theorem looks : false = Tryz.pinned.checked.prog.looks [] := by kernel_rfl
theorem main : Tryz.pinned.checked.prog.mainIs = some (true, "9b28aaf4dfae8bfaf25b79cfbef94c6771199226a3a878099a6defaa4eda291f".toList) := by kernel_rfl
end Go.Proofs.YtdpmlddmdogggaaGreatDoor.pf
