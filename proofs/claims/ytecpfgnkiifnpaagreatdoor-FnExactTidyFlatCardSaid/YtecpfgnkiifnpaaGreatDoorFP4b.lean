/-
  What is said here: one step of the reading of words. Condition: none.
-/
import Derived.Test.YtecpfgnkiifnpaaGreatDoorFPb
namespace Go.Flat
theorem lgR_cons (nm : ByteArray → Bool) (want got : ByteArray) (wants ws : List ByteArray) (p : Int) (out : List Int) : lgR nm (want :: wants) (got :: ws) p out = if want = wA ∧ nm got = false then .er 7 (p + 1)
    else if want = wN ∧ rdAny got < 0 then .er 3 (p + 1)
    else if want = wN then lgR nm wants ws (p + 1 + got.size) (out ++ [rdAny got])
    else if want ≠ wA ∧ got ≠ want then .er 2 (p + 1)
    else lgR nm wants ws (p + 1 + got.size) out := rfl
end Go.Flat
