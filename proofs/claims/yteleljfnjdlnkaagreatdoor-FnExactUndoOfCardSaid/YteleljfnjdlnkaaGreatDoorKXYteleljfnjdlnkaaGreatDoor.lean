/-
  What is said here: the package's variable that the contracts lean on: the table of key words. Condition: none.
-/
import Derived.Test.YteleljfnjdlnkaaGreatDoorTDYteleljfnjdlnkaaGreatDoor
import Derived.Test.YteleljfnjdlnkaaGreatDoorAbs23
set_option linter.unusedVariables false
set_option linter.unusedSimpArgs false
set_option linter.unnecessarySimpa false
namespace Go.Proofs
open Go.Abs
def kws : List ByteArray := [⟨#[113, 100, 105, 115, 99]⟩, ⟨#[100, 101, 102, 97, 117, 108, 116]⟩, ⟨#[99, 108, 97, 115, 115]⟩, ⟨#[114, 97, 116, 101]⟩, ⟨#[99, 101, 105, 108]⟩, ⟨#[98, 117, 114, 115, 116]⟩, ⟨#[99, 98, 117, 114, 115, 116]⟩, ⟨#[112, 114, 105, 111]⟩, ⟨#[108, 105, 109, 105, 116]⟩, ⟨#[102, 105, 108, 116, 101, 114]⟩, ⟨#[115, 111, 117, 114, 99, 101]⟩, ⟨#[100, 101, 115, 116]⟩, ⟨#[112, 111, 114, 116]⟩, ⟨#[109, 97, 114, 107]⟩]
def kwX : List X := kws.map fun b => .v (.string b)
def K : List (Nat × List X) := [(0, kwX)]
theorem kwX_len : kwX.length = 14 := rfl
theorem kws_len : kws.length = 14 := rfl
theorem kwX_get (k : Nat) (h : k < 14) : kwX[k]? = some (.v (.string (kws[k]'h))) := by
  unfold kwX
  rw [List.getElem?_map, List.getElem?_eq_getElem (by rw [kws_len]; exact h)]
  rfl
def kw (k : Nat) : ByteArray := kws.getD k ⟨#[]⟩
theorem kw_eq (k : Nat) (h : k < kws.length) : kw k = kws[k] := by
  unfold kw
  rw [List.getD_eq_getElem?_getD, List.getElem?_eq_getElem h]
  rfl
theorem kwX_getE (k : Nat) (h : k < kwX.length) : kwX[k] = .v (.string (kw k)) := by
  have h' : k < kws.length := h
  rw [kw_eq k h']
  have e : kwX[k]? = (kws[k]?).map fun b => .v (.string b) := by unfold kwX; rw [List.getElem?_map]
  rw [List.getElem?_eq_getElem h, List.getElem?_eq_getElem h'] at e
  exact Option.some.inj e
theorem kwX_take : List.take 14 kwX = kwX := rfl
end Go.Proofs
