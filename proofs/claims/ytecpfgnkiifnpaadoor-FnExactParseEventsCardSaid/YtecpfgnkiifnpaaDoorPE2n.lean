/-
  What is proved here: the program's strings.Split and strconv.Atoi, as contracts of ours. Condition: none.
-/
import Derived.Test.YtecpfgnkiifnpaaDoorPE1n
import Derived.Test.YtecpfgnkiifnpaaDoorPA1
import Derived.Test.YtecpfgnkiifnpaaDoorSPYtecpfgnkiifnpaaDoor
import Derived.Test.YtecpfgnkiifnpaaDoorE5n
import Derived.KernelRfl

namespace Go.Proofs
open Go.Abs Go.Flat
set_option linter.unusedSimpArgs false
set_option linter.unnecessarySimpa false
set_option linter.unusedVariables false
set_option maxHeartbeats 8000000
set_option maxRecDepth 20000
def K3 : List (Nat × List X) := [(0, enX), (7, powX), (3, [.ni]), (4, [.ni])]
theorem hK3 : ∀ p ∈ K, p ∈ K3 := by
  intro p hp
  unfold K at hp
  rw [List.mem_singleton] at hp
  subst hp
  exact List.mem_cons_of_mem _ List.mem_cons_self
theorem hK23 : ∀ p ∈ K2, p ∈ K3 := by
  intro p hp
  simp only [K2, List.mem_cons, List.not_mem_nil, or_false] at hp
  rcases hp with rfl | rfl
  · exact List.mem_cons_self
  · exact List.mem_cons_of_mem _ List.mem_cons_self
def wdO (l : List ByteArray) : Ob := ⟨9, 1, 0, sR l, false, true, none⟩
def sepO (x : X) : UInt8 := (bL (deS x)).headD 0
def F39 : Fun := ⟨fun xs => ∃ (s : ByteArray) (c : UInt8), xs = [Sx s, Sx ⟨#[c]⟩] ∧ s.size ≤ 1048576, fun xs => (.osl 0 0, [wdO (splitB (sepO (xs.getD 1 .top)) (deS (xs.getD 0 .top)))])⟩
theorem c39 : GenCA K3 Tryd.prog 39 F39 :=
  genSplit (T := 9) (callFunc_enter Tryd.func39 rfl rfl) (fun s c w hs => split_one Tryd.laysSplit (by kernel_rfl) s c w hs) (by
    rintro xs ⟨s, c, rfl, hs⟩
    exact ⟨s, c, rfl, by omega, rfl⟩)
def atX (b : ByteArray) : X := match atI b with
  | some v => .tup [I v, .v .nilIface]
  | none => .tup [.top, .ni]
def F60 : Fun := ⟨fun xs => ∃ s : ByteArray, xs = [Sx s] ∧ s.size ≤ 1048576, fun xs => (atX (deS (xs.getD 0 .top)), [])⟩
theorem c60 : GenCA K3 Tryd.prog 60 F60 :=
  genAtoi (g1 := 3) (g2 := 4) (callFunc_enter Tryd.func60 rfl rfl) (fun s hm v h w => Any.strconv_Atoi_ok Tryd.laysAtoi s hm v h w) (fun s hl h ev w hv hev => Any.strconv_Atoi_syntax Tryd.laysAtoi s hl (by cases e : Lib.atoiAll s.data.toList with | ok v => exact absurd e (h.1 v) | range => exact absurd e h.2 | _ => rfl) ev w hv hev) (fun s hl h ev w hv hev => Any.strconv_Atoi_range Tryd.laysAtoi s hl h ev w hv hev)
    (List.mem_cons_of_mem _ (List.mem_cons_of_mem _ List.mem_cons_self)) (List.mem_cons_of_mem _ (List.mem_cons_of_mem _ (List.mem_cons_of_mem _ List.mem_cons_self))) (by
    rintro xs ⟨s, rfl, hs⟩
    refine ⟨s, rfl, by omega, ?_⟩
    show (atX s, []) = _
    unfold atX atI bL
    cases Lib.atoiAll s.data.toList <;> rfl)
end Go.Proofs
