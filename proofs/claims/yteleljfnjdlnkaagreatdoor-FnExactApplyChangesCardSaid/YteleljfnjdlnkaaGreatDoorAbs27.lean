/-
  What is proved here: the first part of a sequence, its callees' results read as data. Condition: none.
-/
import Derived.Test.YteleljfnjdlnkaaGreatDoorAbs26
set_option linter.unusedVariables false
set_option linter.unusedSimpArgs false
set_option linter.unnecessarySimpa false
namespace Go.Abs
theorem Snd.seqpu {P : Program} {E : Env} {Q : Exit → St → Prop} {s : St} {x y : Code} (h : awp P E.pu x (thenP (fun s => Snd P E y Q s) Q) s) : Snd P E (.seq x y) Q s :=
  Snd.seq fun hm _ hE β a w H => awp_sound (Env.pu_ok hE) hm x _ s β a w h H
def vOk2 (l : List Oper) (A C : Nat) (o1 : List (Nat × Nat)) (c1 : List Nat) (o2 : List (Nat × Nat)) (c2 : List Nat) : Bool :=
  decide (A ≠ C) && decide (A < l.length) && decide (C < l.length) && (l.all fun o => o.guard.isNone) && vOk1 l A C o1 c1 && vOk1 l C A o2 c2
theorem drawP_w {P : Program} {E : Env} {s : St} {K : St → Prop} (l : List Oper) (A C : Nat) (o1 : List (Nat × Nat)) (c1 : List Nat) (o2 : List (Nat × Nat)) (c2 : List Nat) (h : vOk2 l A C o1 c1 o2 c2 = true) (k1 : rgZ P E l c1 o1 s [] K) (k2 : rgZ P E l c2 o2 s [] K) : drawP P E l.toArray s K :=
  drawP_v l A C o1 c1 o2 c2 (by simpa [vOk, vOk2] using h) k1 k2
end Go.Abs
