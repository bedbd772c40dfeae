/-
  What is said here: classes and filters as data. Condition: none.
-/
import Derived.Test.YtecpfgnkiifnpaaDoorKXYtecpfgnkiifnpaaDoorn
import Derived.Test.YtecpfgnkiifnpaaDoorAbsF
namespace Go.Proofs
open Go.Abs
set_option linter.unusedSimpArgs false
set_option linter.unnecessarySimpa false
set_option linter.unusedVariables false
structure Cls where
  id : Int
  par : Int
  rate : Int
  ceil : Int
  burst : Int
  cburst : Int
  prio : Int
  lim : Int
instance : Rw Cls where
  n := 8
  enc e := [.int .i64 e.id, .int .i64 e.par, .int .i64 e.rate, .int .i64 e.ceil, .int .i64 e.burst, .int .i64 e.cburst, .int .i64 e.prio, .int .i64 e.lim]
  dec l := ⟨deI (l.getD 0 .top), deI (l.getD 1 .top), deI (l.getD 2 .top), deI (l.getD 3 .top), deI (l.getD 4 .top), deI (l.getD 5 .top), deI (l.getD 6 .top), deI (l.getD 7 .top)⟩
  len _ := rfl
  flat _ := rfl
  de _ := rfl
@[simp] theorem Cls.rXe (e : Cls) : rX e = [I e.id, I e.par, I e.rate, I e.ceil, I e.burst, I e.cburst, I e.prio, I e.lim] := rfl
@[simp] theorem Cls.dece (x0 x1 x2 x3 x4 x5 x6 x7 : X) : (Rw.dec [x0, x1, x2, x3, x4, x5, x6, x7] : Cls) = ⟨deI x0, deI x1, deI x2, deI x3, deI x4, deI x5, deI x6, deI x7⟩ := rfl
@[simp] theorem Cls.eta (e : Cls) : (⟨e.id, e.par, e.rate, e.ceil, e.burst, e.cburst, e.prio, e.lim⟩ : Cls) = e := rfl
def Cls.z : Cls := ⟨0, 0, 0, 0, 0, 0, 0, 0⟩
def Cls.V (e : Cls) : Value := .agg #[.int .i64 e.id, .int .i64 e.par, .int .i64 e.rate, .int .i64 e.ceil, .int .i64 e.burst, .int .i64 e.cburst, .int .i64 e.prio, .int .i64 e.lim]
theorem Cls.cstV (e : Cls) : cst e.V = .agg (rX e) := by simp [cst, Cls.V, plain]
structure Fil where
  prio : Int
  field : Int
  mask : Int
  value : Int
  target : Int
instance : Rw Fil where
  n := 5
  enc e := [.int .i64 e.prio, .int .i64 e.field, .int .i64 e.mask, .int .i64 e.value, .int .i64 e.target]
  dec l := ⟨deI (l.getD 0 .top), deI (l.getD 1 .top), deI (l.getD 2 .top), deI (l.getD 3 .top), deI (l.getD 4 .top)⟩
  len _ := rfl
  flat _ := rfl
  de _ := rfl
@[simp] theorem Fil.rXe (e : Fil) : rX e = [I e.prio, I e.field, I e.mask, I e.value, I e.target] := rfl
@[simp] theorem Fil.dece (x0 x1 x2 x3 x4 : X) : (Rw.dec [x0, x1, x2, x3, x4] : Fil) = ⟨deI x0, deI x1, deI x2, deI x3, deI x4⟩ := rfl
@[simp] theorem Fil.eta (e : Fil) : (⟨e.prio, e.field, e.mask, e.value, e.target⟩ : Fil) = e := rfl
def Fil.z : Fil := ⟨0, 0, 0, 0, 0⟩
def Fil.V (e : Fil) : Value := .agg #[.int .i64 e.prio, .int .i64 e.field, .int .i64 e.mask, .int .i64 e.value, .int .i64 e.target]
theorem Fil.cstV (e : Fil) : cst e.V = .agg (rX e) := by simp [cst, Fil.V, plain]
end Go.Proofs
