/-
  What is said here: changes as data. Condition: none.
-/
import Derived.Test.YteleljfnjdlnkaaGreatDoorS0x
namespace Go.Proofs
open Go.Abs
set_option linter.unusedSimpArgs false
set_option linter.unnecessarySimpa false
set_option linter.unusedVariables false

structure Chg where
  kind : Int
  nm : ByteArray
  num : Int
  a0 : Int
  a1 : Int
  a2 : Int
  a3 : Int
  a4 : Int
  a5 : Int
  a6 : Int
  a7 : Int
  b0 : Int
  b1 : Int
  b2 : Int
  b3 : Int
  b4 : Int
instance : Rw Chg where
  n := 16
  enc e := [.int .i64 e.kind, .string e.nm, .int .i64 e.num, .int .i64 e.a0, .int .i64 e.a1, .int .i64 e.a2, .int .i64 e.a3, .int .i64 e.a4, .int .i64 e.a5, .int .i64 e.a6, .int .i64 e.a7, .int .i64 e.b0, .int .i64 e.b1, .int .i64 e.b2, .int .i64 e.b3, .int .i64 e.b4]
  dec l := ⟨deI (l.getD 0 .top), deS (l.getD 1 .top), deI (l.getD 2 .top), deI (l.getD 3 .top), deI (l.getD 4 .top), deI (l.getD 5 .top), deI (l.getD 6 .top), deI (l.getD 7 .top), deI (l.getD 8 .top), deI (l.getD 9 .top), deI (l.getD 10 .top), deI (l.getD 11 .top), deI (l.getD 12 .top), deI (l.getD 13 .top), deI (l.getD 14 .top), deI (l.getD 15 .top)⟩
  len _ := rfl
  flat _ := rfl
  de _ := rfl
@[simp] theorem Chg.rXe (e : Chg) : rX e = [I e.kind, .v (.string e.nm), I e.num, I e.a0, I e.a1, I e.a2, I e.a3, I e.a4, I e.a5, I e.a6, I e.a7, I e.b0, I e.b1, I e.b2, I e.b3, I e.b4] := rfl
@[simp] theorem Chg.dece (x0 x1 x2 x3 x4 x5 x6 x7 x8 x9 x10 x11 x12 x13 x14 x15 : X) : (Rw.dec [x0, x1, x2, x3, x4, x5, x6, x7, x8, x9, x10, x11, x12, x13, x14, x15] : Chg) = ⟨deI x0, deS x1, deI x2, deI x3, deI x4, deI x5, deI x6, deI x7, deI x8, deI x9, deI x10, deI x11, deI x12, deI x13, deI x14, deI x15⟩ := rfl
@[simp] theorem Chg.eta (e : Chg) : (⟨e.kind, e.nm, e.num, e.a0, e.a1, e.a2, e.a3, e.a4, e.a5, e.a6, e.a7, e.b0, e.b1, e.b2, e.b3, e.b4⟩ : Chg) = e := rfl
def Chg.z : Chg := ⟨0, ⟨#[]⟩, 0, 0, 0, 0, 0, 0, 0, 0, 0, 0, 0, 0, 0, 0⟩
def Chg.V (e : Chg) : Value := .agg #[.int .i64 e.kind, .string e.nm, .int .i64 e.num, .int .i64 e.a0, .int .i64 e.a1, .int .i64 e.a2, .int .i64 e.a3, .int .i64 e.a4, .int .i64 e.a5, .int .i64 e.a6, .int .i64 e.a7, .int .i64 e.b0, .int .i64 e.b1, .int .i64 e.b2, .int .i64 e.b3, .int .i64 e.b4]
theorem Chg.cstV (e : Chg) : cst e.V = .agg (rX e) := by simp [cst, Chg.V, plain]

end Go.Proofs
