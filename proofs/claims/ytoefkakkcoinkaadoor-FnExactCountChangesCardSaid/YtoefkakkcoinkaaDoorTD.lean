/-
  What is proved here: facts on the types of the program. Condition: none.
-/
import Derived.Test.YtoefkakkcoinkaaDoorAbs18
import Derived.Test.YtoefkakkcoinkaaDoorProg
import Derived.KernelRfl
namespace Go.Proofs
open Go.Abs
theorem Tryd.ok3 : okT Tryd.prog 3 = true := by kernel_rfl
theorem Tryd.sz3 : szOf Tryd.prog 3 = 1 := by kernel_rfl
theorem Tryd.ag3 : isAg Tryd.prog 3 = false := by kernel_rfl
theorem Tryd.hz3 : hasZ Tryd.prog 3 = true := by kernel_rfl
theorem Tryd.zc3 : zeroC Tryd.prog 3 = [.int .i64 0] := by kernel_rfl
theorem Tryd.ik3 : inK Tryd.prog 3 = some .i64 := by kernel_rfl
theorem Tryd.by3 : byOf Tryd.prog 3 = 8 := by kernel_rfl
theorem Tryd.ok4 : okT Tryd.prog 4 = true := by kernel_rfl
theorem Tryd.sz4 : szOf Tryd.prog 4 = 1 := by kernel_rfl
theorem Tryd.ag4 : isAg Tryd.prog 4 = false := by kernel_rfl
theorem Tryd.hz4 : hasZ Tryd.prog 4 = true := by kernel_rfl
theorem Tryd.zc4 : zeroC Tryd.prog 4 = [.bool false] := by kernel_rfl
theorem Tryd.un4 : Tryd.prog.underlying 4 = some .bool := by kernel_rfl
theorem Tryd.ok5 : okT Tryd.prog 5 = true := by kernel_rfl
theorem Tryd.sz5 : szOf Tryd.prog 5 = 1 := by kernel_rfl
theorem Tryd.ag5 : isAg Tryd.prog 5 = false := by kernel_rfl
theorem Tryd.hz5 : hasZ Tryd.prog 5 = true := by kernel_rfl
theorem Tryd.zc5 : zeroC Tryd.prog 5 = [.int .u8 0] := by kernel_rfl
theorem Tryd.ik5 : inK Tryd.prog 5 = some .u8 := by kernel_rfl
theorem Tryd.ok9 : okT Tryd.prog 9 = true := by kernel_rfl
theorem Tryd.sz9 : szOf Tryd.prog 9 = 1 := by kernel_rfl
theorem Tryd.ag9 : isAg Tryd.prog 9 = false := by kernel_rfl
theorem Tryd.hz9 : hasZ Tryd.prog 9 = true := by kernel_rfl
theorem Tryd.zc9 : zeroC Tryd.prog 9 = [.string ⟨#[]⟩] := by kernel_rfl
theorem Tryd.st9 : isStr Tryd.prog 9 = true := by kernel_rfl
theorem Tryd.ok23 : okT Tryd.prog 23 = true := by kernel_rfl
theorem Tryd.sz23 : szOf Tryd.prog 23 = 8 := by kernel_rfl
theorem Tryd.ag23 : isAg Tryd.prog 23 = true := by kernel_rfl
theorem Tryd.hz23 : hasZ Tryd.prog 23 = true := by kernel_rfl
theorem Tryd.zc23 : zeroC Tryd.prog 23 = [.int .i64 0, .int .i64 0, .int .i64 0, .int .i64 0, .int .i64 0, .int .i64 0, .int .i64 0, .int .i64 0] := by kernel_rfl
theorem Tryd.fk23 : flOk Tryd.prog 23 = true := by kernel_rfl
theorem Tryd.fl23_0 : flOf Tryd.prog 23 0 = some (0, 3) := by kernel_rfl
theorem Tryd.fl23_1 : flOf Tryd.prog 23 1 = some (1, 3) := by kernel_rfl
theorem Tryd.fl23_2 : flOf Tryd.prog 23 2 = some (2, 3) := by kernel_rfl
theorem Tryd.fl23_3 : flOf Tryd.prog 23 3 = some (3, 3) := by kernel_rfl
theorem Tryd.fl23_4 : flOf Tryd.prog 23 4 = some (4, 3) := by kernel_rfl
theorem Tryd.fl23_5 : flOf Tryd.prog 23 5 = some (5, 3) := by kernel_rfl
theorem Tryd.fl23_6 : flOf Tryd.prog 23 6 = some (6, 3) := by kernel_rfl
theorem Tryd.fl23_7 : flOf Tryd.prog 23 7 = some (7, 3) := by kernel_rfl
theorem Tryd.eq23 : eqPlan Tryd.prog 23 = some [(0, 0), (0, 1), (0, 2), (0, 3), (0, 4), (0, 5), (0, 6), (0, 7)] := by kernel_rfl
theorem Tryd.ok25 : okT Tryd.prog 25 = true := by kernel_rfl
theorem Tryd.sz25 : szOf Tryd.prog 25 = 5 := by kernel_rfl
theorem Tryd.ag25 : isAg Tryd.prog 25 = true := by kernel_rfl
theorem Tryd.hz25 : hasZ Tryd.prog 25 = true := by kernel_rfl
theorem Tryd.zc25 : zeroC Tryd.prog 25 = [.int .i64 0, .int .i64 0, .int .i64 0, .int .i64 0, .int .i64 0] := by kernel_rfl
theorem Tryd.fk25 : flOk Tryd.prog 25 = true := by kernel_rfl
theorem Tryd.fl25_0 : flOf Tryd.prog 25 0 = some (0, 3) := by kernel_rfl
theorem Tryd.fl25_1 : flOf Tryd.prog 25 1 = some (1, 3) := by kernel_rfl
theorem Tryd.fl25_2 : flOf Tryd.prog 25 2 = some (2, 3) := by kernel_rfl
theorem Tryd.fl25_3 : flOf Tryd.prog 25 3 = some (3, 3) := by kernel_rfl
theorem Tryd.fl25_4 : flOf Tryd.prog 25 4 = some (4, 3) := by kernel_rfl
theorem Tryd.eq25 : eqPlan Tryd.prog 25 = some [(0, 0), (0, 1), (0, 2), (0, 3), (0, 4)] := by kernel_rfl
theorem Tryd.ok27 : okT Tryd.prog 27 = true := by kernel_rfl
theorem Tryd.sz27 : szOf Tryd.prog 27 = 16 := by kernel_rfl
theorem Tryd.ag27 : isAg Tryd.prog 27 = true := by kernel_rfl
theorem Tryd.hz27 : hasZ Tryd.prog 27 = true := by kernel_rfl
theorem Tryd.zc27 : zeroC Tryd.prog 27 = [.int .i64 0, .string ⟨#[]⟩, .int .i64 0, .int .i64 0, .int .i64 0, .int .i64 0, .int .i64 0, .int .i64 0, .int .i64 0, .int .i64 0, .int .i64 0, .int .i64 0, .int .i64 0, .int .i64 0, .int .i64 0, .int .i64 0] := by kernel_rfl
theorem Tryd.fk27 : flOk Tryd.prog 27 = true := by kernel_rfl
theorem Tryd.fl27_0 : flOf Tryd.prog 27 0 = some (0, 3) := by kernel_rfl
theorem Tryd.fl27_1 : flOf Tryd.prog 27 1 = some (1, 9) := by kernel_rfl
theorem Tryd.fl27_2 : flOf Tryd.prog 27 2 = some (2, 3) := by kernel_rfl
theorem Tryd.fl27_3 : flOf Tryd.prog 27 3 = some (3, 23) := by kernel_rfl
theorem Tryd.fl27_4 : flOf Tryd.prog 27 4 = some (11, 25) := by kernel_rfl
theorem Tryd.eq27 : eqPlan Tryd.prog 27 = some [(0, 0), (1, 1), (0, 2), (0, 3), (0, 4), (0, 5), (0, 6), (0, 7), (0, 8), (0, 9), (0, 10), (0, 11), (0, 12), (0, 13), (0, 14), (0, 15)] := by kernel_rfl
theorem Tryd.ok30 : okT Tryd.prog 30 = true := by kernel_rfl
theorem Tryd.sz30 : szOf Tryd.prog 30 = 8 := by kernel_rfl
theorem Tryd.ag30 : isAg Tryd.prog 30 = true := by kernel_rfl
theorem Tryd.hz30 : hasZ Tryd.prog 30 = true := by kernel_rfl
theorem Tryd.zc30 : zeroC Tryd.prog 30 = [.int .i64 0, .int .i64 0, .int .i64 0, .int .i64 0, .int .i64 0, .int .i64 0, .int .i64 0, .int .i64 0] := by kernel_rfl
theorem Tryd.fk30 : flOk Tryd.prog 30 = true := by kernel_rfl
theorem Tryd.fl30_0 : flOf Tryd.prog 30 0 = some (0, 3) := by kernel_rfl
theorem Tryd.fl30_1 : flOf Tryd.prog 30 1 = some (1, 3) := by kernel_rfl
theorem Tryd.fl30_2 : flOf Tryd.prog 30 2 = some (2, 3) := by kernel_rfl
theorem Tryd.fl30_3 : flOf Tryd.prog 30 3 = some (3, 3) := by kernel_rfl
theorem Tryd.fl30_4 : flOf Tryd.prog 30 4 = some (4, 3) := by kernel_rfl
theorem Tryd.fl30_5 : flOf Tryd.prog 30 5 = some (5, 3) := by kernel_rfl
theorem Tryd.fl30_6 : flOf Tryd.prog 30 6 = some (6, 3) := by kernel_rfl
theorem Tryd.fl30_7 : flOf Tryd.prog 30 7 = some (7, 3) := by kernel_rfl
theorem Tryd.eq30 : eqPlan Tryd.prog 30 = some [(0, 0), (0, 1), (0, 2), (0, 3), (0, 4), (0, 5), (0, 6), (0, 7)] := by kernel_rfl
theorem Tryd.ok31 : okT Tryd.prog 31 = true := by kernel_rfl
theorem Tryd.sz31 : szOf Tryd.prog 31 = 5 := by kernel_rfl
theorem Tryd.ag31 : isAg Tryd.prog 31 = true := by kernel_rfl
theorem Tryd.hz31 : hasZ Tryd.prog 31 = true := by kernel_rfl
theorem Tryd.zc31 : zeroC Tryd.prog 31 = [.int .i64 0, .int .i64 0, .int .i64 0, .int .i64 0, .int .i64 0] := by kernel_rfl
theorem Tryd.fk31 : flOk Tryd.prog 31 = true := by kernel_rfl
theorem Tryd.fl31_0 : flOf Tryd.prog 31 0 = some (0, 3) := by kernel_rfl
theorem Tryd.fl31_1 : flOf Tryd.prog 31 1 = some (1, 3) := by kernel_rfl
theorem Tryd.fl31_2 : flOf Tryd.prog 31 2 = some (2, 3) := by kernel_rfl
theorem Tryd.fl31_3 : flOf Tryd.prog 31 3 = some (3, 3) := by kernel_rfl
theorem Tryd.fl31_4 : flOf Tryd.prog 31 4 = some (4, 3) := by kernel_rfl
theorem Tryd.eq31 : eqPlan Tryd.prog 31 = some [(0, 0), (0, 1), (0, 2), (0, 3), (0, 4)] := by kernel_rfl
theorem Tryd.ok33 : okT Tryd.prog 33 = true := by kernel_rfl
theorem Tryd.sz33 : szOf Tryd.prog 33 = 16 := by kernel_rfl
theorem Tryd.ag33 : isAg Tryd.prog 33 = true := by kernel_rfl
theorem Tryd.hz33 : hasZ Tryd.prog 33 = true := by kernel_rfl
theorem Tryd.zc33 : zeroC Tryd.prog 33 = [.int .i64 0, .string ⟨#[]⟩, .int .i64 0, .int .i64 0, .int .i64 0, .int .i64 0, .int .i64 0, .int .i64 0, .int .i64 0, .int .i64 0, .int .i64 0, .int .i64 0, .int .i64 0, .int .i64 0, .int .i64 0, .int .i64 0] := by kernel_rfl
theorem Tryd.fk33 : flOk Tryd.prog 33 = true := by kernel_rfl
theorem Tryd.fl33_0 : flOf Tryd.prog 33 0 = some (0, 3) := by kernel_rfl
theorem Tryd.fl33_1 : flOf Tryd.prog 33 1 = some (1, 9) := by kernel_rfl
theorem Tryd.fl33_2 : flOf Tryd.prog 33 2 = some (2, 3) := by kernel_rfl
theorem Tryd.fl33_3 : flOf Tryd.prog 33 3 = some (3, 30) := by kernel_rfl
theorem Tryd.fl33_4 : flOf Tryd.prog 33 4 = some (11, 31) := by kernel_rfl
theorem Tryd.eq33 : eqPlan Tryd.prog 33 = some [(0, 0), (1, 1), (0, 2), (0, 3), (0, 4), (0, 5), (0, 6), (0, 7), (0, 8), (0, 9), (0, 10), (0, 11), (0, 12), (0, 13), (0, 14), (0, 15)] := by kernel_rfl
theorem Tryd.ok38 : okT Tryd.prog 38 = true := by kernel_rfl
theorem Tryd.sz38 : szOf Tryd.prog 38 = 1 := by kernel_rfl
theorem Tryd.ag38 : isAg Tryd.prog 38 = false := by kernel_rfl
theorem Tryd.hz38 : hasZ Tryd.prog 38 = true := by kernel_rfl
theorem Tryd.zc38 : zeroC Tryd.prog 38 = [.slice none 0 0] := by kernel_rfl
theorem Tryd.el38 : slEl Tryd.prog 38 = some 3 := by kernel_rfl
theorem Tryd.ok84 : okT Tryd.prog 84 = true := by kernel_rfl
theorem Tryd.sz84 : szOf Tryd.prog 84 = 1 := by kernel_rfl
theorem Tryd.ag84 : isAg Tryd.prog 84 = false := by kernel_rfl
theorem Tryd.hz84 : hasZ Tryd.prog 84 = true := by kernel_rfl
theorem Tryd.zc84 : zeroC Tryd.prog 84 = [.slice none 0 0] := by kernel_rfl
theorem Tryd.el84 : slEl Tryd.prog 84 = some 9 := by kernel_rfl
theorem Tryd.ok135 : okT Tryd.prog 135 = true := by kernel_rfl
theorem Tryd.sz135 : szOf Tryd.prog 135 = 14 := by kernel_rfl
theorem Tryd.ag135 : isAg Tryd.prog 135 = true := by kernel_rfl
theorem Tryd.ns135 : slEl Tryd.prog 135 = none := by kernel_rfl
theorem Tryd.ar135 : arEl Tryd.prog 135 = some (14, 9) := by kernel_rfl
theorem Tryd.mix : Tryd.prog.follows .mixedOrders = true := by kernel_rfl
end Go.Proofs
