/-
  What is proved here: facts on the types of the program. Condition: none.
-/
import Derived.Test.YtlkohlnkhpknhaaDoorAbsD
import Derived.Test.YtlkohlnkhpknhaaDoorProg
import Derived.KernelRfl
namespace Go.Proofs
open Go.Abs
@[simp] theorem Tryd.ok2 : okT Tryd.prog 2 = true := by kernel_rfl
@[simp] theorem Tryd.sz2 : szOf Tryd.prog 2 = 1 := by kernel_rfl
@[simp] theorem Tryd.ag2 : isAg Tryd.prog 2 = false := by kernel_rfl
@[simp] theorem Tryd.hz2 : hasZ Tryd.prog 2 = true := by kernel_rfl
@[simp] theorem Tryd.zc2 : zeroC Tryd.prog 2 = [.int .i64 0] := by kernel_rfl
@[simp] theorem Tryd.by2 : byOf Tryd.prog 2 = 8 := by kernel_rfl
@[simp] theorem Tryd.st2 : isStr Tryd.prog 2 = false := by kernel_rfl
@[simp] theorem Tryd.ik2 : inK Tryd.prog 2 = some .i64 := by kernel_rfl
@[simp] theorem Tryd.el2 : slEl Tryd.prog 2 = none := by kernel_rfl
@[simp] theorem Tryd.zv2 : zeroV Tryd.prog 2 = .int .i64 0 := by kernel_rfl
@[simp] theorem Tryd.ok3 : okT Tryd.prog 3 = true := by kernel_rfl
@[simp] theorem Tryd.sz3 : szOf Tryd.prog 3 = 1 := by kernel_rfl
@[simp] theorem Tryd.ag3 : isAg Tryd.prog 3 = false := by kernel_rfl
@[simp] theorem Tryd.hz3 : hasZ Tryd.prog 3 = true := by kernel_rfl
@[simp] theorem Tryd.zc3 : zeroC Tryd.prog 3 = [.int .i64 0] := by kernel_rfl
@[simp] theorem Tryd.by3 : byOf Tryd.prog 3 = 8 := by kernel_rfl
@[simp] theorem Tryd.st3 : isStr Tryd.prog 3 = false := by kernel_rfl
@[simp] theorem Tryd.ik3 : inK Tryd.prog 3 = some .i64 := by kernel_rfl
@[simp] theorem Tryd.el3 : slEl Tryd.prog 3 = none := by kernel_rfl
@[simp] theorem Tryd.zv3 : zeroV Tryd.prog 3 = .int .i64 0 := by kernel_rfl
@[simp] theorem Tryd.ok4 : okT Tryd.prog 4 = true := by kernel_rfl
@[simp] theorem Tryd.sz4 : szOf Tryd.prog 4 = 1 := by kernel_rfl
@[simp] theorem Tryd.ag4 : isAg Tryd.prog 4 = false := by kernel_rfl
@[simp] theorem Tryd.hz4 : hasZ Tryd.prog 4 = true := by kernel_rfl
@[simp] theorem Tryd.zc4 : zeroC Tryd.prog 4 = [.bool false] := by kernel_rfl
@[simp] theorem Tryd.by4 : byOf Tryd.prog 4 = 1 := by kernel_rfl
@[simp] theorem Tryd.st4 : isStr Tryd.prog 4 = false := by kernel_rfl
@[simp] theorem Tryd.un4 : Tryd.prog.underlying 4 = some .bool := by kernel_rfl
@[simp] theorem Tryd.el4 : slEl Tryd.prog 4 = none := by kernel_rfl
@[simp] theorem Tryd.zv4 : zeroV Tryd.prog 4 = .bool false := by kernel_rfl
@[simp] theorem Tryd.ok5 : okT Tryd.prog 5 = true := by kernel_rfl
@[simp] theorem Tryd.sz5 : szOf Tryd.prog 5 = 1 := by kernel_rfl
@[simp] theorem Tryd.ag5 : isAg Tryd.prog 5 = false := by kernel_rfl
@[simp] theorem Tryd.hz5 : hasZ Tryd.prog 5 = true := by kernel_rfl
@[simp] theorem Tryd.zc5 : zeroC Tryd.prog 5 = [.int .u8 0] := by kernel_rfl
@[simp] theorem Tryd.by5 : byOf Tryd.prog 5 = 1 := by kernel_rfl
@[simp] theorem Tryd.st5 : isStr Tryd.prog 5 = false := by kernel_rfl
@[simp] theorem Tryd.ik5 : inK Tryd.prog 5 = some .u8 := by kernel_rfl
@[simp] theorem Tryd.el5 : slEl Tryd.prog 5 = none := by kernel_rfl
@[simp] theorem Tryd.zv5 : zeroV Tryd.prog 5 = .int .u8 0 := by kernel_rfl
@[simp] theorem Tryd.ok9 : okT Tryd.prog 9 = true := by kernel_rfl
@[simp] theorem Tryd.sz9 : szOf Tryd.prog 9 = 1 := by kernel_rfl
@[simp] theorem Tryd.ag9 : isAg Tryd.prog 9 = false := by kernel_rfl
@[simp] theorem Tryd.hz9 : hasZ Tryd.prog 9 = true := by kernel_rfl
@[simp] theorem Tryd.zc9 : zeroC Tryd.prog 9 = [.string ⟨#[]⟩] := by kernel_rfl
@[simp] theorem Tryd.by9 : byOf Tryd.prog 9 = 16 := by kernel_rfl
@[simp] theorem Tryd.st9 : isStr Tryd.prog 9 = true := by kernel_rfl
@[simp] theorem Tryd.el9 : slEl Tryd.prog 9 = none := by kernel_rfl
@[simp] theorem Tryd.zv9 : zeroV Tryd.prog 9 = .string ⟨#[]⟩ := by kernel_rfl
@[simp] theorem Tryd.ok12 : okT Tryd.prog 12 = true := by kernel_rfl
@[simp] theorem Tryd.sz12 : szOf Tryd.prog 12 = 1 := by kernel_rfl
@[simp] theorem Tryd.ag12 : isAg Tryd.prog 12 = false := by kernel_rfl
@[simp] theorem Tryd.hz12 : hasZ Tryd.prog 12 = true := by kernel_rfl
@[simp] theorem Tryd.zc12 : zeroC Tryd.prog 12 = [.int .u64 0] := by kernel_rfl
@[simp] theorem Tryd.by12 : byOf Tryd.prog 12 = 8 := by kernel_rfl
@[simp] theorem Tryd.st12 : isStr Tryd.prog 12 = false := by kernel_rfl
@[simp] theorem Tryd.ik12 : inK Tryd.prog 12 = some .u64 := by kernel_rfl
@[simp] theorem Tryd.el12 : slEl Tryd.prog 12 = none := by kernel_rfl
@[simp] theorem Tryd.zv12 : zeroV Tryd.prog 12 = .int .u64 0 := by kernel_rfl
@[simp] theorem Tryd.ok21 : okT Tryd.prog 21 = true := by kernel_rfl
@[simp] theorem Tryd.sz21 : szOf Tryd.prog 21 = 1 := by kernel_rfl
@[simp] theorem Tryd.ag21 : isAg Tryd.prog 21 = false := by kernel_rfl
@[simp] theorem Tryd.hz21 : hasZ Tryd.prog 21 = true := by kernel_rfl
@[simp] theorem Tryd.zc21 : zeroC Tryd.prog 21 = [.int .i32 0] := by kernel_rfl
@[simp] theorem Tryd.by21 : byOf Tryd.prog 21 = 4 := by kernel_rfl
@[simp] theorem Tryd.st21 : isStr Tryd.prog 21 = false := by kernel_rfl
@[simp] theorem Tryd.ik21 : inK Tryd.prog 21 = some .i32 := by kernel_rfl
@[simp] theorem Tryd.el21 : slEl Tryd.prog 21 = none := by kernel_rfl
@[simp] theorem Tryd.zv21 : zeroV Tryd.prog 21 = .int .i32 0 := by kernel_rfl
@[simp] theorem Tryd.ok22 : okT Tryd.prog 22 = true := by kernel_rfl
@[simp] theorem Tryd.sz22 : szOf Tryd.prog 22 = 8 := by kernel_rfl
@[simp] theorem Tryd.ag22 : isAg Tryd.prog 22 = true := by kernel_rfl
@[simp] theorem Tryd.hz22 : hasZ Tryd.prog 22 = true := by kernel_rfl
@[simp] theorem Tryd.zc22 : zeroC Tryd.prog 22 = [.int .i64 0, .int .i64 0, .int .i64 0, .int .i64 0, .int .i64 0, .int .i64 0, .int .i64 0, .int .i64 0] := by kernel_rfl
@[simp] theorem Tryd.by22 : byOf Tryd.prog 22 = 64 := by kernel_rfl
@[simp] theorem Tryd.st22 : isStr Tryd.prog 22 = false := by kernel_rfl
@[simp] theorem Tryd.el22 : slEl Tryd.prog 22 = none := by kernel_rfl
@[simp] theorem Tryd.zv22 : zeroV Tryd.prog 22 = .agg #[.int .i64 0, .int .i64 0, .int .i64 0, .int .i64 0, .int .i64 0, .int .i64 0, .int .i64 0, .int .i64 0] := by kernel_rfl
@[simp] theorem Tryd.fk22 : flOk Tryd.prog 22 = true := by kernel_rfl
@[simp] theorem Tryd.fl22_0 : flOf Tryd.prog 22 0 = some (0, 3) := by kernel_rfl
@[simp] theorem Tryd.fl22_1 : flOf Tryd.prog 22 1 = some (1, 3) := by kernel_rfl
@[simp] theorem Tryd.fl22_2 : flOf Tryd.prog 22 2 = some (2, 3) := by kernel_rfl
@[simp] theorem Tryd.fl22_3 : flOf Tryd.prog 22 3 = some (3, 3) := by kernel_rfl
@[simp] theorem Tryd.fl22_4 : flOf Tryd.prog 22 4 = some (4, 3) := by kernel_rfl
@[simp] theorem Tryd.fl22_5 : flOf Tryd.prog 22 5 = some (5, 3) := by kernel_rfl
@[simp] theorem Tryd.fl22_6 : flOf Tryd.prog 22 6 = some (6, 3) := by kernel_rfl
@[simp] theorem Tryd.fl22_7 : flOf Tryd.prog 22 7 = some (7, 3) := by kernel_rfl
@[simp] theorem Tryd.eq22 : eqPlan Tryd.prog 22 = some [(0, 0), (0, 1), (0, 2), (0, 3), (0, 4), (0, 5), (0, 6), (0, 7)] := by kernel_rfl
@[simp] theorem Tryd.ok23 : okT Tryd.prog 23 = true := by kernel_rfl
@[simp] theorem Tryd.sz23 : szOf Tryd.prog 23 = 8 := by kernel_rfl
@[simp] theorem Tryd.ag23 : isAg Tryd.prog 23 = true := by kernel_rfl
@[simp] theorem Tryd.hz23 : hasZ Tryd.prog 23 = true := by kernel_rfl
@[simp] theorem Tryd.zc23 : zeroC Tryd.prog 23 = [.int .i64 0, .int .i64 0, .int .i64 0, .int .i64 0, .int .i64 0, .int .i64 0, .int .i64 0, .int .i64 0] := by kernel_rfl
@[simp] theorem Tryd.by23 : byOf Tryd.prog 23 = 64 := by kernel_rfl
@[simp] theorem Tryd.st23 : isStr Tryd.prog 23 = false := by kernel_rfl
@[simp] theorem Tryd.el23 : slEl Tryd.prog 23 = none := by kernel_rfl
@[simp] theorem Tryd.zv23 : zeroV Tryd.prog 23 = .agg #[.int .i64 0, .int .i64 0, .int .i64 0, .int .i64 0, .int .i64 0, .int .i64 0, .int .i64 0, .int .i64 0] := by kernel_rfl
@[simp] theorem Tryd.fk23 : flOk Tryd.prog 23 = true := by kernel_rfl
@[simp] theorem Tryd.fl23_0 : flOf Tryd.prog 23 0 = some (0, 3) := by kernel_rfl
@[simp] theorem Tryd.fl23_1 : flOf Tryd.prog 23 1 = some (1, 3) := by kernel_rfl
@[simp] theorem Tryd.fl23_2 : flOf Tryd.prog 23 2 = some (2, 3) := by kernel_rfl
@[simp] theorem Tryd.fl23_3 : flOf Tryd.prog 23 3 = some (3, 3) := by kernel_rfl
@[simp] theorem Tryd.fl23_4 : flOf Tryd.prog 23 4 = some (4, 3) := by kernel_rfl
@[simp] theorem Tryd.fl23_5 : flOf Tryd.prog 23 5 = some (5, 3) := by kernel_rfl
@[simp] theorem Tryd.fl23_6 : flOf Tryd.prog 23 6 = some (6, 3) := by kernel_rfl
@[simp] theorem Tryd.fl23_7 : flOf Tryd.prog 23 7 = some (7, 3) := by kernel_rfl
@[simp] theorem Tryd.eq23 : eqPlan Tryd.prog 23 = some [(0, 0), (0, 1), (0, 2), (0, 3), (0, 4), (0, 5), (0, 6), (0, 7)] := by kernel_rfl
@[simp] theorem Tryd.ok26 : okT Tryd.prog 26 = true := by kernel_rfl
@[simp] theorem Tryd.sz26 : szOf Tryd.prog 26 = 8 := by kernel_rfl
@[simp] theorem Tryd.ag26 : isAg Tryd.prog 26 = true := by kernel_rfl
@[simp] theorem Tryd.hz26 : hasZ Tryd.prog 26 = true := by kernel_rfl
@[simp] theorem Tryd.zc26 : zeroC Tryd.prog 26 = [.int .i64 0, .int .i64 0, .int .i64 0, .int .i64 0, .int .i64 0, .int .i64 0, .int .i64 0, .int .i64 0] := by kernel_rfl
@[simp] theorem Tryd.by26 : byOf Tryd.prog 26 = 64 := by kernel_rfl
@[simp] theorem Tryd.st26 : isStr Tryd.prog 26 = false := by kernel_rfl
@[simp] theorem Tryd.el26 : slEl Tryd.prog 26 = none := by kernel_rfl
@[simp] theorem Tryd.zv26 : zeroV Tryd.prog 26 = .agg #[.int .i64 0, .int .i64 0, .int .i64 0, .int .i64 0, .int .i64 0, .int .i64 0, .int .i64 0, .int .i64 0] := by kernel_rfl
@[simp] theorem Tryd.fk26 : flOk Tryd.prog 26 = true := by kernel_rfl
@[simp] theorem Tryd.fl26_0 : flOf Tryd.prog 26 0 = some (0, 3) := by kernel_rfl
@[simp] theorem Tryd.fl26_1 : flOf Tryd.prog 26 1 = some (1, 3) := by kernel_rfl
@[simp] theorem Tryd.fl26_2 : flOf Tryd.prog 26 2 = some (2, 3) := by kernel_rfl
@[simp] theorem Tryd.fl26_3 : flOf Tryd.prog 26 3 = some (3, 3) := by kernel_rfl
@[simp] theorem Tryd.fl26_4 : flOf Tryd.prog 26 4 = some (4, 3) := by kernel_rfl
@[simp] theorem Tryd.fl26_5 : flOf Tryd.prog 26 5 = some (5, 3) := by kernel_rfl
@[simp] theorem Tryd.fl26_6 : flOf Tryd.prog 26 6 = some (6, 3) := by kernel_rfl
@[simp] theorem Tryd.fl26_7 : flOf Tryd.prog 26 7 = some (7, 3) := by kernel_rfl
@[simp] theorem Tryd.eq26 : eqPlan Tryd.prog 26 = some [(0, 0), (0, 1), (0, 2), (0, 3), (0, 4), (0, 5), (0, 6), (0, 7)] := by kernel_rfl
@[simp] theorem Tryd.ok29 : okT Tryd.prog 29 = true := by kernel_rfl
@[simp] theorem Tryd.sz29 : szOf Tryd.prog 29 = 5 := by kernel_rfl
@[simp] theorem Tryd.ag29 : isAg Tryd.prog 29 = true := by kernel_rfl
@[simp] theorem Tryd.hz29 : hasZ Tryd.prog 29 = true := by kernel_rfl
@[simp] theorem Tryd.zc29 : zeroC Tryd.prog 29 = [.int .i64 0, .int .i64 0, .int .i64 0, .int .i64 0, .int .i64 0] := by kernel_rfl
@[simp] theorem Tryd.by29 : byOf Tryd.prog 29 = 40 := by kernel_rfl
@[simp] theorem Tryd.st29 : isStr Tryd.prog 29 = false := by kernel_rfl
@[simp] theorem Tryd.el29 : slEl Tryd.prog 29 = none := by kernel_rfl
@[simp] theorem Tryd.zv29 : zeroV Tryd.prog 29 = .agg #[.int .i64 0, .int .i64 0, .int .i64 0, .int .i64 0, .int .i64 0] := by kernel_rfl
@[simp] theorem Tryd.fk29 : flOk Tryd.prog 29 = true := by kernel_rfl
@[simp] theorem Tryd.fl29_0 : flOf Tryd.prog 29 0 = some (0, 3) := by kernel_rfl
@[simp] theorem Tryd.fl29_1 : flOf Tryd.prog 29 1 = some (1, 3) := by kernel_rfl
@[simp] theorem Tryd.fl29_2 : flOf Tryd.prog 29 2 = some (2, 3) := by kernel_rfl
@[simp] theorem Tryd.fl29_3 : flOf Tryd.prog 29 3 = some (3, 3) := by kernel_rfl
@[simp] theorem Tryd.fl29_4 : flOf Tryd.prog 29 4 = some (4, 3) := by kernel_rfl
@[simp] theorem Tryd.eq29 : eqPlan Tryd.prog 29 = some [(0, 0), (0, 1), (0, 2), (0, 3), (0, 4)] := by kernel_rfl
@[simp] theorem Tryd.ok30 : okT Tryd.prog 30 = true := by kernel_rfl
@[simp] theorem Tryd.sz30 : szOf Tryd.prog 30 = 5 := by kernel_rfl
@[simp] theorem Tryd.ag30 : isAg Tryd.prog 30 = true := by kernel_rfl
@[simp] theorem Tryd.hz30 : hasZ Tryd.prog 30 = true := by kernel_rfl
@[simp] theorem Tryd.zc30 : zeroC Tryd.prog 30 = [.int .i64 0, .int .i64 0, .int .i64 0, .int .i64 0, .int .i64 0] := by kernel_rfl
@[simp] theorem Tryd.by30 : byOf Tryd.prog 30 = 40 := by kernel_rfl
@[simp] theorem Tryd.st30 : isStr Tryd.prog 30 = false := by kernel_rfl
@[simp] theorem Tryd.el30 : slEl Tryd.prog 30 = none := by kernel_rfl
@[simp] theorem Tryd.zv30 : zeroV Tryd.prog 30 = .agg #[.int .i64 0, .int .i64 0, .int .i64 0, .int .i64 0, .int .i64 0] := by kernel_rfl
@[simp] theorem Tryd.fk30 : flOk Tryd.prog 30 = true := by kernel_rfl
@[simp] theorem Tryd.fl30_0 : flOf Tryd.prog 30 0 = some (0, 3) := by kernel_rfl
@[simp] theorem Tryd.fl30_1 : flOf Tryd.prog 30 1 = some (1, 3) := by kernel_rfl
@[simp] theorem Tryd.fl30_2 : flOf Tryd.prog 30 2 = some (2, 3) := by kernel_rfl
@[simp] theorem Tryd.fl30_3 : flOf Tryd.prog 30 3 = some (3, 3) := by kernel_rfl
@[simp] theorem Tryd.fl30_4 : flOf Tryd.prog 30 4 = some (4, 3) := by kernel_rfl
@[simp] theorem Tryd.eq30 : eqPlan Tryd.prog 30 = some [(0, 0), (0, 1), (0, 2), (0, 3), (0, 4)] := by kernel_rfl
@[simp] theorem Tryd.ok32 : okT Tryd.prog 32 = true := by kernel_rfl
@[simp] theorem Tryd.sz32 : szOf Tryd.prog 32 = 5 := by kernel_rfl
@[simp] theorem Tryd.ag32 : isAg Tryd.prog 32 = true := by kernel_rfl
@[simp] theorem Tryd.hz32 : hasZ Tryd.prog 32 = true := by kernel_rfl
@[simp] theorem Tryd.zc32 : zeroC Tryd.prog 32 = [.int .i64 0, .int .i64 0, .int .i64 0, .int .i64 0, .int .i64 0] := by kernel_rfl
@[simp] theorem Tryd.by32 : byOf Tryd.prog 32 = 40 := by kernel_rfl
@[simp] theorem Tryd.st32 : isStr Tryd.prog 32 = false := by kernel_rfl
@[simp] theorem Tryd.el32 : slEl Tryd.prog 32 = none := by kernel_rfl
@[simp] theorem Tryd.zv32 : zeroV Tryd.prog 32 = .agg #[.int .i64 0, .int .i64 0, .int .i64 0, .int .i64 0, .int .i64 0] := by kernel_rfl
@[simp] theorem Tryd.fk32 : flOk Tryd.prog 32 = true := by kernel_rfl
@[simp] theorem Tryd.fl32_0 : flOf Tryd.prog 32 0 = some (0, 3) := by kernel_rfl
@[simp] theorem Tryd.fl32_1 : flOf Tryd.prog 32 1 = some (1, 3) := by kernel_rfl
@[simp] theorem Tryd.fl32_2 : flOf Tryd.prog 32 2 = some (2, 3) := by kernel_rfl
@[simp] theorem Tryd.fl32_3 : flOf Tryd.prog 32 3 = some (3, 3) := by kernel_rfl
@[simp] theorem Tryd.fl32_4 : flOf Tryd.prog 32 4 = some (4, 3) := by kernel_rfl
@[simp] theorem Tryd.eq32 : eqPlan Tryd.prog 32 = some [(0, 0), (0, 1), (0, 2), (0, 3), (0, 4)] := by kernel_rfl
@[simp] theorem Tryd.ok35 : okT Tryd.prog 35 = true := by kernel_rfl
@[simp] theorem Tryd.sz35 : szOf Tryd.prog 35 = 1 := by kernel_rfl
@[simp] theorem Tryd.ag35 : isAg Tryd.prog 35 = false := by kernel_rfl
@[simp] theorem Tryd.hz35 : hasZ Tryd.prog 35 = true := by kernel_rfl
@[simp] theorem Tryd.zc35 : zeroC Tryd.prog 35 = [.slice none 0 0] := by kernel_rfl
@[simp] theorem Tryd.by35 : byOf Tryd.prog 35 = 24 := by kernel_rfl
@[simp] theorem Tryd.st35 : isStr Tryd.prog 35 = false := by kernel_rfl
@[simp] theorem Tryd.el35 : slEl Tryd.prog 35 = some 61 := by kernel_rfl
@[simp] theorem Tryd.zv35 : zeroV Tryd.prog 35 = .slice none 0 0 := by kernel_rfl
@[simp] theorem Tryd.ok38 : okT Tryd.prog 38 = true := by kernel_rfl
@[simp] theorem Tryd.sz38 : szOf Tryd.prog 38 = 1 := by kernel_rfl
@[simp] theorem Tryd.ag38 : isAg Tryd.prog 38 = false := by kernel_rfl
@[simp] theorem Tryd.hz38 : hasZ Tryd.prog 38 = true := by kernel_rfl
@[simp] theorem Tryd.zc38 : zeroC Tryd.prog 38 = [.slice none 0 0] := by kernel_rfl
@[simp] theorem Tryd.by38 : byOf Tryd.prog 38 = 24 := by kernel_rfl
@[simp] theorem Tryd.st38 : isStr Tryd.prog 38 = false := by kernel_rfl
@[simp] theorem Tryd.el38 : slEl Tryd.prog 38 = some 59 := by kernel_rfl
@[simp] theorem Tryd.zv38 : zeroV Tryd.prog 38 = .slice none 0 0 := by kernel_rfl
@[simp] theorem Tryd.ok42 : okT Tryd.prog 42 = true := by kernel_rfl
@[simp] theorem Tryd.sz42 : szOf Tryd.prog 42 = 16 := by kernel_rfl
@[simp] theorem Tryd.ag42 : isAg Tryd.prog 42 = true := by kernel_rfl
@[simp] theorem Tryd.hz42 : hasZ Tryd.prog 42 = true := by kernel_rfl
@[simp] theorem Tryd.zc42 : zeroC Tryd.prog 42 = [.int .i64 0, .string ⟨#[]⟩, .int .i64 0, .int .i64 0, .int .i64 0, .int .i64 0, .int .i64 0, .int .i64 0, .int .i64 0, .int .i64 0, .int .i64 0, .int .i64 0, .int .i64 0, .int .i64 0, .int .i64 0, .int .i64 0] := by kernel_rfl
@[simp] theorem Tryd.by42 : byOf Tryd.prog 42 = 136 := by kernel_rfl
@[simp] theorem Tryd.st42 : isStr Tryd.prog 42 = false := by kernel_rfl
@[simp] theorem Tryd.el42 : slEl Tryd.prog 42 = none := by kernel_rfl
@[simp] theorem Tryd.zv42 : zeroV Tryd.prog 42 = .agg #[.int .i64 0, .string ⟨#[]⟩, .int .i64 0, .int .i64 0, .int .i64 0, .int .i64 0, .int .i64 0, .int .i64 0, .int .i64 0, .int .i64 0, .int .i64 0, .int .i64 0, .int .i64 0, .int .i64 0, .int .i64 0, .int .i64 0] := by kernel_rfl
@[simp] theorem Tryd.fk42 : flOk Tryd.prog 42 = true := by kernel_rfl
@[simp] theorem Tryd.fl42_0 : flOf Tryd.prog 42 0 = some (0, 3) := by kernel_rfl
@[simp] theorem Tryd.fl42_1 : flOf Tryd.prog 42 1 = some (1, 9) := by kernel_rfl
@[simp] theorem Tryd.fl42_2 : flOf Tryd.prog 42 2 = some (2, 3) := by kernel_rfl
@[simp] theorem Tryd.fl42_3 : flOf Tryd.prog 42 3 = some (3, 23) := by kernel_rfl
@[simp] theorem Tryd.fl42_4 : flOf Tryd.prog 42 4 = some (11, 30) := by kernel_rfl
@[simp] theorem Tryd.eq42 : eqPlan Tryd.prog 42 = some [(0, 0), (1, 1), (0, 2), (0, 3), (0, 4), (0, 5), (0, 6), (0, 7), (0, 8), (0, 9), (0, 10), (0, 11), (0, 12), (0, 13), (0, 14), (0, 15)] := by kernel_rfl
@[simp] theorem Tryd.ok43 : okT Tryd.prog 43 = true := by kernel_rfl
@[simp] theorem Tryd.sz43 : szOf Tryd.prog 43 = 16 := by kernel_rfl
@[simp] theorem Tryd.ag43 : isAg Tryd.prog 43 = true := by kernel_rfl
@[simp] theorem Tryd.hz43 : hasZ Tryd.prog 43 = true := by kernel_rfl
@[simp] theorem Tryd.zc43 : zeroC Tryd.prog 43 = [.int .i64 0, .string ⟨#[]⟩, .int .i64 0, .int .i64 0, .int .i64 0, .int .i64 0, .int .i64 0, .int .i64 0, .int .i64 0, .int .i64 0, .int .i64 0, .int .i64 0, .int .i64 0, .int .i64 0, .int .i64 0, .int .i64 0] := by kernel_rfl
@[simp] theorem Tryd.by43 : byOf Tryd.prog 43 = 136 := by kernel_rfl
@[simp] theorem Tryd.st43 : isStr Tryd.prog 43 = false := by kernel_rfl
@[simp] theorem Tryd.el43 : slEl Tryd.prog 43 = none := by kernel_rfl
@[simp] theorem Tryd.zv43 : zeroV Tryd.prog 43 = .agg #[.int .i64 0, .string ⟨#[]⟩, .int .i64 0, .int .i64 0, .int .i64 0, .int .i64 0, .int .i64 0, .int .i64 0, .int .i64 0, .int .i64 0, .int .i64 0, .int .i64 0, .int .i64 0, .int .i64 0, .int .i64 0, .int .i64 0] := by kernel_rfl
@[simp] theorem Tryd.fk43 : flOk Tryd.prog 43 = true := by kernel_rfl
@[simp] theorem Tryd.fl43_0 : flOf Tryd.prog 43 0 = some (0, 3) := by kernel_rfl
@[simp] theorem Tryd.fl43_1 : flOf Tryd.prog 43 1 = some (1, 9) := by kernel_rfl
@[simp] theorem Tryd.fl43_2 : flOf Tryd.prog 43 2 = some (2, 3) := by kernel_rfl
@[simp] theorem Tryd.fl43_3 : flOf Tryd.prog 43 3 = some (3, 23) := by kernel_rfl
@[simp] theorem Tryd.fl43_4 : flOf Tryd.prog 43 4 = some (11, 30) := by kernel_rfl
@[simp] theorem Tryd.eq43 : eqPlan Tryd.prog 43 = some [(0, 0), (1, 1), (0, 2), (0, 3), (0, 4), (0, 5), (0, 6), (0, 7), (0, 8), (0, 9), (0, 10), (0, 11), (0, 12), (0, 13), (0, 14), (0, 15)] := by kernel_rfl
@[simp] theorem Tryd.ok46 : okT Tryd.prog 46 = true := by kernel_rfl
@[simp] theorem Tryd.sz46 : szOf Tryd.prog 46 = 16 := by kernel_rfl
@[simp] theorem Tryd.ag46 : isAg Tryd.prog 46 = true := by kernel_rfl
@[simp] theorem Tryd.hz46 : hasZ Tryd.prog 46 = true := by kernel_rfl
@[simp] theorem Tryd.zc46 : zeroC Tryd.prog 46 = [.int .i64 0, .string ⟨#[]⟩, .int .i64 0, .int .i64 0, .int .i64 0, .int .i64 0, .int .i64 0, .int .i64 0, .int .i64 0, .int .i64 0, .int .i64 0, .int .i64 0, .int .i64 0, .int .i64 0, .int .i64 0, .int .i64 0] := by kernel_rfl
@[simp] theorem Tryd.by46 : byOf Tryd.prog 46 = 136 := by kernel_rfl
@[simp] theorem Tryd.st46 : isStr Tryd.prog 46 = false := by kernel_rfl
@[simp] theorem Tryd.el46 : slEl Tryd.prog 46 = none := by kernel_rfl
@[simp] theorem Tryd.zv46 : zeroV Tryd.prog 46 = .agg #[.int .i64 0, .string ⟨#[]⟩, .int .i64 0, .int .i64 0, .int .i64 0, .int .i64 0, .int .i64 0, .int .i64 0, .int .i64 0, .int .i64 0, .int .i64 0, .int .i64 0, .int .i64 0, .int .i64 0, .int .i64 0, .int .i64 0] := by kernel_rfl
@[simp] theorem Tryd.fk46 : flOk Tryd.prog 46 = true := by kernel_rfl
@[simp] theorem Tryd.fl46_0 : flOf Tryd.prog 46 0 = some (0, 3) := by kernel_rfl
@[simp] theorem Tryd.fl46_1 : flOf Tryd.prog 46 1 = some (1, 9) := by kernel_rfl
@[simp] theorem Tryd.fl46_2 : flOf Tryd.prog 46 2 = some (2, 3) := by kernel_rfl
@[simp] theorem Tryd.fl46_3 : flOf Tryd.prog 46 3 = some (3, 26) := by kernel_rfl
@[simp] theorem Tryd.fl46_4 : flOf Tryd.prog 46 4 = some (11, 32) := by kernel_rfl
@[simp] theorem Tryd.eq46 : eqPlan Tryd.prog 46 = some [(0, 0), (1, 1), (0, 2), (0, 3), (0, 4), (0, 5), (0, 6), (0, 7), (0, 8), (0, 9), (0, 10), (0, 11), (0, 12), (0, 13), (0, 14), (0, 15)] := by kernel_rfl
@[simp] theorem Tryd.ok47 : okT Tryd.prog 47 = true := by kernel_rfl
@[simp] theorem Tryd.sz47 : szOf Tryd.prog 47 = 16 := by kernel_rfl
@[simp] theorem Tryd.ag47 : isAg Tryd.prog 47 = true := by kernel_rfl
@[simp] theorem Tryd.hz47 : hasZ Tryd.prog 47 = true := by kernel_rfl
@[simp] theorem Tryd.zc47 : zeroC Tryd.prog 47 = [.int .i64 0, .string ⟨#[]⟩, .int .i64 0, .int .i64 0, .int .i64 0, .int .i64 0, .int .i64 0, .int .i64 0, .int .i64 0, .int .i64 0, .int .i64 0, .int .i64 0, .int .i64 0, .int .i64 0, .int .i64 0, .int .i64 0] := by kernel_rfl
@[simp] theorem Tryd.by47 : byOf Tryd.prog 47 = 136 := by kernel_rfl
@[simp] theorem Tryd.st47 : isStr Tryd.prog 47 = false := by kernel_rfl
@[simp] theorem Tryd.el47 : slEl Tryd.prog 47 = none := by kernel_rfl
@[simp] theorem Tryd.zv47 : zeroV Tryd.prog 47 = .agg #[.int .i64 0, .string ⟨#[]⟩, .int .i64 0, .int .i64 0, .int .i64 0, .int .i64 0, .int .i64 0, .int .i64 0, .int .i64 0, .int .i64 0, .int .i64 0, .int .i64 0, .int .i64 0, .int .i64 0, .int .i64 0, .int .i64 0] := by kernel_rfl
@[simp] theorem Tryd.fk47 : flOk Tryd.prog 47 = true := by kernel_rfl
@[simp] theorem Tryd.fl47_0 : flOf Tryd.prog 47 0 = some (0, 3) := by kernel_rfl
@[simp] theorem Tryd.fl47_1 : flOf Tryd.prog 47 1 = some (1, 9) := by kernel_rfl
@[simp] theorem Tryd.fl47_2 : flOf Tryd.prog 47 2 = some (2, 3) := by kernel_rfl
@[simp] theorem Tryd.fl47_3 : flOf Tryd.prog 47 3 = some (3, 26) := by kernel_rfl
@[simp] theorem Tryd.fl47_4 : flOf Tryd.prog 47 4 = some (11, 32) := by kernel_rfl
@[simp] theorem Tryd.eq47 : eqPlan Tryd.prog 47 = some [(0, 0), (1, 1), (0, 2), (0, 3), (0, 4), (0, 5), (0, 6), (0, 7), (0, 8), (0, 9), (0, 10), (0, 11), (0, 12), (0, 13), (0, 14), (0, 15)] := by kernel_rfl
@[simp] theorem Tryd.ok51 : okT Tryd.prog 51 = true := by kernel_rfl
@[simp] theorem Tryd.sz51 : szOf Tryd.prog 51 = 1 := by kernel_rfl
@[simp] theorem Tryd.ag51 : isAg Tryd.prog 51 = false := by kernel_rfl
@[simp] theorem Tryd.hz51 : hasZ Tryd.prog 51 = true := by kernel_rfl
@[simp] theorem Tryd.zc51 : zeroC Tryd.prog 51 = [.slice none 0 0] := by kernel_rfl
@[simp] theorem Tryd.by51 : byOf Tryd.prog 51 = 24 := by kernel_rfl
@[simp] theorem Tryd.st51 : isStr Tryd.prog 51 = false := by kernel_rfl
@[simp] theorem Tryd.el51 : slEl Tryd.prog 51 = some 3 := by kernel_rfl
@[simp] theorem Tryd.zv51 : zeroV Tryd.prog 51 = .slice none 0 0 := by kernel_rfl
@[simp] theorem Tryd.ok58 : okT Tryd.prog 58 = true := by kernel_rfl
@[simp] theorem Tryd.sz58 : szOf Tryd.prog 58 = 5 := by kernel_rfl
@[simp] theorem Tryd.ag58 : isAg Tryd.prog 58 = true := by kernel_rfl
@[simp] theorem Tryd.hz58 : hasZ Tryd.prog 58 = true := by kernel_rfl
@[simp] theorem Tryd.zc58 : zeroC Tryd.prog 58 = [.int .i64 0, .int .i64 0, .int .i64 0, .int .i64 0, .int .i64 0] := by kernel_rfl
@[simp] theorem Tryd.by58 : byOf Tryd.prog 58 = 40 := by kernel_rfl
@[simp] theorem Tryd.st58 : isStr Tryd.prog 58 = false := by kernel_rfl
@[simp] theorem Tryd.el58 : slEl Tryd.prog 58 = none := by kernel_rfl
@[simp] theorem Tryd.zv58 : zeroV Tryd.prog 58 = .agg #[.int .i64 0, .int .i64 0, .int .i64 0, .int .i64 0, .int .i64 0] := by kernel_rfl
@[simp] theorem Tryd.fk58 : flOk Tryd.prog 58 = true := by kernel_rfl
@[simp] theorem Tryd.fl58_0 : flOf Tryd.prog 58 0 = some (0, 3) := by kernel_rfl
@[simp] theorem Tryd.fl58_1 : flOf Tryd.prog 58 1 = some (1, 3) := by kernel_rfl
@[simp] theorem Tryd.fl58_2 : flOf Tryd.prog 58 2 = some (2, 3) := by kernel_rfl
@[simp] theorem Tryd.fl58_3 : flOf Tryd.prog 58 3 = some (3, 3) := by kernel_rfl
@[simp] theorem Tryd.fl58_4 : flOf Tryd.prog 58 4 = some (4, 3) := by kernel_rfl
@[simp] theorem Tryd.eq58 : eqPlan Tryd.prog 58 = some [(0, 0), (0, 1), (0, 2), (0, 3), (0, 4)] := by kernel_rfl
@[simp] theorem Tryd.ok59 : okT Tryd.prog 59 = true := by kernel_rfl
@[simp] theorem Tryd.sz59 : szOf Tryd.prog 59 = 5 := by kernel_rfl
@[simp] theorem Tryd.ag59 : isAg Tryd.prog 59 = true := by kernel_rfl
@[simp] theorem Tryd.hz59 : hasZ Tryd.prog 59 = true := by kernel_rfl
@[simp] theorem Tryd.zc59 : zeroC Tryd.prog 59 = [.int .i64 0, .int .i64 0, .int .i64 0, .int .i64 0, .int .i64 0] := by kernel_rfl
@[simp] theorem Tryd.by59 : byOf Tryd.prog 59 = 40 := by kernel_rfl
@[simp] theorem Tryd.st59 : isStr Tryd.prog 59 = false := by kernel_rfl
@[simp] theorem Tryd.el59 : slEl Tryd.prog 59 = none := by kernel_rfl
@[simp] theorem Tryd.zv59 : zeroV Tryd.prog 59 = .agg #[.int .i64 0, .int .i64 0, .int .i64 0, .int .i64 0, .int .i64 0] := by kernel_rfl
@[simp] theorem Tryd.fk59 : flOk Tryd.prog 59 = true := by kernel_rfl
@[simp] theorem Tryd.fl59_0 : flOf Tryd.prog 59 0 = some (0, 3) := by kernel_rfl
@[simp] theorem Tryd.fl59_1 : flOf Tryd.prog 59 1 = some (1, 3) := by kernel_rfl
@[simp] theorem Tryd.fl59_2 : flOf Tryd.prog 59 2 = some (2, 3) := by kernel_rfl
@[simp] theorem Tryd.fl59_3 : flOf Tryd.prog 59 3 = some (3, 3) := by kernel_rfl
@[simp] theorem Tryd.fl59_4 : flOf Tryd.prog 59 4 = some (4, 3) := by kernel_rfl
@[simp] theorem Tryd.eq59 : eqPlan Tryd.prog 59 = some [(0, 0), (0, 1), (0, 2), (0, 3), (0, 4)] := by kernel_rfl
@[simp] theorem Tryd.ok61 : okT Tryd.prog 61 = true := by kernel_rfl
@[simp] theorem Tryd.sz61 : szOf Tryd.prog 61 = 5 := by kernel_rfl
@[simp] theorem Tryd.ag61 : isAg Tryd.prog 61 = true := by kernel_rfl
@[simp] theorem Tryd.hz61 : hasZ Tryd.prog 61 = true := by kernel_rfl
@[simp] theorem Tryd.zc61 : zeroC Tryd.prog 61 = [.int .i64 0, .int .i64 0, .int .i64 0, .int .i64 0, .int .i64 0] := by kernel_rfl
@[simp] theorem Tryd.by61 : byOf Tryd.prog 61 = 40 := by kernel_rfl
@[simp] theorem Tryd.st61 : isStr Tryd.prog 61 = false := by kernel_rfl
@[simp] theorem Tryd.el61 : slEl Tryd.prog 61 = none := by kernel_rfl
@[simp] theorem Tryd.zv61 : zeroV Tryd.prog 61 = .agg #[.int .i64 0, .int .i64 0, .int .i64 0, .int .i64 0, .int .i64 0] := by kernel_rfl
@[simp] theorem Tryd.fk61 : flOk Tryd.prog 61 = true := by kernel_rfl
@[simp] theorem Tryd.fl61_0 : flOf Tryd.prog 61 0 = some (0, 3) := by kernel_rfl
@[simp] theorem Tryd.fl61_1 : flOf Tryd.prog 61 1 = some (1, 3) := by kernel_rfl
@[simp] theorem Tryd.fl61_2 : flOf Tryd.prog 61 2 = some (2, 3) := by kernel_rfl
@[simp] theorem Tryd.fl61_3 : flOf Tryd.prog 61 3 = some (3, 3) := by kernel_rfl
@[simp] theorem Tryd.fl61_4 : flOf Tryd.prog 61 4 = some (4, 3) := by kernel_rfl
@[simp] theorem Tryd.eq61 : eqPlan Tryd.prog 61 = some [(0, 0), (0, 1), (0, 2), (0, 3), (0, 4)] := by kernel_rfl
@[simp] theorem Tryd.ok63 : okT Tryd.prog 63 = true := by kernel_rfl
@[simp] theorem Tryd.sz63 : szOf Tryd.prog 63 = 5 := by kernel_rfl
@[simp] theorem Tryd.ag63 : isAg Tryd.prog 63 = true := by kernel_rfl
@[simp] theorem Tryd.hz63 : hasZ Tryd.prog 63 = true := by kernel_rfl
@[simp] theorem Tryd.zc63 : zeroC Tryd.prog 63 = [.string ⟨#[]⟩, .string ⟨#[]⟩, .string ⟨#[]⟩, .string ⟨#[]⟩, .string ⟨#[]⟩] := by kernel_rfl
@[simp] theorem Tryd.by63 : byOf Tryd.prog 63 = 80 := by kernel_rfl
@[simp] theorem Tryd.st63 : isStr Tryd.prog 63 = false := by kernel_rfl
@[simp] theorem Tryd.el63 : slEl Tryd.prog 63 = none := by kernel_rfl
@[simp] theorem Tryd.ar63 : arEl Tryd.prog 63 = some (5, 9) := by kernel_rfl
@[simp] theorem Tryd.ok69 : okT Tryd.prog 69 = true := by kernel_rfl
@[simp] theorem Tryd.sz69 : szOf Tryd.prog 69 = 1 := by kernel_rfl
@[simp] theorem Tryd.ag69 : isAg Tryd.prog 69 = false := by kernel_rfl
@[simp] theorem Tryd.hz69 : hasZ Tryd.prog 69 = true := by kernel_rfl
@[simp] theorem Tryd.zc69 : zeroC Tryd.prog 69 = [.slice none 0 0] := by kernel_rfl
@[simp] theorem Tryd.by69 : byOf Tryd.prog 69 = 24 := by kernel_rfl
@[simp] theorem Tryd.st69 : isStr Tryd.prog 69 = false := by kernel_rfl
@[simp] theorem Tryd.el69 : slEl Tryd.prog 69 = some 9 := by kernel_rfl
@[simp] theorem Tryd.zv69 : zeroV Tryd.prog 69 = .slice none 0 0 := by kernel_rfl
@[simp] theorem Tryd.ok80 : okT Tryd.prog 80 = true := by kernel_rfl
@[simp] theorem Tryd.sz80 : szOf Tryd.prog 80 = 1 := by kernel_rfl
@[simp] theorem Tryd.ag80 : isAg Tryd.prog 80 = false := by kernel_rfl
@[simp] theorem Tryd.hz80 : hasZ Tryd.prog 80 = true := by kernel_rfl
@[simp] theorem Tryd.zc80 : zeroC Tryd.prog 80 = [.map none] := by kernel_rfl
@[simp] theorem Tryd.by80 : byOf Tryd.prog 80 = 8 := by kernel_rfl
@[simp] theorem Tryd.st80 : isStr Tryd.prog 80 = false := by kernel_rfl
@[simp] theorem Tryd.el80 : slEl Tryd.prog 80 = none := by kernel_rfl
@[simp] theorem Tryd.mk80 : mapKV Tryd.prog 80 = some (3, 59) := by kernel_rfl
@[simp] theorem Tryd.zv80 : zeroV Tryd.prog 80 = .map none := by kernel_rfl
@[simp] theorem Tryd.ok81 : okT Tryd.prog 81 = true := by kernel_rfl
@[simp] theorem Tryd.sz81 : szOf Tryd.prog 81 = 1 := by kernel_rfl
@[simp] theorem Tryd.ag81 : isAg Tryd.prog 81 = false := by kernel_rfl
@[simp] theorem Tryd.hz81 : hasZ Tryd.prog 81 = true := by kernel_rfl
@[simp] theorem Tryd.zc81 : zeroC Tryd.prog 81 = [.map none] := by kernel_rfl
@[simp] theorem Tryd.by81 : byOf Tryd.prog 81 = 8 := by kernel_rfl
@[simp] theorem Tryd.st81 : isStr Tryd.prog 81 = false := by kernel_rfl
@[simp] theorem Tryd.el81 : slEl Tryd.prog 81 = none := by kernel_rfl
@[simp] theorem Tryd.mk81 : mapKV Tryd.prog 81 = some (3, 4) := by kernel_rfl
@[simp] theorem Tryd.zv81 : zeroV Tryd.prog 81 = .map none := by kernel_rfl
@[simp] theorem Tryd.ok90 : okT Tryd.prog 90 = true := by kernel_rfl
@[simp] theorem Tryd.sz90 : szOf Tryd.prog 90 = 1 := by kernel_rfl
@[simp] theorem Tryd.ag90 : isAg Tryd.prog 90 = false := by kernel_rfl
@[simp] theorem Tryd.hz90 : hasZ Tryd.prog 90 = true := by kernel_rfl
@[simp] theorem Tryd.zc90 : zeroC Tryd.prog 90 = [.slice none 0 0] := by kernel_rfl
@[simp] theorem Tryd.by90 : byOf Tryd.prog 90 = 24 := by kernel_rfl
@[simp] theorem Tryd.st90 : isStr Tryd.prog 90 = false := by kernel_rfl
@[simp] theorem Tryd.el90 : slEl Tryd.prog 90 = some 5 := by kernel_rfl
@[simp] theorem Tryd.bs90 : byteSl Tryd.prog 90 = true := by kernel_rfl
@[simp] theorem Tryd.zv90 : zeroV Tryd.prog 90 = .slice none 0 0 := by kernel_rfl
@[simp] theorem Tryd.ok92 : okT Tryd.prog 92 = true := by kernel_rfl
@[simp] theorem Tryd.sz92 : szOf Tryd.prog 92 = 1 := by kernel_rfl
@[simp] theorem Tryd.ag92 : isAg Tryd.prog 92 = false := by kernel_rfl
@[simp] theorem Tryd.hz92 : hasZ Tryd.prog 92 = true := by kernel_rfl
@[simp] theorem Tryd.zc92 : zeroC Tryd.prog 92 = [.pointer none] := by kernel_rfl
@[simp] theorem Tryd.by92 : byOf Tryd.prog 92 = 8 := by kernel_rfl
@[simp] theorem Tryd.st92 : isStr Tryd.prog 92 = false := by kernel_rfl
@[simp] theorem Tryd.el92 : slEl Tryd.prog 92 = none := by kernel_rfl
@[simp] theorem Tryd.zv92 : zeroV Tryd.prog 92 = .pointer none := by kernel_rfl
@[simp] theorem Tryd.ok93 : okT Tryd.prog 93 = true := by kernel_rfl
@[simp] theorem Tryd.sz93 : szOf Tryd.prog 93 = 2 := by kernel_rfl
@[simp] theorem Tryd.ag93 : isAg Tryd.prog 93 = true := by kernel_rfl
@[simp] theorem Tryd.hz93 : hasZ Tryd.prog 93 = true := by kernel_rfl
@[simp] theorem Tryd.zc93 : zeroC Tryd.prog 93 = [.pointer none, .slice none 0 0] := by kernel_rfl
@[simp] theorem Tryd.by93 : byOf Tryd.prog 93 = 32 := by kernel_rfl
@[simp] theorem Tryd.st93 : isStr Tryd.prog 93 = false := by kernel_rfl
@[simp] theorem Tryd.el93 : slEl Tryd.prog 93 = none := by kernel_rfl
@[simp] theorem Tryd.zv93 : zeroV Tryd.prog 93 = .agg #[.pointer none, .slice none 0 0] := by kernel_rfl
@[simp] theorem Tryd.fk93 : flOk Tryd.prog 93 = true := by kernel_rfl
@[simp] theorem Tryd.fl93_0 : flOf Tryd.prog 93 0 = some (0, 92) := by kernel_rfl
@[simp] theorem Tryd.fl93_1 : flOf Tryd.prog 93 1 = some (1, 90) := by kernel_rfl
@[simp] theorem Tryd.ok94 : okT Tryd.prog 94 = true := by kernel_rfl
@[simp] theorem Tryd.sz94 : szOf Tryd.prog 94 = 2 := by kernel_rfl
@[simp] theorem Tryd.ag94 : isAg Tryd.prog 94 = true := by kernel_rfl
@[simp] theorem Tryd.hz94 : hasZ Tryd.prog 94 = true := by kernel_rfl
@[simp] theorem Tryd.zc94 : zeroC Tryd.prog 94 = [.pointer none, .slice none 0 0] := by kernel_rfl
@[simp] theorem Tryd.by94 : byOf Tryd.prog 94 = 32 := by kernel_rfl
@[simp] theorem Tryd.st94 : isStr Tryd.prog 94 = false := by kernel_rfl
@[simp] theorem Tryd.el94 : slEl Tryd.prog 94 = none := by kernel_rfl
@[simp] theorem Tryd.zv94 : zeroV Tryd.prog 94 = .agg #[.pointer none, .slice none 0 0] := by kernel_rfl
@[simp] theorem Tryd.fk94 : flOk Tryd.prog 94 = true := by kernel_rfl
@[simp] theorem Tryd.fl94_0 : flOf Tryd.prog 94 0 = some (0, 92) := by kernel_rfl
@[simp] theorem Tryd.fl94_1 : flOf Tryd.prog 94 1 = some (1, 90) := by kernel_rfl
@[simp] theorem Tryd.ok103 : okT Tryd.prog 103 = true := by kernel_rfl
@[simp] theorem Tryd.sz103 : szOf Tryd.prog 103 = 1 := by kernel_rfl
@[simp] theorem Tryd.ag103 : isAg Tryd.prog 103 = false := by kernel_rfl
@[simp] theorem Tryd.hz103 : hasZ Tryd.prog 103 = true := by kernel_rfl
@[simp] theorem Tryd.zc103 : zeroC Tryd.prog 103 = [.int .u64 0] := by kernel_rfl
@[simp] theorem Tryd.by103 : byOf Tryd.prog 103 = 8 := by kernel_rfl
@[simp] theorem Tryd.st103 : isStr Tryd.prog 103 = false := by kernel_rfl
@[simp] theorem Tryd.ik103 : inK Tryd.prog 103 = some .u64 := by kernel_rfl
@[simp] theorem Tryd.el103 : slEl Tryd.prog 103 = none := by kernel_rfl
@[simp] theorem Tryd.zv103 : zeroV Tryd.prog 103 = .int .u64 0 := by kernel_rfl
@[simp] theorem Tryd.ok104 : okT Tryd.prog 104 = true := by kernel_rfl
@[simp] theorem Tryd.sz104 : szOf Tryd.prog 104 = 24 := by kernel_rfl
@[simp] theorem Tryd.ag104 : isAg Tryd.prog 104 = true := by kernel_rfl
@[simp] theorem Tryd.hz104 : hasZ Tryd.prog 104 = true := by kernel_rfl
@[simp] theorem Tryd.zc104 : zeroC Tryd.prog 104 = [.int .u8 0, .int .u8 0, .int .u8 0, .int .u8 0, .int .u8 0, .int .u8 0, .int .u8 0, .int .u8 0, .int .u8 0, .int .u8 0, .int .u8 0, .int .u8 0, .int .u8 0, .int .u8 0, .int .u8 0, .int .u8 0, .int .u8 0, .int .u8 0, .int .u8 0, .int .u8 0, .int .u8 0, .int .u8 0, .int .u8 0, .int .u8 0] := by kernel_rfl
@[simp] theorem Tryd.by104 : byOf Tryd.prog 104 = 24 := by kernel_rfl
@[simp] theorem Tryd.st104 : isStr Tryd.prog 104 = false := by kernel_rfl
@[simp] theorem Tryd.el104 : slEl Tryd.prog 104 = none := by kernel_rfl
@[simp] theorem Tryd.ar104 : arEl Tryd.prog 104 = some (24, 5) := by kernel_rfl
@[simp] theorem Tryd.ok105 : okT Tryd.prog 105 = true := by kernel_rfl
@[simp] theorem Tryd.sz105 : szOf Tryd.prog 105 = 1 := by kernel_rfl
@[simp] theorem Tryd.ag105 : isAg Tryd.prog 105 = false := by kernel_rfl
@[simp] theorem Tryd.hz105 : hasZ Tryd.prog 105 = true := by kernel_rfl
@[simp] theorem Tryd.zc105 : zeroC Tryd.prog 105 = [.int .u64 0] := by kernel_rfl
@[simp] theorem Tryd.by105 : byOf Tryd.prog 105 = 8 := by kernel_rfl
@[simp] theorem Tryd.st105 : isStr Tryd.prog 105 = false := by kernel_rfl
@[simp] theorem Tryd.ik105 : inK Tryd.prog 105 = some .u64 := by kernel_rfl
@[simp] theorem Tryd.el105 : slEl Tryd.prog 105 = none := by kernel_rfl
@[simp] theorem Tryd.zv105 : zeroV Tryd.prog 105 = .int .u64 0 := by kernel_rfl
@[simp] theorem Tryd.ok110 : okT Tryd.prog 110 = true := by kernel_rfl
@[simp] theorem Tryd.sz110 : szOf Tryd.prog 110 = 1 := by kernel_rfl
@[simp] theorem Tryd.ag110 : isAg Tryd.prog 110 = false := by kernel_rfl
@[simp] theorem Tryd.hz110 : hasZ Tryd.prog 110 = true := by kernel_rfl
@[simp] theorem Tryd.zc110 : zeroC Tryd.prog 110 = [.pointer none] := by kernel_rfl
@[simp] theorem Tryd.by110 : byOf Tryd.prog 110 = 8 := by kernel_rfl
@[simp] theorem Tryd.st110 : isStr Tryd.prog 110 = false := by kernel_rfl
@[simp] theorem Tryd.el110 : slEl Tryd.prog 110 = none := by kernel_rfl
@[simp] theorem Tryd.zv110 : zeroV Tryd.prog 110 = .pointer none := by kernel_rfl
@[simp] theorem Tryd.ok112 : okT Tryd.prog 112 = true := by kernel_rfl
@[simp] theorem Tryd.sz112 : szOf Tryd.prog 112 = 14 := by kernel_rfl
@[simp] theorem Tryd.ag112 : isAg Tryd.prog 112 = true := by kernel_rfl
@[simp] theorem Tryd.hz112 : hasZ Tryd.prog 112 = true := by kernel_rfl
@[simp] theorem Tryd.zc112 : zeroC Tryd.prog 112 = [.string ⟨#[]⟩, .string ⟨#[]⟩, .string ⟨#[]⟩, .string ⟨#[]⟩, .string ⟨#[]⟩, .string ⟨#[]⟩, .string ⟨#[]⟩, .string ⟨#[]⟩, .string ⟨#[]⟩, .string ⟨#[]⟩, .string ⟨#[]⟩, .string ⟨#[]⟩, .string ⟨#[]⟩, .string ⟨#[]⟩] := by kernel_rfl
@[simp] theorem Tryd.by112 : byOf Tryd.prog 112 = 224 := by kernel_rfl
@[simp] theorem Tryd.st112 : isStr Tryd.prog 112 = false := by kernel_rfl
@[simp] theorem Tryd.el112 : slEl Tryd.prog 112 = none := by kernel_rfl
@[simp] theorem Tryd.ar112 : arEl Tryd.prog 112 = some (14, 9) := by kernel_rfl
@[simp] theorem Tryd.ok114 : okT Tryd.prog 114 = true := by kernel_rfl
@[simp] theorem Tryd.sz114 : szOf Tryd.prog 114 = 20 := by kernel_rfl
@[simp] theorem Tryd.ag114 : isAg Tryd.prog 114 = true := by kernel_rfl
@[simp] theorem Tryd.hz114 : hasZ Tryd.prog 114 = true := by kernel_rfl
@[simp] theorem Tryd.zc114 : zeroC Tryd.prog 114 = [.int .u64 0, .int .u64 0, .int .u64 0, .int .u64 0, .int .u64 0, .int .u64 0, .int .u64 0, .int .u64 0, .int .u64 0, .int .u64 0, .int .u64 0, .int .u64 0, .int .u64 0, .int .u64 0, .int .u64 0, .int .u64 0, .int .u64 0, .int .u64 0, .int .u64 0, .int .u64 0] := by kernel_rfl
@[simp] theorem Tryd.by114 : byOf Tryd.prog 114 = 160 := by kernel_rfl
@[simp] theorem Tryd.st114 : isStr Tryd.prog 114 = false := by kernel_rfl
@[simp] theorem Tryd.el114 : slEl Tryd.prog 114 = none := by kernel_rfl
@[simp] theorem Tryd.ar114 : arEl Tryd.prog 114 = some (20, 105) := by kernel_rfl
@[simp] theorem Tryd.ok115 : okT Tryd.prog 115 = true := by kernel_rfl
@[simp] theorem Tryd.sz115 : szOf Tryd.prog 115 = 1 := by kernel_rfl
@[simp] theorem Tryd.ag115 : isAg Tryd.prog 115 = false := by kernel_rfl
@[simp] theorem Tryd.hz115 : hasZ Tryd.prog 115 = true := by kernel_rfl
@[simp] theorem Tryd.zc115 : zeroC Tryd.prog 115 = [.int .u32 0] := by kernel_rfl
@[simp] theorem Tryd.by115 : byOf Tryd.prog 115 = 4 := by kernel_rfl
@[simp] theorem Tryd.st115 : isStr Tryd.prog 115 = false := by kernel_rfl
@[simp] theorem Tryd.ik115 : inK Tryd.prog 115 = some .u32 := by kernel_rfl
@[simp] theorem Tryd.el115 : slEl Tryd.prog 115 = none := by kernel_rfl
@[simp] theorem Tryd.zv115 : zeroV Tryd.prog 115 = .int .u32 0 := by kernel_rfl
@[simp] theorem Tryd.ok122 : okT Tryd.prog 122 = true := by kernel_rfl
@[simp] theorem Tryd.sz122 : szOf Tryd.prog 122 = 32 := by kernel_rfl
@[simp] theorem Tryd.ag122 : isAg Tryd.prog 122 = true := by kernel_rfl
@[simp] theorem Tryd.hz122 : hasZ Tryd.prog 122 = true := by kernel_rfl
@[simp] theorem Tryd.zc122 : zeroC Tryd.prog 122 = [.int .u8 0, .int .u8 0, .int .u8 0, .int .u8 0, .int .u8 0, .int .u8 0, .int .u8 0, .int .u8 0, .int .u8 0, .int .u8 0, .int .u8 0, .int .u8 0, .int .u8 0, .int .u8 0, .int .u8 0, .int .u8 0, .int .u8 0, .int .u8 0, .int .u8 0, .int .u8 0, .int .u8 0, .int .u8 0, .int .u8 0, .int .u8 0, .int .u8 0, .int .u8 0, .int .u8 0, .int .u8 0, .int .u8 0, .int .u8 0, .int .u8 0, .int .u8 0] := by kernel_rfl
@[simp] theorem Tryd.by122 : byOf Tryd.prog 122 = 32 := by kernel_rfl
@[simp] theorem Tryd.st122 : isStr Tryd.prog 122 = false := by kernel_rfl
@[simp] theorem Tryd.el122 : slEl Tryd.prog 122 = none := by kernel_rfl
@[simp] theorem Tryd.ar122 : arEl Tryd.prog 122 = some (32, 5) := by kernel_rfl
@[simp] theorem Tryd.ok123 : okT Tryd.prog 123 = true := by kernel_rfl
@[simp] theorem Tryd.sz123 : szOf Tryd.prog 123 = 64 := by kernel_rfl
@[simp] theorem Tryd.ag123 : isAg Tryd.prog 123 = true := by kernel_rfl
@[simp] theorem Tryd.hz123 : hasZ Tryd.prog 123 = true := by kernel_rfl
@[simp] theorem Tryd.by123 : byOf Tryd.prog 123 = 64 := by kernel_rfl
@[simp] theorem Tryd.st123 : isStr Tryd.prog 123 = false := by kernel_rfl
@[simp] theorem Tryd.el123 : slEl Tryd.prog 123 = none := by kernel_rfl
@[simp] theorem Tryd.ar123 : arEl Tryd.prog 123 = some (64, 5) := by kernel_rfl
theorem Tryd.mix : Tryd.prog.follows .mixedOrders = true := by kernel_rfl
end Go.Proofs
