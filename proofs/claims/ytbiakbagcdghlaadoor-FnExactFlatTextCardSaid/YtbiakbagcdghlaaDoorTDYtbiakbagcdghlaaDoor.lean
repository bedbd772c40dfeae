/-
  What is proved here: facts on the types of the program. Condition: none.
-/
import Derived.Test.YtbiakbagcdghlaaDoorAbsD
import Derived.Test.YtbiakbagcdghlaaDoorProg
import Derived.KernelRfl
namespace Go.Proofs
open Go.Abs
@[simp] theorem Tryd.ok2 : okT Tryd.prog 2 = true := by kernel_rfl
@[simp] theorem Tryd.sz2 : szOf Tryd.prog 2 = 1 := by kernel_rfl
@[simp] theorem Tryd.ag2 : isAg Tryd.prog 2 = false := by kernel_rfl
@[simp] theorem Tryd.hz2 : hasZ Tryd.prog 2 = true := by kernel_rfl
@[simp] theorem Tryd.zc2 : zeroC Tryd.prog 2 = [.int .i64 0] := by kernel_rfl
@[simp] theorem Tryd.by2 : byOf Tryd.prog 2 = 8 := by kernel_rfl
@[simp] theorem Tryd.st2 : isStr Tryd.prog 2 = false := by kernel_rfl
@[simp] theorem Tryd.ik2 : inK Tryd.prog 2 = some .i64 := by kernel_rfl
@[simp] theorem Tryd.el2 : slEl Tryd.prog 2 = none := by kernel_rfl
@[simp] theorem Tryd.zv2 : zeroV Tryd.prog 2 = .int .i64 0 := by kernel_rfl
@[simp] theorem Tryd.ok3 : okT Tryd.prog 3 = true := by kernel_rfl
@[simp] theorem Tryd.sz3 : szOf Tryd.prog 3 = 1 := by kernel_rfl
@[simp] theorem Tryd.ag3 : isAg Tryd.prog 3 = false := by kernel_rfl
@[simp] theorem Tryd.hz3 : hasZ Tryd.prog 3 = true := by kernel_rfl
@[simp] theorem Tryd.zc3 : zeroC Tryd.prog 3 = [.int .i64 0] := by kernel_rfl
@[simp] theorem Tryd.by3 : byOf Tryd.prog 3 = 8 := by kernel_rfl
@[simp] theorem Tryd.st3 : isStr Tryd.prog 3 = false := by kernel_rfl
@[simp] theorem Tryd.ik3 : inK Tryd.prog 3 = some .i64 := by kernel_rfl
@[simp] theorem Tryd.el3 : slEl Tryd.prog 3 = none := by kernel_rfl
@[simp] theorem Tryd.zv3 : zeroV Tryd.prog 3 = .int .i64 0 := by kernel_rfl
@[simp] theorem Tryd.ok4 : okT Tryd.prog 4 = true := by kernel_rfl
@[simp] theorem Tryd.sz4 : szOf Tryd.prog 4 = 1 := by kernel_rfl
@[simp] theorem Tryd.ag4 : isAg Tryd.prog 4 = false := by kernel_rfl
@[simp] theorem Tryd.hz4 : hasZ Tryd.prog 4 = true := by kernel_rfl
@[simp] theorem Tryd.zc4 : zeroC Tryd.prog 4 = [.bool false] := by kernel_rfl
@[simp] theorem Tryd.by4 : byOf Tryd.prog 4 = 1 := by kernel_rfl
@[simp] theorem Tryd.st4 : isStr Tryd.prog 4 = false := by kernel_rfl
@[simp] theorem Tryd.un4 : Tryd.prog.underlying 4 = some .bool := by kernel_rfl
@[simp] theorem Tryd.el4 : slEl Tryd.prog 4 = none := by kernel_rfl
@[simp] theorem Tryd.zv4 : zeroV Tryd.prog 4 = .bool false := by kernel_rfl
@[simp] theorem Tryd.ok5 : okT Tryd.prog 5 = true := by kernel_rfl
@[simp] theorem Tryd.sz5 : szOf Tryd.prog 5 = 1 := by kernel_rfl
@[simp] theorem Tryd.ag5 : isAg Tryd.prog 5 = false := by kernel_rfl
@[simp] theorem Tryd.hz5 : hasZ Tryd.prog 5 = true := by kernel_rfl
@[simp] theorem Tryd.zc5 : zeroC Tryd.prog 5 = [.int .u8 0] := by kernel_rfl
@[simp] theorem Tryd.by5 : byOf Tryd.prog 5 = 1 := by kernel_rfl
@[simp] theorem Tryd.st5 : isStr Tryd.prog 5 = false := by kernel_rfl
@[simp] theorem Tryd.ik5 : inK Tryd.prog 5 = some .u8 := by kernel_rfl
@[simp] theorem Tryd.el5 : slEl Tryd.prog 5 = none := by kernel_rfl
@[simp] theorem Tryd.zv5 : zeroV Tryd.prog 5 = .int .u8 0 := by kernel_rfl
@[simp] theorem Tryd.ok9 : okT Tryd.prog 9 = true := by kernel_rfl
@[simp] theorem Tryd.sz9 : szOf Tryd.prog 9 = 1 := by kernel_rfl
@[simp] theorem Tryd.ag9 : isAg Tryd.prog 9 = false := by kernel_rfl
@[simp] theorem Tryd.hz9 : hasZ Tryd.prog 9 = true := by kernel_rfl
@[simp] theorem Tryd.zc9 : zeroC Tryd.prog 9 = [.string ⟨#[]⟩] := by kernel_rfl
@[simp] theorem Tryd.by9 : byOf Tryd.prog 9 = 16 := by kernel_rfl
@[simp] theorem Tryd.st9 : isStr Tryd.prog 9 = true := by kernel_rfl
@[simp] theorem Tryd.el9 : slEl Tryd.prog 9 = none := by kernel_rfl
@[simp] theorem Tryd.zv9 : zeroV Tryd.prog 9 = .string ⟨#[]⟩ := by kernel_rfl
@[simp] theorem Tryd.ok12 : okT Tryd.prog 12 = true := by kernel_rfl
@[simp] theorem Tryd.sz12 : szOf Tryd.prog 12 = 1 := by kernel_rfl
@[simp] theorem Tryd.ag12 : isAg Tryd.prog 12 = false := by kernel_rfl
@[simp] theorem Tryd.hz12 : hasZ Tryd.prog 12 = true := by kernel_rfl
@[simp] theorem Tryd.zc12 : zeroC Tryd.prog 12 = [.int .u64 0] := by kernel_rfl
@[simp] theorem Tryd.by12 : byOf Tryd.prog 12 = 8 := by kernel_rfl
@[simp] theorem Tryd.st12 : isStr Tryd.prog 12 = false := by kernel_rfl
@[simp] theorem Tryd.ik12 : inK Tryd.prog 12 = some .u64 := by kernel_rfl
@[simp] theorem Tryd.el12 : slEl Tryd.prog 12 = none := by kernel_rfl
@[simp] theorem Tryd.zv12 : zeroV Tryd.prog 12 = .int .u64 0 := by kernel_rfl
@[simp] theorem Tryd.ok21 : okT Tryd.prog 21 = true := by kernel_rfl
@[simp] theorem Tryd.sz21 : szOf Tryd.prog 21 = 1 := by kernel_rfl
@[simp] theorem Tryd.ag21 : isAg Tryd.prog 21 = false := by kernel_rfl
@[simp] theorem Tryd.hz21 : hasZ Tryd.prog 21 = true := by kernel_rfl
@[simp] theorem Tryd.zc21 : zeroC Tryd.prog 21 = [.int .i32 0] := by kernel_rfl
@[simp] theorem Tryd.by21 : byOf Tryd.prog 21 = 4 := by kernel_rfl
@[simp] theorem Tryd.st21 : isStr Tryd.prog 21 = false := by kernel_rfl
@[simp] theorem Tryd.ik21 : inK Tryd.prog 21 = some .i32 := by kernel_rfl
@[simp] theorem Tryd.el21 : slEl Tryd.prog 21 = none := by kernel_rfl
@[simp] theorem Tryd.zv21 : zeroV Tryd.prog 21 = .int .i32 0 := by kernel_rfl
@[simp] theorem Tryd.ok22 : okT Tryd.prog 22 = true := by kernel_rfl
@[simp] theorem Tryd.sz22 : szOf Tryd.prog 22 = 1 := by kernel_rfl
@[simp] theorem Tryd.ag22 : isAg Tryd.prog 22 = false := by kernel_rfl
@[simp] theorem Tryd.hz22 : hasZ Tryd.prog 22 = true := by kernel_rfl
@[simp] theorem Tryd.zc22 : zeroC Tryd.prog 22 = [.slice none 0 0] := by kernel_rfl
@[simp] theorem Tryd.by22 : byOf Tryd.prog 22 = 24 := by kernel_rfl
@[simp] theorem Tryd.st22 : isStr Tryd.prog 22 = false := by kernel_rfl
@[simp] theorem Tryd.el22 : slEl Tryd.prog 22 = some 53 := by kernel_rfl
@[simp] theorem Tryd.zv22 : zeroV Tryd.prog 22 = .slice none 0 0 := by kernel_rfl
@[simp] theorem Tryd.ok23 : okT Tryd.prog 23 = true := by kernel_rfl
@[simp] theorem Tryd.sz23 : szOf Tryd.prog 23 = 1 := by kernel_rfl
@[simp] theorem Tryd.ag23 : isAg Tryd.prog 23 = false := by kernel_rfl
@[simp] theorem Tryd.hz23 : hasZ Tryd.prog 23 = true := by kernel_rfl
@[simp] theorem Tryd.zc23 : zeroC Tryd.prog 23 = [.slice none 0 0] := by kernel_rfl
@[simp] theorem Tryd.by23 : byOf Tryd.prog 23 = 24 := by kernel_rfl
@[simp] theorem Tryd.st23 : isStr Tryd.prog 23 = false := by kernel_rfl
@[simp] theorem Tryd.el23 : slEl Tryd.prog 23 = some 55 := by kernel_rfl
@[simp] theorem Tryd.zv23 : zeroV Tryd.prog 23 = .slice none 0 0 := by kernel_rfl
@[simp] theorem Tryd.ok24 : okT Tryd.prog 24 = true := by kernel_rfl
@[simp] theorem Tryd.sz24 : szOf Tryd.prog 24 = 4 := by kernel_rfl
@[simp] theorem Tryd.ag24 : isAg Tryd.prog 24 = true := by kernel_rfl
@[simp] theorem Tryd.hz24 : hasZ Tryd.prog 24 = true := by kernel_rfl
@[simp] theorem Tryd.zc24 : zeroC Tryd.prog 24 = [.string ⟨#[]⟩, .slice none 0 0, .slice none 0 0, .int .i64 0] := by kernel_rfl
@[simp] theorem Tryd.by24 : byOf Tryd.prog 24 = 72 := by kernel_rfl
@[simp] theorem Tryd.st24 : isStr Tryd.prog 24 = false := by kernel_rfl
@[simp] theorem Tryd.el24 : slEl Tryd.prog 24 = none := by kernel_rfl
@[simp] theorem Tryd.zv24 : zeroV Tryd.prog 24 = .agg #[.string ⟨#[]⟩, .slice none 0 0, .slice none 0 0, .int .i64 0] := by kernel_rfl
@[simp] theorem Tryd.fk24 : flOk Tryd.prog 24 = true := by kernel_rfl
@[simp] theorem Tryd.fl24_0 : flOf Tryd.prog 24 0 = some (0, 9) := by kernel_rfl
@[simp] theorem Tryd.fl24_1 : flOf Tryd.prog 24 1 = some (1, 22) := by kernel_rfl
@[simp] theorem Tryd.fl24_2 : flOf Tryd.prog 24 2 = some (2, 23) := by kernel_rfl
@[simp] theorem Tryd.fl24_3 : flOf Tryd.prog 24 3 = some (3, 3) := by kernel_rfl
@[simp] theorem Tryd.ok25 : okT Tryd.prog 25 = true := by kernel_rfl
@[simp] theorem Tryd.sz25 : szOf Tryd.prog 25 = 4 := by kernel_rfl
@[simp] theorem Tryd.ag25 : isAg Tryd.prog 25 = true := by kernel_rfl
@[simp] theorem Tryd.hz25 : hasZ Tryd.prog 25 = true := by kernel_rfl
@[simp] theorem Tryd.zc25 : zeroC Tryd.prog 25 = [.string ⟨#[]⟩, .slice none 0 0, .slice none 0 0, .int .i64 0] := by kernel_rfl
@[simp] theorem Tryd.by25 : byOf Tryd.prog 25 = 72 := by kernel_rfl
@[simp] theorem Tryd.st25 : isStr Tryd.prog 25 = false := by kernel_rfl
@[simp] theorem Tryd.el25 : slEl Tryd.prog 25 = none := by kernel_rfl
@[simp] theorem Tryd.zv25 : zeroV Tryd.prog 25 = .agg #[.string ⟨#[]⟩, .slice none 0 0, .slice none 0 0, .int .i64 0] := by kernel_rfl
@[simp] theorem Tryd.fk25 : flOk Tryd.prog 25 = true := by kernel_rfl
@[simp] theorem Tryd.fl25_0 : flOf Tryd.prog 25 0 = some (0, 9) := by kernel_rfl
@[simp] theorem Tryd.fl25_1 : flOf Tryd.prog 25 1 = some (1, 22) := by kernel_rfl
@[simp] theorem Tryd.fl25_2 : flOf Tryd.prog 25 2 = some (2, 23) := by kernel_rfl
@[simp] theorem Tryd.fl25_3 : flOf Tryd.prog 25 3 = some (3, 3) := by kernel_rfl
@[simp] theorem Tryd.ok29 : okT Tryd.prog 29 = true := by kernel_rfl
@[simp] theorem Tryd.sz29 : szOf Tryd.prog 29 = 1 := by kernel_rfl
@[simp] theorem Tryd.ag29 : isAg Tryd.prog 29 = false := by kernel_rfl
@[simp] theorem Tryd.hz29 : hasZ Tryd.prog 29 = true := by kernel_rfl
@[simp] theorem Tryd.zc29 : zeroC Tryd.prog 29 = [.slice none 0 0] := by kernel_rfl
@[simp] theorem Tryd.by29 : byOf Tryd.prog 29 = 24 := by kernel_rfl
@[simp] theorem Tryd.st29 : isStr Tryd.prog 29 = false := by kernel_rfl
@[simp] theorem Tryd.el29 : slEl Tryd.prog 29 = some 44 := by kernel_rfl
@[simp] theorem Tryd.zv29 : zeroV Tryd.prog 29 = .slice none 0 0 := by kernel_rfl
@[simp] theorem Tryd.ok30 : okT Tryd.prog 30 = true := by kernel_rfl
@[simp] theorem Tryd.sz30 : szOf Tryd.prog 30 = 1 := by kernel_rfl
@[simp] theorem Tryd.ag30 : isAg Tryd.prog 30 = false := by kernel_rfl
@[simp] theorem Tryd.hz30 : hasZ Tryd.prog 30 = true := by kernel_rfl
@[simp] theorem Tryd.zc30 : zeroC Tryd.prog 30 = [.slice none 0 0] := by kernel_rfl
@[simp] theorem Tryd.by30 : byOf Tryd.prog 30 = 24 := by kernel_rfl
@[simp] theorem Tryd.st30 : isStr Tryd.prog 30 = false := by kernel_rfl
@[simp] theorem Tryd.el30 : slEl Tryd.prog 30 = some 47 := by kernel_rfl
@[simp] theorem Tryd.zv30 : zeroV Tryd.prog 30 = .slice none 0 0 := by kernel_rfl
@[simp] theorem Tryd.ok31 : okT Tryd.prog 31 = true := by kernel_rfl
@[simp] theorem Tryd.sz31 : szOf Tryd.prog 31 = 4 := by kernel_rfl
@[simp] theorem Tryd.ag31 : isAg Tryd.prog 31 = true := by kernel_rfl
@[simp] theorem Tryd.hz31 : hasZ Tryd.prog 31 = true := by kernel_rfl
@[simp] theorem Tryd.zc31 : zeroC Tryd.prog 31 = [.string ⟨#[]⟩, .slice none 0 0, .slice none 0 0, .int .i64 0] := by kernel_rfl
@[simp] theorem Tryd.by31 : byOf Tryd.prog 31 = 72 := by kernel_rfl
@[simp] theorem Tryd.st31 : isStr Tryd.prog 31 = false := by kernel_rfl
@[simp] theorem Tryd.el31 : slEl Tryd.prog 31 = none := by kernel_rfl
@[simp] theorem Tryd.zv31 : zeroV Tryd.prog 31 = .agg #[.string ⟨#[]⟩, .slice none 0 0, .slice none 0 0, .int .i64 0] := by kernel_rfl
@[simp] theorem Tryd.fk31 : flOk Tryd.prog 31 = true := by kernel_rfl
@[simp] theorem Tryd.fl31_0 : flOf Tryd.prog 31 0 = some (0, 9) := by kernel_rfl
@[simp] theorem Tryd.fl31_1 : flOf Tryd.prog 31 1 = some (1, 29) := by kernel_rfl
@[simp] theorem Tryd.fl31_2 : flOf Tryd.prog 31 2 = some (2, 30) := by kernel_rfl
@[simp] theorem Tryd.fl31_3 : flOf Tryd.prog 31 3 = some (3, 3) := by kernel_rfl
@[simp] theorem Tryd.ok32 : okT Tryd.prog 32 = true := by kernel_rfl
@[simp] theorem Tryd.sz32 : szOf Tryd.prog 32 = 4 := by kernel_rfl
@[simp] theorem Tryd.ag32 : isAg Tryd.prog 32 = true := by kernel_rfl
@[simp] theorem Tryd.hz32 : hasZ Tryd.prog 32 = true := by kernel_rfl
@[simp] theorem Tryd.zc32 : zeroC Tryd.prog 32 = [.string ⟨#[]⟩, .slice none 0 0, .slice none 0 0, .int .i64 0] := by kernel_rfl
@[simp] theorem Tryd.by32 : byOf Tryd.prog 32 = 72 := by kernel_rfl
@[simp] theorem Tryd.st32 : isStr Tryd.prog 32 = false := by kernel_rfl
@[simp] theorem Tryd.el32 : slEl Tryd.prog 32 = none := by kernel_rfl
@[simp] theorem Tryd.zv32 : zeroV Tryd.prog 32 = .agg #[.string ⟨#[]⟩, .slice none 0 0, .slice none 0 0, .int .i64 0] := by kernel_rfl
@[simp] theorem Tryd.fk32 : flOk Tryd.prog 32 = true := by kernel_rfl
@[simp] theorem Tryd.fl32_0 : flOf Tryd.prog 32 0 = some (0, 9) := by kernel_rfl
@[simp] theorem Tryd.fl32_1 : flOf Tryd.prog 32 1 = some (1, 29) := by kernel_rfl
@[simp] theorem Tryd.fl32_2 : flOf Tryd.prog 32 2 = some (2, 30) := by kernel_rfl
@[simp] theorem Tryd.fl32_3 : flOf Tryd.prog 32 3 = some (3, 3) := by kernel_rfl
@[simp] theorem Tryd.ok43 : okT Tryd.prog 43 = true := by kernel_rfl
@[simp] theorem Tryd.sz43 : szOf Tryd.prog 43 = 8 := by kernel_rfl
@[simp] theorem Tryd.ag43 : isAg Tryd.prog 43 = true := by kernel_rfl
@[simp] theorem Tryd.hz43 : hasZ Tryd.prog 43 = true := by kernel_rfl
@[simp] theorem Tryd.zc43 : zeroC Tryd.prog 43 = [.int .i64 0, .int .i64 0, .int .i64 0, .int .i64 0, .int .i64 0, .int .i64 0, .int .i64 0, .int .i64 0] := by kernel_rfl
@[simp] theorem Tryd.by43 : byOf Tryd.prog 43 = 64 := by kernel_rfl
@[simp] theorem Tryd.st43 : isStr Tryd.prog 43 = false := by kernel_rfl
@[simp] theorem Tryd.el43 : slEl Tryd.prog 43 = none := by kernel_rfl
@[simp] theorem Tryd.zv43 : zeroV Tryd.prog 43 = .agg #[.int .i64 0, .int .i64 0, .int .i64 0, .int .i64 0, .int .i64 0, .int .i64 0, .int .i64 0, .int .i64 0] := by kernel_rfl
@[simp] theorem Tryd.fk43 : flOk Tryd.prog 43 = true := by kernel_rfl
@[simp] theorem Tryd.fl43_0 : flOf Tryd.prog 43 0 = some (0, 3) := by kernel_rfl
@[simp] theorem Tryd.fl43_1 : flOf Tryd.prog 43 1 = some (1, 3) := by kernel_rfl
@[simp] theorem Tryd.fl43_2 : flOf Tryd.prog 43 2 = some (2, 3) := by kernel_rfl
@[simp] theorem Tryd.fl43_3 : flOf Tryd.prog 43 3 = some (3, 3) := by kernel_rfl
@[simp] theorem Tryd.fl43_4 : flOf Tryd.prog 43 4 = some (4, 3) := by kernel_rfl
@[simp] theorem Tryd.fl43_5 : flOf Tryd.prog 43 5 = some (5, 3) := by kernel_rfl
@[simp] theorem Tryd.fl43_6 : flOf Tryd.prog 43 6 = some (6, 3) := by kernel_rfl
@[simp] theorem Tryd.fl43_7 : flOf Tryd.prog 43 7 = some (7, 3) := by kernel_rfl
@[simp] theorem Tryd.eq43 : eqPlan Tryd.prog 43 = some [(0, 0), (0, 1), (0, 2), (0, 3), (0, 4), (0, 5), (0, 6), (0, 7)] := by kernel_rfl
@[simp] theorem Tryd.ok44 : okT Tryd.prog 44 = true := by kernel_rfl
@[simp] theorem Tryd.sz44 : szOf Tryd.prog 44 = 8 := by kernel_rfl
@[simp] theorem Tryd.ag44 : isAg Tryd.prog 44 = true := by kernel_rfl
@[simp] theorem Tryd.hz44 : hasZ Tryd.prog 44 = true := by kernel_rfl
@[simp] theorem Tryd.zc44 : zeroC Tryd.prog 44 = [.int .i64 0, .int .i64 0, .int .i64 0, .int .i64 0, .int .i64 0, .int .i64 0, .int .i64 0, .int .i64 0] := by kernel_rfl
@[simp] theorem Tryd.by44 : byOf Tryd.prog 44 = 64 := by kernel_rfl
@[simp] theorem Tryd.st44 : isStr Tryd.prog 44 = false := by kernel_rfl
@[simp] theorem Tryd.el44 : slEl Tryd.prog 44 = none := by kernel_rfl
@[simp] theorem Tryd.zv44 : zeroV Tryd.prog 44 = .agg #[.int .i64 0, .int .i64 0, .int .i64 0, .int .i64 0, .int .i64 0, .int .i64 0, .int .i64 0, .int .i64 0] := by kernel_rfl
@[simp] theorem Tryd.fk44 : flOk Tryd.prog 44 = true := by kernel_rfl
@[simp] theorem Tryd.fl44_0 : flOf Tryd.prog 44 0 = some (0, 3) := by kernel_rfl
@[simp] theorem Tryd.fl44_1 : flOf Tryd.prog 44 1 = some (1, 3) := by kernel_rfl
@[simp] theorem Tryd.fl44_2 : flOf Tryd.prog 44 2 = some (2, 3) := by kernel_rfl
@[simp] theorem Tryd.fl44_3 : flOf Tryd.prog 44 3 = some (3, 3) := by kernel_rfl
@[simp] theorem Tryd.fl44_4 : flOf Tryd.prog 44 4 = some (4, 3) := by kernel_rfl
@[simp] theorem Tryd.fl44_5 : flOf Tryd.prog 44 5 = some (5, 3) := by kernel_rfl
@[simp] theorem Tryd.fl44_6 : flOf Tryd.prog 44 6 = some (6, 3) := by kernel_rfl
@[simp] theorem Tryd.fl44_7 : flOf Tryd.prog 44 7 = some (7, 3) := by kernel_rfl
@[simp] theorem Tryd.eq44 : eqPlan Tryd.prog 44 = some [(0, 0), (0, 1), (0, 2), (0, 3), (0, 4), (0, 5), (0, 6), (0, 7)] := by kernel_rfl
@[simp] theorem Tryd.ok46 : okT Tryd.prog 46 = true := by kernel_rfl
@[simp] theorem Tryd.sz46 : szOf Tryd.prog 46 = 5 := by kernel_rfl
@[simp] theorem Tryd.ag46 : isAg Tryd.prog 46 = true := by kernel_rfl
@[simp] theorem Tryd.hz46 : hasZ Tryd.prog 46 = true := by kernel_rfl
@[simp] theorem Tryd.zc46 : zeroC Tryd.prog 46 = [.int .i64 0, .int .i64 0, .int .i64 0, .int .i64 0, .int .i64 0] := by kernel_rfl
@[simp] theorem Tryd.by46 : byOf Tryd.prog 46 = 40 := by kernel_rfl
@[simp] theorem Tryd.st46 : isStr Tryd.prog 46 = false := by kernel_rfl
@[simp] theorem Tryd.el46 : slEl Tryd.prog 46 = none := by kernel_rfl
@[simp] theorem Tryd.zv46 : zeroV Tryd.prog 46 = .agg #[.int .i64 0, .int .i64 0, .int .i64 0, .int .i64 0, .int .i64 0] := by kernel_rfl
@[simp] theorem Tryd.fk46 : flOk Tryd.prog 46 = true := by kernel_rfl
@[simp] theorem Tryd.fl46_0 : flOf Tryd.prog 46 0 = some (0, 3) := by kernel_rfl
@[simp] theorem Tryd.fl46_1 : flOf Tryd.prog 46 1 = some (1, 3) := by kernel_rfl
@[simp] theorem Tryd.fl46_2 : flOf Tryd.prog 46 2 = some (2, 3) := by kernel_rfl
@[simp] theorem Tryd.fl46_3 : flOf Tryd.prog 46 3 = some (3, 3) := by kernel_rfl
@[simp] theorem Tryd.fl46_4 : flOf Tryd.prog 46 4 = some (4, 3) := by kernel_rfl
@[simp] theorem Tryd.eq46 : eqPlan Tryd.prog 46 = some [(0, 0), (0, 1), (0, 2), (0, 3), (0, 4)] := by kernel_rfl
@[simp] theorem Tryd.ok47 : okT Tryd.prog 47 = true := by kernel_rfl
@[simp] theorem Tryd.sz47 : szOf Tryd.prog 47 = 5 := by kernel_rfl
@[simp] theorem Tryd.ag47 : isAg Tryd.prog 47 = true := by kernel_rfl
@[simp] theorem Tryd.hz47 : hasZ Tryd.prog 47 = true := by kernel_rfl
@[simp] theorem Tryd.zc47 : zeroC Tryd.prog 47 = [.int .i64 0, .int .i64 0, .int .i64 0, .int .i64 0, .int .i64 0] := by kernel_rfl
@[simp] theorem Tryd.by47 : byOf Tryd.prog 47 = 40 := by kernel_rfl
@[simp] theorem Tryd.st47 : isStr Tryd.prog 47 = false := by kernel_rfl
@[simp] theorem Tryd.el47 : slEl Tryd.prog 47 = none := by kernel_rfl
@[simp] theorem Tryd.zv47 : zeroV Tryd.prog 47 = .agg #[.int .i64 0, .int .i64 0, .int .i64 0, .int .i64 0, .int .i64 0] := by kernel_rfl
@[simp] theorem Tryd.fk47 : flOk Tryd.prog 47 = true := by kernel_rfl
@[simp] theorem Tryd.fl47_0 : flOf Tryd.prog 47 0 = some (0, 3) := by kernel_rfl
@[simp] theorem Tryd.fl47_1 : flOf Tryd.prog 47 1 = some (1, 3) := by kernel_rfl
@[simp] theorem Tryd.fl47_2 : flOf Tryd.prog 47 2 = some (2, 3) := by kernel_rfl
@[simp] theorem Tryd.fl47_3 : flOf Tryd.prog 47 3 = some (3, 3) := by kernel_rfl
@[simp] theorem Tryd.fl47_4 : flOf Tryd.prog 47 4 = some (4, 3) := by kernel_rfl
@[simp] theorem Tryd.eq47 : eqPlan Tryd.prog 47 = some [(0, 0), (0, 1), (0, 2), (0, 3), (0, 4)] := by kernel_rfl
@[simp] theorem Tryd.ok53 : okT Tryd.prog 53 = true := by kernel_rfl
@[simp] theorem Tryd.sz53 : szOf Tryd.prog 53 = 8 := by kernel_rfl
@[simp] theorem Tryd.ag53 : isAg Tryd.prog 53 = true := by kernel_rfl
@[simp] theorem Tryd.hz53 : hasZ Tryd.prog 53 = true := by kernel_rfl
@[simp] theorem Tryd.zc53 : zeroC Tryd.prog 53 = [.int .i64 0, .int .i64 0, .int .i64 0, .int .i64 0, .int .i64 0, .int .i64 0, .int .i64 0, .int .i64 0] := by kernel_rfl
@[simp] theorem Tryd.by53 : byOf Tryd.prog 53 = 64 := by kernel_rfl
@[simp] theorem Tryd.st53 : isStr Tryd.prog 53 = false := by kernel_rfl
@[simp] theorem Tryd.el53 : slEl Tryd.prog 53 = none := by kernel_rfl
@[simp] theorem Tryd.zv53 : zeroV Tryd.prog 53 = .agg #[.int .i64 0, .int .i64 0, .int .i64 0, .int .i64 0, .int .i64 0, .int .i64 0, .int .i64 0, .int .i64 0] := by kernel_rfl
@[simp] theorem Tryd.fk53 : flOk Tryd.prog 53 = true := by kernel_rfl
@[simp] theorem Tryd.fl53_0 : flOf Tryd.prog 53 0 = some (0, 3) := by kernel_rfl
@[simp] theorem Tryd.fl53_1 : flOf Tryd.prog 53 1 = some (1, 3) := by kernel_rfl
@[simp] theorem Tryd.fl53_2 : flOf Tryd.prog 53 2 = some (2, 3) := by kernel_rfl
@[simp] theorem Tryd.fl53_3 : flOf Tryd.prog 53 3 = some (3, 3) := by kernel_rfl
@[simp] theorem Tryd.fl53_4 : flOf Tryd.prog 53 4 = some (4, 3) := by kernel_rfl
@[simp] theorem Tryd.fl53_5 : flOf Tryd.prog 53 5 = some (5, 3) := by kernel_rfl
@[simp] theorem Tryd.fl53_6 : flOf Tryd.prog 53 6 = some (6, 3) := by kernel_rfl
@[simp] theorem Tryd.fl53_7 : flOf Tryd.prog 53 7 = some (7, 3) := by kernel_rfl
@[simp] theorem Tryd.eq53 : eqPlan Tryd.prog 53 = some [(0, 0), (0, 1), (0, 2), (0, 3), (0, 4), (0, 5), (0, 6), (0, 7)] := by kernel_rfl
@[simp] theorem Tryd.ok55 : okT Tryd.prog 55 = true := by kernel_rfl
@[simp] theorem Tryd.sz55 : szOf Tryd.prog 55 = 5 := by kernel_rfl
@[simp] theorem Tryd.ag55 : isAg Tryd.prog 55 = true := by kernel_rfl
@[simp] theorem Tryd.hz55 : hasZ Tryd.prog 55 = true := by kernel_rfl
@[simp] theorem Tryd.zc55 : zeroC Tryd.prog 55 = [.int .i64 0, .int .i64 0, .int .i64 0, .int .i64 0, .int .i64 0] := by kernel_rfl
@[simp] theorem Tryd.by55 : byOf Tryd.prog 55 = 40 := by kernel_rfl
@[simp] theorem Tryd.st55 : isStr Tryd.prog 55 = false := by kernel_rfl
@[simp] theorem Tryd.el55 : slEl Tryd.prog 55 = none := by kernel_rfl
@[simp] theorem Tryd.zv55 : zeroV Tryd.prog 55 = .agg #[.int .i64 0, .int .i64 0, .int .i64 0, .int .i64 0, .int .i64 0] := by kernel_rfl
@[simp] theorem Tryd.fk55 : flOk Tryd.prog 55 = true := by kernel_rfl
@[simp] theorem Tryd.fl55_0 : flOf Tryd.prog 55 0 = some (0, 3) := by kernel_rfl
@[simp] theorem Tryd.fl55_1 : flOf Tryd.prog 55 1 = some (1, 3) := by kernel_rfl
@[simp] theorem Tryd.fl55_2 : flOf Tryd.prog 55 2 = some (2, 3) := by kernel_rfl
@[simp] theorem Tryd.fl55_3 : flOf Tryd.prog 55 3 = some (3, 3) := by kernel_rfl
@[simp] theorem Tryd.fl55_4 : flOf Tryd.prog 55 4 = some (4, 3) := by kernel_rfl
@[simp] theorem Tryd.eq55 : eqPlan Tryd.prog 55 = some [(0, 0), (0, 1), (0, 2), (0, 3), (0, 4)] := by kernel_rfl
@[simp] theorem Tryd.ok59 : okT Tryd.prog 59 = true := by kernel_rfl
@[simp] theorem Tryd.sz59 : szOf Tryd.prog 59 = 1 := by kernel_rfl
@[simp] theorem Tryd.ag59 : isAg Tryd.prog 59 = false := by kernel_rfl
@[simp] theorem Tryd.hz59 : hasZ Tryd.prog 59 = true := by kernel_rfl
@[simp] theorem Tryd.zc59 : zeroC Tryd.prog 59 = [.slice none 0 0] := by kernel_rfl
@[simp] theorem Tryd.by59 : byOf Tryd.prog 59 = 24 := by kernel_rfl
@[simp] theorem Tryd.st59 : isStr Tryd.prog 59 = false := by kernel_rfl
@[simp] theorem Tryd.el59 : slEl Tryd.prog 59 = some 3 := by kernel_rfl
@[simp] theorem Tryd.zv59 : zeroV Tryd.prog 59 = .slice none 0 0 := by kernel_rfl
@[simp] theorem Tryd.ok63 : okT Tryd.prog 63 = true := by kernel_rfl
@[simp] theorem Tryd.sz63 : szOf Tryd.prog 63 = 1 := by kernel_rfl
@[simp] theorem Tryd.ag63 : isAg Tryd.prog 63 = false := by kernel_rfl
@[simp] theorem Tryd.hz63 : hasZ Tryd.prog 63 = true := by kernel_rfl
@[simp] theorem Tryd.zc63 : zeroC Tryd.prog 63 = [.slice none 0 0] := by kernel_rfl
@[simp] theorem Tryd.by63 : byOf Tryd.prog 63 = 24 := by kernel_rfl
@[simp] theorem Tryd.st63 : isStr Tryd.prog 63 = false := by kernel_rfl
@[simp] theorem Tryd.el63 : slEl Tryd.prog 63 = some 9 := by kernel_rfl
@[simp] theorem Tryd.zv63 : zeroV Tryd.prog 63 = .slice none 0 0 := by kernel_rfl
@[simp] theorem Tryd.ok77 : okT Tryd.prog 77 = true := by kernel_rfl
@[simp] theorem Tryd.sz77 : szOf Tryd.prog 77 = 14 := by kernel_rfl
@[simp] theorem Tryd.ag77 : isAg Tryd.prog 77 = true := by kernel_rfl
@[simp] theorem Tryd.hz77 : hasZ Tryd.prog 77 = true := by kernel_rfl
@[simp] theorem Tryd.zc77 : zeroC Tryd.prog 77 = [.string ⟨#[]⟩, .string ⟨#[]⟩, .string ⟨#[]⟩, .string ⟨#[]⟩, .string ⟨#[]⟩, .string ⟨#[]⟩, .string ⟨#[]⟩, .string ⟨#[]⟩, .string ⟨#[]⟩, .string ⟨#[]⟩, .string ⟨#[]⟩, .string ⟨#[]⟩, .string ⟨#[]⟩, .string ⟨#[]⟩] := by kernel_rfl
@[simp] theorem Tryd.by77 : byOf Tryd.prog 77 = 224 := by kernel_rfl
@[simp] theorem Tryd.st77 : isStr Tryd.prog 77 = false := by kernel_rfl
@[simp] theorem Tryd.el77 : slEl Tryd.prog 77 = none := by kernel_rfl
@[simp] theorem Tryd.ar77 : arEl Tryd.prog 77 = some (14, 9) := by kernel_rfl
@[simp] theorem Tryd.ok79 : okT Tryd.prog 79 = true := by kernel_rfl
@[simp] theorem Tryd.sz79 : szOf Tryd.prog 79 = 1 := by kernel_rfl
@[simp] theorem Tryd.ag79 : isAg Tryd.prog 79 = false := by kernel_rfl
@[simp] theorem Tryd.hz79 : hasZ Tryd.prog 79 = true := by kernel_rfl
@[simp] theorem Tryd.zc79 : zeroC Tryd.prog 79 = [.pointer none] := by kernel_rfl
@[simp] theorem Tryd.by79 : byOf Tryd.prog 79 = 8 := by kernel_rfl
@[simp] theorem Tryd.st79 : isStr Tryd.prog 79 = false := by kernel_rfl
@[simp] theorem Tryd.el79 : slEl Tryd.prog 79 = none := by kernel_rfl
@[simp] theorem Tryd.zv79 : zeroV Tryd.prog 79 = .pointer none := by kernel_rfl
@[simp] theorem Tryd.ok80 : okT Tryd.prog 80 = true := by kernel_rfl
@[simp] theorem Tryd.sz80 : szOf Tryd.prog 80 = 1 := by kernel_rfl
@[simp] theorem Tryd.ag80 : isAg Tryd.prog 80 = false := by kernel_rfl
@[simp] theorem Tryd.hz80 : hasZ Tryd.prog 80 = true := by kernel_rfl
@[simp] theorem Tryd.zc80 : zeroC Tryd.prog 80 = [.slice none 0 0] := by kernel_rfl
@[simp] theorem Tryd.by80 : byOf Tryd.prog 80 = 24 := by kernel_rfl
@[simp] theorem Tryd.st80 : isStr Tryd.prog 80 = false := by kernel_rfl
@[simp] theorem Tryd.el80 : slEl Tryd.prog 80 = some 5 := by kernel_rfl
@[simp] theorem Tryd.bs80 : byteSl Tryd.prog 80 = true := by kernel_rfl
@[simp] theorem Tryd.zv80 : zeroV Tryd.prog 80 = .slice none 0 0 := by kernel_rfl
@[simp] theorem Tryd.ok81 : okT Tryd.prog 81 = true := by kernel_rfl
@[simp] theorem Tryd.sz81 : szOf Tryd.prog 81 = 2 := by kernel_rfl
@[simp] theorem Tryd.ag81 : isAg Tryd.prog 81 = true := by kernel_rfl
@[simp] theorem Tryd.hz81 : hasZ Tryd.prog 81 = true := by kernel_rfl
@[simp] theorem Tryd.zc81 : zeroC Tryd.prog 81 = [.pointer none, .slice none 0 0] := by kernel_rfl
@[simp] theorem Tryd.by81 : byOf Tryd.prog 81 = 32 := by kernel_rfl
@[simp] theorem Tryd.st81 : isStr Tryd.prog 81 = false := by kernel_rfl
@[simp] theorem Tryd.el81 : slEl Tryd.prog 81 = none := by kernel_rfl
@[simp] theorem Tryd.zv81 : zeroV Tryd.prog 81 = .agg #[.pointer none, .slice none 0 0] := by kernel_rfl
@[simp] theorem Tryd.fk81 : flOk Tryd.prog 81 = true := by kernel_rfl
@[simp] theorem Tryd.fl81_0 : flOf Tryd.prog 81 0 = some (0, 79) := by kernel_rfl
@[simp] theorem Tryd.fl81_1 : flOf Tryd.prog 81 1 = some (1, 80) := by kernel_rfl
@[simp] theorem Tryd.ok82 : okT Tryd.prog 82 = true := by kernel_rfl
@[simp] theorem Tryd.sz82 : szOf Tryd.prog 82 = 2 := by kernel_rfl
@[simp] theorem Tryd.ag82 : isAg Tryd.prog 82 = true := by kernel_rfl
@[simp] theorem Tryd.hz82 : hasZ Tryd.prog 82 = true := by kernel_rfl
@[simp] theorem Tryd.zc82 : zeroC Tryd.prog 82 = [.pointer none, .slice none 0 0] := by kernel_rfl
@[simp] theorem Tryd.by82 : byOf Tryd.prog 82 = 32 := by kernel_rfl
@[simp] theorem Tryd.st82 : isStr Tryd.prog 82 = false := by kernel_rfl
@[simp] theorem Tryd.el82 : slEl Tryd.prog 82 = none := by kernel_rfl
@[simp] theorem Tryd.zv82 : zeroV Tryd.prog 82 = .agg #[.pointer none, .slice none 0 0] := by kernel_rfl
@[simp] theorem Tryd.fk82 : flOk Tryd.prog 82 = true := by kernel_rfl
@[simp] theorem Tryd.fl82_0 : flOf Tryd.prog 82 0 = some (0, 79) := by kernel_rfl
@[simp] theorem Tryd.fl82_1 : flOf Tryd.prog 82 1 = some (1, 80) := by kernel_rfl
@[simp] theorem Tryd.ok89 : okT Tryd.prog 89 = true := by kernel_rfl
@[simp] theorem Tryd.sz89 : szOf Tryd.prog 89 = 1 := by kernel_rfl
@[simp] theorem Tryd.ag89 : isAg Tryd.prog 89 = false := by kernel_rfl
@[simp] theorem Tryd.hz89 : hasZ Tryd.prog 89 = true := by kernel_rfl
@[simp] theorem Tryd.zc89 : zeroC Tryd.prog 89 = [.int .u64 0] := by kernel_rfl
@[simp] theorem Tryd.by89 : byOf Tryd.prog 89 = 8 := by kernel_rfl
@[simp] theorem Tryd.st89 : isStr Tryd.prog 89 = false := by kernel_rfl
@[simp] theorem Tryd.ik89 : inK Tryd.prog 89 = some .u64 := by kernel_rfl
@[simp] theorem Tryd.el89 : slEl Tryd.prog 89 = none := by kernel_rfl
@[simp] theorem Tryd.zv89 : zeroV Tryd.prog 89 = .int .u64 0 := by kernel_rfl
@[simp] theorem Tryd.ok91 : okT Tryd.prog 91 = true := by kernel_rfl
@[simp] theorem Tryd.sz91 : szOf Tryd.prog 91 = 24 := by kernel_rfl
@[simp] theorem Tryd.ag91 : isAg Tryd.prog 91 = true := by kernel_rfl
@[simp] theorem Tryd.hz91 : hasZ Tryd.prog 91 = true := by kernel_rfl
@[simp] theorem Tryd.zc91 : zeroC Tryd.prog 91 = [.int .u8 0, .int .u8 0, .int .u8 0, .int .u8 0, .int .u8 0, .int .u8 0, .int .u8 0, .int .u8 0, .int .u8 0, .int .u8 0, .int .u8 0, .int .u8 0, .int .u8 0, .int .u8 0, .int .u8 0, .int .u8 0, .int .u8 0, .int .u8 0, .int .u8 0, .int .u8 0, .int .u8 0, .int .u8 0, .int .u8 0, .int .u8 0] := by kernel_rfl
@[simp] theorem Tryd.by91 : byOf Tryd.prog 91 = 24 := by kernel_rfl
@[simp] theorem Tryd.st91 : isStr Tryd.prog 91 = false := by kernel_rfl
@[simp] theorem Tryd.el91 : slEl Tryd.prog 91 = none := by kernel_rfl
@[simp] theorem Tryd.ar91 : arEl Tryd.prog 91 = some (24, 5) := by kernel_rfl
@[simp] theorem Tryd.ok92 : okT Tryd.prog 92 = true := by kernel_rfl
@[simp] theorem Tryd.sz92 : szOf Tryd.prog 92 = 1 := by kernel_rfl
@[simp] theorem Tryd.ag92 : isAg Tryd.prog 92 = false := by kernel_rfl
@[simp] theorem Tryd.hz92 : hasZ Tryd.prog 92 = true := by kernel_rfl
@[simp] theorem Tryd.zc92 : zeroC Tryd.prog 92 = [.int .u64 0] := by kernel_rfl
@[simp] theorem Tryd.by92 : byOf Tryd.prog 92 = 8 := by kernel_rfl
@[simp] theorem Tryd.st92 : isStr Tryd.prog 92 = false := by kernel_rfl
@[simp] theorem Tryd.ik92 : inK Tryd.prog 92 = some .u64 := by kernel_rfl
@[simp] theorem Tryd.el92 : slEl Tryd.prog 92 = none := by kernel_rfl
@[simp] theorem Tryd.zv92 : zeroV Tryd.prog 92 = .int .u64 0 := by kernel_rfl
@[simp] theorem Tryd.ok97 : okT Tryd.prog 97 = true := by kernel_rfl
@[simp] theorem Tryd.sz97 : szOf Tryd.prog 97 = 1 := by kernel_rfl
@[simp] theorem Tryd.ag97 : isAg Tryd.prog 97 = false := by kernel_rfl
@[simp] theorem Tryd.hz97 : hasZ Tryd.prog 97 = true := by kernel_rfl
@[simp] theorem Tryd.zc97 : zeroC Tryd.prog 97 = [.pointer none] := by kernel_rfl
@[simp] theorem Tryd.by97 : byOf Tryd.prog 97 = 8 := by kernel_rfl
@[simp] theorem Tryd.st97 : isStr Tryd.prog 97 = false := by kernel_rfl
@[simp] theorem Tryd.el97 : slEl Tryd.prog 97 = none := by kernel_rfl
@[simp] theorem Tryd.zv97 : zeroV Tryd.prog 97 = .pointer none := by kernel_rfl
@[simp] theorem Tryd.ok99 : okT Tryd.prog 99 = true := by kernel_rfl
@[simp] theorem Tryd.sz99 : szOf Tryd.prog 99 = 20 := by kernel_rfl
@[simp] theorem Tryd.ag99 : isAg Tryd.prog 99 = true := by kernel_rfl
@[simp] theorem Tryd.hz99 : hasZ Tryd.prog 99 = true := by kernel_rfl
@[simp] theorem Tryd.zc99 : zeroC Tryd.prog 99 = [.int .u64 0, .int .u64 0, .int .u64 0, .int .u64 0, .int .u64 0, .int .u64 0, .int .u64 0, .int .u64 0, .int .u64 0, .int .u64 0, .int .u64 0, .int .u64 0, .int .u64 0, .int .u64 0, .int .u64 0, .int .u64 0, .int .u64 0, .int .u64 0, .int .u64 0, .int .u64 0] := by kernel_rfl
@[simp] theorem Tryd.by99 : byOf Tryd.prog 99 = 160 := by kernel_rfl
@[simp] theorem Tryd.st99 : isStr Tryd.prog 99 = false := by kernel_rfl
@[simp] theorem Tryd.el99 : slEl Tryd.prog 99 = none := by kernel_rfl
@[simp] theorem Tryd.ar99 : arEl Tryd.prog 99 = some (20, 92) := by kernel_rfl
@[simp] theorem Tryd.ok100 : okT Tryd.prog 100 = true := by kernel_rfl
@[simp] theorem Tryd.sz100 : szOf Tryd.prog 100 = 1 := by kernel_rfl
@[simp] theorem Tryd.ag100 : isAg Tryd.prog 100 = false := by kernel_rfl
@[simp] theorem Tryd.hz100 : hasZ Tryd.prog 100 = true := by kernel_rfl
@[simp] theorem Tryd.zc100 : zeroC Tryd.prog 100 = [.int .u32 0] := by kernel_rfl
@[simp] theorem Tryd.by100 : byOf Tryd.prog 100 = 4 := by kernel_rfl
@[simp] theorem Tryd.st100 : isStr Tryd.prog 100 = false := by kernel_rfl
@[simp] theorem Tryd.ik100 : inK Tryd.prog 100 = some .u32 := by kernel_rfl
@[simp] theorem Tryd.el100 : slEl Tryd.prog 100 = none := by kernel_rfl
@[simp] theorem Tryd.zv100 : zeroV Tryd.prog 100 = .int .u32 0 := by kernel_rfl
@[simp] theorem Tryd.ok107 : okT Tryd.prog 107 = true := by kernel_rfl
@[simp] theorem Tryd.sz107 : szOf Tryd.prog 107 = 32 := by kernel_rfl
@[simp] theorem Tryd.ag107 : isAg Tryd.prog 107 = true := by kernel_rfl
@[simp] theorem Tryd.hz107 : hasZ Tryd.prog 107 = true := by kernel_rfl
@[simp] theorem Tryd.zc107 : zeroC Tryd.prog 107 = [.int .u8 0, .int .u8 0, .int .u8 0, .int .u8 0, .int .u8 0, .int .u8 0, .int .u8 0, .int .u8 0, .int .u8 0, .int .u8 0, .int .u8 0, .int .u8 0, .int .u8 0, .int .u8 0, .int .u8 0, .int .u8 0, .int .u8 0, .int .u8 0, .int .u8 0, .int .u8 0, .int .u8 0, .int .u8 0, .int .u8 0, .int .u8 0, .int .u8 0, .int .u8 0, .int .u8 0, .int .u8 0, .int .u8 0, .int .u8 0, .int .u8 0, .int .u8 0] := by kernel_rfl
@[simp] theorem Tryd.by107 : byOf Tryd.prog 107 = 32 := by kernel_rfl
@[simp] theorem Tryd.st107 : isStr Tryd.prog 107 = false := by kernel_rfl
@[simp] theorem Tryd.el107 : slEl Tryd.prog 107 = none := by kernel_rfl
@[simp] theorem Tryd.ar107 : arEl Tryd.prog 107 = some (32, 5) := by kernel_rfl
@[simp] theorem Tryd.ok108 : okT Tryd.prog 108 = true := by kernel_rfl
@[simp] theorem Tryd.sz108 : szOf Tryd.prog 108 = 64 := by kernel_rfl
@[simp] theorem Tryd.ag108 : isAg Tryd.prog 108 = true := by kernel_rfl
@[simp] theorem Tryd.hz108 : hasZ Tryd.prog 108 = true := by kernel_rfl
@[simp] theorem Tryd.by108 : byOf Tryd.prog 108 = 64 := by kernel_rfl
@[simp] theorem Tryd.st108 : isStr Tryd.prog 108 = false := by kernel_rfl
@[simp] theorem Tryd.el108 : slEl Tryd.prog 108 = none := by kernel_rfl
@[simp] theorem Tryd.ar108 : arEl Tryd.prog 108 = some (64, 5) := by kernel_rfl
theorem Tryd.mix : Tryd.prog.follows .mixedOrders = true := by kernel_rfl
end Go.Proofs
