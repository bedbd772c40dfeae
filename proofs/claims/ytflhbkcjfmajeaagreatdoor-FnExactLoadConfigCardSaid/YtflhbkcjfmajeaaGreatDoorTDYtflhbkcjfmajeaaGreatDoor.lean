/-
  What is proved here: facts on the types of the program. Condition: none.
-/
import Derived.Test.YtflhbkcjfmajeaaGreatDoorAbsD
import Derived.Test.YtflhbkcjfmajeaaGreatDoorProg
import Derived.KernelRfl
namespace Go.Proofs
open Go.Abs
@[simp] theorem Tryz.ok2 : okT Tryz.prog 2 = true := by kernel_rfl
@[simp] theorem Tryz.sz2 : szOf Tryz.prog 2 = 1 := by kernel_rfl
@[simp] theorem Tryz.ag2 : isAg Tryz.prog 2 = false := by kernel_rfl
@[simp] theorem Tryz.hz2 : hasZ Tryz.prog 2 = true := by kernel_rfl
@[simp] theorem Tryz.zc2 : zeroC Tryz.prog 2 = [.int .i64 0] := by kernel_rfl
@[simp] theorem Tryz.by2 : byOf Tryz.prog 2 = 8 := by kernel_rfl
@[simp] theorem Tryz.st2 : isStr Tryz.prog 2 = false := by kernel_rfl
@[simp] theorem Tryz.ik2 : inK Tryz.prog 2 = some .i64 := by kernel_rfl
@[simp] theorem Tryz.el2 : slEl Tryz.prog 2 = none := by kernel_rfl
@[simp] theorem Tryz.zv2 : zeroV Tryz.prog 2 = .int .i64 0 := by kernel_rfl
@[simp] theorem Tryz.ok3 : okT Tryz.prog 3 = true := by kernel_rfl
@[simp] theorem Tryz.sz3 : szOf Tryz.prog 3 = 1 := by kernel_rfl
@[simp] theorem Tryz.ag3 : isAg Tryz.prog 3 = false := by kernel_rfl
@[simp] theorem Tryz.hz3 : hasZ Tryz.prog 3 = true := by kernel_rfl
@[simp] theorem Tryz.zc3 : zeroC Tryz.prog 3 = [.int .i64 0] := by kernel_rfl
@[simp] theorem Tryz.by3 : byOf Tryz.prog 3 = 8 := by kernel_rfl
@[simp] theorem Tryz.st3 : isStr Tryz.prog 3 = false := by kernel_rfl
@[simp] theorem Tryz.ik3 : inK Tryz.prog 3 = some .i64 := by kernel_rfl
@[simp] theorem Tryz.el3 : slEl Tryz.prog 3 = none := by kernel_rfl
@[simp] theorem Tryz.zv3 : zeroV Tryz.prog 3 = .int .i64 0 := by kernel_rfl
@[simp] theorem Tryz.ok4 : okT Tryz.prog 4 = true := by kernel_rfl
@[simp] theorem Tryz.sz4 : szOf Tryz.prog 4 = 1 := by kernel_rfl
@[simp] theorem Tryz.ag4 : isAg Tryz.prog 4 = false := by kernel_rfl
@[simp] theorem Tryz.hz4 : hasZ Tryz.prog 4 = true := by kernel_rfl
@[simp] theorem Tryz.zc4 : zeroC Tryz.prog 4 = [.bool false] := by kernel_rfl
@[simp] theorem Tryz.by4 : byOf Tryz.prog 4 = 1 := by kernel_rfl
@[simp] theorem Tryz.st4 : isStr Tryz.prog 4 = false := by kernel_rfl
@[simp] theorem Tryz.un4 : Tryz.prog.underlying 4 = some .bool := by kernel_rfl
@[simp] theorem Tryz.el4 : slEl Tryz.prog 4 = none := by kernel_rfl
@[simp] theorem Tryz.zv4 : zeroV Tryz.prog 4 = .bool false := by kernel_rfl
@[simp] theorem Tryz.ok5 : okT Tryz.prog 5 = true := by kernel_rfl
@[simp] theorem Tryz.sz5 : szOf Tryz.prog 5 = 1 := by kernel_rfl
@[simp] theorem Tryz.ag5 : isAg Tryz.prog 5 = false := by kernel_rfl
@[simp] theorem Tryz.hz5 : hasZ Tryz.prog 5 = true := by kernel_rfl
@[simp] theorem Tryz.zc5 : zeroC Tryz.prog 5 = [.int .u8 0] := by kernel_rfl
@[simp] theorem Tryz.by5 : byOf Tryz.prog 5 = 1 := by kernel_rfl
@[simp] theorem Tryz.st5 : isStr Tryz.prog 5 = false := by kernel_rfl
@[simp] theorem Tryz.ik5 : inK Tryz.prog 5 = some .u8 := by kernel_rfl
@[simp] theorem Tryz.el5 : slEl Tryz.prog 5 = none := by kernel_rfl
@[simp] theorem Tryz.zv5 : zeroV Tryz.prog 5 = .int .u8 0 := by kernel_rfl
@[simp] theorem Tryz.ok9 : okT Tryz.prog 9 = true := by kernel_rfl
@[simp] theorem Tryz.sz9 : szOf Tryz.prog 9 = 1 := by kernel_rfl
@[simp] theorem Tryz.ag9 : isAg Tryz.prog 9 = false := by kernel_rfl
@[simp] theorem Tryz.hz9 : hasZ Tryz.prog 9 = true := by kernel_rfl
@[simp] theorem Tryz.zc9 : zeroC Tryz.prog 9 = [.string ⟨#[]⟩] := by kernel_rfl
@[simp] theorem Tryz.by9 : byOf Tryz.prog 9 = 16 := by kernel_rfl
@[simp] theorem Tryz.st9 : isStr Tryz.prog 9 = true := by kernel_rfl
@[simp] theorem Tryz.el9 : slEl Tryz.prog 9 = none := by kernel_rfl
@[simp] theorem Tryz.zv9 : zeroV Tryz.prog 9 = .string ⟨#[]⟩ := by kernel_rfl
@[simp] theorem Tryz.ok12 : okT Tryz.prog 12 = true := by kernel_rfl
@[simp] theorem Tryz.sz12 : szOf Tryz.prog 12 = 1 := by kernel_rfl
@[simp] theorem Tryz.ag12 : isAg Tryz.prog 12 = false := by kernel_rfl
@[simp] theorem Tryz.hz12 : hasZ Tryz.prog 12 = true := by kernel_rfl
@[simp] theorem Tryz.zc12 : zeroC Tryz.prog 12 = [.int .u64 0] := by kernel_rfl
@[simp] theorem Tryz.by12 : byOf Tryz.prog 12 = 8 := by kernel_rfl
@[simp] theorem Tryz.st12 : isStr Tryz.prog 12 = false := by kernel_rfl
@[simp] theorem Tryz.ik12 : inK Tryz.prog 12 = some .u64 := by kernel_rfl
@[simp] theorem Tryz.el12 : slEl Tryz.prog 12 = none := by kernel_rfl
@[simp] theorem Tryz.zv12 : zeroV Tryz.prog 12 = .int .u64 0 := by kernel_rfl
@[simp] theorem Tryz.ok21 : okT Tryz.prog 21 = true := by kernel_rfl
@[simp] theorem Tryz.sz21 : szOf Tryz.prog 21 = 1 := by kernel_rfl
@[simp] theorem Tryz.ag21 : isAg Tryz.prog 21 = false := by kernel_rfl
@[simp] theorem Tryz.hz21 : hasZ Tryz.prog 21 = true := by kernel_rfl
@[simp] theorem Tryz.zc21 : zeroC Tryz.prog 21 = [.int .i32 0] := by kernel_rfl
@[simp] theorem Tryz.by21 : byOf Tryz.prog 21 = 4 := by kernel_rfl
@[simp] theorem Tryz.st21 : isStr Tryz.prog 21 = false := by kernel_rfl
@[simp] theorem Tryz.ik21 : inK Tryz.prog 21 = some .i32 := by kernel_rfl
@[simp] theorem Tryz.el21 : slEl Tryz.prog 21 = none := by kernel_rfl
@[simp] theorem Tryz.zv21 : zeroV Tryz.prog 21 = .int .i32 0 := by kernel_rfl
@[simp] theorem Tryz.ok22 : okT Tryz.prog 22 = true := by kernel_rfl
@[simp] theorem Tryz.sz22 : szOf Tryz.prog 22 = 1 := by kernel_rfl
@[simp] theorem Tryz.ag22 : isAg Tryz.prog 22 = false := by kernel_rfl
@[simp] theorem Tryz.hz22 : hasZ Tryz.prog 22 = true := by kernel_rfl
@[simp] theorem Tryz.zc22 : zeroC Tryz.prog 22 = [.slice none 0 0] := by kernel_rfl
@[simp] theorem Tryz.by22 : byOf Tryz.prog 22 = 24 := by kernel_rfl
@[simp] theorem Tryz.st22 : isStr Tryz.prog 22 = false := by kernel_rfl
@[simp] theorem Tryz.el22 : slEl Tryz.prog 22 = some 72 := by kernel_rfl
@[simp] theorem Tryz.zv22 : zeroV Tryz.prog 22 = .slice none 0 0 := by kernel_rfl
@[simp] theorem Tryz.ok23 : okT Tryz.prog 23 = true := by kernel_rfl
@[simp] theorem Tryz.sz23 : szOf Tryz.prog 23 = 1 := by kernel_rfl
@[simp] theorem Tryz.ag23 : isAg Tryz.prog 23 = false := by kernel_rfl
@[simp] theorem Tryz.hz23 : hasZ Tryz.prog 23 = true := by kernel_rfl
@[simp] theorem Tryz.zc23 : zeroC Tryz.prog 23 = [.slice none 0 0] := by kernel_rfl
@[simp] theorem Tryz.by23 : byOf Tryz.prog 23 = 24 := by kernel_rfl
@[simp] theorem Tryz.st23 : isStr Tryz.prog 23 = false := by kernel_rfl
@[simp] theorem Tryz.el23 : slEl Tryz.prog 23 = some 74 := by kernel_rfl
@[simp] theorem Tryz.zv23 : zeroV Tryz.prog 23 = .slice none 0 0 := by kernel_rfl
@[simp] theorem Tryz.ok24 : okT Tryz.prog 24 = true := by kernel_rfl
@[simp] theorem Tryz.sz24 : szOf Tryz.prog 24 = 4 := by kernel_rfl
@[simp] theorem Tryz.ag24 : isAg Tryz.prog 24 = true := by kernel_rfl
@[simp] theorem Tryz.hz24 : hasZ Tryz.prog 24 = true := by kernel_rfl
@[simp] theorem Tryz.zc24 : zeroC Tryz.prog 24 = [.string ⟨#[]⟩, .slice none 0 0, .slice none 0 0, .int .i64 0] := by kernel_rfl
@[simp] theorem Tryz.by24 : byOf Tryz.prog 24 = 72 := by kernel_rfl
@[simp] theorem Tryz.st24 : isStr Tryz.prog 24 = false := by kernel_rfl
@[simp] theorem Tryz.el24 : slEl Tryz.prog 24 = none := by kernel_rfl
@[simp] theorem Tryz.zv24 : zeroV Tryz.prog 24 = .agg #[.string ⟨#[]⟩, .slice none 0 0, .slice none 0 0, .int .i64 0] := by kernel_rfl
@[simp] theorem Tryz.fk24 : flOk Tryz.prog 24 = true := by kernel_rfl
@[simp] theorem Tryz.fl24_0 : flOf Tryz.prog 24 0 = some (0, 9) := by kernel_rfl
@[simp] theorem Tryz.fl24_1 : flOf Tryz.prog 24 1 = some (1, 22) := by kernel_rfl
@[simp] theorem Tryz.fl24_2 : flOf Tryz.prog 24 2 = some (2, 23) := by kernel_rfl
@[simp] theorem Tryz.fl24_3 : flOf Tryz.prog 24 3 = some (3, 3) := by kernel_rfl
@[simp] theorem Tryz.ok25 : okT Tryz.prog 25 = true := by kernel_rfl
@[simp] theorem Tryz.sz25 : szOf Tryz.prog 25 = 4 := by kernel_rfl
@[simp] theorem Tryz.ag25 : isAg Tryz.prog 25 = true := by kernel_rfl
@[simp] theorem Tryz.hz25 : hasZ Tryz.prog 25 = true := by kernel_rfl
@[simp] theorem Tryz.zc25 : zeroC Tryz.prog 25 = [.string ⟨#[]⟩, .slice none 0 0, .slice none 0 0, .int .i64 0] := by kernel_rfl
@[simp] theorem Tryz.by25 : byOf Tryz.prog 25 = 72 := by kernel_rfl
@[simp] theorem Tryz.st25 : isStr Tryz.prog 25 = false := by kernel_rfl
@[simp] theorem Tryz.el25 : slEl Tryz.prog 25 = none := by kernel_rfl
@[simp] theorem Tryz.zv25 : zeroV Tryz.prog 25 = .agg #[.string ⟨#[]⟩, .slice none 0 0, .slice none 0 0, .int .i64 0] := by kernel_rfl
@[simp] theorem Tryz.fk25 : flOk Tryz.prog 25 = true := by kernel_rfl
@[simp] theorem Tryz.fl25_0 : flOf Tryz.prog 25 0 = some (0, 9) := by kernel_rfl
@[simp] theorem Tryz.fl25_1 : flOf Tryz.prog 25 1 = some (1, 22) := by kernel_rfl
@[simp] theorem Tryz.fl25_2 : flOf Tryz.prog 25 2 = some (2, 23) := by kernel_rfl
@[simp] theorem Tryz.fl25_3 : flOf Tryz.prog 25 3 = some (3, 3) := by kernel_rfl
@[simp] theorem Tryz.ok27 : okT Tryz.prog 27 = true := by kernel_rfl
@[simp] theorem Tryz.sz27 : szOf Tryz.prog 27 = 1 := by kernel_rfl
@[simp] theorem Tryz.ag27 : isAg Tryz.prog 27 = false := by kernel_rfl
@[simp] theorem Tryz.hz27 : hasZ Tryz.prog 27 = true := by kernel_rfl
@[simp] theorem Tryz.zc27 : zeroC Tryz.prog 27 = [.slice none 0 0] := by kernel_rfl
@[simp] theorem Tryz.by27 : byOf Tryz.prog 27 = 24 := by kernel_rfl
@[simp] theorem Tryz.st27 : isStr Tryz.prog 27 = false := by kernel_rfl
@[simp] theorem Tryz.el27 : slEl Tryz.prog 27 = some 63 := by kernel_rfl
@[simp] theorem Tryz.zv27 : zeroV Tryz.prog 27 = .slice none 0 0 := by kernel_rfl
@[simp] theorem Tryz.ok28 : okT Tryz.prog 28 = true := by kernel_rfl
@[simp] theorem Tryz.sz28 : szOf Tryz.prog 28 = 1 := by kernel_rfl
@[simp] theorem Tryz.ag28 : isAg Tryz.prog 28 = false := by kernel_rfl
@[simp] theorem Tryz.hz28 : hasZ Tryz.prog 28 = true := by kernel_rfl
@[simp] theorem Tryz.zc28 : zeroC Tryz.prog 28 = [.slice none 0 0] := by kernel_rfl
@[simp] theorem Tryz.by28 : byOf Tryz.prog 28 = 24 := by kernel_rfl
@[simp] theorem Tryz.st28 : isStr Tryz.prog 28 = false := by kernel_rfl
@[simp] theorem Tryz.el28 : slEl Tryz.prog 28 = some 3 := by kernel_rfl
@[simp] theorem Tryz.zv28 : zeroV Tryz.prog 28 = .slice none 0 0 := by kernel_rfl
@[simp] theorem Tryz.ok29 : okT Tryz.prog 29 = true := by kernel_rfl
@[simp] theorem Tryz.sz29 : szOf Tryz.prog 29 = 1 := by kernel_rfl
@[simp] theorem Tryz.ag29 : isAg Tryz.prog 29 = false := by kernel_rfl
@[simp] theorem Tryz.hz29 : hasZ Tryz.prog 29 = true := by kernel_rfl
@[simp] theorem Tryz.zc29 : zeroC Tryz.prog 29 = [.slice none 0 0] := by kernel_rfl
@[simp] theorem Tryz.by29 : byOf Tryz.prog 29 = 24 := by kernel_rfl
@[simp] theorem Tryz.st29 : isStr Tryz.prog 29 = false := by kernel_rfl
@[simp] theorem Tryz.el29 : slEl Tryz.prog 29 = some 70 := by kernel_rfl
@[simp] theorem Tryz.zv29 : zeroV Tryz.prog 29 = .slice none 0 0 := by kernel_rfl
@[simp] theorem Tryz.ok30 : okT Tryz.prog 30 = true := by kernel_rfl
@[simp] theorem Tryz.sz30 : szOf Tryz.prog 30 = 9 := by kernel_rfl
@[simp] theorem Tryz.ag30 : isAg Tryz.prog 30 = true := by kernel_rfl
@[simp] theorem Tryz.hz30 : hasZ Tryz.prog 30 = true := by kernel_rfl
@[simp] theorem Tryz.zc30 : zeroC Tryz.prog 30 = [.string ⟨#[]⟩, .slice none 0 0, .slice none 0 0, .slice none 0 0, .slice none 0 0, .slice none 0 0, .slice none 0 0, .slice none 0 0, .int .i64 0] := by kernel_rfl
@[simp] theorem Tryz.by30 : byOf Tryz.prog 30 = 192 := by kernel_rfl
@[simp] theorem Tryz.st30 : isStr Tryz.prog 30 = false := by kernel_rfl
@[simp] theorem Tryz.el30 : slEl Tryz.prog 30 = none := by kernel_rfl
@[simp] theorem Tryz.zv30 : zeroV Tryz.prog 30 = .agg #[.string ⟨#[]⟩, .slice none 0 0, .slice none 0 0, .slice none 0 0, .slice none 0 0, .slice none 0 0, .slice none 0 0, .slice none 0 0, .int .i64 0] := by kernel_rfl
@[simp] theorem Tryz.fk30 : flOk Tryz.prog 30 = true := by kernel_rfl
@[simp] theorem Tryz.fl30_0 : flOf Tryz.prog 30 0 = some (0, 9) := by kernel_rfl
@[simp] theorem Tryz.fl30_1 : flOf Tryz.prog 30 1 = some (1, 27) := by kernel_rfl
@[simp] theorem Tryz.fl30_2 : flOf Tryz.prog 30 2 = some (2, 28) := by kernel_rfl
@[simp] theorem Tryz.fl30_3 : flOf Tryz.prog 30 3 = some (3, 28) := by kernel_rfl
@[simp] theorem Tryz.fl30_4 : flOf Tryz.prog 30 4 = some (4, 28) := by kernel_rfl
@[simp] theorem Tryz.fl30_5 : flOf Tryz.prog 30 5 = some (5, 28) := by kernel_rfl
@[simp] theorem Tryz.fl30_6 : flOf Tryz.prog 30 6 = some (6, 29) := by kernel_rfl
@[simp] theorem Tryz.fl30_7 : flOf Tryz.prog 30 7 = some (7, 28) := by kernel_rfl
@[simp] theorem Tryz.fl30_8 : flOf Tryz.prog 30 8 = some (8, 3) := by kernel_rfl
@[simp] theorem Tryz.ok31 : okT Tryz.prog 31 = true := by kernel_rfl
@[simp] theorem Tryz.sz31 : szOf Tryz.prog 31 = 9 := by kernel_rfl
@[simp] theorem Tryz.ag31 : isAg Tryz.prog 31 = true := by kernel_rfl
@[simp] theorem Tryz.hz31 : hasZ Tryz.prog 31 = true := by kernel_rfl
@[simp] theorem Tryz.zc31 : zeroC Tryz.prog 31 = [.string ⟨#[]⟩, .slice none 0 0, .slice none 0 0, .slice none 0 0, .slice none 0 0, .slice none 0 0, .slice none 0 0, .slice none 0 0, .int .i64 0] := by kernel_rfl
@[simp] theorem Tryz.by31 : byOf Tryz.prog 31 = 192 := by kernel_rfl
@[simp] theorem Tryz.st31 : isStr Tryz.prog 31 = false := by kernel_rfl
@[simp] theorem Tryz.el31 : slEl Tryz.prog 31 = none := by kernel_rfl
@[simp] theorem Tryz.zv31 : zeroV Tryz.prog 31 = .agg #[.string ⟨#[]⟩, .slice none 0 0, .slice none 0 0, .slice none 0 0, .slice none 0 0, .slice none 0 0, .slice none 0 0, .slice none 0 0, .int .i64 0] := by kernel_rfl
@[simp] theorem Tryz.fk31 : flOk Tryz.prog 31 = true := by kernel_rfl
@[simp] theorem Tryz.fl31_0 : flOf Tryz.prog 31 0 = some (0, 9) := by kernel_rfl
@[simp] theorem Tryz.fl31_1 : flOf Tryz.prog 31 1 = some (1, 27) := by kernel_rfl
@[simp] theorem Tryz.fl31_2 : flOf Tryz.prog 31 2 = some (2, 28) := by kernel_rfl
@[simp] theorem Tryz.fl31_3 : flOf Tryz.prog 31 3 = some (3, 28) := by kernel_rfl
@[simp] theorem Tryz.fl31_4 : flOf Tryz.prog 31 4 = some (4, 28) := by kernel_rfl
@[simp] theorem Tryz.fl31_5 : flOf Tryz.prog 31 5 = some (5, 28) := by kernel_rfl
@[simp] theorem Tryz.fl31_6 : flOf Tryz.prog 31 6 = some (6, 29) := by kernel_rfl
@[simp] theorem Tryz.fl31_7 : flOf Tryz.prog 31 7 = some (7, 28) := by kernel_rfl
@[simp] theorem Tryz.fl31_8 : flOf Tryz.prog 31 8 = some (8, 3) := by kernel_rfl
@[simp] theorem Tryz.ok34 : okT Tryz.prog 34 = true := by kernel_rfl
@[simp] theorem Tryz.sz34 : szOf Tryz.prog 34 = 4 := by kernel_rfl
@[simp] theorem Tryz.ag34 : isAg Tryz.prog 34 = true := by kernel_rfl
@[simp] theorem Tryz.hz34 : hasZ Tryz.prog 34 = true := by kernel_rfl
@[simp] theorem Tryz.zc34 : zeroC Tryz.prog 34 = [.string ⟨#[]⟩, .slice none 0 0, .slice none 0 0, .int .i64 0] := by kernel_rfl
@[simp] theorem Tryz.by34 : byOf Tryz.prog 34 = 72 := by kernel_rfl
@[simp] theorem Tryz.st34 : isStr Tryz.prog 34 = false := by kernel_rfl
@[simp] theorem Tryz.el34 : slEl Tryz.prog 34 = none := by kernel_rfl
@[simp] theorem Tryz.zv34 : zeroV Tryz.prog 34 = .agg #[.string ⟨#[]⟩, .slice none 0 0, .slice none 0 0, .int .i64 0] := by kernel_rfl
@[simp] theorem Tryz.fk34 : flOk Tryz.prog 34 = true := by kernel_rfl
@[simp] theorem Tryz.fl34_0 : flOf Tryz.prog 34 0 = some (0, 9) := by kernel_rfl
@[simp] theorem Tryz.fl34_1 : flOf Tryz.prog 34 1 = some (1, 27) := by kernel_rfl
@[simp] theorem Tryz.fl34_2 : flOf Tryz.prog 34 2 = some (2, 29) := by kernel_rfl
@[simp] theorem Tryz.fl34_3 : flOf Tryz.prog 34 3 = some (3, 3) := by kernel_rfl
@[simp] theorem Tryz.ok35 : okT Tryz.prog 35 = true := by kernel_rfl
@[simp] theorem Tryz.sz35 : szOf Tryz.prog 35 = 4 := by kernel_rfl
@[simp] theorem Tryz.ag35 : isAg Tryz.prog 35 = true := by kernel_rfl
@[simp] theorem Tryz.hz35 : hasZ Tryz.prog 35 = true := by kernel_rfl
@[simp] theorem Tryz.zc35 : zeroC Tryz.prog 35 = [.string ⟨#[]⟩, .slice none 0 0, .slice none 0 0, .int .i64 0] := by kernel_rfl
@[simp] theorem Tryz.by35 : byOf Tryz.prog 35 = 72 := by kernel_rfl
@[simp] theorem Tryz.st35 : isStr Tryz.prog 35 = false := by kernel_rfl
@[simp] theorem Tryz.el35 : slEl Tryz.prog 35 = none := by kernel_rfl
@[simp] theorem Tryz.zv35 : zeroV Tryz.prog 35 = .agg #[.string ⟨#[]⟩, .slice none 0 0, .slice none 0 0, .int .i64 0] := by kernel_rfl
@[simp] theorem Tryz.fk35 : flOk Tryz.prog 35 = true := by kernel_rfl
@[simp] theorem Tryz.fl35_0 : flOf Tryz.prog 35 0 = some (0, 9) := by kernel_rfl
@[simp] theorem Tryz.fl35_1 : flOf Tryz.prog 35 1 = some (1, 27) := by kernel_rfl
@[simp] theorem Tryz.fl35_2 : flOf Tryz.prog 35 2 = some (2, 29) := by kernel_rfl
@[simp] theorem Tryz.fl35_3 : flOf Tryz.prog 35 3 = some (3, 3) := by kernel_rfl
@[simp] theorem Tryz.ok42 : okT Tryz.prog 42 = true := by kernel_rfl
@[simp] theorem Tryz.sz42 : szOf Tryz.prog 42 = 9 := by kernel_rfl
@[simp] theorem Tryz.ag42 : isAg Tryz.prog 42 = true := by kernel_rfl
@[simp] theorem Tryz.hz42 : hasZ Tryz.prog 42 = true := by kernel_rfl
@[simp] theorem Tryz.zc42 : zeroC Tryz.prog 42 = [.string ⟨#[]⟩, .slice none 0 0, .slice none 0 0, .slice none 0 0, .slice none 0 0, .slice none 0 0, .slice none 0 0, .slice none 0 0, .int .i64 0] := by kernel_rfl
@[simp] theorem Tryz.by42 : byOf Tryz.prog 42 = 192 := by kernel_rfl
@[simp] theorem Tryz.st42 : isStr Tryz.prog 42 = false := by kernel_rfl
@[simp] theorem Tryz.el42 : slEl Tryz.prog 42 = none := by kernel_rfl
@[simp] theorem Tryz.zv42 : zeroV Tryz.prog 42 = .agg #[.string ⟨#[]⟩, .slice none 0 0, .slice none 0 0, .slice none 0 0, .slice none 0 0, .slice none 0 0, .slice none 0 0, .slice none 0 0, .int .i64 0] := by kernel_rfl
@[simp] theorem Tryz.fk42 : flOk Tryz.prog 42 = true := by kernel_rfl
@[simp] theorem Tryz.fl42_0 : flOf Tryz.prog 42 0 = some (0, 9) := by kernel_rfl
@[simp] theorem Tryz.fl42_1 : flOf Tryz.prog 42 1 = some (1, 22) := by kernel_rfl
@[simp] theorem Tryz.fl42_2 : flOf Tryz.prog 42 2 = some (2, 28) := by kernel_rfl
@[simp] theorem Tryz.fl42_3 : flOf Tryz.prog 42 3 = some (3, 28) := by kernel_rfl
@[simp] theorem Tryz.fl42_4 : flOf Tryz.prog 42 4 = some (4, 28) := by kernel_rfl
@[simp] theorem Tryz.fl42_5 : flOf Tryz.prog 42 5 = some (5, 28) := by kernel_rfl
@[simp] theorem Tryz.fl42_6 : flOf Tryz.prog 42 6 = some (6, 23) := by kernel_rfl
@[simp] theorem Tryz.fl42_7 : flOf Tryz.prog 42 7 = some (7, 28) := by kernel_rfl
@[simp] theorem Tryz.fl42_8 : flOf Tryz.prog 42 8 = some (8, 3) := by kernel_rfl
@[simp] theorem Tryz.ok43 : okT Tryz.prog 43 = true := by kernel_rfl
@[simp] theorem Tryz.sz43 : szOf Tryz.prog 43 = 9 := by kernel_rfl
@[simp] theorem Tryz.ag43 : isAg Tryz.prog 43 = true := by kernel_rfl
@[simp] theorem Tryz.hz43 : hasZ Tryz.prog 43 = true := by kernel_rfl
@[simp] theorem Tryz.zc43 : zeroC Tryz.prog 43 = [.string ⟨#[]⟩, .slice none 0 0, .slice none 0 0, .slice none 0 0, .slice none 0 0, .slice none 0 0, .slice none 0 0, .slice none 0 0, .int .i64 0] := by kernel_rfl
@[simp] theorem Tryz.by43 : byOf Tryz.prog 43 = 192 := by kernel_rfl
@[simp] theorem Tryz.st43 : isStr Tryz.prog 43 = false := by kernel_rfl
@[simp] theorem Tryz.el43 : slEl Tryz.prog 43 = none := by kernel_rfl
@[simp] theorem Tryz.zv43 : zeroV Tryz.prog 43 = .agg #[.string ⟨#[]⟩, .slice none 0 0, .slice none 0 0, .slice none 0 0, .slice none 0 0, .slice none 0 0, .slice none 0 0, .slice none 0 0, .int .i64 0] := by kernel_rfl
@[simp] theorem Tryz.fk43 : flOk Tryz.prog 43 = true := by kernel_rfl
@[simp] theorem Tryz.fl43_0 : flOf Tryz.prog 43 0 = some (0, 9) := by kernel_rfl
@[simp] theorem Tryz.fl43_1 : flOf Tryz.prog 43 1 = some (1, 22) := by kernel_rfl
@[simp] theorem Tryz.fl43_2 : flOf Tryz.prog 43 2 = some (2, 28) := by kernel_rfl
@[simp] theorem Tryz.fl43_3 : flOf Tryz.prog 43 3 = some (3, 28) := by kernel_rfl
@[simp] theorem Tryz.fl43_4 : flOf Tryz.prog 43 4 = some (4, 28) := by kernel_rfl
@[simp] theorem Tryz.fl43_5 : flOf Tryz.prog 43 5 = some (5, 28) := by kernel_rfl
@[simp] theorem Tryz.fl43_6 : flOf Tryz.prog 43 6 = some (6, 23) := by kernel_rfl
@[simp] theorem Tryz.fl43_7 : flOf Tryz.prog 43 7 = some (7, 28) := by kernel_rfl
@[simp] theorem Tryz.fl43_8 : flOf Tryz.prog 43 8 = some (8, 3) := by kernel_rfl
@[simp] theorem Tryz.ok62 : okT Tryz.prog 62 = true := by kernel_rfl
@[simp] theorem Tryz.sz62 : szOf Tryz.prog 62 = 8 := by kernel_rfl
@[simp] theorem Tryz.ag62 : isAg Tryz.prog 62 = true := by kernel_rfl
@[simp] theorem Tryz.hz62 : hasZ Tryz.prog 62 = true := by kernel_rfl
@[simp] theorem Tryz.zc62 : zeroC Tryz.prog 62 = [.int .i64 0, .int .i64 0, .int .i64 0, .int .i64 0, .int .i64 0, .int .i64 0, .int .i64 0, .int .i64 0] := by kernel_rfl
@[simp] theorem Tryz.by62 : byOf Tryz.prog 62 = 64 := by kernel_rfl
@[simp] theorem Tryz.st62 : isStr Tryz.prog 62 = false := by kernel_rfl
@[simp] theorem Tryz.el62 : slEl Tryz.prog 62 = none := by kernel_rfl
@[simp] theorem Tryz.zv62 : zeroV Tryz.prog 62 = .agg #[.int .i64 0, .int .i64 0, .int .i64 0, .int .i64 0, .int .i64 0, .int .i64 0, .int .i64 0, .int .i64 0] := by kernel_rfl
@[simp] theorem Tryz.fk62 : flOk Tryz.prog 62 = true := by kernel_rfl
@[simp] theorem Tryz.fl62_0 : flOf Tryz.prog 62 0 = some (0, 3) := by kernel_rfl
@[simp] theorem Tryz.fl62_1 : flOf Tryz.prog 62 1 = some (1, 3) := by kernel_rfl
@[simp] theorem Tryz.fl62_2 : flOf Tryz.prog 62 2 = some (2, 3) := by kernel_rfl
@[simp] theorem Tryz.fl62_3 : flOf Tryz.prog 62 3 = some (3, 3) := by kernel_rfl
@[simp] theorem Tryz.fl62_4 : flOf Tryz.prog 62 4 = some (4, 3) := by kernel_rfl
@[simp] theorem Tryz.fl62_5 : flOf Tryz.prog 62 5 = some (5, 3) := by kernel_rfl
@[simp] theorem Tryz.fl62_6 : flOf Tryz.prog 62 6 = some (6, 3) := by kernel_rfl
@[simp] theorem Tryz.fl62_7 : flOf Tryz.prog 62 7 = some (7, 3) := by kernel_rfl
@[simp] theorem Tryz.eq62 : eqPlan Tryz.prog 62 = some [(0, 0), (0, 1), (0, 2), (0, 3), (0, 4), (0, 5), (0, 6), (0, 7)] := by kernel_rfl
@[simp] theorem Tryz.ok63 : okT Tryz.prog 63 = true := by kernel_rfl
@[simp] theorem Tryz.sz63 : szOf Tryz.prog 63 = 8 := by kernel_rfl
@[simp] theorem Tryz.ag63 : isAg Tryz.prog 63 = true := by kernel_rfl
@[simp] theorem Tryz.hz63 : hasZ Tryz.prog 63 = true := by kernel_rfl
@[simp] theorem Tryz.zc63 : zeroC Tryz.prog 63 = [.int .i64 0, .int .i64 0, .int .i64 0, .int .i64 0, .int .i64 0, .int .i64 0, .int .i64 0, .int .i64 0] := by kernel_rfl
@[simp] theorem Tryz.by63 : byOf Tryz.prog 63 = 64 := by kernel_rfl
@[simp] theorem Tryz.st63 : isStr Tryz.prog 63 = false := by kernel_rfl
@[simp] theorem Tryz.el63 : slEl Tryz.prog 63 = none := by kernel_rfl
@[simp] theorem Tryz.zv63 : zeroV Tryz.prog 63 = .agg #[.int .i64 0, .int .i64 0, .int .i64 0, .int .i64 0, .int .i64 0, .int .i64 0, .int .i64 0, .int .i64 0] := by kernel_rfl
@[simp] theorem Tryz.fk63 : flOk Tryz.prog 63 = true := by kernel_rfl
@[simp] theorem Tryz.fl63_0 : flOf Tryz.prog 63 0 = some (0, 3) := by kernel_rfl
@[simp] theorem Tryz.fl63_1 : flOf Tryz.prog 63 1 = some (1, 3) := by kernel_rfl
@[simp] theorem Tryz.fl63_2 : flOf Tryz.prog 63 2 = some (2, 3) := by kernel_rfl
@[simp] theorem Tryz.fl63_3 : flOf Tryz.prog 63 3 = some (3, 3) := by kernel_rfl
@[simp] theorem Tryz.fl63_4 : flOf Tryz.prog 63 4 = some (4, 3) := by kernel_rfl
@[simp] theorem Tryz.fl63_5 : flOf Tryz.prog 63 5 = some (5, 3) := by kernel_rfl
@[simp] theorem Tryz.fl63_6 : flOf Tryz.prog 63 6 = some (6, 3) := by kernel_rfl
@[simp] theorem Tryz.fl63_7 : flOf Tryz.prog 63 7 = some (7, 3) := by kernel_rfl
@[simp] theorem Tryz.eq63 : eqPlan Tryz.prog 63 = some [(0, 0), (0, 1), (0, 2), (0, 3), (0, 4), (0, 5), (0, 6), (0, 7)] := by kernel_rfl
@[simp] theorem Tryz.ok69 : okT Tryz.prog 69 = true := by kernel_rfl
@[simp] theorem Tryz.sz69 : szOf Tryz.prog 69 = 5 := by kernel_rfl
@[simp] theorem Tryz.ag69 : isAg Tryz.prog 69 = true := by kernel_rfl
@[simp] theorem Tryz.hz69 : hasZ Tryz.prog 69 = true := by kernel_rfl
@[simp] theorem Tryz.zc69 : zeroC Tryz.prog 69 = [.int .i64 0, .int .i64 0, .int .i64 0, .int .i64 0, .int .i64 0] := by kernel_rfl
@[simp] theorem Tryz.by69 : byOf Tryz.prog 69 = 40 := by kernel_rfl
@[simp] theorem Tryz.st69 : isStr Tryz.prog 69 = false := by kernel_rfl
@[simp] theorem Tryz.el69 : slEl Tryz.prog 69 = none := by kernel_rfl
@[simp] theorem Tryz.zv69 : zeroV Tryz.prog 69 = .agg #[.int .i64 0, .int .i64 0, .int .i64 0, .int .i64 0, .int .i64 0] := by kernel_rfl
@[simp] theorem Tryz.fk69 : flOk Tryz.prog 69 = true := by kernel_rfl
@[simp] theorem Tryz.fl69_0 : flOf Tryz.prog 69 0 = some (0, 3) := by kernel_rfl
@[simp] theorem Tryz.fl69_1 : flOf Tryz.prog 69 1 = some (1, 3) := by kernel_rfl
@[simp] theorem Tryz.fl69_2 : flOf Tryz.prog 69 2 = some (2, 3) := by kernel_rfl
@[simp] theorem Tryz.fl69_3 : flOf Tryz.prog 69 3 = some (3, 3) := by kernel_rfl
@[simp] theorem Tryz.fl69_4 : flOf Tryz.prog 69 4 = some (4, 3) := by kernel_rfl
@[simp] theorem Tryz.eq69 : eqPlan Tryz.prog 69 = some [(0, 0), (0, 1), (0, 2), (0, 3), (0, 4)] := by kernel_rfl
@[simp] theorem Tryz.ok70 : okT Tryz.prog 70 = true := by kernel_rfl
@[simp] theorem Tryz.sz70 : szOf Tryz.prog 70 = 5 := by kernel_rfl
@[simp] theorem Tryz.ag70 : isAg Tryz.prog 70 = true := by kernel_rfl
@[simp] theorem Tryz.hz70 : hasZ Tryz.prog 70 = true := by kernel_rfl
@[simp] theorem Tryz.zc70 : zeroC Tryz.prog 70 = [.int .i64 0, .int .i64 0, .int .i64 0, .int .i64 0, .int .i64 0] := by kernel_rfl
@[simp] theorem Tryz.by70 : byOf Tryz.prog 70 = 40 := by kernel_rfl
@[simp] theorem Tryz.st70 : isStr Tryz.prog 70 = false := by kernel_rfl
@[simp] theorem Tryz.el70 : slEl Tryz.prog 70 = none := by kernel_rfl
@[simp] theorem Tryz.zv70 : zeroV Tryz.prog 70 = .agg #[.int .i64 0, .int .i64 0, .int .i64 0, .int .i64 0, .int .i64 0] := by kernel_rfl
@[simp] theorem Tryz.fk70 : flOk Tryz.prog 70 = true := by kernel_rfl
@[simp] theorem Tryz.fl70_0 : flOf Tryz.prog 70 0 = some (0, 3) := by kernel_rfl
@[simp] theorem Tryz.fl70_1 : flOf Tryz.prog 70 1 = some (1, 3) := by kernel_rfl
@[simp] theorem Tryz.fl70_2 : flOf Tryz.prog 70 2 = some (2, 3) := by kernel_rfl
@[simp] theorem Tryz.fl70_3 : flOf Tryz.prog 70 3 = some (3, 3) := by kernel_rfl
@[simp] theorem Tryz.fl70_4 : flOf Tryz.prog 70 4 = some (4, 3) := by kernel_rfl
@[simp] theorem Tryz.eq70 : eqPlan Tryz.prog 70 = some [(0, 0), (0, 1), (0, 2), (0, 3), (0, 4)] := by kernel_rfl
@[simp] theorem Tryz.ok72 : okT Tryz.prog 72 = true := by kernel_rfl
@[simp] theorem Tryz.sz72 : szOf Tryz.prog 72 = 8 := by kernel_rfl
@[simp] theorem Tryz.ag72 : isAg Tryz.prog 72 = true := by kernel_rfl
@[simp] theorem Tryz.hz72 : hasZ Tryz.prog 72 = true := by kernel_rfl
@[simp] theorem Tryz.zc72 : zeroC Tryz.prog 72 = [.int .i64 0, .int .i64 0, .int .i64 0, .int .i64 0, .int .i64 0, .int .i64 0, .int .i64 0, .int .i64 0] := by kernel_rfl
@[simp] theorem Tryz.by72 : byOf Tryz.prog 72 = 64 := by kernel_rfl
@[simp] theorem Tryz.st72 : isStr Tryz.prog 72 = false := by kernel_rfl
@[simp] theorem Tryz.el72 : slEl Tryz.prog 72 = none := by kernel_rfl
@[simp] theorem Tryz.zv72 : zeroV Tryz.prog 72 = .agg #[.int .i64 0, .int .i64 0, .int .i64 0, .int .i64 0, .int .i64 0, .int .i64 0, .int .i64 0, .int .i64 0] := by kernel_rfl
@[simp] theorem Tryz.fk72 : flOk Tryz.prog 72 = true := by kernel_rfl
@[simp] theorem Tryz.fl72_0 : flOf Tryz.prog 72 0 = some (0, 3) := by kernel_rfl
@[simp] theorem Tryz.fl72_1 : flOf Tryz.prog 72 1 = some (1, 3) := by kernel_rfl
@[simp] theorem Tryz.fl72_2 : flOf Tryz.prog 72 2 = some (2, 3) := by kernel_rfl
@[simp] theorem Tryz.fl72_3 : flOf Tryz.prog 72 3 = some (3, 3) := by kernel_rfl
@[simp] theorem Tryz.fl72_4 : flOf Tryz.prog 72 4 = some (4, 3) := by kernel_rfl
@[simp] theorem Tryz.fl72_5 : flOf Tryz.prog 72 5 = some (5, 3) := by kernel_rfl
@[simp] theorem Tryz.fl72_6 : flOf Tryz.prog 72 6 = some (6, 3) := by kernel_rfl
@[simp] theorem Tryz.fl72_7 : flOf Tryz.prog 72 7 = some (7, 3) := by kernel_rfl
@[simp] theorem Tryz.eq72 : eqPlan Tryz.prog 72 = some [(0, 0), (0, 1), (0, 2), (0, 3), (0, 4), (0, 5), (0, 6), (0, 7)] := by kernel_rfl
@[simp] theorem Tryz.ok74 : okT Tryz.prog 74 = true := by kernel_rfl
@[simp] theorem Tryz.sz74 : szOf Tryz.prog 74 = 5 := by kernel_rfl
@[simp] theorem Tryz.ag74 : isAg Tryz.prog 74 = true := by kernel_rfl
@[simp] theorem Tryz.hz74 : hasZ Tryz.prog 74 = true := by kernel_rfl
@[simp] theorem Tryz.zc74 : zeroC Tryz.prog 74 = [.int .i64 0, .int .i64 0, .int .i64 0, .int .i64 0, .int .i64 0] := by kernel_rfl
@[simp] theorem Tryz.by74 : byOf Tryz.prog 74 = 40 := by kernel_rfl
@[simp] theorem Tryz.st74 : isStr Tryz.prog 74 = false := by kernel_rfl
@[simp] theorem Tryz.el74 : slEl Tryz.prog 74 = none := by kernel_rfl
@[simp] theorem Tryz.zv74 : zeroV Tryz.prog 74 = .agg #[.int .i64 0, .int .i64 0, .int .i64 0, .int .i64 0, .int .i64 0] := by kernel_rfl
@[simp] theorem Tryz.fk74 : flOk Tryz.prog 74 = true := by kernel_rfl
@[simp] theorem Tryz.fl74_0 : flOf Tryz.prog 74 0 = some (0, 3) := by kernel_rfl
@[simp] theorem Tryz.fl74_1 : flOf Tryz.prog 74 1 = some (1, 3) := by kernel_rfl
@[simp] theorem Tryz.fl74_2 : flOf Tryz.prog 74 2 = some (2, 3) := by kernel_rfl
@[simp] theorem Tryz.fl74_3 : flOf Tryz.prog 74 3 = some (3, 3) := by kernel_rfl
@[simp] theorem Tryz.fl74_4 : flOf Tryz.prog 74 4 = some (4, 3) := by kernel_rfl
@[simp] theorem Tryz.eq74 : eqPlan Tryz.prog 74 = some [(0, 0), (0, 1), (0, 2), (0, 3), (0, 4)] := by kernel_rfl
@[simp] theorem Tryz.ok76 : okT Tryz.prog 76 = true := by kernel_rfl
@[simp] theorem Tryz.sz76 : szOf Tryz.prog 76 = 1 := by kernel_rfl
@[simp] theorem Tryz.ag76 : isAg Tryz.prog 76 = false := by kernel_rfl
@[simp] theorem Tryz.hz76 : hasZ Tryz.prog 76 = true := by kernel_rfl
@[simp] theorem Tryz.zc76 : zeroC Tryz.prog 76 = [.map none] := by kernel_rfl
@[simp] theorem Tryz.by76 : byOf Tryz.prog 76 = 8 := by kernel_rfl
@[simp] theorem Tryz.st76 : isStr Tryz.prog 76 = false := by kernel_rfl
@[simp] theorem Tryz.el76 : slEl Tryz.prog 76 = none := by kernel_rfl
@[simp] theorem Tryz.mk76 : mapKV Tryz.prog 76 = some (3, 3) := by kernel_rfl
@[simp] theorem Tryz.zv76 : zeroV Tryz.prog 76 = .map none := by kernel_rfl
@[simp] theorem Tryz.ok77 : okT Tryz.prog 77 = true := by kernel_rfl
@[simp] theorem Tryz.sz77 : szOf Tryz.prog 77 = 1 := by kernel_rfl
@[simp] theorem Tryz.ag77 : isAg Tryz.prog 77 = false := by kernel_rfl
@[simp] theorem Tryz.hz77 : hasZ Tryz.prog 77 = true := by kernel_rfl
@[simp] theorem Tryz.zc77 : zeroC Tryz.prog 77 = [.slice none 0 0] := by kernel_rfl
@[simp] theorem Tryz.by77 : byOf Tryz.prog 77 = 24 := by kernel_rfl
@[simp] theorem Tryz.st77 : isStr Tryz.prog 77 = false := by kernel_rfl
@[simp] theorem Tryz.el77 : slEl Tryz.prog 77 = some 9 := by kernel_rfl
@[simp] theorem Tryz.zv77 : zeroV Tryz.prog 77 = .slice none 0 0 := by kernel_rfl
@[simp] theorem Tryz.ok78 : okT Tryz.prog 78 = true := by kernel_rfl
@[simp] theorem Tryz.sz78 : szOf Tryz.prog 78 = 8 := by kernel_rfl
@[simp] theorem Tryz.ag78 : isAg Tryz.prog 78 = true := by kernel_rfl
@[simp] theorem Tryz.hz78 : hasZ Tryz.prog 78 = true := by kernel_rfl
@[simp] theorem Tryz.zc78 : zeroC Tryz.prog 78 = [.string ⟨#[]⟩, .slice none 0 0, .slice none 0 0, .int .i64 0, .slice none 0 0, .slice none 0 0, .slice none 0 0, .slice none 0 0] := by kernel_rfl
@[simp] theorem Tryz.by78 : byOf Tryz.prog 78 = 168 := by kernel_rfl
@[simp] theorem Tryz.st78 : isStr Tryz.prog 78 = false := by kernel_rfl
@[simp] theorem Tryz.el78 : slEl Tryz.prog 78 = none := by kernel_rfl
@[simp] theorem Tryz.zv78 : zeroV Tryz.prog 78 = .agg #[.string ⟨#[]⟩, .slice none 0 0, .slice none 0 0, .int .i64 0, .slice none 0 0, .slice none 0 0, .slice none 0 0, .slice none 0 0] := by kernel_rfl
@[simp] theorem Tryz.fk78 : flOk Tryz.prog 78 = true := by kernel_rfl
@[simp] theorem Tryz.fl78_0 : flOf Tryz.prog 78 0 = some (0, 35) := by kernel_rfl
@[simp] theorem Tryz.fl78_1 : flOf Tryz.prog 78 1 = some (4, 77) := by kernel_rfl
@[simp] theorem Tryz.fl78_2 : flOf Tryz.prog 78 2 = some (5, 28) := by kernel_rfl
@[simp] theorem Tryz.fl78_3 : flOf Tryz.prog 78 3 = some (6, 28) := by kernel_rfl
@[simp] theorem Tryz.fl78_4 : flOf Tryz.prog 78 4 = some (7, 28) := by kernel_rfl
@[simp] theorem Tryz.ok79 : okT Tryz.prog 79 = true := by kernel_rfl
@[simp] theorem Tryz.sz79 : szOf Tryz.prog 79 = 8 := by kernel_rfl
@[simp] theorem Tryz.ag79 : isAg Tryz.prog 79 = true := by kernel_rfl
@[simp] theorem Tryz.hz79 : hasZ Tryz.prog 79 = true := by kernel_rfl
@[simp] theorem Tryz.zc79 : zeroC Tryz.prog 79 = [.string ⟨#[]⟩, .slice none 0 0, .slice none 0 0, .int .i64 0, .slice none 0 0, .slice none 0 0, .slice none 0 0, .slice none 0 0] := by kernel_rfl
@[simp] theorem Tryz.by79 : byOf Tryz.prog 79 = 168 := by kernel_rfl
@[simp] theorem Tryz.st79 : isStr Tryz.prog 79 = false := by kernel_rfl
@[simp] theorem Tryz.el79 : slEl Tryz.prog 79 = none := by kernel_rfl
@[simp] theorem Tryz.zv79 : zeroV Tryz.prog 79 = .agg #[.string ⟨#[]⟩, .slice none 0 0, .slice none 0 0, .int .i64 0, .slice none 0 0, .slice none 0 0, .slice none 0 0, .slice none 0 0] := by kernel_rfl
@[simp] theorem Tryz.fk79 : flOk Tryz.prog 79 = true := by kernel_rfl
@[simp] theorem Tryz.fl79_0 : flOf Tryz.prog 79 0 = some (0, 35) := by kernel_rfl
@[simp] theorem Tryz.fl79_1 : flOf Tryz.prog 79 1 = some (4, 77) := by kernel_rfl
@[simp] theorem Tryz.fl79_2 : flOf Tryz.prog 79 2 = some (5, 28) := by kernel_rfl
@[simp] theorem Tryz.fl79_3 : flOf Tryz.prog 79 3 = some (6, 28) := by kernel_rfl
@[simp] theorem Tryz.fl79_4 : flOf Tryz.prog 79 4 = some (7, 28) := by kernel_rfl
@[simp] theorem Tryz.ok80 : okT Tryz.prog 80 = true := by kernel_rfl
@[simp] theorem Tryz.sz80 : szOf Tryz.prog 80 = 1 := by kernel_rfl
@[simp] theorem Tryz.ag80 : isAg Tryz.prog 80 = false := by kernel_rfl
@[simp] theorem Tryz.hz80 : hasZ Tryz.prog 80 = true := by kernel_rfl
@[simp] theorem Tryz.zc80 : zeroC Tryz.prog 80 = [.pointer none] := by kernel_rfl
@[simp] theorem Tryz.by80 : byOf Tryz.prog 80 = 8 := by kernel_rfl
@[simp] theorem Tryz.st80 : isStr Tryz.prog 80 = false := by kernel_rfl
@[simp] theorem Tryz.el80 : slEl Tryz.prog 80 = none := by kernel_rfl
@[simp] theorem Tryz.zv80 : zeroV Tryz.prog 80 = .pointer none := by kernel_rfl
@[simp] theorem Tryz.ok98 : okT Tryz.prog 98 = true := by kernel_rfl
@[simp] theorem Tryz.sz98 : szOf Tryz.prog 98 = 1 := by kernel_rfl
@[simp] theorem Tryz.ag98 : isAg Tryz.prog 98 = false := by kernel_rfl
@[simp] theorem Tryz.hz98 : hasZ Tryz.prog 98 = true := by kernel_rfl
@[simp] theorem Tryz.zc98 : zeroC Tryz.prog 98 = [.int .u64 0] := by kernel_rfl
@[simp] theorem Tryz.by98 : byOf Tryz.prog 98 = 8 := by kernel_rfl
@[simp] theorem Tryz.st98 : isStr Tryz.prog 98 = false := by kernel_rfl
@[simp] theorem Tryz.ik98 : inK Tryz.prog 98 = some .u64 := by kernel_rfl
@[simp] theorem Tryz.el98 : slEl Tryz.prog 98 = none := by kernel_rfl
@[simp] theorem Tryz.zv98 : zeroV Tryz.prog 98 = .int .u64 0 := by kernel_rfl
@[simp] theorem Tryz.ok114 : okT Tryz.prog 114 = true := by kernel_rfl
@[simp] theorem Tryz.sz114 : szOf Tryz.prog 114 = 1 := by kernel_rfl
@[simp] theorem Tryz.ag114 : isAg Tryz.prog 114 = false := by kernel_rfl
@[simp] theorem Tryz.hz114 : hasZ Tryz.prog 114 = true := by kernel_rfl
@[simp] theorem Tryz.zc114 : zeroC Tryz.prog 114 = [.int .u32 0] := by kernel_rfl
@[simp] theorem Tryz.by114 : byOf Tryz.prog 114 = 4 := by kernel_rfl
@[simp] theorem Tryz.st114 : isStr Tryz.prog 114 = false := by kernel_rfl
@[simp] theorem Tryz.ik114 : inK Tryz.prog 114 = some .u32 := by kernel_rfl
@[simp] theorem Tryz.el114 : slEl Tryz.prog 114 = none := by kernel_rfl
@[simp] theorem Tryz.zv114 : zeroV Tryz.prog 114 = .int .u32 0 := by kernel_rfl
@[simp] theorem Tryz.ok117 : okT Tryz.prog 117 = true := by kernel_rfl
@[simp] theorem Tryz.sz117 : szOf Tryz.prog 117 = 1 := by kernel_rfl
@[simp] theorem Tryz.ag117 : isAg Tryz.prog 117 = false := by kernel_rfl
@[simp] theorem Tryz.hz117 : hasZ Tryz.prog 117 = true := by kernel_rfl
@[simp] theorem Tryz.zc117 : zeroC Tryz.prog 117 = [.int .u64 0] := by kernel_rfl
@[simp] theorem Tryz.by117 : byOf Tryz.prog 117 = 8 := by kernel_rfl
@[simp] theorem Tryz.st117 : isStr Tryz.prog 117 = false := by kernel_rfl
@[simp] theorem Tryz.ik117 : inK Tryz.prog 117 = some .u64 := by kernel_rfl
@[simp] theorem Tryz.el117 : slEl Tryz.prog 117 = none := by kernel_rfl
@[simp] theorem Tryz.zv117 : zeroV Tryz.prog 117 = .int .u64 0 := by kernel_rfl
@[simp] theorem Tryz.ok122 : okT Tryz.prog 122 = true := by kernel_rfl
@[simp] theorem Tryz.sz122 : szOf Tryz.prog 122 = 14 := by kernel_rfl
@[simp] theorem Tryz.ag122 : isAg Tryz.prog 122 = true := by kernel_rfl
@[simp] theorem Tryz.hz122 : hasZ Tryz.prog 122 = true := by kernel_rfl
@[simp] theorem Tryz.zc122 : zeroC Tryz.prog 122 = [.string ⟨#[]⟩, .string ⟨#[]⟩, .string ⟨#[]⟩, .string ⟨#[]⟩, .string ⟨#[]⟩, .string ⟨#[]⟩, .string ⟨#[]⟩, .string ⟨#[]⟩, .string ⟨#[]⟩, .string ⟨#[]⟩, .string ⟨#[]⟩, .string ⟨#[]⟩, .string ⟨#[]⟩, .string ⟨#[]⟩] := by kernel_rfl
@[simp] theorem Tryz.by122 : byOf Tryz.prog 122 = 224 := by kernel_rfl
@[simp] theorem Tryz.st122 : isStr Tryz.prog 122 = false := by kernel_rfl
@[simp] theorem Tryz.el122 : slEl Tryz.prog 122 = none := by kernel_rfl
@[simp] theorem Tryz.ar122 : arEl Tryz.prog 122 = some (14, 9) := by kernel_rfl
@[simp] theorem Tryz.ok126 : okT Tryz.prog 126 = true := by kernel_rfl
@[simp] theorem Tryz.sz126 : szOf Tryz.prog 126 = 1 := by kernel_rfl
@[simp] theorem Tryz.ag126 : isAg Tryz.prog 126 = false := by kernel_rfl
@[simp] theorem Tryz.hz126 : hasZ Tryz.prog 126 = true := by kernel_rfl
@[simp] theorem Tryz.zc126 : zeroC Tryz.prog 126 = [.pointer none] := by kernel_rfl
@[simp] theorem Tryz.by126 : byOf Tryz.prog 126 = 8 := by kernel_rfl
@[simp] theorem Tryz.st126 : isStr Tryz.prog 126 = false := by kernel_rfl
@[simp] theorem Tryz.el126 : slEl Tryz.prog 126 = none := by kernel_rfl
@[simp] theorem Tryz.zv126 : zeroV Tryz.prog 126 = .pointer none := by kernel_rfl
@[simp] theorem Tryz.ok127 : okT Tryz.prog 127 = true := by kernel_rfl
@[simp] theorem Tryz.sz127 : szOf Tryz.prog 127 = 1 := by kernel_rfl
@[simp] theorem Tryz.ag127 : isAg Tryz.prog 127 = false := by kernel_rfl
@[simp] theorem Tryz.hz127 : hasZ Tryz.prog 127 = true := by kernel_rfl
@[simp] theorem Tryz.zc127 : zeroC Tryz.prog 127 = [.slice none 0 0] := by kernel_rfl
@[simp] theorem Tryz.by127 : byOf Tryz.prog 127 = 24 := by kernel_rfl
@[simp] theorem Tryz.st127 : isStr Tryz.prog 127 = false := by kernel_rfl
@[simp] theorem Tryz.el127 : slEl Tryz.prog 127 = some 5 := by kernel_rfl
@[simp] theorem Tryz.bs127 : byteSl Tryz.prog 127 = true := by kernel_rfl
@[simp] theorem Tryz.zv127 : zeroV Tryz.prog 127 = .slice none 0 0 := by kernel_rfl
@[simp] theorem Tryz.ok128 : okT Tryz.prog 128 = true := by kernel_rfl
@[simp] theorem Tryz.sz128 : szOf Tryz.prog 128 = 2 := by kernel_rfl
@[simp] theorem Tryz.ag128 : isAg Tryz.prog 128 = true := by kernel_rfl
@[simp] theorem Tryz.hz128 : hasZ Tryz.prog 128 = true := by kernel_rfl
@[simp] theorem Tryz.zc128 : zeroC Tryz.prog 128 = [.pointer none, .slice none 0 0] := by kernel_rfl
@[simp] theorem Tryz.by128 : byOf Tryz.prog 128 = 32 := by kernel_rfl
@[simp] theorem Tryz.st128 : isStr Tryz.prog 128 = false := by kernel_rfl
@[simp] theorem Tryz.el128 : slEl Tryz.prog 128 = none := by kernel_rfl
@[simp] theorem Tryz.zv128 : zeroV Tryz.prog 128 = .agg #[.pointer none, .slice none 0 0] := by kernel_rfl
@[simp] theorem Tryz.fk128 : flOk Tryz.prog 128 = true := by kernel_rfl
@[simp] theorem Tryz.fl128_0 : flOf Tryz.prog 128 0 = some (0, 126) := by kernel_rfl
@[simp] theorem Tryz.fl128_1 : flOf Tryz.prog 128 1 = some (1, 127) := by kernel_rfl
@[simp] theorem Tryz.ok129 : okT Tryz.prog 129 = true := by kernel_rfl
@[simp] theorem Tryz.sz129 : szOf Tryz.prog 129 = 2 := by kernel_rfl
@[simp] theorem Tryz.ag129 : isAg Tryz.prog 129 = true := by kernel_rfl
@[simp] theorem Tryz.hz129 : hasZ Tryz.prog 129 = true := by kernel_rfl
@[simp] theorem Tryz.zc129 : zeroC Tryz.prog 129 = [.pointer none, .slice none 0 0] := by kernel_rfl
@[simp] theorem Tryz.by129 : byOf Tryz.prog 129 = 32 := by kernel_rfl
@[simp] theorem Tryz.st129 : isStr Tryz.prog 129 = false := by kernel_rfl
@[simp] theorem Tryz.el129 : slEl Tryz.prog 129 = none := by kernel_rfl
@[simp] theorem Tryz.zv129 : zeroV Tryz.prog 129 = .agg #[.pointer none, .slice none 0 0] := by kernel_rfl
@[simp] theorem Tryz.fk129 : flOk Tryz.prog 129 = true := by kernel_rfl
@[simp] theorem Tryz.fl129_0 : flOf Tryz.prog 129 0 = some (0, 126) := by kernel_rfl
@[simp] theorem Tryz.fl129_1 : flOf Tryz.prog 129 1 = some (1, 127) := by kernel_rfl
@[simp] theorem Tryz.ok137 : okT Tryz.prog 137 = true := by kernel_rfl
@[simp] theorem Tryz.sz137 : szOf Tryz.prog 137 = 24 := by kernel_rfl
@[simp] theorem Tryz.ag137 : isAg Tryz.prog 137 = true := by kernel_rfl
@[simp] theorem Tryz.hz137 : hasZ Tryz.prog 137 = true := by kernel_rfl
@[simp] theorem Tryz.zc137 : zeroC Tryz.prog 137 = [.int .u8 0, .int .u8 0, .int .u8 0, .int .u8 0, .int .u8 0, .int .u8 0, .int .u8 0, .int .u8 0, .int .u8 0, .int .u8 0, .int .u8 0, .int .u8 0, .int .u8 0, .int .u8 0, .int .u8 0, .int .u8 0, .int .u8 0, .int .u8 0, .int .u8 0, .int .u8 0, .int .u8 0, .int .u8 0, .int .u8 0, .int .u8 0] := by kernel_rfl
@[simp] theorem Tryz.by137 : byOf Tryz.prog 137 = 24 := by kernel_rfl
@[simp] theorem Tryz.st137 : isStr Tryz.prog 137 = false := by kernel_rfl
@[simp] theorem Tryz.el137 : slEl Tryz.prog 137 = none := by kernel_rfl
@[simp] theorem Tryz.ar137 : arEl Tryz.prog 137 = some (24, 5) := by kernel_rfl
@[simp] theorem Tryz.ok142 : okT Tryz.prog 142 = true := by kernel_rfl
@[simp] theorem Tryz.sz142 : szOf Tryz.prog 142 = 1 := by kernel_rfl
@[simp] theorem Tryz.ag142 : isAg Tryz.prog 142 = false := by kernel_rfl
@[simp] theorem Tryz.hz142 : hasZ Tryz.prog 142 = true := by kernel_rfl
@[simp] theorem Tryz.zc142 : zeroC Tryz.prog 142 = [.pointer none] := by kernel_rfl
@[simp] theorem Tryz.by142 : byOf Tryz.prog 142 = 8 := by kernel_rfl
@[simp] theorem Tryz.st142 : isStr Tryz.prog 142 = false := by kernel_rfl
@[simp] theorem Tryz.el142 : slEl Tryz.prog 142 = none := by kernel_rfl
@[simp] theorem Tryz.zv142 : zeroV Tryz.prog 142 = .pointer none := by kernel_rfl
@[simp] theorem Tryz.ok145 : okT Tryz.prog 145 = true := by kernel_rfl
@[simp] theorem Tryz.sz145 : szOf Tryz.prog 145 = 20 := by kernel_rfl
@[simp] theorem Tryz.ag145 : isAg Tryz.prog 145 = true := by kernel_rfl
@[simp] theorem Tryz.hz145 : hasZ Tryz.prog 145 = true := by kernel_rfl
@[simp] theorem Tryz.zc145 : zeroC Tryz.prog 145 = [.int .u64 0, .int .u64 0, .int .u64 0, .int .u64 0, .int .u64 0, .int .u64 0, .int .u64 0, .int .u64 0, .int .u64 0, .int .u64 0, .int .u64 0, .int .u64 0, .int .u64 0, .int .u64 0, .int .u64 0, .int .u64 0, .int .u64 0, .int .u64 0, .int .u64 0, .int .u64 0] := by kernel_rfl
@[simp] theorem Tryz.by145 : byOf Tryz.prog 145 = 160 := by kernel_rfl
@[simp] theorem Tryz.st145 : isStr Tryz.prog 145 = false := by kernel_rfl
@[simp] theorem Tryz.el145 : slEl Tryz.prog 145 = none := by kernel_rfl
@[simp] theorem Tryz.ar145 : arEl Tryz.prog 145 = some (20, 117) := by kernel_rfl
@[simp] theorem Tryz.ok152 : okT Tryz.prog 152 = true := by kernel_rfl
@[simp] theorem Tryz.sz152 : szOf Tryz.prog 152 = 32 := by kernel_rfl
@[simp] theorem Tryz.ag152 : isAg Tryz.prog 152 = true := by kernel_rfl
@[simp] theorem Tryz.hz152 : hasZ Tryz.prog 152 = true := by kernel_rfl
@[simp] theorem Tryz.zc152 : zeroC Tryz.prog 152 = [.int .u8 0, .int .u8 0, .int .u8 0, .int .u8 0, .int .u8 0, .int .u8 0, .int .u8 0, .int .u8 0, .int .u8 0, .int .u8 0, .int .u8 0, .int .u8 0, .int .u8 0, .int .u8 0, .int .u8 0, .int .u8 0, .int .u8 0, .int .u8 0, .int .u8 0, .int .u8 0, .int .u8 0, .int .u8 0, .int .u8 0, .int .u8 0, .int .u8 0, .int .u8 0, .int .u8 0, .int .u8 0, .int .u8 0, .int .u8 0, .int .u8 0, .int .u8 0] := by kernel_rfl
@[simp] theorem Tryz.by152 : byOf Tryz.prog 152 = 32 := by kernel_rfl
@[simp] theorem Tryz.st152 : isStr Tryz.prog 152 = false := by kernel_rfl
@[simp] theorem Tryz.el152 : slEl Tryz.prog 152 = none := by kernel_rfl
@[simp] theorem Tryz.ar152 : arEl Tryz.prog 152 = some (32, 5) := by kernel_rfl
@[simp] theorem Tryz.ok153 : okT Tryz.prog 153 = true := by kernel_rfl
@[simp] theorem Tryz.sz153 : szOf Tryz.prog 153 = 64 := by kernel_rfl
@[simp] theorem Tryz.ag153 : isAg Tryz.prog 153 = true := by kernel_rfl
@[simp] theorem Tryz.hz153 : hasZ Tryz.prog 153 = true := by kernel_rfl
@[simp] theorem Tryz.by153 : byOf Tryz.prog 153 = 64 := by kernel_rfl
@[simp] theorem Tryz.st153 : isStr Tryz.prog 153 = false := by kernel_rfl
@[simp] theorem Tryz.el153 : slEl Tryz.prog 153 = none := by kernel_rfl
@[simp] theorem Tryz.ar153 : arEl Tryz.prog 153 = some (64, 5) := by kernel_rfl
theorem Tryz.mix : Tryz.prog.follows .mixedOrders = true := by kernel_rfl
end Go.Proofs
