/-
  What is proved here: facts on the types of the program. Condition: none.
-/
import Derived.Test.YtglbimhhiikkpaaDoorAbsD
import Derived.Test.YtglbimhhiikkpaaDoorProg
import Derived.KernelRfl
namespace Go.Proofs
open Go.Abs
@[simp] theorem Tryd.ok2 : okT Tryd.prog 2 = true := by kernel_rfl
@[simp] theorem Tryd.sz2 : szOf Tryd.prog 2 = 1 := by kernel_rfl
@[simp] theorem Tryd.ag2 : isAg Tryd.prog 2 = false := by kernel_rfl
@[simp] theorem Tryd.hz2 : hasZ Tryd.prog 2 = true := by kernel_rfl
@[simp] theorem Tryd.zc2 : zeroC Tryd.prog 2 = [.int .i64 0] := by kernel_rfl
@[simp] theorem Tryd.by2 : byOf Tryd.prog 2 = 8 := by kernel_rfl
@[simp] theorem Tryd.st2 : isStr Tryd.prog 2 = false := by kernel_rfl
@[simp] theorem Tryd.ik2 : inK Tryd.prog 2 = some .i64 := by kernel_rfl
@[simp] theorem Tryd.el2 : slEl Tryd.prog 2 = none := by kernel_rfl
@[simp] theorem Tryd.zv2 : zeroV Tryd.prog 2 = .int .i64 0 := by kernel_rfl
@[simp] theorem Tryd.ok3 : okT Tryd.prog 3 = true := by kernel_rfl
@[simp] theorem Tryd.sz3 : szOf Tryd.prog 3 = 1 := by kernel_rfl
@[simp] theorem Tryd.ag3 : isAg Tryd.prog 3 = false := by kernel_rfl
@[simp] theorem Tryd.hz3 : hasZ Tryd.prog 3 = true := by kernel_rfl
@[simp] theorem Tryd.zc3 : zeroC Tryd.prog 3 = [.int .i64 0] := by kernel_rfl
@[simp] theorem Tryd.by3 : byOf Tryd.prog 3 = 8 := by kernel_rfl
@[simp] theorem Tryd.st3 : isStr Tryd.prog 3 = false := by kernel_rfl
@[simp] theorem Tryd.ik3 : inK Tryd.prog 3 = some .i64 := by kernel_rfl
@[simp] theorem Tryd.el3 : slEl Tryd.prog 3 = none := by kernel_rfl
@[simp] theorem Tryd.zv3 : zeroV Tryd.prog 3 = .int .i64 0 := by kernel_rfl
@[simp] theorem Tryd.ok4 : okT Tryd.prog 4 = true := by kernel_rfl
@[simp] theorem Tryd.sz4 : szOf Tryd.prog 4 = 1 := by kernel_rfl
@[simp] theorem Tryd.ag4 : isAg Tryd.prog 4 = false := by kernel_rfl
@[simp] theorem Tryd.hz4 : hasZ Tryd.prog 4 = true := by kernel_rfl
@[simp] theorem Tryd.zc4 : zeroC Tryd.prog 4 = [.bool false] := by kernel_rfl
@[simp] theorem Tryd.by4 : byOf Tryd.prog 4 = 1 := by kernel_rfl
@[simp] theorem Tryd.st4 : isStr Tryd.prog 4 = false := by kernel_rfl
@[simp] theorem Tryd.un4 : Tryd.prog.underlying 4 = some .bool := by kernel_rfl
@[simp] theorem Tryd.el4 : slEl Tryd.prog 4 = none := by kernel_rfl
@[simp] theorem Tryd.zv4 : zeroV Tryd.prog 4 = .bool false := by kernel_rfl
@[simp] theorem Tryd.ok5 : okT Tryd.prog 5 = true := by kernel_rfl
@[simp] theorem Tryd.sz5 : szOf Tryd.prog 5 = 1 := by kernel_rfl
@[simp] theorem Tryd.ag5 : isAg Tryd.prog 5 = false := by kernel_rfl
@[simp] theorem Tryd.hz5 : hasZ Tryd.prog 5 = true := by kernel_rfl
@[simp] theorem Tryd.zc5 : zeroC Tryd.prog 5 = [.int .u8 0] := by kernel_rfl
@[simp] theorem Tryd.by5 : byOf Tryd.prog 5 = 1 := by kernel_rfl
@[simp] theorem Tryd.st5 : isStr Tryd.prog 5 = false := by kernel_rfl
@[simp] theorem Tryd.ik5 : inK Tryd.prog 5 = some .u8 := by kernel_rfl
@[simp] theorem Tryd.el5 : slEl Tryd.prog 5 = none := by kernel_rfl
@[simp] theorem Tryd.zv5 : zeroV Tryd.prog 5 = .int .u8 0 := by kernel_rfl
@[simp] theorem Tryd.ok9 : okT Tryd.prog 9 = true := by kernel_rfl
@[simp] theorem Tryd.sz9 : szOf Tryd.prog 9 = 1 := by kernel_rfl
@[simp] theorem Tryd.ag9 : isAg Tryd.prog 9 = false := by kernel_rfl
@[simp] theorem Tryd.hz9 : hasZ Tryd.prog 9 = true := by kernel_rfl
@[simp] theorem Tryd.zc9 : zeroC Tryd.prog 9 = [.string ⟨#[]⟩] := by kernel_rfl
@[simp] theorem Tryd.by9 : byOf Tryd.prog 9 = 16 := by kernel_rfl
@[simp] theorem Tryd.st9 : isStr Tryd.prog 9 = true := by kernel_rfl
@[simp] theorem Tryd.el9 : slEl Tryd.prog 9 = none := by kernel_rfl
@[simp] theorem Tryd.zv9 : zeroV Tryd.prog 9 = .string ⟨#[]⟩ := by kernel_rfl
@[simp] theorem Tryd.ok12 : okT Tryd.prog 12 = true := by kernel_rfl
@[simp] theorem Tryd.sz12 : szOf Tryd.prog 12 = 1 := by kernel_rfl
@[simp] theorem Tryd.ag12 : isAg Tryd.prog 12 = false := by kernel_rfl
@[simp] theorem Tryd.hz12 : hasZ Tryd.prog 12 = true := by kernel_rfl
@[simp] theorem Tryd.zc12 : zeroC Tryd.prog 12 = [.int .u64 0] := by kernel_rfl
@[simp] theorem Tryd.by12 : byOf Tryd.prog 12 = 8 := by kernel_rfl
@[simp] theorem Tryd.st12 : isStr Tryd.prog 12 = false := by kernel_rfl
@[simp] theorem Tryd.ik12 : inK Tryd.prog 12 = some .u64 := by kernel_rfl
@[simp] theorem Tryd.el12 : slEl Tryd.prog 12 = none := by kernel_rfl
@[simp] theorem Tryd.zv12 : zeroV Tryd.prog 12 = .int .u64 0 := by kernel_rfl
@[simp] theorem Tryd.ok21 : okT Tryd.prog 21 = true := by kernel_rfl
@[simp] theorem Tryd.sz21 : szOf Tryd.prog 21 = 1 := by kernel_rfl
@[simp] theorem Tryd.ag21 : isAg Tryd.prog 21 = false := by kernel_rfl
@[simp] theorem Tryd.hz21 : hasZ Tryd.prog 21 = true := by kernel_rfl
@[simp] theorem Tryd.zc21 : zeroC Tryd.prog 21 = [.int .i32 0] := by kernel_rfl
@[simp] theorem Tryd.by21 : byOf Tryd.prog 21 = 4 := by kernel_rfl
@[simp] theorem Tryd.st21 : isStr Tryd.prog 21 = false := by kernel_rfl
@[simp] theorem Tryd.ik21 : inK Tryd.prog 21 = some .i32 := by kernel_rfl
@[simp] theorem Tryd.el21 : slEl Tryd.prog 21 = none := by kernel_rfl
@[simp] theorem Tryd.zv21 : zeroV Tryd.prog 21 = .int .i32 0 := by kernel_rfl
@[simp] theorem Tryd.ok22 : okT Tryd.prog 22 = true := by kernel_rfl
@[simp] theorem Tryd.sz22 : szOf Tryd.prog 22 = 1 := by kernel_rfl
@[simp] theorem Tryd.ag22 : isAg Tryd.prog 22 = false := by kernel_rfl
@[simp] theorem Tryd.hz22 : hasZ Tryd.prog 22 = true := by kernel_rfl
@[simp] theorem Tryd.zc22 : zeroC Tryd.prog 22 = [.slice none 0 0] := by kernel_rfl
@[simp] theorem Tryd.by22 : byOf Tryd.prog 22 = 24 := by kernel_rfl
@[simp] theorem Tryd.st22 : isStr Tryd.prog 22 = false := by kernel_rfl
@[simp] theorem Tryd.el22 : slEl Tryd.prog 22 = some 56 := by kernel_rfl
@[simp] theorem Tryd.zv22 : zeroV Tryd.prog 22 = .slice none 0 0 := by kernel_rfl
@[simp] theorem Tryd.ok23 : okT Tryd.prog 23 = true := by kernel_rfl
@[simp] theorem Tryd.sz23 : szOf Tryd.prog 23 = 1 := by kernel_rfl
@[simp] theorem Tryd.ag23 : isAg Tryd.prog 23 = false := by kernel_rfl
@[simp] theorem Tryd.hz23 : hasZ Tryd.prog 23 = true := by kernel_rfl
@[simp] theorem Tryd.zc23 : zeroC Tryd.prog 23 = [.slice none 0 0] := by kernel_rfl
@[simp] theorem Tryd.by23 : byOf Tryd.prog 23 = 24 := by kernel_rfl
@[simp] theorem Tryd.st23 : isStr Tryd.prog 23 = false := by kernel_rfl
@[simp] theorem Tryd.el23 : slEl Tryd.prog 23 = some 58 := by kernel_rfl
@[simp] theorem Tryd.zv23 : zeroV Tryd.prog 23 = .slice none 0 0 := by kernel_rfl
@[simp] theorem Tryd.ok24 : okT Tryd.prog 24 = true := by kernel_rfl
@[simp] theorem Tryd.sz24 : szOf Tryd.prog 24 = 4 := by kernel_rfl
@[simp] theorem Tryd.ag24 : isAg Tryd.prog 24 = true := by kernel_rfl
@[simp] theorem Tryd.hz24 : hasZ Tryd.prog 24 = true := by kernel_rfl
@[simp] theorem Tryd.zc24 : zeroC Tryd.prog 24 = [.string ⟨#[]⟩, .slice none 0 0, .slice none 0 0, .int .i64 0] := by kernel_rfl
@[simp] theorem Tryd.by24 : byOf Tryd.prog 24 = 72 := by kernel_rfl
@[simp] theorem Tryd.st24 : isStr Tryd.prog 24 = false := by kernel_rfl
@[simp] theorem Tryd.el24 : slEl Tryd.prog 24 = none := by kernel_rfl
@[simp] theorem Tryd.zv24 : zeroV Tryd.prog 24 = .agg #[.string ⟨#[]⟩, .slice none 0 0, .slice none 0 0, .int .i64 0] := by kernel_rfl
@[simp] theorem Tryd.fk24 : flOk Tryd.prog 24 = true := by kernel_rfl
@[simp] theorem Tryd.fl24_0 : flOf Tryd.prog 24 0 = some (0, 9) := by kernel_rfl
@[simp] theorem Tryd.fl24_1 : flOf Tryd.prog 24 1 = some (1, 22) := by kernel_rfl
@[simp] theorem Tryd.fl24_2 : flOf Tryd.prog 24 2 = some (2, 23) := by kernel_rfl
@[simp] theorem Tryd.fl24_3 : flOf Tryd.prog 24 3 = some (3, 3) := by kernel_rfl
@[simp] theorem Tryd.ok25 : okT Tryd.prog 25 = true := by kernel_rfl
@[simp] theorem Tryd.sz25 : szOf Tryd.prog 25 = 4 := by kernel_rfl
@[simp] theorem Tryd.ag25 : isAg Tryd.prog 25 = true := by kernel_rfl
@[simp] theorem Tryd.hz25 : hasZ Tryd.prog 25 = true := by kernel_rfl
@[simp] theorem Tryd.zc25 : zeroC Tryd.prog 25 = [.string ⟨#[]⟩, .slice none 0 0, .slice none 0 0, .int .i64 0] := by kernel_rfl
@[simp] theorem Tryd.by25 : byOf Tryd.prog 25 = 72 := by kernel_rfl
@[simp] theorem Tryd.st25 : isStr Tryd.prog 25 = false := by kernel_rfl
@[simp] theorem Tryd.el25 : slEl Tryd.prog 25 = none := by kernel_rfl
@[simp] theorem Tryd.zv25 : zeroV Tryd.prog 25 = .agg #[.string ⟨#[]⟩, .slice none 0 0, .slice none 0 0, .int .i64 0] := by kernel_rfl
@[simp] theorem Tryd.fk25 : flOk Tryd.prog 25 = true := by kernel_rfl
@[simp] theorem Tryd.fl25_0 : flOf Tryd.prog 25 0 = some (0, 9) := by kernel_rfl
@[simp] theorem Tryd.fl25_1 : flOf Tryd.prog 25 1 = some (1, 22) := by kernel_rfl
@[simp] theorem Tryd.fl25_2 : flOf Tryd.prog 25 2 = some (2, 23) := by kernel_rfl
@[simp] theorem Tryd.fl25_3 : flOf Tryd.prog 25 3 = some (3, 3) := by kernel_rfl
@[simp] theorem Tryd.ok27 : okT Tryd.prog 27 = true := by kernel_rfl
@[simp] theorem Tryd.sz27 : szOf Tryd.prog 27 = 1 := by kernel_rfl
@[simp] theorem Tryd.ag27 : isAg Tryd.prog 27 = false := by kernel_rfl
@[simp] theorem Tryd.hz27 : hasZ Tryd.prog 27 = true := by kernel_rfl
@[simp] theorem Tryd.zc27 : zeroC Tryd.prog 27 = [.slice none 0 0] := by kernel_rfl
@[simp] theorem Tryd.by27 : byOf Tryd.prog 27 = 24 := by kernel_rfl
@[simp] theorem Tryd.st27 : isStr Tryd.prog 27 = false := by kernel_rfl
@[simp] theorem Tryd.el27 : slEl Tryd.prog 27 = some 3 := by kernel_rfl
@[simp] theorem Tryd.zv27 : zeroV Tryd.prog 27 = .slice none 0 0 := by kernel_rfl
@[simp] theorem Tryd.ok30 : okT Tryd.prog 30 = true := by kernel_rfl
@[simp] theorem Tryd.sz30 : szOf Tryd.prog 30 = 1 := by kernel_rfl
@[simp] theorem Tryd.ag30 : isAg Tryd.prog 30 = false := by kernel_rfl
@[simp] theorem Tryd.hz30 : hasZ Tryd.prog 30 = true := by kernel_rfl
@[simp] theorem Tryd.zc30 : zeroC Tryd.prog 30 = [.slice none 0 0] := by kernel_rfl
@[simp] theorem Tryd.by30 : byOf Tryd.prog 30 = 24 := by kernel_rfl
@[simp] theorem Tryd.st30 : isStr Tryd.prog 30 = false := by kernel_rfl
@[simp] theorem Tryd.el30 : slEl Tryd.prog 30 = some 64 := by kernel_rfl
@[simp] theorem Tryd.zv30 : zeroV Tryd.prog 30 = .slice none 0 0 := by kernel_rfl
@[simp] theorem Tryd.ok31 : okT Tryd.prog 31 = true := by kernel_rfl
@[simp] theorem Tryd.sz31 : szOf Tryd.prog 31 = 1 := by kernel_rfl
@[simp] theorem Tryd.ag31 : isAg Tryd.prog 31 = false := by kernel_rfl
@[simp] theorem Tryd.hz31 : hasZ Tryd.prog 31 = true := by kernel_rfl
@[simp] theorem Tryd.zc31 : zeroC Tryd.prog 31 = [.slice none 0 0] := by kernel_rfl
@[simp] theorem Tryd.by31 : byOf Tryd.prog 31 = 24 := by kernel_rfl
@[simp] theorem Tryd.st31 : isStr Tryd.prog 31 = false := by kernel_rfl
@[simp] theorem Tryd.el31 : slEl Tryd.prog 31 = some 65 := by kernel_rfl
@[simp] theorem Tryd.zv31 : zeroV Tryd.prog 31 = .slice none 0 0 := by kernel_rfl
@[simp] theorem Tryd.ok32 : okT Tryd.prog 32 = true := by kernel_rfl
@[simp] theorem Tryd.sz32 : szOf Tryd.prog 32 = 4 := by kernel_rfl
@[simp] theorem Tryd.ag32 : isAg Tryd.prog 32 = true := by kernel_rfl
@[simp] theorem Tryd.hz32 : hasZ Tryd.prog 32 = true := by kernel_rfl
@[simp] theorem Tryd.zc32 : zeroC Tryd.prog 32 = [.string ⟨#[]⟩, .slice none 0 0, .slice none 0 0, .int .i64 0] := by kernel_rfl
@[simp] theorem Tryd.by32 : byOf Tryd.prog 32 = 72 := by kernel_rfl
@[simp] theorem Tryd.st32 : isStr Tryd.prog 32 = false := by kernel_rfl
@[simp] theorem Tryd.el32 : slEl Tryd.prog 32 = none := by kernel_rfl
@[simp] theorem Tryd.zv32 : zeroV Tryd.prog 32 = .agg #[.string ⟨#[]⟩, .slice none 0 0, .slice none 0 0, .int .i64 0] := by kernel_rfl
@[simp] theorem Tryd.fk32 : flOk Tryd.prog 32 = true := by kernel_rfl
@[simp] theorem Tryd.fl32_0 : flOf Tryd.prog 32 0 = some (0, 9) := by kernel_rfl
@[simp] theorem Tryd.fl32_1 : flOf Tryd.prog 32 1 = some (1, 30) := by kernel_rfl
@[simp] theorem Tryd.fl32_2 : flOf Tryd.prog 32 2 = some (2, 31) := by kernel_rfl
@[simp] theorem Tryd.fl32_3 : flOf Tryd.prog 32 3 = some (3, 3) := by kernel_rfl
@[simp] theorem Tryd.ok33 : okT Tryd.prog 33 = true := by kernel_rfl
@[simp] theorem Tryd.sz33 : szOf Tryd.prog 33 = 4 := by kernel_rfl
@[simp] theorem Tryd.ag33 : isAg Tryd.prog 33 = true := by kernel_rfl
@[simp] theorem Tryd.hz33 : hasZ Tryd.prog 33 = true := by kernel_rfl
@[simp] theorem Tryd.zc33 : zeroC Tryd.prog 33 = [.string ⟨#[]⟩, .slice none 0 0, .slice none 0 0, .int .i64 0] := by kernel_rfl
@[simp] theorem Tryd.by33 : byOf Tryd.prog 33 = 72 := by kernel_rfl
@[simp] theorem Tryd.st33 : isStr Tryd.prog 33 = false := by kernel_rfl
@[simp] theorem Tryd.el33 : slEl Tryd.prog 33 = none := by kernel_rfl
@[simp] theorem Tryd.zv33 : zeroV Tryd.prog 33 = .agg #[.string ⟨#[]⟩, .slice none 0 0, .slice none 0 0, .int .i64 0] := by kernel_rfl
@[simp] theorem Tryd.fk33 : flOk Tryd.prog 33 = true := by kernel_rfl
@[simp] theorem Tryd.fl33_0 : flOf Tryd.prog 33 0 = some (0, 9) := by kernel_rfl
@[simp] theorem Tryd.fl33_1 : flOf Tryd.prog 33 1 = some (1, 30) := by kernel_rfl
@[simp] theorem Tryd.fl33_2 : flOf Tryd.prog 33 2 = some (2, 31) := by kernel_rfl
@[simp] theorem Tryd.fl33_3 : flOf Tryd.prog 33 3 = some (3, 3) := by kernel_rfl
@[simp] theorem Tryd.ok40 : okT Tryd.prog 40 = true := by kernel_rfl
@[simp] theorem Tryd.sz40 : szOf Tryd.prog 40 = 1 := by kernel_rfl
@[simp] theorem Tryd.ag40 : isAg Tryd.prog 40 = false := by kernel_rfl
@[simp] theorem Tryd.hz40 : hasZ Tryd.prog 40 = true := by kernel_rfl
@[simp] theorem Tryd.zc40 : zeroC Tryd.prog 40 = [.slice none 0 0] := by kernel_rfl
@[simp] theorem Tryd.by40 : byOf Tryd.prog 40 = 24 := by kernel_rfl
@[simp] theorem Tryd.st40 : isStr Tryd.prog 40 = false := by kernel_rfl
@[simp] theorem Tryd.el40 : slEl Tryd.prog 40 = some 89 := by kernel_rfl
@[simp] theorem Tryd.zv40 : zeroV Tryd.prog 40 = .slice none 0 0 := by kernel_rfl
@[simp] theorem Tryd.ok44 : okT Tryd.prog 44 = true := by kernel_rfl
@[simp] theorem Tryd.sz44 : szOf Tryd.prog 44 = 1 := by kernel_rfl
@[simp] theorem Tryd.ag44 : isAg Tryd.prog 44 = false := by kernel_rfl
@[simp] theorem Tryd.hz44 : hasZ Tryd.prog 44 = true := by kernel_rfl
@[simp] theorem Tryd.zc44 : zeroC Tryd.prog 44 = [.slice none 0 0] := by kernel_rfl
@[simp] theorem Tryd.by44 : byOf Tryd.prog 44 = 24 := by kernel_rfl
@[simp] theorem Tryd.st44 : isStr Tryd.prog 44 = false := by kernel_rfl
@[simp] theorem Tryd.el44 : slEl Tryd.prog 44 = some 87 := by kernel_rfl
@[simp] theorem Tryd.zv44 : zeroV Tryd.prog 44 = .slice none 0 0 := by kernel_rfl
@[simp] theorem Tryd.ok50 : okT Tryd.prog 50 = true := by kernel_rfl
@[simp] theorem Tryd.sz50 : szOf Tryd.prog 50 = 1 := by kernel_rfl
@[simp] theorem Tryd.ag50 : isAg Tryd.prog 50 = false := by kernel_rfl
@[simp] theorem Tryd.hz50 : hasZ Tryd.prog 50 = true := by kernel_rfl
@[simp] theorem Tryd.zc50 : zeroC Tryd.prog 50 = [.slice none 0 0] := by kernel_rfl
@[simp] theorem Tryd.by50 : byOf Tryd.prog 50 = 24 := by kernel_rfl
@[simp] theorem Tryd.st50 : isStr Tryd.prog 50 = false := by kernel_rfl
@[simp] theorem Tryd.el50 : slEl Tryd.prog 50 = some 67 := by kernel_rfl
@[simp] theorem Tryd.zv50 : zeroV Tryd.prog 50 = .slice none 0 0 := by kernel_rfl
@[simp] theorem Tryd.ok55 : okT Tryd.prog 55 = true := by kernel_rfl
@[simp] theorem Tryd.sz55 : szOf Tryd.prog 55 = 8 := by kernel_rfl
@[simp] theorem Tryd.ag55 : isAg Tryd.prog 55 = true := by kernel_rfl
@[simp] theorem Tryd.hz55 : hasZ Tryd.prog 55 = true := by kernel_rfl
@[simp] theorem Tryd.zc55 : zeroC Tryd.prog 55 = [.int .i64 0, .int .i64 0, .int .i64 0, .int .i64 0, .int .i64 0, .int .i64 0, .int .i64 0, .int .i64 0] := by kernel_rfl
@[simp] theorem Tryd.by55 : byOf Tryd.prog 55 = 64 := by kernel_rfl
@[simp] theorem Tryd.st55 : isStr Tryd.prog 55 = false := by kernel_rfl
@[simp] theorem Tryd.el55 : slEl Tryd.prog 55 = none := by kernel_rfl
@[simp] theorem Tryd.zv55 : zeroV Tryd.prog 55 = .agg #[.int .i64 0, .int .i64 0, .int .i64 0, .int .i64 0, .int .i64 0, .int .i64 0, .int .i64 0, .int .i64 0] := by kernel_rfl
@[simp] theorem Tryd.fk55 : flOk Tryd.prog 55 = true := by kernel_rfl
@[simp] theorem Tryd.fl55_0 : flOf Tryd.prog 55 0 = some (0, 3) := by kernel_rfl
@[simp] theorem Tryd.fl55_1 : flOf Tryd.prog 55 1 = some (1, 3) := by kernel_rfl
@[simp] theorem Tryd.fl55_2 : flOf Tryd.prog 55 2 = some (2, 3) := by kernel_rfl
@[simp] theorem Tryd.fl55_3 : flOf Tryd.prog 55 3 = some (3, 3) := by kernel_rfl
@[simp] theorem Tryd.fl55_4 : flOf Tryd.prog 55 4 = some (4, 3) := by kernel_rfl
@[simp] theorem Tryd.fl55_5 : flOf Tryd.prog 55 5 = some (5, 3) := by kernel_rfl
@[simp] theorem Tryd.fl55_6 : flOf Tryd.prog 55 6 = some (6, 3) := by kernel_rfl
@[simp] theorem Tryd.fl55_7 : flOf Tryd.prog 55 7 = some (7, 3) := by kernel_rfl
@[simp] theorem Tryd.eq55 : eqPlan Tryd.prog 55 = some [(0, 0), (0, 1), (0, 2), (0, 3), (0, 4), (0, 5), (0, 6), (0, 7)] := by kernel_rfl
@[simp] theorem Tryd.ok56 : okT Tryd.prog 56 = true := by kernel_rfl
@[simp] theorem Tryd.sz56 : szOf Tryd.prog 56 = 8 := by kernel_rfl
@[simp] theorem Tryd.ag56 : isAg Tryd.prog 56 = true := by kernel_rfl
@[simp] theorem Tryd.hz56 : hasZ Tryd.prog 56 = true := by kernel_rfl
@[simp] theorem Tryd.zc56 : zeroC Tryd.prog 56 = [.int .i64 0, .int .i64 0, .int .i64 0, .int .i64 0, .int .i64 0, .int .i64 0, .int .i64 0, .int .i64 0] := by kernel_rfl
@[simp] theorem Tryd.by56 : byOf Tryd.prog 56 = 64 := by kernel_rfl
@[simp] theorem Tryd.st56 : isStr Tryd.prog 56 = false := by kernel_rfl
@[simp] theorem Tryd.el56 : slEl Tryd.prog 56 = none := by kernel_rfl
@[simp] theorem Tryd.zv56 : zeroV Tryd.prog 56 = .agg #[.int .i64 0, .int .i64 0, .int .i64 0, .int .i64 0, .int .i64 0, .int .i64 0, .int .i64 0, .int .i64 0] := by kernel_rfl
@[simp] theorem Tryd.fk56 : flOk Tryd.prog 56 = true := by kernel_rfl
@[simp] theorem Tryd.fl56_0 : flOf Tryd.prog 56 0 = some (0, 3) := by kernel_rfl
@[simp] theorem Tryd.fl56_1 : flOf Tryd.prog 56 1 = some (1, 3) := by kernel_rfl
@[simp] theorem Tryd.fl56_2 : flOf Tryd.prog 56 2 = some (2, 3) := by kernel_rfl
@[simp] theorem Tryd.fl56_3 : flOf Tryd.prog 56 3 = some (3, 3) := by kernel_rfl
@[simp] theorem Tryd.fl56_4 : flOf Tryd.prog 56 4 = some (4, 3) := by kernel_rfl
@[simp] theorem Tryd.fl56_5 : flOf Tryd.prog 56 5 = some (5, 3) := by kernel_rfl
@[simp] theorem Tryd.fl56_6 : flOf Tryd.prog 56 6 = some (6, 3) := by kernel_rfl
@[simp] theorem Tryd.fl56_7 : flOf Tryd.prog 56 7 = some (7, 3) := by kernel_rfl
@[simp] theorem Tryd.eq56 : eqPlan Tryd.prog 56 = some [(0, 0), (0, 1), (0, 2), (0, 3), (0, 4), (0, 5), (0, 6), (0, 7)] := by kernel_rfl
@[simp] theorem Tryd.ok57 : okT Tryd.prog 57 = true := by kernel_rfl
@[simp] theorem Tryd.sz57 : szOf Tryd.prog 57 = 5 := by kernel_rfl
@[simp] theorem Tryd.ag57 : isAg Tryd.prog 57 = true := by kernel_rfl
@[simp] theorem Tryd.hz57 : hasZ Tryd.prog 57 = true := by kernel_rfl
@[simp] theorem Tryd.zc57 : zeroC Tryd.prog 57 = [.int .i64 0, .int .i64 0, .int .i64 0, .int .i64 0, .int .i64 0] := by kernel_rfl
@[simp] theorem Tryd.by57 : byOf Tryd.prog 57 = 40 := by kernel_rfl
@[simp] theorem Tryd.st57 : isStr Tryd.prog 57 = false := by kernel_rfl
@[simp] theorem Tryd.el57 : slEl Tryd.prog 57 = none := by kernel_rfl
@[simp] theorem Tryd.zv57 : zeroV Tryd.prog 57 = .agg #[.int .i64 0, .int .i64 0, .int .i64 0, .int .i64 0, .int .i64 0] := by kernel_rfl
@[simp] theorem Tryd.fk57 : flOk Tryd.prog 57 = true := by kernel_rfl
@[simp] theorem Tryd.fl57_0 : flOf Tryd.prog 57 0 = some (0, 3) := by kernel_rfl
@[simp] theorem Tryd.fl57_1 : flOf Tryd.prog 57 1 = some (1, 3) := by kernel_rfl
@[simp] theorem Tryd.fl57_2 : flOf Tryd.prog 57 2 = some (2, 3) := by kernel_rfl
@[simp] theorem Tryd.fl57_3 : flOf Tryd.prog 57 3 = some (3, 3) := by kernel_rfl
@[simp] theorem Tryd.fl57_4 : flOf Tryd.prog 57 4 = some (4, 3) := by kernel_rfl
@[simp] theorem Tryd.eq57 : eqPlan Tryd.prog 57 = some [(0, 0), (0, 1), (0, 2), (0, 3), (0, 4)] := by kernel_rfl
@[simp] theorem Tryd.ok58 : okT Tryd.prog 58 = true := by kernel_rfl
@[simp] theorem Tryd.sz58 : szOf Tryd.prog 58 = 5 := by kernel_rfl
@[simp] theorem Tryd.ag58 : isAg Tryd.prog 58 = true := by kernel_rfl
@[simp] theorem Tryd.hz58 : hasZ Tryd.prog 58 = true := by kernel_rfl
@[simp] theorem Tryd.zc58 : zeroC Tryd.prog 58 = [.int .i64 0, .int .i64 0, .int .i64 0, .int .i64 0, .int .i64 0] := by kernel_rfl
@[simp] theorem Tryd.by58 : byOf Tryd.prog 58 = 40 := by kernel_rfl
@[simp] theorem Tryd.st58 : isStr Tryd.prog 58 = false := by kernel_rfl
@[simp] theorem Tryd.el58 : slEl Tryd.prog 58 = none := by kernel_rfl
@[simp] theorem Tryd.zv58 : zeroV Tryd.prog 58 = .agg #[.int .i64 0, .int .i64 0, .int .i64 0, .int .i64 0, .int .i64 0] := by kernel_rfl
@[simp] theorem Tryd.fk58 : flOk Tryd.prog 58 = true := by kernel_rfl
@[simp] theorem Tryd.fl58_0 : flOf Tryd.prog 58 0 = some (0, 3) := by kernel_rfl
@[simp] theorem Tryd.fl58_1 : flOf Tryd.prog 58 1 = some (1, 3) := by kernel_rfl
@[simp] theorem Tryd.fl58_2 : flOf Tryd.prog 58 2 = some (2, 3) := by kernel_rfl
@[simp] theorem Tryd.fl58_3 : flOf Tryd.prog 58 3 = some (3, 3) := by kernel_rfl
@[simp] theorem Tryd.fl58_4 : flOf Tryd.prog 58 4 = some (4, 3) := by kernel_rfl
@[simp] theorem Tryd.eq58 : eqPlan Tryd.prog 58 = some [(0, 0), (0, 1), (0, 2), (0, 3), (0, 4)] := by kernel_rfl
@[simp] theorem Tryd.ok59 : okT Tryd.prog 59 = true := by kernel_rfl
@[simp] theorem Tryd.sz59 : szOf Tryd.prog 59 = 16 := by kernel_rfl
@[simp] theorem Tryd.ag59 : isAg Tryd.prog 59 = true := by kernel_rfl
@[simp] theorem Tryd.hz59 : hasZ Tryd.prog 59 = true := by kernel_rfl
@[simp] theorem Tryd.zc59 : zeroC Tryd.prog 59 = [.int .i64 0, .string ⟨#[]⟩, .int .i64 0, .int .i64 0, .int .i64 0, .int .i64 0, .int .i64 0, .int .i64 0, .int .i64 0, .int .i64 0, .int .i64 0, .int .i64 0, .int .i64 0, .int .i64 0, .int .i64 0, .int .i64 0] := by kernel_rfl
@[simp] theorem Tryd.by59 : byOf Tryd.prog 59 = 136 := by kernel_rfl
@[simp] theorem Tryd.st59 : isStr Tryd.prog 59 = false := by kernel_rfl
@[simp] theorem Tryd.el59 : slEl Tryd.prog 59 = none := by kernel_rfl
@[simp] theorem Tryd.zv59 : zeroV Tryd.prog 59 = .agg #[.int .i64 0, .string ⟨#[]⟩, .int .i64 0, .int .i64 0, .int .i64 0, .int .i64 0, .int .i64 0, .int .i64 0, .int .i64 0, .int .i64 0, .int .i64 0, .int .i64 0, .int .i64 0, .int .i64 0, .int .i64 0, .int .i64 0] := by kernel_rfl
@[simp] theorem Tryd.fk59 : flOk Tryd.prog 59 = true := by kernel_rfl
@[simp] theorem Tryd.fl59_0 : flOf Tryd.prog 59 0 = some (0, 3) := by kernel_rfl
@[simp] theorem Tryd.fl59_1 : flOf Tryd.prog 59 1 = some (1, 9) := by kernel_rfl
@[simp] theorem Tryd.fl59_2 : flOf Tryd.prog 59 2 = some (2, 3) := by kernel_rfl
@[simp] theorem Tryd.fl59_3 : flOf Tryd.prog 59 3 = some (3, 56) := by kernel_rfl
@[simp] theorem Tryd.fl59_4 : flOf Tryd.prog 59 4 = some (11, 58) := by kernel_rfl
@[simp] theorem Tryd.eq59 : eqPlan Tryd.prog 59 = some [(0, 0), (1, 1), (0, 2), (0, 3), (0, 4), (0, 5), (0, 6), (0, 7), (0, 8), (0, 9), (0, 10), (0, 11), (0, 12), (0, 13), (0, 14), (0, 15)] := by kernel_rfl
@[simp] theorem Tryd.ok60 : okT Tryd.prog 60 = true := by kernel_rfl
@[simp] theorem Tryd.sz60 : szOf Tryd.prog 60 = 16 := by kernel_rfl
@[simp] theorem Tryd.ag60 : isAg Tryd.prog 60 = true := by kernel_rfl
@[simp] theorem Tryd.hz60 : hasZ Tryd.prog 60 = true := by kernel_rfl
@[simp] theorem Tryd.zc60 : zeroC Tryd.prog 60 = [.int .i64 0, .string ⟨#[]⟩, .int .i64 0, .int .i64 0, .int .i64 0, .int .i64 0, .int .i64 0, .int .i64 0, .int .i64 0, .int .i64 0, .int .i64 0, .int .i64 0, .int .i64 0, .int .i64 0, .int .i64 0, .int .i64 0] := by kernel_rfl
@[simp] theorem Tryd.by60 : byOf Tryd.prog 60 = 136 := by kernel_rfl
@[simp] theorem Tryd.st60 : isStr Tryd.prog 60 = false := by kernel_rfl
@[simp] theorem Tryd.el60 : slEl Tryd.prog 60 = none := by kernel_rfl
@[simp] theorem Tryd.zv60 : zeroV Tryd.prog 60 = .agg #[.int .i64 0, .string ⟨#[]⟩, .int .i64 0, .int .i64 0, .int .i64 0, .int .i64 0, .int .i64 0, .int .i64 0, .int .i64 0, .int .i64 0, .int .i64 0, .int .i64 0, .int .i64 0, .int .i64 0, .int .i64 0, .int .i64 0] := by kernel_rfl
@[simp] theorem Tryd.fk60 : flOk Tryd.prog 60 = true := by kernel_rfl
@[simp] theorem Tryd.fl60_0 : flOf Tryd.prog 60 0 = some (0, 3) := by kernel_rfl
@[simp] theorem Tryd.fl60_1 : flOf Tryd.prog 60 1 = some (1, 9) := by kernel_rfl
@[simp] theorem Tryd.fl60_2 : flOf Tryd.prog 60 2 = some (2, 3) := by kernel_rfl
@[simp] theorem Tryd.fl60_3 : flOf Tryd.prog 60 3 = some (3, 56) := by kernel_rfl
@[simp] theorem Tryd.fl60_4 : flOf Tryd.prog 60 4 = some (11, 58) := by kernel_rfl
@[simp] theorem Tryd.eq60 : eqPlan Tryd.prog 60 = some [(0, 0), (1, 1), (0, 2), (0, 3), (0, 4), (0, 5), (0, 6), (0, 7), (0, 8), (0, 9), (0, 10), (0, 11), (0, 12), (0, 13), (0, 14), (0, 15)] := by kernel_rfl
@[simp] theorem Tryd.ok64 : okT Tryd.prog 64 = true := by kernel_rfl
@[simp] theorem Tryd.sz64 : szOf Tryd.prog 64 = 8 := by kernel_rfl
@[simp] theorem Tryd.ag64 : isAg Tryd.prog 64 = true := by kernel_rfl
@[simp] theorem Tryd.hz64 : hasZ Tryd.prog 64 = true := by kernel_rfl
@[simp] theorem Tryd.zc64 : zeroC Tryd.prog 64 = [.int .i64 0, .int .i64 0, .int .i64 0, .int .i64 0, .int .i64 0, .int .i64 0, .int .i64 0, .int .i64 0] := by kernel_rfl
@[simp] theorem Tryd.by64 : byOf Tryd.prog 64 = 64 := by kernel_rfl
@[simp] theorem Tryd.st64 : isStr Tryd.prog 64 = false := by kernel_rfl
@[simp] theorem Tryd.el64 : slEl Tryd.prog 64 = none := by kernel_rfl
@[simp] theorem Tryd.zv64 : zeroV Tryd.prog 64 = .agg #[.int .i64 0, .int .i64 0, .int .i64 0, .int .i64 0, .int .i64 0, .int .i64 0, .int .i64 0, .int .i64 0] := by kernel_rfl
@[simp] theorem Tryd.fk64 : flOk Tryd.prog 64 = true := by kernel_rfl
@[simp] theorem Tryd.fl64_0 : flOf Tryd.prog 64 0 = some (0, 3) := by kernel_rfl
@[simp] theorem Tryd.fl64_1 : flOf Tryd.prog 64 1 = some (1, 3) := by kernel_rfl
@[simp] theorem Tryd.fl64_2 : flOf Tryd.prog 64 2 = some (2, 3) := by kernel_rfl
@[simp] theorem Tryd.fl64_3 : flOf Tryd.prog 64 3 = some (3, 3) := by kernel_rfl
@[simp] theorem Tryd.fl64_4 : flOf Tryd.prog 64 4 = some (4, 3) := by kernel_rfl
@[simp] theorem Tryd.fl64_5 : flOf Tryd.prog 64 5 = some (5, 3) := by kernel_rfl
@[simp] theorem Tryd.fl64_6 : flOf Tryd.prog 64 6 = some (6, 3) := by kernel_rfl
@[simp] theorem Tryd.fl64_7 : flOf Tryd.prog 64 7 = some (7, 3) := by kernel_rfl
@[simp] theorem Tryd.eq64 : eqPlan Tryd.prog 64 = some [(0, 0), (0, 1), (0, 2), (0, 3), (0, 4), (0, 5), (0, 6), (0, 7)] := by kernel_rfl
@[simp] theorem Tryd.ok65 : okT Tryd.prog 65 = true := by kernel_rfl
@[simp] theorem Tryd.sz65 : szOf Tryd.prog 65 = 5 := by kernel_rfl
@[simp] theorem Tryd.ag65 : isAg Tryd.prog 65 = true := by kernel_rfl
@[simp] theorem Tryd.hz65 : hasZ Tryd.prog 65 = true := by kernel_rfl
@[simp] theorem Tryd.zc65 : zeroC Tryd.prog 65 = [.int .i64 0, .int .i64 0, .int .i64 0, .int .i64 0, .int .i64 0] := by kernel_rfl
@[simp] theorem Tryd.by65 : byOf Tryd.prog 65 = 40 := by kernel_rfl
@[simp] theorem Tryd.st65 : isStr Tryd.prog 65 = false := by kernel_rfl
@[simp] theorem Tryd.el65 : slEl Tryd.prog 65 = none := by kernel_rfl
@[simp] theorem Tryd.zv65 : zeroV Tryd.prog 65 = .agg #[.int .i64 0, .int .i64 0, .int .i64 0, .int .i64 0, .int .i64 0] := by kernel_rfl
@[simp] theorem Tryd.fk65 : flOk Tryd.prog 65 = true := by kernel_rfl
@[simp] theorem Tryd.fl65_0 : flOf Tryd.prog 65 0 = some (0, 3) := by kernel_rfl
@[simp] theorem Tryd.fl65_1 : flOf Tryd.prog 65 1 = some (1, 3) := by kernel_rfl
@[simp] theorem Tryd.fl65_2 : flOf Tryd.prog 65 2 = some (2, 3) := by kernel_rfl
@[simp] theorem Tryd.fl65_3 : flOf Tryd.prog 65 3 = some (3, 3) := by kernel_rfl
@[simp] theorem Tryd.fl65_4 : flOf Tryd.prog 65 4 = some (4, 3) := by kernel_rfl
@[simp] theorem Tryd.eq65 : eqPlan Tryd.prog 65 = some [(0, 0), (0, 1), (0, 2), (0, 3), (0, 4)] := by kernel_rfl
@[simp] theorem Tryd.ok66 : okT Tryd.prog 66 = true := by kernel_rfl
@[simp] theorem Tryd.sz66 : szOf Tryd.prog 66 = 16 := by kernel_rfl
@[simp] theorem Tryd.ag66 : isAg Tryd.prog 66 = true := by kernel_rfl
@[simp] theorem Tryd.hz66 : hasZ Tryd.prog 66 = true := by kernel_rfl
@[simp] theorem Tryd.zc66 : zeroC Tryd.prog 66 = [.int .i64 0, .string ⟨#[]⟩, .int .i64 0, .int .i64 0, .int .i64 0, .int .i64 0, .int .i64 0, .int .i64 0, .int .i64 0, .int .i64 0, .int .i64 0, .int .i64 0, .int .i64 0, .int .i64 0, .int .i64 0, .int .i64 0] := by kernel_rfl
@[simp] theorem Tryd.by66 : byOf Tryd.prog 66 = 136 := by kernel_rfl
@[simp] theorem Tryd.st66 : isStr Tryd.prog 66 = false := by kernel_rfl
@[simp] theorem Tryd.el66 : slEl Tryd.prog 66 = none := by kernel_rfl
@[simp] theorem Tryd.zv66 : zeroV Tryd.prog 66 = .agg #[.int .i64 0, .string ⟨#[]⟩, .int .i64 0, .int .i64 0, .int .i64 0, .int .i64 0, .int .i64 0, .int .i64 0, .int .i64 0, .int .i64 0, .int .i64 0, .int .i64 0, .int .i64 0, .int .i64 0, .int .i64 0, .int .i64 0] := by kernel_rfl
@[simp] theorem Tryd.fk66 : flOk Tryd.prog 66 = true := by kernel_rfl
@[simp] theorem Tryd.fl66_0 : flOf Tryd.prog 66 0 = some (0, 3) := by kernel_rfl
@[simp] theorem Tryd.fl66_1 : flOf Tryd.prog 66 1 = some (1, 9) := by kernel_rfl
@[simp] theorem Tryd.fl66_2 : flOf Tryd.prog 66 2 = some (2, 3) := by kernel_rfl
@[simp] theorem Tryd.fl66_3 : flOf Tryd.prog 66 3 = some (3, 64) := by kernel_rfl
@[simp] theorem Tryd.fl66_4 : flOf Tryd.prog 66 4 = some (11, 65) := by kernel_rfl
@[simp] theorem Tryd.eq66 : eqPlan Tryd.prog 66 = some [(0, 0), (1, 1), (0, 2), (0, 3), (0, 4), (0, 5), (0, 6), (0, 7), (0, 8), (0, 9), (0, 10), (0, 11), (0, 12), (0, 13), (0, 14), (0, 15)] := by kernel_rfl
@[simp] theorem Tryd.ok67 : okT Tryd.prog 67 = true := by kernel_rfl
@[simp] theorem Tryd.sz67 : szOf Tryd.prog 67 = 16 := by kernel_rfl
@[simp] theorem Tryd.ag67 : isAg Tryd.prog 67 = true := by kernel_rfl
@[simp] theorem Tryd.hz67 : hasZ Tryd.prog 67 = true := by kernel_rfl
@[simp] theorem Tryd.zc67 : zeroC Tryd.prog 67 = [.int .i64 0, .string ⟨#[]⟩, .int .i64 0, .int .i64 0, .int .i64 0, .int .i64 0, .int .i64 0, .int .i64 0, .int .i64 0, .int .i64 0, .int .i64 0, .int .i64 0, .int .i64 0, .int .i64 0, .int .i64 0, .int .i64 0] := by kernel_rfl
@[simp] theorem Tryd.by67 : byOf Tryd.prog 67 = 136 := by kernel_rfl
@[simp] theorem Tryd.st67 : isStr Tryd.prog 67 = false := by kernel_rfl
@[simp] theorem Tryd.el67 : slEl Tryd.prog 67 = none := by kernel_rfl
@[simp] theorem Tryd.zv67 : zeroV Tryd.prog 67 = .agg #[.int .i64 0, .string ⟨#[]⟩, .int .i64 0, .int .i64 0, .int .i64 0, .int .i64 0, .int .i64 0, .int .i64 0, .int .i64 0, .int .i64 0, .int .i64 0, .int .i64 0, .int .i64 0, .int .i64 0, .int .i64 0, .int .i64 0] := by kernel_rfl
@[simp] theorem Tryd.fk67 : flOk Tryd.prog 67 = true := by kernel_rfl
@[simp] theorem Tryd.fl67_0 : flOf Tryd.prog 67 0 = some (0, 3) := by kernel_rfl
@[simp] theorem Tryd.fl67_1 : flOf Tryd.prog 67 1 = some (1, 9) := by kernel_rfl
@[simp] theorem Tryd.fl67_2 : flOf Tryd.prog 67 2 = some (2, 3) := by kernel_rfl
@[simp] theorem Tryd.fl67_3 : flOf Tryd.prog 67 3 = some (3, 64) := by kernel_rfl
@[simp] theorem Tryd.fl67_4 : flOf Tryd.prog 67 4 = some (11, 65) := by kernel_rfl
@[simp] theorem Tryd.eq67 : eqPlan Tryd.prog 67 = some [(0, 0), (1, 1), (0, 2), (0, 3), (0, 4), (0, 5), (0, 6), (0, 7), (0, 8), (0, 9), (0, 10), (0, 11), (0, 12), (0, 13), (0, 14), (0, 15)] := by kernel_rfl
@[simp] theorem Tryd.ok86 : okT Tryd.prog 86 = true := by kernel_rfl
@[simp] theorem Tryd.sz86 : szOf Tryd.prog 86 = 5 := by kernel_rfl
@[simp] theorem Tryd.ag86 : isAg Tryd.prog 86 = true := by kernel_rfl
@[simp] theorem Tryd.hz86 : hasZ Tryd.prog 86 = true := by kernel_rfl
@[simp] theorem Tryd.zc86 : zeroC Tryd.prog 86 = [.int .i64 0, .int .i64 0, .int .i64 0, .int .i64 0, .int .i64 0] := by kernel_rfl
@[simp] theorem Tryd.by86 : byOf Tryd.prog 86 = 40 := by kernel_rfl
@[simp] theorem Tryd.st86 : isStr Tryd.prog 86 = false := by kernel_rfl
@[simp] theorem Tryd.el86 : slEl Tryd.prog 86 = none := by kernel_rfl
@[simp] theorem Tryd.zv86 : zeroV Tryd.prog 86 = .agg #[.int .i64 0, .int .i64 0, .int .i64 0, .int .i64 0, .int .i64 0] := by kernel_rfl
@[simp] theorem Tryd.fk86 : flOk Tryd.prog 86 = true := by kernel_rfl
@[simp] theorem Tryd.fl86_0 : flOf Tryd.prog 86 0 = some (0, 3) := by kernel_rfl
@[simp] theorem Tryd.fl86_1 : flOf Tryd.prog 86 1 = some (1, 3) := by kernel_rfl
@[simp] theorem Tryd.fl86_2 : flOf Tryd.prog 86 2 = some (2, 3) := by kernel_rfl
@[simp] theorem Tryd.fl86_3 : flOf Tryd.prog 86 3 = some (3, 3) := by kernel_rfl
@[simp] theorem Tryd.fl86_4 : flOf Tryd.prog 86 4 = some (4, 3) := by kernel_rfl
@[simp] theorem Tryd.eq86 : eqPlan Tryd.prog 86 = some [(0, 0), (0, 1), (0, 2), (0, 3), (0, 4)] := by kernel_rfl
@[simp] theorem Tryd.ok87 : okT Tryd.prog 87 = true := by kernel_rfl
@[simp] theorem Tryd.sz87 : szOf Tryd.prog 87 = 5 := by kernel_rfl
@[simp] theorem Tryd.ag87 : isAg Tryd.prog 87 = true := by kernel_rfl
@[simp] theorem Tryd.hz87 : hasZ Tryd.prog 87 = true := by kernel_rfl
@[simp] theorem Tryd.zc87 : zeroC Tryd.prog 87 = [.int .i64 0, .int .i64 0, .int .i64 0, .int .i64 0, .int .i64 0] := by kernel_rfl
@[simp] theorem Tryd.by87 : byOf Tryd.prog 87 = 40 := by kernel_rfl
@[simp] theorem Tryd.st87 : isStr Tryd.prog 87 = false := by kernel_rfl
@[simp] theorem Tryd.el87 : slEl Tryd.prog 87 = none := by kernel_rfl
@[simp] theorem Tryd.zv87 : zeroV Tryd.prog 87 = .agg #[.int .i64 0, .int .i64 0, .int .i64 0, .int .i64 0, .int .i64 0] := by kernel_rfl
@[simp] theorem Tryd.fk87 : flOk Tryd.prog 87 = true := by kernel_rfl
@[simp] theorem Tryd.fl87_0 : flOf Tryd.prog 87 0 = some (0, 3) := by kernel_rfl
@[simp] theorem Tryd.fl87_1 : flOf Tryd.prog 87 1 = some (1, 3) := by kernel_rfl
@[simp] theorem Tryd.fl87_2 : flOf Tryd.prog 87 2 = some (2, 3) := by kernel_rfl
@[simp] theorem Tryd.fl87_3 : flOf Tryd.prog 87 3 = some (3, 3) := by kernel_rfl
@[simp] theorem Tryd.fl87_4 : flOf Tryd.prog 87 4 = some (4, 3) := by kernel_rfl
@[simp] theorem Tryd.eq87 : eqPlan Tryd.prog 87 = some [(0, 0), (0, 1), (0, 2), (0, 3), (0, 4)] := by kernel_rfl
@[simp] theorem Tryd.ok89 : okT Tryd.prog 89 = true := by kernel_rfl
@[simp] theorem Tryd.sz89 : szOf Tryd.prog 89 = 5 := by kernel_rfl
@[simp] theorem Tryd.ag89 : isAg Tryd.prog 89 = true := by kernel_rfl
@[simp] theorem Tryd.hz89 : hasZ Tryd.prog 89 = true := by kernel_rfl
@[simp] theorem Tryd.zc89 : zeroC Tryd.prog 89 = [.int .i64 0, .int .i64 0, .int .i64 0, .int .i64 0, .int .i64 0] := by kernel_rfl
@[simp] theorem Tryd.by89 : byOf Tryd.prog 89 = 40 := by kernel_rfl
@[simp] theorem Tryd.st89 : isStr Tryd.prog 89 = false := by kernel_rfl
@[simp] theorem Tryd.el89 : slEl Tryd.prog 89 = none := by kernel_rfl
@[simp] theorem Tryd.zv89 : zeroV Tryd.prog 89 = .agg #[.int .i64 0, .int .i64 0, .int .i64 0, .int .i64 0, .int .i64 0] := by kernel_rfl
@[simp] theorem Tryd.fk89 : flOk Tryd.prog 89 = true := by kernel_rfl
@[simp] theorem Tryd.fl89_0 : flOf Tryd.prog 89 0 = some (0, 3) := by kernel_rfl
@[simp] theorem Tryd.fl89_1 : flOf Tryd.prog 89 1 = some (1, 3) := by kernel_rfl
@[simp] theorem Tryd.fl89_2 : flOf Tryd.prog 89 2 = some (2, 3) := by kernel_rfl
@[simp] theorem Tryd.fl89_3 : flOf Tryd.prog 89 3 = some (3, 3) := by kernel_rfl
@[simp] theorem Tryd.fl89_4 : flOf Tryd.prog 89 4 = some (4, 3) := by kernel_rfl
@[simp] theorem Tryd.eq89 : eqPlan Tryd.prog 89 = some [(0, 0), (0, 1), (0, 2), (0, 3), (0, 4)] := by kernel_rfl
@[simp] theorem Tryd.ok113 : okT Tryd.prog 113 = true := by kernel_rfl
@[simp] theorem Tryd.sz113 : szOf Tryd.prog 113 = 1 := by kernel_rfl
@[simp] theorem Tryd.ag113 : isAg Tryd.prog 113 = false := by kernel_rfl
@[simp] theorem Tryd.hz113 : hasZ Tryd.prog 113 = true := by kernel_rfl
@[simp] theorem Tryd.zc113 : zeroC Tryd.prog 113 = [.slice none 0 0] := by kernel_rfl
@[simp] theorem Tryd.by113 : byOf Tryd.prog 113 = 24 := by kernel_rfl
@[simp] theorem Tryd.st113 : isStr Tryd.prog 113 = false := by kernel_rfl
@[simp] theorem Tryd.el113 : slEl Tryd.prog 113 = some 5 := by kernel_rfl
@[simp] theorem Tryd.bs113 : byteSl Tryd.prog 113 = true := by kernel_rfl
@[simp] theorem Tryd.zv113 : zeroV Tryd.prog 113 = .slice none 0 0 := by kernel_rfl
@[simp] theorem Tryd.ok123 : okT Tryd.prog 123 = true := by kernel_rfl
@[simp] theorem Tryd.sz123 : szOf Tryd.prog 123 = 1 := by kernel_rfl
@[simp] theorem Tryd.ag123 : isAg Tryd.prog 123 = false := by kernel_rfl
@[simp] theorem Tryd.hz123 : hasZ Tryd.prog 123 = true := by kernel_rfl
@[simp] theorem Tryd.zc123 : zeroC Tryd.prog 123 = [.pointer none] := by kernel_rfl
@[simp] theorem Tryd.by123 : byOf Tryd.prog 123 = 8 := by kernel_rfl
@[simp] theorem Tryd.st123 : isStr Tryd.prog 123 = false := by kernel_rfl
@[simp] theorem Tryd.el123 : slEl Tryd.prog 123 = none := by kernel_rfl
@[simp] theorem Tryd.zv123 : zeroV Tryd.prog 123 = .pointer none := by kernel_rfl
@[simp] theorem Tryd.ok129 : okT Tryd.prog 129 = true := by kernel_rfl
@[simp] theorem Tryd.sz129 : szOf Tryd.prog 129 = 1 := by kernel_rfl
@[simp] theorem Tryd.ag129 : isAg Tryd.prog 129 = false := by kernel_rfl
@[simp] theorem Tryd.hz129 : hasZ Tryd.prog 129 = true := by kernel_rfl
@[simp] theorem Tryd.zc129 : zeroC Tryd.prog 129 = [.map none] := by kernel_rfl
@[simp] theorem Tryd.by129 : byOf Tryd.prog 129 = 8 := by kernel_rfl
@[simp] theorem Tryd.st129 : isStr Tryd.prog 129 = false := by kernel_rfl
@[simp] theorem Tryd.el129 : slEl Tryd.prog 129 = none := by kernel_rfl
@[simp] theorem Tryd.mk129 : mapKV Tryd.prog 129 = some (3, 87) := by kernel_rfl
@[simp] theorem Tryd.zv129 : zeroV Tryd.prog 129 = .map none := by kernel_rfl
@[simp] theorem Tryd.ok130 : okT Tryd.prog 130 = true := by kernel_rfl
@[simp] theorem Tryd.sz130 : szOf Tryd.prog 130 = 1 := by kernel_rfl
@[simp] theorem Tryd.ag130 : isAg Tryd.prog 130 = false := by kernel_rfl
@[simp] theorem Tryd.hz130 : hasZ Tryd.prog 130 = true := by kernel_rfl
@[simp] theorem Tryd.zc130 : zeroC Tryd.prog 130 = [.map none] := by kernel_rfl
@[simp] theorem Tryd.by130 : byOf Tryd.prog 130 = 8 := by kernel_rfl
@[simp] theorem Tryd.st130 : isStr Tryd.prog 130 = false := by kernel_rfl
@[simp] theorem Tryd.el130 : slEl Tryd.prog 130 = none := by kernel_rfl
@[simp] theorem Tryd.mk130 : mapKV Tryd.prog 130 = some (3, 4) := by kernel_rfl
@[simp] theorem Tryd.zv130 : zeroV Tryd.prog 130 = .map none := by kernel_rfl
@[simp] theorem Tryd.ok144 : okT Tryd.prog 144 = true := by kernel_rfl
@[simp] theorem Tryd.sz144 : szOf Tryd.prog 144 = 1 := by kernel_rfl
@[simp] theorem Tryd.ag144 : isAg Tryd.prog 144 = false := by kernel_rfl
@[simp] theorem Tryd.hz144 : hasZ Tryd.prog 144 = true := by kernel_rfl
@[simp] theorem Tryd.zc144 : zeroC Tryd.prog 144 = [.slice none 0 0] := by kernel_rfl
@[simp] theorem Tryd.by144 : byOf Tryd.prog 144 = 24 := by kernel_rfl
@[simp] theorem Tryd.st144 : isStr Tryd.prog 144 = false := by kernel_rfl
@[simp] theorem Tryd.el144 : slEl Tryd.prog 144 = some 9 := by kernel_rfl
@[simp] theorem Tryd.zv144 : zeroV Tryd.prog 144 = .slice none 0 0 := by kernel_rfl
@[simp] theorem Tryd.ok147 : okT Tryd.prog 147 = true := by kernel_rfl
@[simp] theorem Tryd.sz147 : szOf Tryd.prog 147 = 14 := by kernel_rfl
@[simp] theorem Tryd.ag147 : isAg Tryd.prog 147 = true := by kernel_rfl
@[simp] theorem Tryd.hz147 : hasZ Tryd.prog 147 = true := by kernel_rfl
@[simp] theorem Tryd.zc147 : zeroC Tryd.prog 147 = [.string ⟨#[]⟩, .string ⟨#[]⟩, .string ⟨#[]⟩, .string ⟨#[]⟩, .string ⟨#[]⟩, .string ⟨#[]⟩, .string ⟨#[]⟩, .string ⟨#[]⟩, .string ⟨#[]⟩, .string ⟨#[]⟩, .string ⟨#[]⟩, .string ⟨#[]⟩, .string ⟨#[]⟩, .string ⟨#[]⟩] := by kernel_rfl
@[simp] theorem Tryd.by147 : byOf Tryd.prog 147 = 224 := by kernel_rfl
@[simp] theorem Tryd.st147 : isStr Tryd.prog 147 = false := by kernel_rfl
@[simp] theorem Tryd.el147 : slEl Tryd.prog 147 = none := by kernel_rfl
@[simp] theorem Tryd.ar147 : arEl Tryd.prog 147 = some (14, 9) := by kernel_rfl
@[simp] theorem Tryd.ok154 : okT Tryd.prog 154 = true := by kernel_rfl
@[simp] theorem Tryd.sz154 : szOf Tryd.prog 154 = 1 := by kernel_rfl
@[simp] theorem Tryd.ag154 : isAg Tryd.prog 154 = false := by kernel_rfl
@[simp] theorem Tryd.hz154 : hasZ Tryd.prog 154 = true := by kernel_rfl
@[simp] theorem Tryd.zc154 : zeroC Tryd.prog 154 = [.int .u64 0] := by kernel_rfl
@[simp] theorem Tryd.by154 : byOf Tryd.prog 154 = 8 := by kernel_rfl
@[simp] theorem Tryd.st154 : isStr Tryd.prog 154 = false := by kernel_rfl
@[simp] theorem Tryd.ik154 : inK Tryd.prog 154 = some .u64 := by kernel_rfl
@[simp] theorem Tryd.el154 : slEl Tryd.prog 154 = none := by kernel_rfl
@[simp] theorem Tryd.zv154 : zeroV Tryd.prog 154 = .int .u64 0 := by kernel_rfl
@[simp] theorem Tryd.ok162 : okT Tryd.prog 162 = true := by kernel_rfl
@[simp] theorem Tryd.sz162 : szOf Tryd.prog 162 = 1 := by kernel_rfl
@[simp] theorem Tryd.ag162 : isAg Tryd.prog 162 = false := by kernel_rfl
@[simp] theorem Tryd.hz162 : hasZ Tryd.prog 162 = true := by kernel_rfl
@[simp] theorem Tryd.zc162 : zeroC Tryd.prog 162 = [.int .u32 0] := by kernel_rfl
@[simp] theorem Tryd.by162 : byOf Tryd.prog 162 = 4 := by kernel_rfl
@[simp] theorem Tryd.st162 : isStr Tryd.prog 162 = false := by kernel_rfl
@[simp] theorem Tryd.ik162 : inK Tryd.prog 162 = some .u32 := by kernel_rfl
@[simp] theorem Tryd.el162 : slEl Tryd.prog 162 = none := by kernel_rfl
@[simp] theorem Tryd.zv162 : zeroV Tryd.prog 162 = .int .u32 0 := by kernel_rfl
@[simp] theorem Tryd.ok166 : okT Tryd.prog 166 = true := by kernel_rfl
@[simp] theorem Tryd.sz166 : szOf Tryd.prog 166 = 1 := by kernel_rfl
@[simp] theorem Tryd.ag166 : isAg Tryd.prog 166 = false := by kernel_rfl
@[simp] theorem Tryd.hz166 : hasZ Tryd.prog 166 = true := by kernel_rfl
@[simp] theorem Tryd.zc166 : zeroC Tryd.prog 166 = [.pointer none] := by kernel_rfl
@[simp] theorem Tryd.by166 : byOf Tryd.prog 166 = 8 := by kernel_rfl
@[simp] theorem Tryd.st166 : isStr Tryd.prog 166 = false := by kernel_rfl
@[simp] theorem Tryd.el166 : slEl Tryd.prog 166 = none := by kernel_rfl
@[simp] theorem Tryd.zv166 : zeroV Tryd.prog 166 = .pointer none := by kernel_rfl
theorem Tryd.mix : Tryd.prog.follows .mixedOrders = true := by kernel_rfl
end Go.Proofs
