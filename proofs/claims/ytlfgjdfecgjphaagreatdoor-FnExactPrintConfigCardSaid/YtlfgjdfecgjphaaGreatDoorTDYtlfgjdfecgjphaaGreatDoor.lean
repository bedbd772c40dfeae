/-
  What is proved here: facts on the types of the program. Condition: none.
-/
import Derived.Test.YtlfgjdfecgjphaaGreatDoorAbsD
import Derived.Test.YtlfgjdfecgjphaaGreatDoorProg
import Derived.KernelRfl
namespace Go.Proofs
open Go.Abs
@[simp] theorem Tryz.ok2 : okT Tryz.prog 2 = true := by kernel_rfl
@[simp] theorem Tryz.sz2 : szOf Tryz.prog 2 = 1 := by kernel_rfl
@[simp] theorem Tryz.ag2 : isAg Tryz.prog 2 = false := by kernel_rfl
@[simp] theorem Tryz.hz2 : hasZ Tryz.prog 2 = true := by kernel_rfl
@[simp] theorem Tryz.zc2 : zeroC Tryz.prog 2 = [.int .i64 0] := by kernel_rfl
@[simp] theorem Tryz.by2 : byOf Tryz.prog 2 = 8 := by kernel_rfl
@[simp] theorem Tryz.st2 : isStr Tryz.prog 2 = false := by kernel_rfl
@[simp] theorem Tryz.ik2 : inK Tryz.prog 2 = some .i64 := by kernel_rfl
@[simp] theorem Tryz.el2 : slEl Tryz.prog 2 = none := by kernel_rfl
@[simp] theorem Tryz.zv2 : zeroV Tryz.prog 2 = .int .i64 0 := by kernel_rfl
@[simp] theorem Tryz.ok3 : okT Tryz.prog 3 = true := by kernel_rfl
@[simp] theorem Tryz.sz3 : szOf Tryz.prog 3 = 1 := by kernel_rfl
@[simp] theorem Tryz.ag3 : isAg Tryz.prog 3 = false := by kernel_rfl
@[simp] theorem Tryz.hz3 : hasZ Tryz.prog 3 = true := by kernel_rfl
@[simp] theorem Tryz.zc3 : zeroC Tryz.prog 3 = [.int .i64 0] := by kernel_rfl
@[simp] theorem Tryz.by3 : byOf Tryz.prog 3 = 8 := by kernel_rfl
@[simp] theorem Tryz.st3 : isStr Tryz.prog 3 = false := by kernel_rfl
@[simp] theorem Tryz.ik3 : inK Tryz.prog 3 = some .i64 := by kernel_rfl
@[simp] theorem Tryz.el3 : slEl Tryz.prog 3 = none := by kernel_rfl
@[simp] theorem Tryz.zv3 : zeroV Tryz.prog 3 = .int .i64 0 := by kernel_rfl
@[simp] theorem Tryz.ok4 : okT Tryz.prog 4 = true := by kernel_rfl
@[simp] theorem Tryz.sz4 : szOf Tryz.prog 4 = 1 := by kernel_rfl
@[simp] theorem Tryz.ag4 : isAg Tryz.prog 4 = false := by kernel_rfl
@[simp] theorem Tryz.hz4 : hasZ Tryz.prog 4 = true := by kernel_rfl
@[simp] theorem Tryz.zc4 : zeroC Tryz.prog 4 = [.bool false] := by kernel_rfl
@[simp] theorem Tryz.by4 : byOf Tryz.prog 4 = 1 := by kernel_rfl
@[simp] theorem Tryz.st4 : isStr Tryz.prog 4 = false := by kernel_rfl
@[simp] theorem Tryz.un4 : Tryz.prog.underlying 4 = some .bool := by kernel_rfl
@[simp] theorem Tryz.el4 : slEl Tryz.prog 4 = none := by kernel_rfl
@[simp] theorem Tryz.zv4 : zeroV Tryz.prog 4 = .bool false := by kernel_rfl
@[simp] theorem Tryz.ok5 : okT Tryz.prog 5 = true := by kernel_rfl
@[simp] theorem Tryz.sz5 : szOf Tryz.prog 5 = 1 := by kernel_rfl
@[simp] theorem Tryz.ag5 : isAg Tryz.prog 5 = false := by kernel_rfl
@[simp] theorem Tryz.hz5 : hasZ Tryz.prog 5 = true := by kernel_rfl
@[simp] theorem Tryz.zc5 : zeroC Tryz.prog 5 = [.int .u8 0] := by kernel_rfl
@[simp] theorem Tryz.by5 : byOf Tryz.prog 5 = 1 := by kernel_rfl
@[simp] theorem Tryz.st5 : isStr Tryz.prog 5 = false := by kernel_rfl
@[simp] theorem Tryz.ik5 : inK Tryz.prog 5 = some .u8 := by kernel_rfl
@[simp] theorem Tryz.el5 : slEl Tryz.prog 5 = none := by kernel_rfl
@[simp] theorem Tryz.zv5 : zeroV Tryz.prog 5 = .int .u8 0 := by kernel_rfl
@[simp] theorem Tryz.ok9 : okT Tryz.prog 9 = true := by kernel_rfl
@[simp] theorem Tryz.sz9 : szOf Tryz.prog 9 = 1 := by kernel_rfl
@[simp] theorem Tryz.ag9 : isAg Tryz.prog 9 = false := by kernel_rfl
@[simp] theorem Tryz.hz9 : hasZ Tryz.prog 9 = true := by kernel_rfl
@[simp] theorem Tryz.zc9 : zeroC Tryz.prog 9 = [.string ⟨#[]⟩] := by kernel_rfl
@[simp] theorem Tryz.by9 : byOf Tryz.prog 9 = 16 := by kernel_rfl
@[simp] theorem Tryz.st9 : isStr Tryz.prog 9 = true := by kernel_rfl
@[simp] theorem Tryz.el9 : slEl Tryz.prog 9 = none := by kernel_rfl
@[simp] theorem Tryz.zv9 : zeroV Tryz.prog 9 = .string ⟨#[]⟩ := by kernel_rfl
@[simp] theorem Tryz.ok12 : okT Tryz.prog 12 = true := by kernel_rfl
@[simp] theorem Tryz.sz12 : szOf Tryz.prog 12 = 1 := by kernel_rfl
@[simp] theorem Tryz.ag12 : isAg Tryz.prog 12 = false := by kernel_rfl
@[simp] theorem Tryz.hz12 : hasZ Tryz.prog 12 = true := by kernel_rfl
@[simp] theorem Tryz.zc12 : zeroC Tryz.prog 12 = [.int .u64 0] := by kernel_rfl
@[simp] theorem Tryz.by12 : byOf Tryz.prog 12 = 8 := by kernel_rfl
@[simp] theorem Tryz.st12 : isStr Tryz.prog 12 = false := by kernel_rfl
@[simp] theorem Tryz.ik12 : inK Tryz.prog 12 = some .u64 := by kernel_rfl
@[simp] theorem Tryz.el12 : slEl Tryz.prog 12 = none := by kernel_rfl
@[simp] theorem Tryz.zv12 : zeroV Tryz.prog 12 = .int .u64 0 := by kernel_rfl
@[simp] theorem Tryz.ok21 : okT Tryz.prog 21 = true := by kernel_rfl
@[simp] theorem Tryz.sz21 : szOf Tryz.prog 21 = 1 := by kernel_rfl
@[simp] theorem Tryz.ag21 : isAg Tryz.prog 21 = false := by kernel_rfl
@[simp] theorem Tryz.hz21 : hasZ Tryz.prog 21 = true := by kernel_rfl
@[simp] theorem Tryz.zc21 : zeroC Tryz.prog 21 = [.int .i32 0] := by kernel_rfl
@[simp] theorem Tryz.by21 : byOf Tryz.prog 21 = 4 := by kernel_rfl
@[simp] theorem Tryz.st21 : isStr Tryz.prog 21 = false := by kernel_rfl
@[simp] theorem Tryz.ik21 : inK Tryz.prog 21 = some .i32 := by kernel_rfl
@[simp] theorem Tryz.el21 : slEl Tryz.prog 21 = none := by kernel_rfl
@[simp] theorem Tryz.zv21 : zeroV Tryz.prog 21 = .int .i32 0 := by kernel_rfl
@[simp] theorem Tryz.ok22 : okT Tryz.prog 22 = true := by kernel_rfl
@[simp] theorem Tryz.sz22 : szOf Tryz.prog 22 = 1 := by kernel_rfl
@[simp] theorem Tryz.ag22 : isAg Tryz.prog 22 = false := by kernel_rfl
@[simp] theorem Tryz.hz22 : hasZ Tryz.prog 22 = true := by kernel_rfl
@[simp] theorem Tryz.zc22 : zeroC Tryz.prog 22 = [.slice none 0 0] := by kernel_rfl
@[simp] theorem Tryz.by22 : byOf Tryz.prog 22 = 24 := by kernel_rfl
@[simp] theorem Tryz.st22 : isStr Tryz.prog 22 = false := by kernel_rfl
@[simp] theorem Tryz.el22 : slEl Tryz.prog 22 = some 79 := by kernel_rfl
@[simp] theorem Tryz.zv22 : zeroV Tryz.prog 22 = .slice none 0 0 := by kernel_rfl
@[simp] theorem Tryz.ok23 : okT Tryz.prog 23 = true := by kernel_rfl
@[simp] theorem Tryz.sz23 : szOf Tryz.prog 23 = 1 := by kernel_rfl
@[simp] theorem Tryz.ag23 : isAg Tryz.prog 23 = false := by kernel_rfl
@[simp] theorem Tryz.hz23 : hasZ Tryz.prog 23 = true := by kernel_rfl
@[simp] theorem Tryz.zc23 : zeroC Tryz.prog 23 = [.slice none 0 0] := by kernel_rfl
@[simp] theorem Tryz.by23 : byOf Tryz.prog 23 = 24 := by kernel_rfl
@[simp] theorem Tryz.st23 : isStr Tryz.prog 23 = false := by kernel_rfl
@[simp] theorem Tryz.el23 : slEl Tryz.prog 23 = some 83 := by kernel_rfl
@[simp] theorem Tryz.zv23 : zeroV Tryz.prog 23 = .slice none 0 0 := by kernel_rfl
@[simp] theorem Tryz.ok24 : okT Tryz.prog 24 = true := by kernel_rfl
@[simp] theorem Tryz.sz24 : szOf Tryz.prog 24 = 4 := by kernel_rfl
@[simp] theorem Tryz.ag24 : isAg Tryz.prog 24 = true := by kernel_rfl
@[simp] theorem Tryz.hz24 : hasZ Tryz.prog 24 = true := by kernel_rfl
@[simp] theorem Tryz.zc24 : zeroC Tryz.prog 24 = [.string ⟨#[]⟩, .slice none 0 0, .slice none 0 0, .int .i64 0] := by kernel_rfl
@[simp] theorem Tryz.by24 : byOf Tryz.prog 24 = 72 := by kernel_rfl
@[simp] theorem Tryz.st24 : isStr Tryz.prog 24 = false := by kernel_rfl
@[simp] theorem Tryz.el24 : slEl Tryz.prog 24 = none := by kernel_rfl
@[simp] theorem Tryz.zv24 : zeroV Tryz.prog 24 = .agg #[.string ⟨#[]⟩, .slice none 0 0, .slice none 0 0, .int .i64 0] := by kernel_rfl
@[simp] theorem Tryz.fk24 : flOk Tryz.prog 24 = true := by kernel_rfl
@[simp] theorem Tryz.fl24_0 : flOf Tryz.prog 24 0 = some (0, 9) := by kernel_rfl
@[simp] theorem Tryz.fl24_1 : flOf Tryz.prog 24 1 = some (1, 22) := by kernel_rfl
@[simp] theorem Tryz.fl24_2 : flOf Tryz.prog 24 2 = some (2, 23) := by kernel_rfl
@[simp] theorem Tryz.fl24_3 : flOf Tryz.prog 24 3 = some (3, 3) := by kernel_rfl
@[simp] theorem Tryz.ok25 : okT Tryz.prog 25 = true := by kernel_rfl
@[simp] theorem Tryz.sz25 : szOf Tryz.prog 25 = 4 := by kernel_rfl
@[simp] theorem Tryz.ag25 : isAg Tryz.prog 25 = true := by kernel_rfl
@[simp] theorem Tryz.hz25 : hasZ Tryz.prog 25 = true := by kernel_rfl
@[simp] theorem Tryz.zc25 : zeroC Tryz.prog 25 = [.string ⟨#[]⟩, .slice none 0 0, .slice none 0 0, .int .i64 0] := by kernel_rfl
@[simp] theorem Tryz.by25 : byOf Tryz.prog 25 = 72 := by kernel_rfl
@[simp] theorem Tryz.st25 : isStr Tryz.prog 25 = false := by kernel_rfl
@[simp] theorem Tryz.el25 : slEl Tryz.prog 25 = none := by kernel_rfl
@[simp] theorem Tryz.zv25 : zeroV Tryz.prog 25 = .agg #[.string ⟨#[]⟩, .slice none 0 0, .slice none 0 0, .int .i64 0] := by kernel_rfl
@[simp] theorem Tryz.fk25 : flOk Tryz.prog 25 = true := by kernel_rfl
@[simp] theorem Tryz.fl25_0 : flOf Tryz.prog 25 0 = some (0, 9) := by kernel_rfl
@[simp] theorem Tryz.fl25_1 : flOf Tryz.prog 25 1 = some (1, 22) := by kernel_rfl
@[simp] theorem Tryz.fl25_2 : flOf Tryz.prog 25 2 = some (2, 23) := by kernel_rfl
@[simp] theorem Tryz.fl25_3 : flOf Tryz.prog 25 3 = some (3, 3) := by kernel_rfl
@[simp] theorem Tryz.ok29 : okT Tryz.prog 29 = true := by kernel_rfl
@[simp] theorem Tryz.sz29 : szOf Tryz.prog 29 = 1 := by kernel_rfl
@[simp] theorem Tryz.ag29 : isAg Tryz.prog 29 = false := by kernel_rfl
@[simp] theorem Tryz.hz29 : hasZ Tryz.prog 29 = true := by kernel_rfl
@[simp] theorem Tryz.zc29 : zeroC Tryz.prog 29 = [.slice none 0 0] := by kernel_rfl
@[simp] theorem Tryz.by29 : byOf Tryz.prog 29 = 24 := by kernel_rfl
@[simp] theorem Tryz.st29 : isStr Tryz.prog 29 = false := by kernel_rfl
@[simp] theorem Tryz.el29 : slEl Tryz.prog 29 = some 70 := by kernel_rfl
@[simp] theorem Tryz.zv29 : zeroV Tryz.prog 29 = .slice none 0 0 := by kernel_rfl
@[simp] theorem Tryz.ok30 : okT Tryz.prog 30 = true := by kernel_rfl
@[simp] theorem Tryz.sz30 : szOf Tryz.prog 30 = 1 := by kernel_rfl
@[simp] theorem Tryz.ag30 : isAg Tryz.prog 30 = false := by kernel_rfl
@[simp] theorem Tryz.hz30 : hasZ Tryz.prog 30 = true := by kernel_rfl
@[simp] theorem Tryz.zc30 : zeroC Tryz.prog 30 = [.slice none 0 0] := by kernel_rfl
@[simp] theorem Tryz.by30 : byOf Tryz.prog 30 = 24 := by kernel_rfl
@[simp] theorem Tryz.st30 : isStr Tryz.prog 30 = false := by kernel_rfl
@[simp] theorem Tryz.el30 : slEl Tryz.prog 30 = some 81 := by kernel_rfl
@[simp] theorem Tryz.zv30 : zeroV Tryz.prog 30 = .slice none 0 0 := by kernel_rfl
@[simp] theorem Tryz.ok31 : okT Tryz.prog 31 = true := by kernel_rfl
@[simp] theorem Tryz.sz31 : szOf Tryz.prog 31 = 4 := by kernel_rfl
@[simp] theorem Tryz.ag31 : isAg Tryz.prog 31 = true := by kernel_rfl
@[simp] theorem Tryz.hz31 : hasZ Tryz.prog 31 = true := by kernel_rfl
@[simp] theorem Tryz.zc31 : zeroC Tryz.prog 31 = [.string ⟨#[]⟩, .slice none 0 0, .slice none 0 0, .int .i64 0] := by kernel_rfl
@[simp] theorem Tryz.by31 : byOf Tryz.prog 31 = 72 := by kernel_rfl
@[simp] theorem Tryz.st31 : isStr Tryz.prog 31 = false := by kernel_rfl
@[simp] theorem Tryz.el31 : slEl Tryz.prog 31 = none := by kernel_rfl
@[simp] theorem Tryz.zv31 : zeroV Tryz.prog 31 = .agg #[.string ⟨#[]⟩, .slice none 0 0, .slice none 0 0, .int .i64 0] := by kernel_rfl
@[simp] theorem Tryz.fk31 : flOk Tryz.prog 31 = true := by kernel_rfl
@[simp] theorem Tryz.fl31_0 : flOf Tryz.prog 31 0 = some (0, 9) := by kernel_rfl
@[simp] theorem Tryz.fl31_1 : flOf Tryz.prog 31 1 = some (1, 29) := by kernel_rfl
@[simp] theorem Tryz.fl31_2 : flOf Tryz.prog 31 2 = some (2, 30) := by kernel_rfl
@[simp] theorem Tryz.fl31_3 : flOf Tryz.prog 31 3 = some (3, 3) := by kernel_rfl
@[simp] theorem Tryz.ok32 : okT Tryz.prog 32 = true := by kernel_rfl
@[simp] theorem Tryz.sz32 : szOf Tryz.prog 32 = 4 := by kernel_rfl
@[simp] theorem Tryz.ag32 : isAg Tryz.prog 32 = true := by kernel_rfl
@[simp] theorem Tryz.hz32 : hasZ Tryz.prog 32 = true := by kernel_rfl
@[simp] theorem Tryz.zc32 : zeroC Tryz.prog 32 = [.string ⟨#[]⟩, .slice none 0 0, .slice none 0 0, .int .i64 0] := by kernel_rfl
@[simp] theorem Tryz.by32 : byOf Tryz.prog 32 = 72 := by kernel_rfl
@[simp] theorem Tryz.st32 : isStr Tryz.prog 32 = false := by kernel_rfl
@[simp] theorem Tryz.el32 : slEl Tryz.prog 32 = none := by kernel_rfl
@[simp] theorem Tryz.zv32 : zeroV Tryz.prog 32 = .agg #[.string ⟨#[]⟩, .slice none 0 0, .slice none 0 0, .int .i64 0] := by kernel_rfl
@[simp] theorem Tryz.fk32 : flOk Tryz.prog 32 = true := by kernel_rfl
@[simp] theorem Tryz.fl32_0 : flOf Tryz.prog 32 0 = some (0, 9) := by kernel_rfl
@[simp] theorem Tryz.fl32_1 : flOf Tryz.prog 32 1 = some (1, 29) := by kernel_rfl
@[simp] theorem Tryz.fl32_2 : flOf Tryz.prog 32 2 = some (2, 30) := by kernel_rfl
@[simp] theorem Tryz.fl32_3 : flOf Tryz.prog 32 3 = some (3, 3) := by kernel_rfl
@[simp] theorem Tryz.ok41 : okT Tryz.prog 41 = true := by kernel_rfl
@[simp] theorem Tryz.sz41 : szOf Tryz.prog 41 = 1 := by kernel_rfl
@[simp] theorem Tryz.ag41 : isAg Tryz.prog 41 = false := by kernel_rfl
@[simp] theorem Tryz.hz41 : hasZ Tryz.prog 41 = true := by kernel_rfl
@[simp] theorem Tryz.zc41 : zeroC Tryz.prog 41 = [.slice none 0 0] := by kernel_rfl
@[simp] theorem Tryz.by41 : byOf Tryz.prog 41 = 24 := by kernel_rfl
@[simp] theorem Tryz.st41 : isStr Tryz.prog 41 = false := by kernel_rfl
@[simp] theorem Tryz.el41 : slEl Tryz.prog 41 = some 3 := by kernel_rfl
@[simp] theorem Tryz.zv41 : zeroV Tryz.prog 41 = .slice none 0 0 := by kernel_rfl
@[simp] theorem Tryz.ok47 : okT Tryz.prog 47 = true := by kernel_rfl
@[simp] theorem Tryz.sz47 : szOf Tryz.prog 47 = 9 := by kernel_rfl
@[simp] theorem Tryz.ag47 : isAg Tryz.prog 47 = true := by kernel_rfl
@[simp] theorem Tryz.hz47 : hasZ Tryz.prog 47 = true := by kernel_rfl
@[simp] theorem Tryz.zc47 : zeroC Tryz.prog 47 = [.string ⟨#[]⟩, .slice none 0 0, .slice none 0 0, .slice none 0 0, .slice none 0 0, .slice none 0 0, .slice none 0 0, .slice none 0 0, .int .i64 0] := by kernel_rfl
@[simp] theorem Tryz.by47 : byOf Tryz.prog 47 = 192 := by kernel_rfl
@[simp] theorem Tryz.st47 : isStr Tryz.prog 47 = false := by kernel_rfl
@[simp] theorem Tryz.el47 : slEl Tryz.prog 47 = none := by kernel_rfl
@[simp] theorem Tryz.zv47 : zeroV Tryz.prog 47 = .agg #[.string ⟨#[]⟩, .slice none 0 0, .slice none 0 0, .slice none 0 0, .slice none 0 0, .slice none 0 0, .slice none 0 0, .slice none 0 0, .int .i64 0] := by kernel_rfl
@[simp] theorem Tryz.fk47 : flOk Tryz.prog 47 = true := by kernel_rfl
@[simp] theorem Tryz.fl47_0 : flOf Tryz.prog 47 0 = some (0, 9) := by kernel_rfl
@[simp] theorem Tryz.fl47_1 : flOf Tryz.prog 47 1 = some (1, 29) := by kernel_rfl
@[simp] theorem Tryz.fl47_2 : flOf Tryz.prog 47 2 = some (2, 41) := by kernel_rfl
@[simp] theorem Tryz.fl47_3 : flOf Tryz.prog 47 3 = some (3, 41) := by kernel_rfl
@[simp] theorem Tryz.fl47_4 : flOf Tryz.prog 47 4 = some (4, 41) := by kernel_rfl
@[simp] theorem Tryz.fl47_5 : flOf Tryz.prog 47 5 = some (5, 41) := by kernel_rfl
@[simp] theorem Tryz.fl47_6 : flOf Tryz.prog 47 6 = some (6, 30) := by kernel_rfl
@[simp] theorem Tryz.fl47_7 : flOf Tryz.prog 47 7 = some (7, 41) := by kernel_rfl
@[simp] theorem Tryz.fl47_8 : flOf Tryz.prog 47 8 = some (8, 3) := by kernel_rfl
@[simp] theorem Tryz.ok48 : okT Tryz.prog 48 = true := by kernel_rfl
@[simp] theorem Tryz.sz48 : szOf Tryz.prog 48 = 9 := by kernel_rfl
@[simp] theorem Tryz.ag48 : isAg Tryz.prog 48 = true := by kernel_rfl
@[simp] theorem Tryz.hz48 : hasZ Tryz.prog 48 = true := by kernel_rfl
@[simp] theorem Tryz.zc48 : zeroC Tryz.prog 48 = [.string ⟨#[]⟩, .slice none 0 0, .slice none 0 0, .slice none 0 0, .slice none 0 0, .slice none 0 0, .slice none 0 0, .slice none 0 0, .int .i64 0] := by kernel_rfl
@[simp] theorem Tryz.by48 : byOf Tryz.prog 48 = 192 := by kernel_rfl
@[simp] theorem Tryz.st48 : isStr Tryz.prog 48 = false := by kernel_rfl
@[simp] theorem Tryz.el48 : slEl Tryz.prog 48 = none := by kernel_rfl
@[simp] theorem Tryz.zv48 : zeroV Tryz.prog 48 = .agg #[.string ⟨#[]⟩, .slice none 0 0, .slice none 0 0, .slice none 0 0, .slice none 0 0, .slice none 0 0, .slice none 0 0, .slice none 0 0, .int .i64 0] := by kernel_rfl
@[simp] theorem Tryz.fk48 : flOk Tryz.prog 48 = true := by kernel_rfl
@[simp] theorem Tryz.fl48_0 : flOf Tryz.prog 48 0 = some (0, 9) := by kernel_rfl
@[simp] theorem Tryz.fl48_1 : flOf Tryz.prog 48 1 = some (1, 29) := by kernel_rfl
@[simp] theorem Tryz.fl48_2 : flOf Tryz.prog 48 2 = some (2, 41) := by kernel_rfl
@[simp] theorem Tryz.fl48_3 : flOf Tryz.prog 48 3 = some (3, 41) := by kernel_rfl
@[simp] theorem Tryz.fl48_4 : flOf Tryz.prog 48 4 = some (4, 41) := by kernel_rfl
@[simp] theorem Tryz.fl48_5 : flOf Tryz.prog 48 5 = some (5, 41) := by kernel_rfl
@[simp] theorem Tryz.fl48_6 : flOf Tryz.prog 48 6 = some (6, 30) := by kernel_rfl
@[simp] theorem Tryz.fl48_7 : flOf Tryz.prog 48 7 = some (7, 41) := by kernel_rfl
@[simp] theorem Tryz.fl48_8 : flOf Tryz.prog 48 8 = some (8, 3) := by kernel_rfl
@[simp] theorem Tryz.ok58 : okT Tryz.prog 58 = true := by kernel_rfl
@[simp] theorem Tryz.sz58 : szOf Tryz.prog 58 = 1 := by kernel_rfl
@[simp] theorem Tryz.ag58 : isAg Tryz.prog 58 = false := by kernel_rfl
@[simp] theorem Tryz.hz58 : hasZ Tryz.prog 58 = true := by kernel_rfl
@[simp] theorem Tryz.zc58 : zeroC Tryz.prog 58 = [.slice none 0 0] := by kernel_rfl
@[simp] theorem Tryz.by58 : byOf Tryz.prog 58 = 24 := by kernel_rfl
@[simp] theorem Tryz.st58 : isStr Tryz.prog 58 = false := by kernel_rfl
@[simp] theorem Tryz.el58 : slEl Tryz.prog 58 = some 9 := by kernel_rfl
@[simp] theorem Tryz.zv58 : zeroV Tryz.prog 58 = .slice none 0 0 := by kernel_rfl
@[simp] theorem Tryz.ok59 : okT Tryz.prog 59 = true := by kernel_rfl
@[simp] theorem Tryz.sz59 : szOf Tryz.prog 59 = 8 := by kernel_rfl
@[simp] theorem Tryz.ag59 : isAg Tryz.prog 59 = true := by kernel_rfl
@[simp] theorem Tryz.hz59 : hasZ Tryz.prog 59 = true := by kernel_rfl
@[simp] theorem Tryz.zc59 : zeroC Tryz.prog 59 = [.string ⟨#[]⟩, .slice none 0 0, .slice none 0 0, .int .i64 0, .slice none 0 0, .slice none 0 0, .slice none 0 0, .slice none 0 0] := by kernel_rfl
@[simp] theorem Tryz.by59 : byOf Tryz.prog 59 = 168 := by kernel_rfl
@[simp] theorem Tryz.st59 : isStr Tryz.prog 59 = false := by kernel_rfl
@[simp] theorem Tryz.el59 : slEl Tryz.prog 59 = none := by kernel_rfl
@[simp] theorem Tryz.zv59 : zeroV Tryz.prog 59 = .agg #[.string ⟨#[]⟩, .slice none 0 0, .slice none 0 0, .int .i64 0, .slice none 0 0, .slice none 0 0, .slice none 0 0, .slice none 0 0] := by kernel_rfl
@[simp] theorem Tryz.fk59 : flOk Tryz.prog 59 = true := by kernel_rfl
@[simp] theorem Tryz.fl59_0 : flOf Tryz.prog 59 0 = some (0, 32) := by kernel_rfl
@[simp] theorem Tryz.fl59_1 : flOf Tryz.prog 59 1 = some (4, 58) := by kernel_rfl
@[simp] theorem Tryz.fl59_2 : flOf Tryz.prog 59 2 = some (5, 41) := by kernel_rfl
@[simp] theorem Tryz.fl59_3 : flOf Tryz.prog 59 3 = some (6, 41) := by kernel_rfl
@[simp] theorem Tryz.fl59_4 : flOf Tryz.prog 59 4 = some (7, 41) := by kernel_rfl
@[simp] theorem Tryz.ok60 : okT Tryz.prog 60 = true := by kernel_rfl
@[simp] theorem Tryz.sz60 : szOf Tryz.prog 60 = 8 := by kernel_rfl
@[simp] theorem Tryz.ag60 : isAg Tryz.prog 60 = true := by kernel_rfl
@[simp] theorem Tryz.hz60 : hasZ Tryz.prog 60 = true := by kernel_rfl
@[simp] theorem Tryz.zc60 : zeroC Tryz.prog 60 = [.string ⟨#[]⟩, .slice none 0 0, .slice none 0 0, .int .i64 0, .slice none 0 0, .slice none 0 0, .slice none 0 0, .slice none 0 0] := by kernel_rfl
@[simp] theorem Tryz.by60 : byOf Tryz.prog 60 = 168 := by kernel_rfl
@[simp] theorem Tryz.st60 : isStr Tryz.prog 60 = false := by kernel_rfl
@[simp] theorem Tryz.el60 : slEl Tryz.prog 60 = none := by kernel_rfl
@[simp] theorem Tryz.zv60 : zeroV Tryz.prog 60 = .agg #[.string ⟨#[]⟩, .slice none 0 0, .slice none 0 0, .int .i64 0, .slice none 0 0, .slice none 0 0, .slice none 0 0, .slice none 0 0] := by kernel_rfl
@[simp] theorem Tryz.fk60 : flOk Tryz.prog 60 = true := by kernel_rfl
@[simp] theorem Tryz.fl60_0 : flOf Tryz.prog 60 0 = some (0, 32) := by kernel_rfl
@[simp] theorem Tryz.fl60_1 : flOf Tryz.prog 60 1 = some (4, 58) := by kernel_rfl
@[simp] theorem Tryz.fl60_2 : flOf Tryz.prog 60 2 = some (5, 41) := by kernel_rfl
@[simp] theorem Tryz.fl60_3 : flOf Tryz.prog 60 3 = some (6, 41) := by kernel_rfl
@[simp] theorem Tryz.fl60_4 : flOf Tryz.prog 60 4 = some (7, 41) := by kernel_rfl
@[simp] theorem Tryz.ok61 : okT Tryz.prog 61 = true := by kernel_rfl
@[simp] theorem Tryz.sz61 : szOf Tryz.prog 61 = 1 := by kernel_rfl
@[simp] theorem Tryz.ag61 : isAg Tryz.prog 61 = false := by kernel_rfl
@[simp] theorem Tryz.hz61 : hasZ Tryz.prog 61 = true := by kernel_rfl
@[simp] theorem Tryz.zc61 : zeroC Tryz.prog 61 = [.pointer none] := by kernel_rfl
@[simp] theorem Tryz.by61 : byOf Tryz.prog 61 = 8 := by kernel_rfl
@[simp] theorem Tryz.st61 : isStr Tryz.prog 61 = false := by kernel_rfl
@[simp] theorem Tryz.el61 : slEl Tryz.prog 61 = none := by kernel_rfl
@[simp] theorem Tryz.zv61 : zeroV Tryz.prog 61 = .pointer none := by kernel_rfl
@[simp] theorem Tryz.ok69 : okT Tryz.prog 69 = true := by kernel_rfl
@[simp] theorem Tryz.sz69 : szOf Tryz.prog 69 = 8 := by kernel_rfl
@[simp] theorem Tryz.ag69 : isAg Tryz.prog 69 = true := by kernel_rfl
@[simp] theorem Tryz.hz69 : hasZ Tryz.prog 69 = true := by kernel_rfl
@[simp] theorem Tryz.zc69 : zeroC Tryz.prog 69 = [.int .i64 0, .int .i64 0, .int .i64 0, .int .i64 0, .int .i64 0, .int .i64 0, .int .i64 0, .int .i64 0] := by kernel_rfl
@[simp] theorem Tryz.by69 : byOf Tryz.prog 69 = 64 := by kernel_rfl
@[simp] theorem Tryz.st69 : isStr Tryz.prog 69 = false := by kernel_rfl
@[simp] theorem Tryz.el69 : slEl Tryz.prog 69 = none := by kernel_rfl
@[simp] theorem Tryz.zv69 : zeroV Tryz.prog 69 = .agg #[.int .i64 0, .int .i64 0, .int .i64 0, .int .i64 0, .int .i64 0, .int .i64 0, .int .i64 0, .int .i64 0] := by kernel_rfl
@[simp] theorem Tryz.fk69 : flOk Tryz.prog 69 = true := by kernel_rfl
@[simp] theorem Tryz.fl69_0 : flOf Tryz.prog 69 0 = some (0, 3) := by kernel_rfl
@[simp] theorem Tryz.fl69_1 : flOf Tryz.prog 69 1 = some (1, 3) := by kernel_rfl
@[simp] theorem Tryz.fl69_2 : flOf Tryz.prog 69 2 = some (2, 3) := by kernel_rfl
@[simp] theorem Tryz.fl69_3 : flOf Tryz.prog 69 3 = some (3, 3) := by kernel_rfl
@[simp] theorem Tryz.fl69_4 : flOf Tryz.prog 69 4 = some (4, 3) := by kernel_rfl
@[simp] theorem Tryz.fl69_5 : flOf Tryz.prog 69 5 = some (5, 3) := by kernel_rfl
@[simp] theorem Tryz.fl69_6 : flOf Tryz.prog 69 6 = some (6, 3) := by kernel_rfl
@[simp] theorem Tryz.fl69_7 : flOf Tryz.prog 69 7 = some (7, 3) := by kernel_rfl
@[simp] theorem Tryz.eq69 : eqPlan Tryz.prog 69 = some [(0, 0), (0, 1), (0, 2), (0, 3), (0, 4), (0, 5), (0, 6), (0, 7)] := by kernel_rfl
@[simp] theorem Tryz.ok70 : okT Tryz.prog 70 = true := by kernel_rfl
@[simp] theorem Tryz.sz70 : szOf Tryz.prog 70 = 8 := by kernel_rfl
@[simp] theorem Tryz.ag70 : isAg Tryz.prog 70 = true := by kernel_rfl
@[simp] theorem Tryz.hz70 : hasZ Tryz.prog 70 = true := by kernel_rfl
@[simp] theorem Tryz.zc70 : zeroC Tryz.prog 70 = [.int .i64 0, .int .i64 0, .int .i64 0, .int .i64 0, .int .i64 0, .int .i64 0, .int .i64 0, .int .i64 0] := by kernel_rfl
@[simp] theorem Tryz.by70 : byOf Tryz.prog 70 = 64 := by kernel_rfl
@[simp] theorem Tryz.st70 : isStr Tryz.prog 70 = false := by kernel_rfl
@[simp] theorem Tryz.el70 : slEl Tryz.prog 70 = none := by kernel_rfl
@[simp] theorem Tryz.zv70 : zeroV Tryz.prog 70 = .agg #[.int .i64 0, .int .i64 0, .int .i64 0, .int .i64 0, .int .i64 0, .int .i64 0, .int .i64 0, .int .i64 0] := by kernel_rfl
@[simp] theorem Tryz.fk70 : flOk Tryz.prog 70 = true := by kernel_rfl
@[simp] theorem Tryz.fl70_0 : flOf Tryz.prog 70 0 = some (0, 3) := by kernel_rfl
@[simp] theorem Tryz.fl70_1 : flOf Tryz.prog 70 1 = some (1, 3) := by kernel_rfl
@[simp] theorem Tryz.fl70_2 : flOf Tryz.prog 70 2 = some (2, 3) := by kernel_rfl
@[simp] theorem Tryz.fl70_3 : flOf Tryz.prog 70 3 = some (3, 3) := by kernel_rfl
@[simp] theorem Tryz.fl70_4 : flOf Tryz.prog 70 4 = some (4, 3) := by kernel_rfl
@[simp] theorem Tryz.fl70_5 : flOf Tryz.prog 70 5 = some (5, 3) := by kernel_rfl
@[simp] theorem Tryz.fl70_6 : flOf Tryz.prog 70 6 = some (6, 3) := by kernel_rfl
@[simp] theorem Tryz.fl70_7 : flOf Tryz.prog 70 7 = some (7, 3) := by kernel_rfl
@[simp] theorem Tryz.eq70 : eqPlan Tryz.prog 70 = some [(0, 0), (0, 1), (0, 2), (0, 3), (0, 4), (0, 5), (0, 6), (0, 7)] := by kernel_rfl
@[simp] theorem Tryz.ok79 : okT Tryz.prog 79 = true := by kernel_rfl
@[simp] theorem Tryz.sz79 : szOf Tryz.prog 79 = 8 := by kernel_rfl
@[simp] theorem Tryz.ag79 : isAg Tryz.prog 79 = true := by kernel_rfl
@[simp] theorem Tryz.hz79 : hasZ Tryz.prog 79 = true := by kernel_rfl
@[simp] theorem Tryz.zc79 : zeroC Tryz.prog 79 = [.int .i64 0, .int .i64 0, .int .i64 0, .int .i64 0, .int .i64 0, .int .i64 0, .int .i64 0, .int .i64 0] := by kernel_rfl
@[simp] theorem Tryz.by79 : byOf Tryz.prog 79 = 64 := by kernel_rfl
@[simp] theorem Tryz.st79 : isStr Tryz.prog 79 = false := by kernel_rfl
@[simp] theorem Tryz.el79 : slEl Tryz.prog 79 = none := by kernel_rfl
@[simp] theorem Tryz.zv79 : zeroV Tryz.prog 79 = .agg #[.int .i64 0, .int .i64 0, .int .i64 0, .int .i64 0, .int .i64 0, .int .i64 0, .int .i64 0, .int .i64 0] := by kernel_rfl
@[simp] theorem Tryz.fk79 : flOk Tryz.prog 79 = true := by kernel_rfl
@[simp] theorem Tryz.fl79_0 : flOf Tryz.prog 79 0 = some (0, 3) := by kernel_rfl
@[simp] theorem Tryz.fl79_1 : flOf Tryz.prog 79 1 = some (1, 3) := by kernel_rfl
@[simp] theorem Tryz.fl79_2 : flOf Tryz.prog 79 2 = some (2, 3) := by kernel_rfl
@[simp] theorem Tryz.fl79_3 : flOf Tryz.prog 79 3 = some (3, 3) := by kernel_rfl
@[simp] theorem Tryz.fl79_4 : flOf Tryz.prog 79 4 = some (4, 3) := by kernel_rfl
@[simp] theorem Tryz.fl79_5 : flOf Tryz.prog 79 5 = some (5, 3) := by kernel_rfl
@[simp] theorem Tryz.fl79_6 : flOf Tryz.prog 79 6 = some (6, 3) := by kernel_rfl
@[simp] theorem Tryz.fl79_7 : flOf Tryz.prog 79 7 = some (7, 3) := by kernel_rfl
@[simp] theorem Tryz.eq79 : eqPlan Tryz.prog 79 = some [(0, 0), (0, 1), (0, 2), (0, 3), (0, 4), (0, 5), (0, 6), (0, 7)] := by kernel_rfl
@[simp] theorem Tryz.ok80 : okT Tryz.prog 80 = true := by kernel_rfl
@[simp] theorem Tryz.sz80 : szOf Tryz.prog 80 = 5 := by kernel_rfl
@[simp] theorem Tryz.ag80 : isAg Tryz.prog 80 = true := by kernel_rfl
@[simp] theorem Tryz.hz80 : hasZ Tryz.prog 80 = true := by kernel_rfl
@[simp] theorem Tryz.zc80 : zeroC Tryz.prog 80 = [.int .i64 0, .int .i64 0, .int .i64 0, .int .i64 0, .int .i64 0] := by kernel_rfl
@[simp] theorem Tryz.by80 : byOf Tryz.prog 80 = 40 := by kernel_rfl
@[simp] theorem Tryz.st80 : isStr Tryz.prog 80 = false := by kernel_rfl
@[simp] theorem Tryz.el80 : slEl Tryz.prog 80 = none := by kernel_rfl
@[simp] theorem Tryz.zv80 : zeroV Tryz.prog 80 = .agg #[.int .i64 0, .int .i64 0, .int .i64 0, .int .i64 0, .int .i64 0] := by kernel_rfl
@[simp] theorem Tryz.fk80 : flOk Tryz.prog 80 = true := by kernel_rfl
@[simp] theorem Tryz.fl80_0 : flOf Tryz.prog 80 0 = some (0, 3) := by kernel_rfl
@[simp] theorem Tryz.fl80_1 : flOf Tryz.prog 80 1 = some (1, 3) := by kernel_rfl
@[simp] theorem Tryz.fl80_2 : flOf Tryz.prog 80 2 = some (2, 3) := by kernel_rfl
@[simp] theorem Tryz.fl80_3 : flOf Tryz.prog 80 3 = some (3, 3) := by kernel_rfl
@[simp] theorem Tryz.fl80_4 : flOf Tryz.prog 80 4 = some (4, 3) := by kernel_rfl
@[simp] theorem Tryz.eq80 : eqPlan Tryz.prog 80 = some [(0, 0), (0, 1), (0, 2), (0, 3), (0, 4)] := by kernel_rfl
@[simp] theorem Tryz.ok81 : okT Tryz.prog 81 = true := by kernel_rfl
@[simp] theorem Tryz.sz81 : szOf Tryz.prog 81 = 5 := by kernel_rfl
@[simp] theorem Tryz.ag81 : isAg Tryz.prog 81 = true := by kernel_rfl
@[simp] theorem Tryz.hz81 : hasZ Tryz.prog 81 = true := by kernel_rfl
@[simp] theorem Tryz.zc81 : zeroC Tryz.prog 81 = [.int .i64 0, .int .i64 0, .int .i64 0, .int .i64 0, .int .i64 0] := by kernel_rfl
@[simp] theorem Tryz.by81 : byOf Tryz.prog 81 = 40 := by kernel_rfl
@[simp] theorem Tryz.st81 : isStr Tryz.prog 81 = false := by kernel_rfl
@[simp] theorem Tryz.el81 : slEl Tryz.prog 81 = none := by kernel_rfl
@[simp] theorem Tryz.zv81 : zeroV Tryz.prog 81 = .agg #[.int .i64 0, .int .i64 0, .int .i64 0, .int .i64 0, .int .i64 0] := by kernel_rfl
@[simp] theorem Tryz.fk81 : flOk Tryz.prog 81 = true := by kernel_rfl
@[simp] theorem Tryz.fl81_0 : flOf Tryz.prog 81 0 = some (0, 3) := by kernel_rfl
@[simp] theorem Tryz.fl81_1 : flOf Tryz.prog 81 1 = some (1, 3) := by kernel_rfl
@[simp] theorem Tryz.fl81_2 : flOf Tryz.prog 81 2 = some (2, 3) := by kernel_rfl
@[simp] theorem Tryz.fl81_3 : flOf Tryz.prog 81 3 = some (3, 3) := by kernel_rfl
@[simp] theorem Tryz.fl81_4 : flOf Tryz.prog 81 4 = some (4, 3) := by kernel_rfl
@[simp] theorem Tryz.eq81 : eqPlan Tryz.prog 81 = some [(0, 0), (0, 1), (0, 2), (0, 3), (0, 4)] := by kernel_rfl
@[simp] theorem Tryz.ok83 : okT Tryz.prog 83 = true := by kernel_rfl
@[simp] theorem Tryz.sz83 : szOf Tryz.prog 83 = 5 := by kernel_rfl
@[simp] theorem Tryz.ag83 : isAg Tryz.prog 83 = true := by kernel_rfl
@[simp] theorem Tryz.hz83 : hasZ Tryz.prog 83 = true := by kernel_rfl
@[simp] theorem Tryz.zc83 : zeroC Tryz.prog 83 = [.int .i64 0, .int .i64 0, .int .i64 0, .int .i64 0, .int .i64 0] := by kernel_rfl
@[simp] theorem Tryz.by83 : byOf Tryz.prog 83 = 40 := by kernel_rfl
@[simp] theorem Tryz.st83 : isStr Tryz.prog 83 = false := by kernel_rfl
@[simp] theorem Tryz.el83 : slEl Tryz.prog 83 = none := by kernel_rfl
@[simp] theorem Tryz.zv83 : zeroV Tryz.prog 83 = .agg #[.int .i64 0, .int .i64 0, .int .i64 0, .int .i64 0, .int .i64 0] := by kernel_rfl
@[simp] theorem Tryz.fk83 : flOk Tryz.prog 83 = true := by kernel_rfl
@[simp] theorem Tryz.fl83_0 : flOf Tryz.prog 83 0 = some (0, 3) := by kernel_rfl
@[simp] theorem Tryz.fl83_1 : flOf Tryz.prog 83 1 = some (1, 3) := by kernel_rfl
@[simp] theorem Tryz.fl83_2 : flOf Tryz.prog 83 2 = some (2, 3) := by kernel_rfl
@[simp] theorem Tryz.fl83_3 : flOf Tryz.prog 83 3 = some (3, 3) := by kernel_rfl
@[simp] theorem Tryz.fl83_4 : flOf Tryz.prog 83 4 = some (4, 3) := by kernel_rfl
@[simp] theorem Tryz.eq83 : eqPlan Tryz.prog 83 = some [(0, 0), (0, 1), (0, 2), (0, 3), (0, 4)] := by kernel_rfl
@[simp] theorem Tryz.ok90 : okT Tryz.prog 90 = true := by kernel_rfl
@[simp] theorem Tryz.sz90 : szOf Tryz.prog 90 = 1 := by kernel_rfl
@[simp] theorem Tryz.ag90 : isAg Tryz.prog 90 = false := by kernel_rfl
@[simp] theorem Tryz.hz90 : hasZ Tryz.prog 90 = true := by kernel_rfl
@[simp] theorem Tryz.zc90 : zeroC Tryz.prog 90 = [.slice none 0 0] := by kernel_rfl
@[simp] theorem Tryz.by90 : byOf Tryz.prog 90 = 24 := by kernel_rfl
@[simp] theorem Tryz.st90 : isStr Tryz.prog 90 = false := by kernel_rfl
@[simp] theorem Tryz.el90 : slEl Tryz.prog 90 = some 5 := by kernel_rfl
@[simp] theorem Tryz.bs90 : byteSl Tryz.prog 90 = true := by kernel_rfl
@[simp] theorem Tryz.zv90 : zeroV Tryz.prog 90 = .slice none 0 0 := by kernel_rfl
@[simp] theorem Tryz.ok91 : okT Tryz.prog 91 = true := by kernel_rfl
@[simp] theorem Tryz.sz91 : szOf Tryz.prog 91 = 1 := by kernel_rfl
@[simp] theorem Tryz.ag91 : isAg Tryz.prog 91 = false := by kernel_rfl
@[simp] theorem Tryz.hz91 : hasZ Tryz.prog 91 = true := by kernel_rfl
@[simp] theorem Tryz.zc91 : zeroC Tryz.prog 91 = [.int .u64 0] := by kernel_rfl
@[simp] theorem Tryz.by91 : byOf Tryz.prog 91 = 8 := by kernel_rfl
@[simp] theorem Tryz.st91 : isStr Tryz.prog 91 = false := by kernel_rfl
@[simp] theorem Tryz.ik91 : inK Tryz.prog 91 = some .u64 := by kernel_rfl
@[simp] theorem Tryz.el91 : slEl Tryz.prog 91 = none := by kernel_rfl
@[simp] theorem Tryz.zv91 : zeroV Tryz.prog 91 = .int .u64 0 := by kernel_rfl
@[simp] theorem Tryz.ok95 : okT Tryz.prog 95 = true := by kernel_rfl
@[simp] theorem Tryz.sz95 : szOf Tryz.prog 95 = 1 := by kernel_rfl
@[simp] theorem Tryz.ag95 : isAg Tryz.prog 95 = false := by kernel_rfl
@[simp] theorem Tryz.hz95 : hasZ Tryz.prog 95 = true := by kernel_rfl
@[simp] theorem Tryz.zc95 : zeroC Tryz.prog 95 = [.pointer none] := by kernel_rfl
@[simp] theorem Tryz.by95 : byOf Tryz.prog 95 = 8 := by kernel_rfl
@[simp] theorem Tryz.st95 : isStr Tryz.prog 95 = false := by kernel_rfl
@[simp] theorem Tryz.el95 : slEl Tryz.prog 95 = none := by kernel_rfl
@[simp] theorem Tryz.zv95 : zeroV Tryz.prog 95 = .pointer none := by kernel_rfl
@[simp] theorem Tryz.ok96 : okT Tryz.prog 96 = true := by kernel_rfl
@[simp] theorem Tryz.sz96 : szOf Tryz.prog 96 = 2 := by kernel_rfl
@[simp] theorem Tryz.ag96 : isAg Tryz.prog 96 = true := by kernel_rfl
@[simp] theorem Tryz.hz96 : hasZ Tryz.prog 96 = true := by kernel_rfl
@[simp] theorem Tryz.zc96 : zeroC Tryz.prog 96 = [.pointer none, .slice none 0 0] := by kernel_rfl
@[simp] theorem Tryz.by96 : byOf Tryz.prog 96 = 32 := by kernel_rfl
@[simp] theorem Tryz.st96 : isStr Tryz.prog 96 = false := by kernel_rfl
@[simp] theorem Tryz.el96 : slEl Tryz.prog 96 = none := by kernel_rfl
@[simp] theorem Tryz.zv96 : zeroV Tryz.prog 96 = .agg #[.pointer none, .slice none 0 0] := by kernel_rfl
@[simp] theorem Tryz.fk96 : flOk Tryz.prog 96 = true := by kernel_rfl
@[simp] theorem Tryz.fl96_0 : flOf Tryz.prog 96 0 = some (0, 95) := by kernel_rfl
@[simp] theorem Tryz.fl96_1 : flOf Tryz.prog 96 1 = some (1, 90) := by kernel_rfl
@[simp] theorem Tryz.ok97 : okT Tryz.prog 97 = true := by kernel_rfl
@[simp] theorem Tryz.sz97 : szOf Tryz.prog 97 = 2 := by kernel_rfl
@[simp] theorem Tryz.ag97 : isAg Tryz.prog 97 = true := by kernel_rfl
@[simp] theorem Tryz.hz97 : hasZ Tryz.prog 97 = true := by kernel_rfl
@[simp] theorem Tryz.zc97 : zeroC Tryz.prog 97 = [.pointer none, .slice none 0 0] := by kernel_rfl
@[simp] theorem Tryz.by97 : byOf Tryz.prog 97 = 32 := by kernel_rfl
@[simp] theorem Tryz.st97 : isStr Tryz.prog 97 = false := by kernel_rfl
@[simp] theorem Tryz.el97 : slEl Tryz.prog 97 = none := by kernel_rfl
@[simp] theorem Tryz.zv97 : zeroV Tryz.prog 97 = .agg #[.pointer none, .slice none 0 0] := by kernel_rfl
@[simp] theorem Tryz.fk97 : flOk Tryz.prog 97 = true := by kernel_rfl
@[simp] theorem Tryz.fl97_0 : flOf Tryz.prog 97 0 = some (0, 95) := by kernel_rfl
@[simp] theorem Tryz.fl97_1 : flOf Tryz.prog 97 1 = some (1, 90) := by kernel_rfl
@[simp] theorem Tryz.ok107 : okT Tryz.prog 107 = true := by kernel_rfl
@[simp] theorem Tryz.sz107 : szOf Tryz.prog 107 = 1 := by kernel_rfl
@[simp] theorem Tryz.ag107 : isAg Tryz.prog 107 = false := by kernel_rfl
@[simp] theorem Tryz.hz107 : hasZ Tryz.prog 107 = true := by kernel_rfl
@[simp] theorem Tryz.zc107 : zeroC Tryz.prog 107 = [.map none] := by kernel_rfl
@[simp] theorem Tryz.by107 : byOf Tryz.prog 107 = 8 := by kernel_rfl
@[simp] theorem Tryz.st107 : isStr Tryz.prog 107 = false := by kernel_rfl
@[simp] theorem Tryz.el107 : slEl Tryz.prog 107 = none := by kernel_rfl
@[simp] theorem Tryz.mk107 : mapKV Tryz.prog 107 = some (3, 3) := by kernel_rfl
@[simp] theorem Tryz.zv107 : zeroV Tryz.prog 107 = .map none := by kernel_rfl
@[simp] theorem Tryz.ok117 : okT Tryz.prog 117 = true := by kernel_rfl
@[simp] theorem Tryz.sz117 : szOf Tryz.prog 117 = 1 := by kernel_rfl
@[simp] theorem Tryz.ag117 : isAg Tryz.prog 117 = false := by kernel_rfl
@[simp] theorem Tryz.hz117 : hasZ Tryz.prog 117 = true := by kernel_rfl
@[simp] theorem Tryz.zc117 : zeroC Tryz.prog 117 = [.int .u32 0] := by kernel_rfl
@[simp] theorem Tryz.by117 : byOf Tryz.prog 117 = 4 := by kernel_rfl
@[simp] theorem Tryz.st117 : isStr Tryz.prog 117 = false := by kernel_rfl
@[simp] theorem Tryz.ik117 : inK Tryz.prog 117 = some .u32 := by kernel_rfl
@[simp] theorem Tryz.el117 : slEl Tryz.prog 117 = none := by kernel_rfl
@[simp] theorem Tryz.zv117 : zeroV Tryz.prog 117 = .int .u32 0 := by kernel_rfl
@[simp] theorem Tryz.ok120 : okT Tryz.prog 120 = true := by kernel_rfl
@[simp] theorem Tryz.sz120 : szOf Tryz.prog 120 = 1 := by kernel_rfl
@[simp] theorem Tryz.ag120 : isAg Tryz.prog 120 = false := by kernel_rfl
@[simp] theorem Tryz.hz120 : hasZ Tryz.prog 120 = true := by kernel_rfl
@[simp] theorem Tryz.zc120 : zeroC Tryz.prog 120 = [.int .u64 0] := by kernel_rfl
@[simp] theorem Tryz.by120 : byOf Tryz.prog 120 = 8 := by kernel_rfl
@[simp] theorem Tryz.st120 : isStr Tryz.prog 120 = false := by kernel_rfl
@[simp] theorem Tryz.ik120 : inK Tryz.prog 120 = some .u64 := by kernel_rfl
@[simp] theorem Tryz.el120 : slEl Tryz.prog 120 = none := by kernel_rfl
@[simp] theorem Tryz.zv120 : zeroV Tryz.prog 120 = .int .u64 0 := by kernel_rfl
@[simp] theorem Tryz.ok123 : okT Tryz.prog 123 = true := by kernel_rfl
@[simp] theorem Tryz.sz123 : szOf Tryz.prog 123 = 1 := by kernel_rfl
@[simp] theorem Tryz.ag123 : isAg Tryz.prog 123 = false := by kernel_rfl
@[simp] theorem Tryz.hz123 : hasZ Tryz.prog 123 = true := by kernel_rfl
@[simp] theorem Tryz.zc123 : zeroC Tryz.prog 123 = [.pointer none] := by kernel_rfl
@[simp] theorem Tryz.by123 : byOf Tryz.prog 123 = 8 := by kernel_rfl
@[simp] theorem Tryz.st123 : isStr Tryz.prog 123 = false := by kernel_rfl
@[simp] theorem Tryz.el123 : slEl Tryz.prog 123 = none := by kernel_rfl
@[simp] theorem Tryz.zv123 : zeroV Tryz.prog 123 = .pointer none := by kernel_rfl
@[simp] theorem Tryz.ok132 : okT Tryz.prog 132 = true := by kernel_rfl
@[simp] theorem Tryz.sz132 : szOf Tryz.prog 132 = 24 := by kernel_rfl
@[simp] theorem Tryz.ag132 : isAg Tryz.prog 132 = true := by kernel_rfl
@[simp] theorem Tryz.hz132 : hasZ Tryz.prog 132 = true := by kernel_rfl
@[simp] theorem Tryz.zc132 : zeroC Tryz.prog 132 = [.int .u8 0, .int .u8 0, .int .u8 0, .int .u8 0, .int .u8 0, .int .u8 0, .int .u8 0, .int .u8 0, .int .u8 0, .int .u8 0, .int .u8 0, .int .u8 0, .int .u8 0, .int .u8 0, .int .u8 0, .int .u8 0, .int .u8 0, .int .u8 0, .int .u8 0, .int .u8 0, .int .u8 0, .int .u8 0, .int .u8 0, .int .u8 0] := by kernel_rfl
@[simp] theorem Tryz.by132 : byOf Tryz.prog 132 = 24 := by kernel_rfl
@[simp] theorem Tryz.st132 : isStr Tryz.prog 132 = false := by kernel_rfl
@[simp] theorem Tryz.el132 : slEl Tryz.prog 132 = none := by kernel_rfl
@[simp] theorem Tryz.ar132 : arEl Tryz.prog 132 = some (24, 5) := by kernel_rfl
@[simp] theorem Tryz.ok138 : okT Tryz.prog 138 = true := by kernel_rfl
@[simp] theorem Tryz.sz138 : szOf Tryz.prog 138 = 14 := by kernel_rfl
@[simp] theorem Tryz.ag138 : isAg Tryz.prog 138 = true := by kernel_rfl
@[simp] theorem Tryz.hz138 : hasZ Tryz.prog 138 = true := by kernel_rfl
@[simp] theorem Tryz.zc138 : zeroC Tryz.prog 138 = [.string ⟨#[]⟩, .string ⟨#[]⟩, .string ⟨#[]⟩, .string ⟨#[]⟩, .string ⟨#[]⟩, .string ⟨#[]⟩, .string ⟨#[]⟩, .string ⟨#[]⟩, .string ⟨#[]⟩, .string ⟨#[]⟩, .string ⟨#[]⟩, .string ⟨#[]⟩, .string ⟨#[]⟩, .string ⟨#[]⟩] := by kernel_rfl
@[simp] theorem Tryz.by138 : byOf Tryz.prog 138 = 224 := by kernel_rfl
@[simp] theorem Tryz.st138 : isStr Tryz.prog 138 = false := by kernel_rfl
@[simp] theorem Tryz.el138 : slEl Tryz.prog 138 = none := by kernel_rfl
@[simp] theorem Tryz.ar138 : arEl Tryz.prog 138 = some (14, 9) := by kernel_rfl
@[simp] theorem Tryz.ok142 : okT Tryz.prog 142 = true := by kernel_rfl
@[simp] theorem Tryz.sz142 : szOf Tryz.prog 142 = 20 := by kernel_rfl
@[simp] theorem Tryz.ag142 : isAg Tryz.prog 142 = true := by kernel_rfl
@[simp] theorem Tryz.hz142 : hasZ Tryz.prog 142 = true := by kernel_rfl
@[simp] theorem Tryz.zc142 : zeroC Tryz.prog 142 = [.int .u64 0, .int .u64 0, .int .u64 0, .int .u64 0, .int .u64 0, .int .u64 0, .int .u64 0, .int .u64 0, .int .u64 0, .int .u64 0, .int .u64 0, .int .u64 0, .int .u64 0, .int .u64 0, .int .u64 0, .int .u64 0, .int .u64 0, .int .u64 0, .int .u64 0, .int .u64 0] := by kernel_rfl
@[simp] theorem Tryz.by142 : byOf Tryz.prog 142 = 160 := by kernel_rfl
@[simp] theorem Tryz.st142 : isStr Tryz.prog 142 = false := by kernel_rfl
@[simp] theorem Tryz.el142 : slEl Tryz.prog 142 = none := by kernel_rfl
@[simp] theorem Tryz.ar142 : arEl Tryz.prog 142 = some (20, 120) := by kernel_rfl
@[simp] theorem Tryz.ok146 : okT Tryz.prog 146 = true := by kernel_rfl
@[simp] theorem Tryz.sz146 : szOf Tryz.prog 146 = 32 := by kernel_rfl
@[simp] theorem Tryz.ag146 : isAg Tryz.prog 146 = true := by kernel_rfl
@[simp] theorem Tryz.hz146 : hasZ Tryz.prog 146 = true := by kernel_rfl
@[simp] theorem Tryz.zc146 : zeroC Tryz.prog 146 = [.int .u8 0, .int .u8 0, .int .u8 0, .int .u8 0, .int .u8 0, .int .u8 0, .int .u8 0, .int .u8 0, .int .u8 0, .int .u8 0, .int .u8 0, .int .u8 0, .int .u8 0, .int .u8 0, .int .u8 0, .int .u8 0, .int .u8 0, .int .u8 0, .int .u8 0, .int .u8 0, .int .u8 0, .int .u8 0, .int .u8 0, .int .u8 0, .int .u8 0, .int .u8 0, .int .u8 0, .int .u8 0, .int .u8 0, .int .u8 0, .int .u8 0, .int .u8 0] := by kernel_rfl
@[simp] theorem Tryz.by146 : byOf Tryz.prog 146 = 32 := by kernel_rfl
@[simp] theorem Tryz.st146 : isStr Tryz.prog 146 = false := by kernel_rfl
@[simp] theorem Tryz.el146 : slEl Tryz.prog 146 = none := by kernel_rfl
@[simp] theorem Tryz.ar146 : arEl Tryz.prog 146 = some (32, 5) := by kernel_rfl
@[simp] theorem Tryz.ok147 : okT Tryz.prog 147 = true := by kernel_rfl
@[simp] theorem Tryz.sz147 : szOf Tryz.prog 147 = 64 := by kernel_rfl
@[simp] theorem Tryz.ag147 : isAg Tryz.prog 147 = true := by kernel_rfl
@[simp] theorem Tryz.hz147 : hasZ Tryz.prog 147 = true := by kernel_rfl
@[simp] theorem Tryz.by147 : byOf Tryz.prog 147 = 64 := by kernel_rfl
@[simp] theorem Tryz.st147 : isStr Tryz.prog 147 = false := by kernel_rfl
@[simp] theorem Tryz.el147 : slEl Tryz.prog 147 = none := by kernel_rfl
@[simp] theorem Tryz.ar147 : arEl Tryz.prog 147 = some (64, 5) := by kernel_rfl
theorem Tryz.mix : Tryz.prog.follows .mixedOrders = true := by kernel_rfl
end Go.Proofs
