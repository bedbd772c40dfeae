/-
  What is proved here: facts on the types of the program. Condition: none.
-/
import Derived.Test.YteleljfnjdlnkaaGreatDoorAbsD
import Derived.Test.YteleljfnjdlnkaaGreatDoorProg
import Derived.KernelRfl
set_option linter.unusedVariables false
set_option linter.unusedSimpArgs false
set_option linter.unnecessarySimpa false
namespace Go.Proofs
open Go.Abs
@[simp] theorem Tryz.ok2 : okT Tryz.prog 2 = true := by kernel_rfl
@[simp] theorem Tryz.sz2 : szOf Tryz.prog 2 = 1 := by kernel_rfl
@[simp] theorem Tryz.ag2 : isAg Tryz.prog 2 = false := by kernel_rfl
@[simp] theorem Tryz.hz2 : hasZ Tryz.prog 2 = true := by kernel_rfl
@[simp] theorem Tryz.zc2 : zeroC Tryz.prog 2 = [.int .i64 0] := by kernel_rfl
@[simp] theorem Tryz.by2 : byOf Tryz.prog 2 = 8 := by kernel_rfl
@[simp] theorem Tryz.st2 : isStr Tryz.prog 2 = false := by kernel_rfl
@[simp] theorem Tryz.ik2 : inK Tryz.prog 2 = some .i64 := by kernel_rfl
@[simp] theorem Tryz.el2 : slEl Tryz.prog 2 = none := by kernel_rfl
@[simp] theorem Tryz.zv2 : zeroV Tryz.prog 2 = .int .i64 0 := by kernel_rfl
@[simp] theorem Tryz.ok3 : okT Tryz.prog 3 = true := by kernel_rfl
@[simp] theorem Tryz.sz3 : szOf Tryz.prog 3 = 1 := by kernel_rfl
@[simp] theorem Tryz.ag3 : isAg Tryz.prog 3 = false := by kernel_rfl
@[simp] theorem Tryz.hz3 : hasZ Tryz.prog 3 = true := by kernel_rfl
@[simp] theorem Tryz.zc3 : zeroC Tryz.prog 3 = [.int .i64 0] := by kernel_rfl
@[simp] theorem Tryz.by3 : byOf Tryz.prog 3 = 8 := by kernel_rfl
@[simp] theorem Tryz.st3 : isStr Tryz.prog 3 = false := by kernel_rfl
@[simp] theorem Tryz.ik3 : inK Tryz.prog 3 = some .i64 := by kernel_rfl
@[simp] theorem Tryz.el3 : slEl Tryz.prog 3 = none := by kernel_rfl
@[simp] theorem Tryz.zv3 : zeroV Tryz.prog 3 = .int .i64 0 := by kernel_rfl
@[simp] theorem Tryz.ok4 : okT Tryz.prog 4 = true := by kernel_rfl
@[simp] theorem Tryz.sz4 : szOf Tryz.prog 4 = 1 := by kernel_rfl
@[simp] theorem Tryz.ag4 : isAg Tryz.prog 4 = false := by kernel_rfl
@[simp] theorem Tryz.hz4 : hasZ Tryz.prog 4 = true := by kernel_rfl
@[simp] theorem Tryz.zc4 : zeroC Tryz.prog 4 = [.bool false] := by kernel_rfl
@[simp] theorem Tryz.by4 : byOf Tryz.prog 4 = 1 := by kernel_rfl
@[simp] theorem Tryz.st4 : isStr Tryz.prog 4 = false := by kernel_rfl
@[simp] theorem Tryz.un4 : Tryz.prog.underlying 4 = some .bool := by kernel_rfl
@[simp] theorem Tryz.el4 : slEl Tryz.prog 4 = none := by kernel_rfl
@[simp] theorem Tryz.zv4 : zeroV Tryz.prog 4 = .bool false := by kernel_rfl
@[simp] theorem Tryz.ok5 : okT Tryz.prog 5 = true := by kernel_rfl
@[simp] theorem Tryz.sz5 : szOf Tryz.prog 5 = 1 := by kernel_rfl
@[simp] theorem Tryz.ag5 : isAg Tryz.prog 5 = false := by kernel_rfl
@[simp] theorem Tryz.hz5 : hasZ Tryz.prog 5 = true := by kernel_rfl
@[simp] theorem Tryz.zc5 : zeroC Tryz.prog 5 = [.int .u8 0] := by kernel_rfl
@[simp] theorem Tryz.by5 : byOf Tryz.prog 5 = 1 := by kernel_rfl
@[simp] theorem Tryz.st5 : isStr Tryz.prog 5 = false := by kernel_rfl
@[simp] theorem Tryz.ik5 : inK Tryz.prog 5 = some .u8 := by kernel_rfl
@[simp] theorem Tryz.el5 : slEl Tryz.prog 5 = none := by kernel_rfl
@[simp] theorem Tryz.zv5 : zeroV Tryz.prog 5 = .int .u8 0 := by kernel_rfl
@[simp] theorem Tryz.ok9 : okT Tryz.prog 9 = true := by kernel_rfl
@[simp] theorem Tryz.sz9 : szOf Tryz.prog 9 = 1 := by kernel_rfl
@[simp] theorem Tryz.ag9 : isAg Tryz.prog 9 = false := by kernel_rfl
@[simp] theorem Tryz.hz9 : hasZ Tryz.prog 9 = true := by kernel_rfl
@[simp] theorem Tryz.zc9 : zeroC Tryz.prog 9 = [.string ⟨#[]⟩] := by kernel_rfl
@[simp] theorem Tryz.by9 : byOf Tryz.prog 9 = 16 := by kernel_rfl
@[simp] theorem Tryz.st9 : isStr Tryz.prog 9 = true := by kernel_rfl
@[simp] theorem Tryz.el9 : slEl Tryz.prog 9 = none := by kernel_rfl
@[simp] theorem Tryz.zv9 : zeroV Tryz.prog 9 = .string ⟨#[]⟩ := by kernel_rfl
@[simp] theorem Tryz.ok12 : okT Tryz.prog 12 = true := by kernel_rfl
@[simp] theorem Tryz.sz12 : szOf Tryz.prog 12 = 1 := by kernel_rfl
@[simp] theorem Tryz.ag12 : isAg Tryz.prog 12 = false := by kernel_rfl
@[simp] theorem Tryz.hz12 : hasZ Tryz.prog 12 = true := by kernel_rfl
@[simp] theorem Tryz.zc12 : zeroC Tryz.prog 12 = [.int .u64 0] := by kernel_rfl
@[simp] theorem Tryz.by12 : byOf Tryz.prog 12 = 8 := by kernel_rfl
@[simp] theorem Tryz.st12 : isStr Tryz.prog 12 = false := by kernel_rfl
@[simp] theorem Tryz.ik12 : inK Tryz.prog 12 = some .u64 := by kernel_rfl
@[simp] theorem Tryz.el12 : slEl Tryz.prog 12 = none := by kernel_rfl
@[simp] theorem Tryz.zv12 : zeroV Tryz.prog 12 = .int .u64 0 := by kernel_rfl
@[simp] theorem Tryz.ok21 : okT Tryz.prog 21 = true := by kernel_rfl
@[simp] theorem Tryz.sz21 : szOf Tryz.prog 21 = 1 := by kernel_rfl
@[simp] theorem Tryz.ag21 : isAg Tryz.prog 21 = false := by kernel_rfl
@[simp] theorem Tryz.hz21 : hasZ Tryz.prog 21 = true := by kernel_rfl
@[simp] theorem Tryz.zc21 : zeroC Tryz.prog 21 = [.int .i32 0] := by kernel_rfl
@[simp] theorem Tryz.by21 : byOf Tryz.prog 21 = 4 := by kernel_rfl
@[simp] theorem Tryz.st21 : isStr Tryz.prog 21 = false := by kernel_rfl
@[simp] theorem Tryz.ik21 : inK Tryz.prog 21 = some .i32 := by kernel_rfl
@[simp] theorem Tryz.el21 : slEl Tryz.prog 21 = none := by kernel_rfl
@[simp] theorem Tryz.zv21 : zeroV Tryz.prog 21 = .int .i32 0 := by kernel_rfl
@[simp] theorem Tryz.ok22 : okT Tryz.prog 22 = true := by kernel_rfl
@[simp] theorem Tryz.sz22 : szOf Tryz.prog 22 = 1 := by kernel_rfl
@[simp] theorem Tryz.ag22 : isAg Tryz.prog 22 = false := by kernel_rfl
@[simp] theorem Tryz.hz22 : hasZ Tryz.prog 22 = true := by kernel_rfl
@[simp] theorem Tryz.zc22 : zeroC Tryz.prog 22 = [.slice none 0 0] := by kernel_rfl
@[simp] theorem Tryz.by22 : byOf Tryz.prog 22 = 24 := by kernel_rfl
@[simp] theorem Tryz.st22 : isStr Tryz.prog 22 = false := by kernel_rfl
@[simp] theorem Tryz.el22 : slEl Tryz.prog 22 = some 51 := by kernel_rfl
@[simp] theorem Tryz.zv22 : zeroV Tryz.prog 22 = .slice none 0 0 := by kernel_rfl
@[simp] theorem Tryz.ok23 : okT Tryz.prog 23 = true := by kernel_rfl
@[simp] theorem Tryz.sz23 : szOf Tryz.prog 23 = 1 := by kernel_rfl
@[simp] theorem Tryz.ag23 : isAg Tryz.prog 23 = false := by kernel_rfl
@[simp] theorem Tryz.hz23 : hasZ Tryz.prog 23 = true := by kernel_rfl
@[simp] theorem Tryz.zc23 : zeroC Tryz.prog 23 = [.slice none 0 0] := by kernel_rfl
@[simp] theorem Tryz.by23 : byOf Tryz.prog 23 = 24 := by kernel_rfl
@[simp] theorem Tryz.st23 : isStr Tryz.prog 23 = false := by kernel_rfl
@[simp] theorem Tryz.el23 : slEl Tryz.prog 23 = some 53 := by kernel_rfl
@[simp] theorem Tryz.zv23 : zeroV Tryz.prog 23 = .slice none 0 0 := by kernel_rfl
@[simp] theorem Tryz.ok24 : okT Tryz.prog 24 = true := by kernel_rfl
@[simp] theorem Tryz.sz24 : szOf Tryz.prog 24 = 4 := by kernel_rfl
@[simp] theorem Tryz.ag24 : isAg Tryz.prog 24 = true := by kernel_rfl
@[simp] theorem Tryz.hz24 : hasZ Tryz.prog 24 = true := by kernel_rfl
@[simp] theorem Tryz.zc24 : zeroC Tryz.prog 24 = [.string ⟨#[]⟩, .slice none 0 0, .slice none 0 0, .int .i64 0] := by kernel_rfl
@[simp] theorem Tryz.by24 : byOf Tryz.prog 24 = 72 := by kernel_rfl
@[simp] theorem Tryz.st24 : isStr Tryz.prog 24 = false := by kernel_rfl
@[simp] theorem Tryz.el24 : slEl Tryz.prog 24 = none := by kernel_rfl
@[simp] theorem Tryz.zv24 : zeroV Tryz.prog 24 = .agg #[.string ⟨#[]⟩, .slice none 0 0, .slice none 0 0, .int .i64 0] := by kernel_rfl
@[simp] theorem Tryz.fk24 : flOk Tryz.prog 24 = true := by kernel_rfl
@[simp] theorem Tryz.fl24_0 : flOf Tryz.prog 24 0 = some (0, 9) := by kernel_rfl
@[simp] theorem Tryz.fl24_1 : flOf Tryz.prog 24 1 = some (1, 22) := by kernel_rfl
@[simp] theorem Tryz.fl24_2 : flOf Tryz.prog 24 2 = some (2, 23) := by kernel_rfl
@[simp] theorem Tryz.fl24_3 : flOf Tryz.prog 24 3 = some (3, 3) := by kernel_rfl
@[simp] theorem Tryz.ok25 : okT Tryz.prog 25 = true := by kernel_rfl
@[simp] theorem Tryz.sz25 : szOf Tryz.prog 25 = 4 := by kernel_rfl
@[simp] theorem Tryz.ag25 : isAg Tryz.prog 25 = true := by kernel_rfl
@[simp] theorem Tryz.hz25 : hasZ Tryz.prog 25 = true := by kernel_rfl
@[simp] theorem Tryz.zc25 : zeroC Tryz.prog 25 = [.string ⟨#[]⟩, .slice none 0 0, .slice none 0 0, .int .i64 0] := by kernel_rfl
@[simp] theorem Tryz.by25 : byOf Tryz.prog 25 = 72 := by kernel_rfl
@[simp] theorem Tryz.st25 : isStr Tryz.prog 25 = false := by kernel_rfl
@[simp] theorem Tryz.el25 : slEl Tryz.prog 25 = none := by kernel_rfl
@[simp] theorem Tryz.zv25 : zeroV Tryz.prog 25 = .agg #[.string ⟨#[]⟩, .slice none 0 0, .slice none 0 0, .int .i64 0] := by kernel_rfl
@[simp] theorem Tryz.fk25 : flOk Tryz.prog 25 = true := by kernel_rfl
@[simp] theorem Tryz.fl25_0 : flOf Tryz.prog 25 0 = some (0, 9) := by kernel_rfl
@[simp] theorem Tryz.fl25_1 : flOf Tryz.prog 25 1 = some (1, 22) := by kernel_rfl
@[simp] theorem Tryz.fl25_2 : flOf Tryz.prog 25 2 = some (2, 23) := by kernel_rfl
@[simp] theorem Tryz.fl25_3 : flOf Tryz.prog 25 3 = some (3, 3) := by kernel_rfl
@[simp] theorem Tryz.ok26 : okT Tryz.prog 26 = true := by kernel_rfl
@[simp] theorem Tryz.sz26 : szOf Tryz.prog 26 = 1 := by kernel_rfl
@[simp] theorem Tryz.ag26 : isAg Tryz.prog 26 = false := by kernel_rfl
@[simp] theorem Tryz.hz26 : hasZ Tryz.prog 26 = true := by kernel_rfl
@[simp] theorem Tryz.zc26 : zeroC Tryz.prog 26 = [.slice none 0 0] := by kernel_rfl
@[simp] theorem Tryz.by26 : byOf Tryz.prog 26 = 24 := by kernel_rfl
@[simp] theorem Tryz.st26 : isStr Tryz.prog 26 = false := by kernel_rfl
@[simp] theorem Tryz.el26 : slEl Tryz.prog 26 = some 55 := by kernel_rfl
@[simp] theorem Tryz.zv26 : zeroV Tryz.prog 26 = .slice none 0 0 := by kernel_rfl
@[simp] theorem Tryz.ok31 : okT Tryz.prog 31 = true := by kernel_rfl
@[simp] theorem Tryz.sz31 : szOf Tryz.prog 31 = 1 := by kernel_rfl
@[simp] theorem Tryz.ag31 : isAg Tryz.prog 31 = false := by kernel_rfl
@[simp] theorem Tryz.hz31 : hasZ Tryz.prog 31 = true := by kernel_rfl
@[simp] theorem Tryz.zc31 : zeroC Tryz.prog 31 = [.slice none 0 0] := by kernel_rfl
@[simp] theorem Tryz.by31 : byOf Tryz.prog 31 = 24 := by kernel_rfl
@[simp] theorem Tryz.st31 : isStr Tryz.prog 31 = false := by kernel_rfl
@[simp] theorem Tryz.el31 : slEl Tryz.prog 31 = some 58 := by kernel_rfl
@[simp] theorem Tryz.zv31 : zeroV Tryz.prog 31 = .slice none 0 0 := by kernel_rfl
@[simp] theorem Tryz.ok32 : okT Tryz.prog 32 = true := by kernel_rfl
@[simp] theorem Tryz.sz32 : szOf Tryz.prog 32 = 1 := by kernel_rfl
@[simp] theorem Tryz.ag32 : isAg Tryz.prog 32 = false := by kernel_rfl
@[simp] theorem Tryz.hz32 : hasZ Tryz.prog 32 = true := by kernel_rfl
@[simp] theorem Tryz.zc32 : zeroC Tryz.prog 32 = [.slice none 0 0] := by kernel_rfl
@[simp] theorem Tryz.by32 : byOf Tryz.prog 32 = 24 := by kernel_rfl
@[simp] theorem Tryz.st32 : isStr Tryz.prog 32 = false := by kernel_rfl
@[simp] theorem Tryz.el32 : slEl Tryz.prog 32 = some 59 := by kernel_rfl
@[simp] theorem Tryz.zv32 : zeroV Tryz.prog 32 = .slice none 0 0 := by kernel_rfl
@[simp] theorem Tryz.ok33 : okT Tryz.prog 33 = true := by kernel_rfl
@[simp] theorem Tryz.sz33 : szOf Tryz.prog 33 = 4 := by kernel_rfl
@[simp] theorem Tryz.ag33 : isAg Tryz.prog 33 = true := by kernel_rfl
@[simp] theorem Tryz.hz33 : hasZ Tryz.prog 33 = true := by kernel_rfl
@[simp] theorem Tryz.zc33 : zeroC Tryz.prog 33 = [.string ⟨#[]⟩, .slice none 0 0, .slice none 0 0, .int .i64 0] := by kernel_rfl
@[simp] theorem Tryz.by33 : byOf Tryz.prog 33 = 72 := by kernel_rfl
@[simp] theorem Tryz.st33 : isStr Tryz.prog 33 = false := by kernel_rfl
@[simp] theorem Tryz.el33 : slEl Tryz.prog 33 = none := by kernel_rfl
@[simp] theorem Tryz.zv33 : zeroV Tryz.prog 33 = .agg #[.string ⟨#[]⟩, .slice none 0 0, .slice none 0 0, .int .i64 0] := by kernel_rfl
@[simp] theorem Tryz.fk33 : flOk Tryz.prog 33 = true := by kernel_rfl
@[simp] theorem Tryz.fl33_0 : flOf Tryz.prog 33 0 = some (0, 9) := by kernel_rfl
@[simp] theorem Tryz.fl33_1 : flOf Tryz.prog 33 1 = some (1, 31) := by kernel_rfl
@[simp] theorem Tryz.fl33_2 : flOf Tryz.prog 33 2 = some (2, 32) := by kernel_rfl
@[simp] theorem Tryz.fl33_3 : flOf Tryz.prog 33 3 = some (3, 3) := by kernel_rfl
@[simp] theorem Tryz.ok34 : okT Tryz.prog 34 = true := by kernel_rfl
@[simp] theorem Tryz.sz34 : szOf Tryz.prog 34 = 4 := by kernel_rfl
@[simp] theorem Tryz.ag34 : isAg Tryz.prog 34 = true := by kernel_rfl
@[simp] theorem Tryz.hz34 : hasZ Tryz.prog 34 = true := by kernel_rfl
@[simp] theorem Tryz.zc34 : zeroC Tryz.prog 34 = [.string ⟨#[]⟩, .slice none 0 0, .slice none 0 0, .int .i64 0] := by kernel_rfl
@[simp] theorem Tryz.by34 : byOf Tryz.prog 34 = 72 := by kernel_rfl
@[simp] theorem Tryz.st34 : isStr Tryz.prog 34 = false := by kernel_rfl
@[simp] theorem Tryz.el34 : slEl Tryz.prog 34 = none := by kernel_rfl
@[simp] theorem Tryz.zv34 : zeroV Tryz.prog 34 = .agg #[.string ⟨#[]⟩, .slice none 0 0, .slice none 0 0, .int .i64 0] := by kernel_rfl
@[simp] theorem Tryz.fk34 : flOk Tryz.prog 34 = true := by kernel_rfl
@[simp] theorem Tryz.fl34_0 : flOf Tryz.prog 34 0 = some (0, 9) := by kernel_rfl
@[simp] theorem Tryz.fl34_1 : flOf Tryz.prog 34 1 = some (1, 31) := by kernel_rfl
@[simp] theorem Tryz.fl34_2 : flOf Tryz.prog 34 2 = some (2, 32) := by kernel_rfl
@[simp] theorem Tryz.fl34_3 : flOf Tryz.prog 34 3 = some (3, 3) := by kernel_rfl
@[simp] theorem Tryz.ok36 : okT Tryz.prog 36 = true := by kernel_rfl
@[simp] theorem Tryz.sz36 : szOf Tryz.prog 36 = 1 := by kernel_rfl
@[simp] theorem Tryz.ag36 : isAg Tryz.prog 36 = false := by kernel_rfl
@[simp] theorem Tryz.hz36 : hasZ Tryz.prog 36 = true := by kernel_rfl
@[simp] theorem Tryz.zc36 : zeroC Tryz.prog 36 = [.slice none 0 0] := by kernel_rfl
@[simp] theorem Tryz.by36 : byOf Tryz.prog 36 = 24 := by kernel_rfl
@[simp] theorem Tryz.st36 : isStr Tryz.prog 36 = false := by kernel_rfl
@[simp] theorem Tryz.el36 : slEl Tryz.prog 36 = some 61 := by kernel_rfl
@[simp] theorem Tryz.zv36 : zeroV Tryz.prog 36 = .slice none 0 0 := by kernel_rfl
@[simp] theorem Tryz.ok50 : okT Tryz.prog 50 = true := by kernel_rfl
@[simp] theorem Tryz.sz50 : szOf Tryz.prog 50 = 8 := by kernel_rfl
@[simp] theorem Tryz.ag50 : isAg Tryz.prog 50 = true := by kernel_rfl
@[simp] theorem Tryz.hz50 : hasZ Tryz.prog 50 = true := by kernel_rfl
@[simp] theorem Tryz.zc50 : zeroC Tryz.prog 50 = [.int .i64 0, .int .i64 0, .int .i64 0, .int .i64 0, .int .i64 0, .int .i64 0, .int .i64 0, .int .i64 0] := by kernel_rfl
@[simp] theorem Tryz.by50 : byOf Tryz.prog 50 = 64 := by kernel_rfl
@[simp] theorem Tryz.st50 : isStr Tryz.prog 50 = false := by kernel_rfl
@[simp] theorem Tryz.el50 : slEl Tryz.prog 50 = none := by kernel_rfl
@[simp] theorem Tryz.zv50 : zeroV Tryz.prog 50 = .agg #[.int .i64 0, .int .i64 0, .int .i64 0, .int .i64 0, .int .i64 0, .int .i64 0, .int .i64 0, .int .i64 0] := by kernel_rfl
@[simp] theorem Tryz.fk50 : flOk Tryz.prog 50 = true := by kernel_rfl
@[simp] theorem Tryz.fl50_0 : flOf Tryz.prog 50 0 = some (0, 3) := by kernel_rfl
@[simp] theorem Tryz.fl50_1 : flOf Tryz.prog 50 1 = some (1, 3) := by kernel_rfl
@[simp] theorem Tryz.fl50_2 : flOf Tryz.prog 50 2 = some (2, 3) := by kernel_rfl
@[simp] theorem Tryz.fl50_3 : flOf Tryz.prog 50 3 = some (3, 3) := by kernel_rfl
@[simp] theorem Tryz.fl50_4 : flOf Tryz.prog 50 4 = some (4, 3) := by kernel_rfl
@[simp] theorem Tryz.fl50_5 : flOf Tryz.prog 50 5 = some (5, 3) := by kernel_rfl
@[simp] theorem Tryz.fl50_6 : flOf Tryz.prog 50 6 = some (6, 3) := by kernel_rfl
@[simp] theorem Tryz.fl50_7 : flOf Tryz.prog 50 7 = some (7, 3) := by kernel_rfl
@[simp] theorem Tryz.eq50 : eqPlan Tryz.prog 50 = some [(0, 0), (0, 1), (0, 2), (0, 3), (0, 4), (0, 5), (0, 6), (0, 7)] := by kernel_rfl
@[simp] theorem Tryz.ok51 : okT Tryz.prog 51 = true := by kernel_rfl
@[simp] theorem Tryz.sz51 : szOf Tryz.prog 51 = 8 := by kernel_rfl
@[simp] theorem Tryz.ag51 : isAg Tryz.prog 51 = true := by kernel_rfl
@[simp] theorem Tryz.hz51 : hasZ Tryz.prog 51 = true := by kernel_rfl
@[simp] theorem Tryz.zc51 : zeroC Tryz.prog 51 = [.int .i64 0, .int .i64 0, .int .i64 0, .int .i64 0, .int .i64 0, .int .i64 0, .int .i64 0, .int .i64 0] := by kernel_rfl
@[simp] theorem Tryz.by51 : byOf Tryz.prog 51 = 64 := by kernel_rfl
@[simp] theorem Tryz.st51 : isStr Tryz.prog 51 = false := by kernel_rfl
@[simp] theorem Tryz.el51 : slEl Tryz.prog 51 = none := by kernel_rfl
@[simp] theorem Tryz.zv51 : zeroV Tryz.prog 51 = .agg #[.int .i64 0, .int .i64 0, .int .i64 0, .int .i64 0, .int .i64 0, .int .i64 0, .int .i64 0, .int .i64 0] := by kernel_rfl
@[simp] theorem Tryz.fk51 : flOk Tryz.prog 51 = true := by kernel_rfl
@[simp] theorem Tryz.fl51_0 : flOf Tryz.prog 51 0 = some (0, 3) := by kernel_rfl
@[simp] theorem Tryz.fl51_1 : flOf Tryz.prog 51 1 = some (1, 3) := by kernel_rfl
@[simp] theorem Tryz.fl51_2 : flOf Tryz.prog 51 2 = some (2, 3) := by kernel_rfl
@[simp] theorem Tryz.fl51_3 : flOf Tryz.prog 51 3 = some (3, 3) := by kernel_rfl
@[simp] theorem Tryz.fl51_4 : flOf Tryz.prog 51 4 = some (4, 3) := by kernel_rfl
@[simp] theorem Tryz.fl51_5 : flOf Tryz.prog 51 5 = some (5, 3) := by kernel_rfl
@[simp] theorem Tryz.fl51_6 : flOf Tryz.prog 51 6 = some (6, 3) := by kernel_rfl
@[simp] theorem Tryz.fl51_7 : flOf Tryz.prog 51 7 = some (7, 3) := by kernel_rfl
@[simp] theorem Tryz.eq51 : eqPlan Tryz.prog 51 = some [(0, 0), (0, 1), (0, 2), (0, 3), (0, 4), (0, 5), (0, 6), (0, 7)] := by kernel_rfl
@[simp] theorem Tryz.ok52 : okT Tryz.prog 52 = true := by kernel_rfl
@[simp] theorem Tryz.sz52 : szOf Tryz.prog 52 = 5 := by kernel_rfl
@[simp] theorem Tryz.ag52 : isAg Tryz.prog 52 = true := by kernel_rfl
@[simp] theorem Tryz.hz52 : hasZ Tryz.prog 52 = true := by kernel_rfl
@[simp] theorem Tryz.zc52 : zeroC Tryz.prog 52 = [.int .i64 0, .int .i64 0, .int .i64 0, .int .i64 0, .int .i64 0] := by kernel_rfl
@[simp] theorem Tryz.by52 : byOf Tryz.prog 52 = 40 := by kernel_rfl
@[simp] theorem Tryz.st52 : isStr Tryz.prog 52 = false := by kernel_rfl
@[simp] theorem Tryz.el52 : slEl Tryz.prog 52 = none := by kernel_rfl
@[simp] theorem Tryz.zv52 : zeroV Tryz.prog 52 = .agg #[.int .i64 0, .int .i64 0, .int .i64 0, .int .i64 0, .int .i64 0] := by kernel_rfl
@[simp] theorem Tryz.fk52 : flOk Tryz.prog 52 = true := by kernel_rfl
@[simp] theorem Tryz.fl52_0 : flOf Tryz.prog 52 0 = some (0, 3) := by kernel_rfl
@[simp] theorem Tryz.fl52_1 : flOf Tryz.prog 52 1 = some (1, 3) := by kernel_rfl
@[simp] theorem Tryz.fl52_2 : flOf Tryz.prog 52 2 = some (2, 3) := by kernel_rfl
@[simp] theorem Tryz.fl52_3 : flOf Tryz.prog 52 3 = some (3, 3) := by kernel_rfl
@[simp] theorem Tryz.fl52_4 : flOf Tryz.prog 52 4 = some (4, 3) := by kernel_rfl
@[simp] theorem Tryz.eq52 : eqPlan Tryz.prog 52 = some [(0, 0), (0, 1), (0, 2), (0, 3), (0, 4)] := by kernel_rfl
@[simp] theorem Tryz.ok53 : okT Tryz.prog 53 = true := by kernel_rfl
@[simp] theorem Tryz.sz53 : szOf Tryz.prog 53 = 5 := by kernel_rfl
@[simp] theorem Tryz.ag53 : isAg Tryz.prog 53 = true := by kernel_rfl
@[simp] theorem Tryz.hz53 : hasZ Tryz.prog 53 = true := by kernel_rfl
@[simp] theorem Tryz.zc53 : zeroC Tryz.prog 53 = [.int .i64 0, .int .i64 0, .int .i64 0, .int .i64 0, .int .i64 0] := by kernel_rfl
@[simp] theorem Tryz.by53 : byOf Tryz.prog 53 = 40 := by kernel_rfl
@[simp] theorem Tryz.st53 : isStr Tryz.prog 53 = false := by kernel_rfl
@[simp] theorem Tryz.el53 : slEl Tryz.prog 53 = none := by kernel_rfl
@[simp] theorem Tryz.zv53 : zeroV Tryz.prog 53 = .agg #[.int .i64 0, .int .i64 0, .int .i64 0, .int .i64 0, .int .i64 0] := by kernel_rfl
@[simp] theorem Tryz.fk53 : flOk Tryz.prog 53 = true := by kernel_rfl
@[simp] theorem Tryz.fl53_0 : flOf Tryz.prog 53 0 = some (0, 3) := by kernel_rfl
@[simp] theorem Tryz.fl53_1 : flOf Tryz.prog 53 1 = some (1, 3) := by kernel_rfl
@[simp] theorem Tryz.fl53_2 : flOf Tryz.prog 53 2 = some (2, 3) := by kernel_rfl
@[simp] theorem Tryz.fl53_3 : flOf Tryz.prog 53 3 = some (3, 3) := by kernel_rfl
@[simp] theorem Tryz.fl53_4 : flOf Tryz.prog 53 4 = some (4, 3) := by kernel_rfl
@[simp] theorem Tryz.eq53 : eqPlan Tryz.prog 53 = some [(0, 0), (0, 1), (0, 2), (0, 3), (0, 4)] := by kernel_rfl
@[simp] theorem Tryz.ok54 : okT Tryz.prog 54 = true := by kernel_rfl
@[simp] theorem Tryz.sz54 : szOf Tryz.prog 54 = 16 := by kernel_rfl
@[simp] theorem Tryz.ag54 : isAg Tryz.prog 54 = true := by kernel_rfl
@[simp] theorem Tryz.hz54 : hasZ Tryz.prog 54 = true := by kernel_rfl
@[simp] theorem Tryz.zc54 : zeroC Tryz.prog 54 = [.int .i64 0, .string ⟨#[]⟩, .int .i64 0, .int .i64 0, .int .i64 0, .int .i64 0, .int .i64 0, .int .i64 0, .int .i64 0, .int .i64 0, .int .i64 0, .int .i64 0, .int .i64 0, .int .i64 0, .int .i64 0, .int .i64 0] := by kernel_rfl
@[simp] theorem Tryz.by54 : byOf Tryz.prog 54 = 136 := by kernel_rfl
@[simp] theorem Tryz.st54 : isStr Tryz.prog 54 = false := by kernel_rfl
@[simp] theorem Tryz.el54 : slEl Tryz.prog 54 = none := by kernel_rfl
@[simp] theorem Tryz.zv54 : zeroV Tryz.prog 54 = .agg #[.int .i64 0, .string ⟨#[]⟩, .int .i64 0, .int .i64 0, .int .i64 0, .int .i64 0, .int .i64 0, .int .i64 0, .int .i64 0, .int .i64 0, .int .i64 0, .int .i64 0, .int .i64 0, .int .i64 0, .int .i64 0, .int .i64 0] := by kernel_rfl
@[simp] theorem Tryz.fk54 : flOk Tryz.prog 54 = true := by kernel_rfl
@[simp] theorem Tryz.fl54_0 : flOf Tryz.prog 54 0 = some (0, 3) := by kernel_rfl
@[simp] theorem Tryz.fl54_1 : flOf Tryz.prog 54 1 = some (1, 9) := by kernel_rfl
@[simp] theorem Tryz.fl54_2 : flOf Tryz.prog 54 2 = some (2, 3) := by kernel_rfl
@[simp] theorem Tryz.fl54_3 : flOf Tryz.prog 54 3 = some (3, 51) := by kernel_rfl
@[simp] theorem Tryz.fl54_4 : flOf Tryz.prog 54 4 = some (11, 53) := by kernel_rfl
@[simp] theorem Tryz.eq54 : eqPlan Tryz.prog 54 = some [(0, 0), (1, 1), (0, 2), (0, 3), (0, 4), (0, 5), (0, 6), (0, 7), (0, 8), (0, 9), (0, 10), (0, 11), (0, 12), (0, 13), (0, 14), (0, 15)] := by kernel_rfl
@[simp] theorem Tryz.ok55 : okT Tryz.prog 55 = true := by kernel_rfl
@[simp] theorem Tryz.sz55 : szOf Tryz.prog 55 = 16 := by kernel_rfl
@[simp] theorem Tryz.ag55 : isAg Tryz.prog 55 = true := by kernel_rfl
@[simp] theorem Tryz.hz55 : hasZ Tryz.prog 55 = true := by kernel_rfl
@[simp] theorem Tryz.zc55 : zeroC Tryz.prog 55 = [.int .i64 0, .string ⟨#[]⟩, .int .i64 0, .int .i64 0, .int .i64 0, .int .i64 0, .int .i64 0, .int .i64 0, .int .i64 0, .int .i64 0, .int .i64 0, .int .i64 0, .int .i64 0, .int .i64 0, .int .i64 0, .int .i64 0] := by kernel_rfl
@[simp] theorem Tryz.by55 : byOf Tryz.prog 55 = 136 := by kernel_rfl
@[simp] theorem Tryz.st55 : isStr Tryz.prog 55 = false := by kernel_rfl
@[simp] theorem Tryz.el55 : slEl Tryz.prog 55 = none := by kernel_rfl
@[simp] theorem Tryz.zv55 : zeroV Tryz.prog 55 = .agg #[.int .i64 0, .string ⟨#[]⟩, .int .i64 0, .int .i64 0, .int .i64 0, .int .i64 0, .int .i64 0, .int .i64 0, .int .i64 0, .int .i64 0, .int .i64 0, .int .i64 0, .int .i64 0, .int .i64 0, .int .i64 0, .int .i64 0] := by kernel_rfl
@[simp] theorem Tryz.fk55 : flOk Tryz.prog 55 = true := by kernel_rfl
@[simp] theorem Tryz.fl55_0 : flOf Tryz.prog 55 0 = some (0, 3) := by kernel_rfl
@[simp] theorem Tryz.fl55_1 : flOf Tryz.prog 55 1 = some (1, 9) := by kernel_rfl
@[simp] theorem Tryz.fl55_2 : flOf Tryz.prog 55 2 = some (2, 3) := by kernel_rfl
@[simp] theorem Tryz.fl55_3 : flOf Tryz.prog 55 3 = some (3, 51) := by kernel_rfl
@[simp] theorem Tryz.fl55_4 : flOf Tryz.prog 55 4 = some (11, 53) := by kernel_rfl
@[simp] theorem Tryz.eq55 : eqPlan Tryz.prog 55 = some [(0, 0), (1, 1), (0, 2), (0, 3), (0, 4), (0, 5), (0, 6), (0, 7), (0, 8), (0, 9), (0, 10), (0, 11), (0, 12), (0, 13), (0, 14), (0, 15)] := by kernel_rfl
@[simp] theorem Tryz.ok58 : okT Tryz.prog 58 = true := by kernel_rfl
@[simp] theorem Tryz.sz58 : szOf Tryz.prog 58 = 8 := by kernel_rfl
@[simp] theorem Tryz.ag58 : isAg Tryz.prog 58 = true := by kernel_rfl
@[simp] theorem Tryz.hz58 : hasZ Tryz.prog 58 = true := by kernel_rfl
@[simp] theorem Tryz.zc58 : zeroC Tryz.prog 58 = [.int .i64 0, .int .i64 0, .int .i64 0, .int .i64 0, .int .i64 0, .int .i64 0, .int .i64 0, .int .i64 0] := by kernel_rfl
@[simp] theorem Tryz.by58 : byOf Tryz.prog 58 = 64 := by kernel_rfl
@[simp] theorem Tryz.st58 : isStr Tryz.prog 58 = false := by kernel_rfl
@[simp] theorem Tryz.el58 : slEl Tryz.prog 58 = none := by kernel_rfl
@[simp] theorem Tryz.zv58 : zeroV Tryz.prog 58 = .agg #[.int .i64 0, .int .i64 0, .int .i64 0, .int .i64 0, .int .i64 0, .int .i64 0, .int .i64 0, .int .i64 0] := by kernel_rfl
@[simp] theorem Tryz.fk58 : flOk Tryz.prog 58 = true := by kernel_rfl
@[simp] theorem Tryz.fl58_0 : flOf Tryz.prog 58 0 = some (0, 3) := by kernel_rfl
@[simp] theorem Tryz.fl58_1 : flOf Tryz.prog 58 1 = some (1, 3) := by kernel_rfl
@[simp] theorem Tryz.fl58_2 : flOf Tryz.prog 58 2 = some (2, 3) := by kernel_rfl
@[simp] theorem Tryz.fl58_3 : flOf Tryz.prog 58 3 = some (3, 3) := by kernel_rfl
@[simp] theorem Tryz.fl58_4 : flOf Tryz.prog 58 4 = some (4, 3) := by kernel_rfl
@[simp] theorem Tryz.fl58_5 : flOf Tryz.prog 58 5 = some (5, 3) := by kernel_rfl
@[simp] theorem Tryz.fl58_6 : flOf Tryz.prog 58 6 = some (6, 3) := by kernel_rfl
@[simp] theorem Tryz.fl58_7 : flOf Tryz.prog 58 7 = some (7, 3) := by kernel_rfl
@[simp] theorem Tryz.eq58 : eqPlan Tryz.prog 58 = some [(0, 0), (0, 1), (0, 2), (0, 3), (0, 4), (0, 5), (0, 6), (0, 7)] := by kernel_rfl
@[simp] theorem Tryz.ok59 : okT Tryz.prog 59 = true := by kernel_rfl
@[simp] theorem Tryz.sz59 : szOf Tryz.prog 59 = 5 := by kernel_rfl
@[simp] theorem Tryz.ag59 : isAg Tryz.prog 59 = true := by kernel_rfl
@[simp] theorem Tryz.hz59 : hasZ Tryz.prog 59 = true := by kernel_rfl
@[simp] theorem Tryz.zc59 : zeroC Tryz.prog 59 = [.int .i64 0, .int .i64 0, .int .i64 0, .int .i64 0, .int .i64 0] := by kernel_rfl
@[simp] theorem Tryz.by59 : byOf Tryz.prog 59 = 40 := by kernel_rfl
@[simp] theorem Tryz.st59 : isStr Tryz.prog 59 = false := by kernel_rfl
@[simp] theorem Tryz.el59 : slEl Tryz.prog 59 = none := by kernel_rfl
@[simp] theorem Tryz.zv59 : zeroV Tryz.prog 59 = .agg #[.int .i64 0, .int .i64 0, .int .i64 0, .int .i64 0, .int .i64 0] := by kernel_rfl
@[simp] theorem Tryz.fk59 : flOk Tryz.prog 59 = true := by kernel_rfl
@[simp] theorem Tryz.fl59_0 : flOf Tryz.prog 59 0 = some (0, 3) := by kernel_rfl
@[simp] theorem Tryz.fl59_1 : flOf Tryz.prog 59 1 = some (1, 3) := by kernel_rfl
@[simp] theorem Tryz.fl59_2 : flOf Tryz.prog 59 2 = some (2, 3) := by kernel_rfl
@[simp] theorem Tryz.fl59_3 : flOf Tryz.prog 59 3 = some (3, 3) := by kernel_rfl
@[simp] theorem Tryz.fl59_4 : flOf Tryz.prog 59 4 = some (4, 3) := by kernel_rfl
@[simp] theorem Tryz.eq59 : eqPlan Tryz.prog 59 = some [(0, 0), (0, 1), (0, 2), (0, 3), (0, 4)] := by kernel_rfl
@[simp] theorem Tryz.ok60 : okT Tryz.prog 60 = true := by kernel_rfl
@[simp] theorem Tryz.sz60 : szOf Tryz.prog 60 = 16 := by kernel_rfl
@[simp] theorem Tryz.ag60 : isAg Tryz.prog 60 = true := by kernel_rfl
@[simp] theorem Tryz.hz60 : hasZ Tryz.prog 60 = true := by kernel_rfl
@[simp] theorem Tryz.zc60 : zeroC Tryz.prog 60 = [.int .i64 0, .string ⟨#[]⟩, .int .i64 0, .int .i64 0, .int .i64 0, .int .i64 0, .int .i64 0, .int .i64 0, .int .i64 0, .int .i64 0, .int .i64 0, .int .i64 0, .int .i64 0, .int .i64 0, .int .i64 0, .int .i64 0] := by kernel_rfl
@[simp] theorem Tryz.by60 : byOf Tryz.prog 60 = 136 := by kernel_rfl
@[simp] theorem Tryz.st60 : isStr Tryz.prog 60 = false := by kernel_rfl
@[simp] theorem Tryz.el60 : slEl Tryz.prog 60 = none := by kernel_rfl
@[simp] theorem Tryz.zv60 : zeroV Tryz.prog 60 = .agg #[.int .i64 0, .string ⟨#[]⟩, .int .i64 0, .int .i64 0, .int .i64 0, .int .i64 0, .int .i64 0, .int .i64 0, .int .i64 0, .int .i64 0, .int .i64 0, .int .i64 0, .int .i64 0, .int .i64 0, .int .i64 0, .int .i64 0] := by kernel_rfl
@[simp] theorem Tryz.fk60 : flOk Tryz.prog 60 = true := by kernel_rfl
@[simp] theorem Tryz.fl60_0 : flOf Tryz.prog 60 0 = some (0, 3) := by kernel_rfl
@[simp] theorem Tryz.fl60_1 : flOf Tryz.prog 60 1 = some (1, 9) := by kernel_rfl
@[simp] theorem Tryz.fl60_2 : flOf Tryz.prog 60 2 = some (2, 3) := by kernel_rfl
@[simp] theorem Tryz.fl60_3 : flOf Tryz.prog 60 3 = some (3, 58) := by kernel_rfl
@[simp] theorem Tryz.fl60_4 : flOf Tryz.prog 60 4 = some (11, 59) := by kernel_rfl
@[simp] theorem Tryz.eq60 : eqPlan Tryz.prog 60 = some [(0, 0), (1, 1), (0, 2), (0, 3), (0, 4), (0, 5), (0, 6), (0, 7), (0, 8), (0, 9), (0, 10), (0, 11), (0, 12), (0, 13), (0, 14), (0, 15)] := by kernel_rfl
@[simp] theorem Tryz.ok61 : okT Tryz.prog 61 = true := by kernel_rfl
@[simp] theorem Tryz.sz61 : szOf Tryz.prog 61 = 16 := by kernel_rfl
@[simp] theorem Tryz.ag61 : isAg Tryz.prog 61 = true := by kernel_rfl
@[simp] theorem Tryz.hz61 : hasZ Tryz.prog 61 = true := by kernel_rfl
@[simp] theorem Tryz.zc61 : zeroC Tryz.prog 61 = [.int .i64 0, .string ⟨#[]⟩, .int .i64 0, .int .i64 0, .int .i64 0, .int .i64 0, .int .i64 0, .int .i64 0, .int .i64 0, .int .i64 0, .int .i64 0, .int .i64 0, .int .i64 0, .int .i64 0, .int .i64 0, .int .i64 0] := by kernel_rfl
@[simp] theorem Tryz.by61 : byOf Tryz.prog 61 = 136 := by kernel_rfl
@[simp] theorem Tryz.st61 : isStr Tryz.prog 61 = false := by kernel_rfl
@[simp] theorem Tryz.el61 : slEl Tryz.prog 61 = none := by kernel_rfl
@[simp] theorem Tryz.zv61 : zeroV Tryz.prog 61 = .agg #[.int .i64 0, .string ⟨#[]⟩, .int .i64 0, .int .i64 0, .int .i64 0, .int .i64 0, .int .i64 0, .int .i64 0, .int .i64 0, .int .i64 0, .int .i64 0, .int .i64 0, .int .i64 0, .int .i64 0, .int .i64 0, .int .i64 0] := by kernel_rfl
@[simp] theorem Tryz.fk61 : flOk Tryz.prog 61 = true := by kernel_rfl
@[simp] theorem Tryz.fl61_0 : flOf Tryz.prog 61 0 = some (0, 3) := by kernel_rfl
@[simp] theorem Tryz.fl61_1 : flOf Tryz.prog 61 1 = some (1, 9) := by kernel_rfl
@[simp] theorem Tryz.fl61_2 : flOf Tryz.prog 61 2 = some (2, 3) := by kernel_rfl
@[simp] theorem Tryz.fl61_3 : flOf Tryz.prog 61 3 = some (3, 58) := by kernel_rfl
@[simp] theorem Tryz.fl61_4 : flOf Tryz.prog 61 4 = some (11, 59) := by kernel_rfl
@[simp] theorem Tryz.eq61 : eqPlan Tryz.prog 61 = some [(0, 0), (1, 1), (0, 2), (0, 3), (0, 4), (0, 5), (0, 6), (0, 7), (0, 8), (0, 9), (0, 10), (0, 11), (0, 12), (0, 13), (0, 14), (0, 15)] := by kernel_rfl
@[simp] theorem Tryz.ok88 : okT Tryz.prog 88 = true := by kernel_rfl
@[simp] theorem Tryz.sz88 : szOf Tryz.prog 88 = 1 := by kernel_rfl
@[simp] theorem Tryz.ag88 : isAg Tryz.prog 88 = false := by kernel_rfl
@[simp] theorem Tryz.hz88 : hasZ Tryz.prog 88 = true := by kernel_rfl
@[simp] theorem Tryz.zc88 : zeroC Tryz.prog 88 = [.pointer none] := by kernel_rfl
@[simp] theorem Tryz.by88 : byOf Tryz.prog 88 = 8 := by kernel_rfl
@[simp] theorem Tryz.st88 : isStr Tryz.prog 88 = false := by kernel_rfl
@[simp] theorem Tryz.el88 : slEl Tryz.prog 88 = none := by kernel_rfl
@[simp] theorem Tryz.zv88 : zeroV Tryz.prog 88 = .pointer none := by kernel_rfl
@[simp] theorem Tryz.ok91 : okT Tryz.prog 91 = true := by kernel_rfl
@[simp] theorem Tryz.sz91 : szOf Tryz.prog 91 = 1 := by kernel_rfl
@[simp] theorem Tryz.ag91 : isAg Tryz.prog 91 = false := by kernel_rfl
@[simp] theorem Tryz.hz91 : hasZ Tryz.prog 91 = true := by kernel_rfl
@[simp] theorem Tryz.zc91 : zeroC Tryz.prog 91 = [.slice none 0 0] := by kernel_rfl
@[simp] theorem Tryz.by91 : byOf Tryz.prog 91 = 24 := by kernel_rfl
@[simp] theorem Tryz.st91 : isStr Tryz.prog 91 = false := by kernel_rfl
@[simp] theorem Tryz.el91 : slEl Tryz.prog 91 = some 5 := by kernel_rfl
@[simp] theorem Tryz.bs91 : byteSl Tryz.prog 91 = true := by kernel_rfl
@[simp] theorem Tryz.zv91 : zeroV Tryz.prog 91 = .slice none 0 0 := by kernel_rfl
@[simp] theorem Tryz.ok95 : okT Tryz.prog 95 = true := by kernel_rfl
@[simp] theorem Tryz.sz95 : szOf Tryz.prog 95 = 1 := by kernel_rfl
@[simp] theorem Tryz.ag95 : isAg Tryz.prog 95 = false := by kernel_rfl
@[simp] theorem Tryz.hz95 : hasZ Tryz.prog 95 = true := by kernel_rfl
@[simp] theorem Tryz.zc95 : zeroC Tryz.prog 95 = [.slice none 0 0] := by kernel_rfl
@[simp] theorem Tryz.by95 : byOf Tryz.prog 95 = 24 := by kernel_rfl
@[simp] theorem Tryz.st95 : isStr Tryz.prog 95 = false := by kernel_rfl
@[simp] theorem Tryz.el95 : slEl Tryz.prog 95 = some 3 := by kernel_rfl
@[simp] theorem Tryz.zv95 : zeroV Tryz.prog 95 = .slice none 0 0 := by kernel_rfl
@[simp] theorem Tryz.ok111 : okT Tryz.prog 111 = true := by kernel_rfl
@[simp] theorem Tryz.sz111 : szOf Tryz.prog 111 = 1 := by kernel_rfl
@[simp] theorem Tryz.ag111 : isAg Tryz.prog 111 = false := by kernel_rfl
@[simp] theorem Tryz.hz111 : hasZ Tryz.prog 111 = true := by kernel_rfl
@[simp] theorem Tryz.zc111 : zeroC Tryz.prog 111 = [.slice none 0 0] := by kernel_rfl
@[simp] theorem Tryz.by111 : byOf Tryz.prog 111 = 24 := by kernel_rfl
@[simp] theorem Tryz.st111 : isStr Tryz.prog 111 = false := by kernel_rfl
@[simp] theorem Tryz.el111 : slEl Tryz.prog 111 = some 9 := by kernel_rfl
@[simp] theorem Tryz.zv111 : zeroV Tryz.prog 111 = .slice none 0 0 := by kernel_rfl
@[simp] theorem Tryz.ok118 : okT Tryz.prog 118 = true := by kernel_rfl
@[simp] theorem Tryz.sz118 : szOf Tryz.prog 118 = 14 := by kernel_rfl
@[simp] theorem Tryz.ag118 : isAg Tryz.prog 118 = true := by kernel_rfl
@[simp] theorem Tryz.hz118 : hasZ Tryz.prog 118 = true := by kernel_rfl
@[simp] theorem Tryz.zc118 : zeroC Tryz.prog 118 = [.string ⟨#[]⟩, .string ⟨#[]⟩, .string ⟨#[]⟩, .string ⟨#[]⟩, .string ⟨#[]⟩, .string ⟨#[]⟩, .string ⟨#[]⟩, .string ⟨#[]⟩, .string ⟨#[]⟩, .string ⟨#[]⟩, .string ⟨#[]⟩, .string ⟨#[]⟩, .string ⟨#[]⟩, .string ⟨#[]⟩] := by kernel_rfl
@[simp] theorem Tryz.by118 : byOf Tryz.prog 118 = 224 := by kernel_rfl
@[simp] theorem Tryz.st118 : isStr Tryz.prog 118 = false := by kernel_rfl
@[simp] theorem Tryz.el118 : slEl Tryz.prog 118 = none := by kernel_rfl
@[simp] theorem Tryz.ar118 : arEl Tryz.prog 118 = some (14, 9) := by kernel_rfl
@[simp] theorem Tryz.ok125 : okT Tryz.prog 125 = true := by kernel_rfl
@[simp] theorem Tryz.sz125 : szOf Tryz.prog 125 = 1 := by kernel_rfl
@[simp] theorem Tryz.ag125 : isAg Tryz.prog 125 = false := by kernel_rfl
@[simp] theorem Tryz.hz125 : hasZ Tryz.prog 125 = true := by kernel_rfl
@[simp] theorem Tryz.zc125 : zeroC Tryz.prog 125 = [.int .u64 0] := by kernel_rfl
@[simp] theorem Tryz.by125 : byOf Tryz.prog 125 = 8 := by kernel_rfl
@[simp] theorem Tryz.st125 : isStr Tryz.prog 125 = false := by kernel_rfl
@[simp] theorem Tryz.ik125 : inK Tryz.prog 125 = some .u64 := by kernel_rfl
@[simp] theorem Tryz.el125 : slEl Tryz.prog 125 = none := by kernel_rfl
@[simp] theorem Tryz.zv125 : zeroV Tryz.prog 125 = .int .u64 0 := by kernel_rfl
@[simp] theorem Tryz.ok133 : okT Tryz.prog 133 = true := by kernel_rfl
@[simp] theorem Tryz.sz133 : szOf Tryz.prog 133 = 1 := by kernel_rfl
@[simp] theorem Tryz.ag133 : isAg Tryz.prog 133 = false := by kernel_rfl
@[simp] theorem Tryz.hz133 : hasZ Tryz.prog 133 = true := by kernel_rfl
@[simp] theorem Tryz.zc133 : zeroC Tryz.prog 133 = [.int .u32 0] := by kernel_rfl
@[simp] theorem Tryz.by133 : byOf Tryz.prog 133 = 4 := by kernel_rfl
@[simp] theorem Tryz.st133 : isStr Tryz.prog 133 = false := by kernel_rfl
@[simp] theorem Tryz.ik133 : inK Tryz.prog 133 = some .u32 := by kernel_rfl
@[simp] theorem Tryz.el133 : slEl Tryz.prog 133 = none := by kernel_rfl
@[simp] theorem Tryz.zv133 : zeroV Tryz.prog 133 = .int .u32 0 := by kernel_rfl
@[simp] theorem Tryz.ok137 : okT Tryz.prog 137 = true := by kernel_rfl
@[simp] theorem Tryz.sz137 : szOf Tryz.prog 137 = 1 := by kernel_rfl
@[simp] theorem Tryz.ag137 : isAg Tryz.prog 137 = false := by kernel_rfl
@[simp] theorem Tryz.hz137 : hasZ Tryz.prog 137 = true := by kernel_rfl
@[simp] theorem Tryz.zc137 : zeroC Tryz.prog 137 = [.pointer none] := by kernel_rfl
@[simp] theorem Tryz.by137 : byOf Tryz.prog 137 = 8 := by kernel_rfl
@[simp] theorem Tryz.st137 : isStr Tryz.prog 137 = false := by kernel_rfl
@[simp] theorem Tryz.el137 : slEl Tryz.prog 137 = none := by kernel_rfl
@[simp] theorem Tryz.zv137 : zeroV Tryz.prog 137 = .pointer none := by kernel_rfl
theorem Tryz.mix : Tryz.prog.follows .mixedOrders = true := by kernel_rfl
end Go.Proofs
