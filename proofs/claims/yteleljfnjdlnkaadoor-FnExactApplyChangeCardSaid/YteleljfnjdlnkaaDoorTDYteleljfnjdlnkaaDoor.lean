/-
  What is proved here: facts on the types of the program. Condition: none.
-/
import Derived.Test.YteleljfnjdlnkaaDoorAbsD
import Derived.Test.YteleljfnjdlnkaaDoorProg
import Derived.KernelRfl
namespace Go.Proofs
open Go.Abs
@[simp] theorem Tryd.ok2 : okT Tryd.prog 2 = true := by kernel_rfl
@[simp] theorem Tryd.sz2 : szOf Tryd.prog 2 = 1 := by kernel_rfl
@[simp] theorem Tryd.ag2 : isAg Tryd.prog 2 = false := by kernel_rfl
@[simp] theorem Tryd.hz2 : hasZ Tryd.prog 2 = true := by kernel_rfl
@[simp] theorem Tryd.zc2 : zeroC Tryd.prog 2 = [.int .i64 0] := by kernel_rfl
@[simp] theorem Tryd.by2 : byOf Tryd.prog 2 = 8 := by kernel_rfl
@[simp] theorem Tryd.st2 : isStr Tryd.prog 2 = false := by kernel_rfl
@[simp] theorem Tryd.ik2 : inK Tryd.prog 2 = some .i64 := by kernel_rfl
@[simp] theorem Tryd.el2 : slEl Tryd.prog 2 = none := by kernel_rfl
@[simp] theorem Tryd.zv2 : zeroV Tryd.prog 2 = .int .i64 0 := by kernel_rfl
@[simp] theorem Tryd.ok3 : okT Tryd.prog 3 = true := by kernel_rfl
@[simp] theorem Tryd.sz3 : szOf Tryd.prog 3 = 1 := by kernel_rfl
@[simp] theorem Tryd.ag3 : isAg Tryd.prog 3 = false := by kernel_rfl
@[simp] theorem Tryd.hz3 : hasZ Tryd.prog 3 = true := by kernel_rfl
@[simp] theorem Tryd.zc3 : zeroC Tryd.prog 3 = [.int .i64 0] := by kernel_rfl
@[simp] theorem Tryd.by3 : byOf Tryd.prog 3 = 8 := by kernel_rfl
@[simp] theorem Tryd.st3 : isStr Tryd.prog 3 = false := by kernel_rfl
@[simp] theorem Tryd.ik3 : inK Tryd.prog 3 = some .i64 := by kernel_rfl
@[simp] theorem Tryd.el3 : slEl Tryd.prog 3 = none := by kernel_rfl
@[simp] theorem Tryd.zv3 : zeroV Tryd.prog 3 = .int .i64 0 := by kernel_rfl
@[simp] theorem Tryd.ok4 : okT Tryd.prog 4 = true := by kernel_rfl
@[simp] theorem Tryd.sz4 : szOf Tryd.prog 4 = 1 := by kernel_rfl
@[simp] theorem Tryd.ag4 : isAg Tryd.prog 4 = false := by kernel_rfl
@[simp] theorem Tryd.hz4 : hasZ Tryd.prog 4 = true := by kernel_rfl
@[simp] theorem Tryd.zc4 : zeroC Tryd.prog 4 = [.bool false] := by kernel_rfl
@[simp] theorem Tryd.by4 : byOf Tryd.prog 4 = 1 := by kernel_rfl
@[simp] theorem Tryd.st4 : isStr Tryd.prog 4 = false := by kernel_rfl
@[simp] theorem Tryd.un4 : Tryd.prog.underlying 4 = some .bool := by kernel_rfl
@[simp] theorem Tryd.el4 : slEl Tryd.prog 4 = none := by kernel_rfl
@[simp] theorem Tryd.zv4 : zeroV Tryd.prog 4 = .bool false := by kernel_rfl
@[simp] theorem Tryd.ok5 : okT Tryd.prog 5 = true := by kernel_rfl
@[simp] theorem Tryd.sz5 : szOf Tryd.prog 5 = 1 := by kernel_rfl
@[simp] theorem Tryd.ag5 : isAg Tryd.prog 5 = false := by kernel_rfl
@[simp] theorem Tryd.hz5 : hasZ Tryd.prog 5 = true := by kernel_rfl
@[simp] theorem Tryd.zc5 : zeroC Tryd.prog 5 = [.int .u8 0] := by kernel_rfl
@[simp] theorem Tryd.by5 : byOf Tryd.prog 5 = 1 := by kernel_rfl
@[simp] theorem Tryd.st5 : isStr Tryd.prog 5 = false := by kernel_rfl
@[simp] theorem Tryd.ik5 : inK Tryd.prog 5 = some .u8 := by kernel_rfl
@[simp] theorem Tryd.el5 : slEl Tryd.prog 5 = none := by kernel_rfl
@[simp] theorem Tryd.zv5 : zeroV Tryd.prog 5 = .int .u8 0 := by kernel_rfl
@[simp] theorem Tryd.ok9 : okT Tryd.prog 9 = true := by kernel_rfl
@[simp] theorem Tryd.sz9 : szOf Tryd.prog 9 = 1 := by kernel_rfl
@[simp] theorem Tryd.ag9 : isAg Tryd.prog 9 = false := by kernel_rfl
@[simp] theorem Tryd.hz9 : hasZ Tryd.prog 9 = true := by kernel_rfl
@[simp] theorem Tryd.zc9 : zeroC Tryd.prog 9 = [.string ⟨#[]⟩] := by kernel_rfl
@[simp] theorem Tryd.by9 : byOf Tryd.prog 9 = 16 := by kernel_rfl
@[simp] theorem Tryd.st9 : isStr Tryd.prog 9 = true := by kernel_rfl
@[simp] theorem Tryd.el9 : slEl Tryd.prog 9 = none := by kernel_rfl
@[simp] theorem Tryd.zv9 : zeroV Tryd.prog 9 = .string ⟨#[]⟩ := by kernel_rfl
@[simp] theorem Tryd.ok12 : okT Tryd.prog 12 = true := by kernel_rfl
@[simp] theorem Tryd.sz12 : szOf Tryd.prog 12 = 1 := by kernel_rfl
@[simp] theorem Tryd.ag12 : isAg Tryd.prog 12 = false := by kernel_rfl
@[simp] theorem Tryd.hz12 : hasZ Tryd.prog 12 = true := by kernel_rfl
@[simp] theorem Tryd.zc12 : zeroC Tryd.prog 12 = [.int .u64 0] := by kernel_rfl
@[simp] theorem Tryd.by12 : byOf Tryd.prog 12 = 8 := by kernel_rfl
@[simp] theorem Tryd.st12 : isStr Tryd.prog 12 = false := by kernel_rfl
@[simp] theorem Tryd.ik12 : inK Tryd.prog 12 = some .u64 := by kernel_rfl
@[simp] theorem Tryd.el12 : slEl Tryd.prog 12 = none := by kernel_rfl
@[simp] theorem Tryd.zv12 : zeroV Tryd.prog 12 = .int .u64 0 := by kernel_rfl
@[simp] theorem Tryd.ok21 : okT Tryd.prog 21 = true := by kernel_rfl
@[simp] theorem Tryd.sz21 : szOf Tryd.prog 21 = 1 := by kernel_rfl
@[simp] theorem Tryd.ag21 : isAg Tryd.prog 21 = false := by kernel_rfl
@[simp] theorem Tryd.hz21 : hasZ Tryd.prog 21 = true := by kernel_rfl
@[simp] theorem Tryd.zc21 : zeroC Tryd.prog 21 = [.int .i32 0] := by kernel_rfl
@[simp] theorem Tryd.by21 : byOf Tryd.prog 21 = 4 := by kernel_rfl
@[simp] theorem Tryd.st21 : isStr Tryd.prog 21 = false := by kernel_rfl
@[simp] theorem Tryd.ik21 : inK Tryd.prog 21 = some .i32 := by kernel_rfl
@[simp] theorem Tryd.el21 : slEl Tryd.prog 21 = none := by kernel_rfl
@[simp] theorem Tryd.zv21 : zeroV Tryd.prog 21 = .int .i32 0 := by kernel_rfl
@[simp] theorem Tryd.ok22 : okT Tryd.prog 22 = true := by kernel_rfl
@[simp] theorem Tryd.sz22 : szOf Tryd.prog 22 = 1 := by kernel_rfl
@[simp] theorem Tryd.ag22 : isAg Tryd.prog 22 = false := by kernel_rfl
@[simp] theorem Tryd.hz22 : hasZ Tryd.prog 22 = true := by kernel_rfl
@[simp] theorem Tryd.zc22 : zeroC Tryd.prog 22 = [.slice none 0 0] := by kernel_rfl
@[simp] theorem Tryd.by22 : byOf Tryd.prog 22 = 24 := by kernel_rfl
@[simp] theorem Tryd.st22 : isStr Tryd.prog 22 = false := by kernel_rfl
@[simp] theorem Tryd.el22 : slEl Tryd.prog 22 = some 27 := by kernel_rfl
@[simp] theorem Tryd.zv22 : zeroV Tryd.prog 22 = .slice none 0 0 := by kernel_rfl
@[simp] theorem Tryd.ok23 : okT Tryd.prog 23 = true := by kernel_rfl
@[simp] theorem Tryd.sz23 : szOf Tryd.prog 23 = 1 := by kernel_rfl
@[simp] theorem Tryd.ag23 : isAg Tryd.prog 23 = false := by kernel_rfl
@[simp] theorem Tryd.hz23 : hasZ Tryd.prog 23 = true := by kernel_rfl
@[simp] theorem Tryd.zc23 : zeroC Tryd.prog 23 = [.slice none 0 0] := by kernel_rfl
@[simp] theorem Tryd.by23 : byOf Tryd.prog 23 = 24 := by kernel_rfl
@[simp] theorem Tryd.st23 : isStr Tryd.prog 23 = false := by kernel_rfl
@[simp] theorem Tryd.el23 : slEl Tryd.prog 23 = some 29 := by kernel_rfl
@[simp] theorem Tryd.zv23 : zeroV Tryd.prog 23 = .slice none 0 0 := by kernel_rfl
@[simp] theorem Tryd.ok24 : okT Tryd.prog 24 = true := by kernel_rfl
@[simp] theorem Tryd.sz24 : szOf Tryd.prog 24 = 4 := by kernel_rfl
@[simp] theorem Tryd.ag24 : isAg Tryd.prog 24 = true := by kernel_rfl
@[simp] theorem Tryd.hz24 : hasZ Tryd.prog 24 = true := by kernel_rfl
@[simp] theorem Tryd.zc24 : zeroC Tryd.prog 24 = [.string ⟨#[]⟩, .slice none 0 0, .slice none 0 0, .int .i64 0] := by kernel_rfl
@[simp] theorem Tryd.by24 : byOf Tryd.prog 24 = 72 := by kernel_rfl
@[simp] theorem Tryd.st24 : isStr Tryd.prog 24 = false := by kernel_rfl
@[simp] theorem Tryd.el24 : slEl Tryd.prog 24 = none := by kernel_rfl
@[simp] theorem Tryd.zv24 : zeroV Tryd.prog 24 = .agg #[.string ⟨#[]⟩, .slice none 0 0, .slice none 0 0, .int .i64 0] := by kernel_rfl
@[simp] theorem Tryd.fk24 : flOk Tryd.prog 24 = true := by kernel_rfl
@[simp] theorem Tryd.fl24_0 : flOf Tryd.prog 24 0 = some (0, 9) := by kernel_rfl
@[simp] theorem Tryd.fl24_1 : flOf Tryd.prog 24 1 = some (1, 22) := by kernel_rfl
@[simp] theorem Tryd.fl24_2 : flOf Tryd.prog 24 2 = some (2, 23) := by kernel_rfl
@[simp] theorem Tryd.fl24_3 : flOf Tryd.prog 24 3 = some (3, 3) := by kernel_rfl
@[simp] theorem Tryd.ok25 : okT Tryd.prog 25 = true := by kernel_rfl
@[simp] theorem Tryd.sz25 : szOf Tryd.prog 25 = 4 := by kernel_rfl
@[simp] theorem Tryd.ag25 : isAg Tryd.prog 25 = true := by kernel_rfl
@[simp] theorem Tryd.hz25 : hasZ Tryd.prog 25 = true := by kernel_rfl
@[simp] theorem Tryd.zc25 : zeroC Tryd.prog 25 = [.string ⟨#[]⟩, .slice none 0 0, .slice none 0 0, .int .i64 0] := by kernel_rfl
@[simp] theorem Tryd.by25 : byOf Tryd.prog 25 = 72 := by kernel_rfl
@[simp] theorem Tryd.st25 : isStr Tryd.prog 25 = false := by kernel_rfl
@[simp] theorem Tryd.el25 : slEl Tryd.prog 25 = none := by kernel_rfl
@[simp] theorem Tryd.zv25 : zeroV Tryd.prog 25 = .agg #[.string ⟨#[]⟩, .slice none 0 0, .slice none 0 0, .int .i64 0] := by kernel_rfl
@[simp] theorem Tryd.fk25 : flOk Tryd.prog 25 = true := by kernel_rfl
@[simp] theorem Tryd.fl25_0 : flOf Tryd.prog 25 0 = some (0, 9) := by kernel_rfl
@[simp] theorem Tryd.fl25_1 : flOf Tryd.prog 25 1 = some (1, 22) := by kernel_rfl
@[simp] theorem Tryd.fl25_2 : flOf Tryd.prog 25 2 = some (2, 23) := by kernel_rfl
@[simp] theorem Tryd.fl25_3 : flOf Tryd.prog 25 3 = some (3, 3) := by kernel_rfl
@[simp] theorem Tryd.ok26 : okT Tryd.prog 26 = true := by kernel_rfl
@[simp] theorem Tryd.sz26 : szOf Tryd.prog 26 = 8 := by kernel_rfl
@[simp] theorem Tryd.ag26 : isAg Tryd.prog 26 = true := by kernel_rfl
@[simp] theorem Tryd.hz26 : hasZ Tryd.prog 26 = true := by kernel_rfl
@[simp] theorem Tryd.zc26 : zeroC Tryd.prog 26 = [.int .i64 0, .int .i64 0, .int .i64 0, .int .i64 0, .int .i64 0, .int .i64 0, .int .i64 0, .int .i64 0] := by kernel_rfl
@[simp] theorem Tryd.by26 : byOf Tryd.prog 26 = 64 := by kernel_rfl
@[simp] theorem Tryd.st26 : isStr Tryd.prog 26 = false := by kernel_rfl
@[simp] theorem Tryd.el26 : slEl Tryd.prog 26 = none := by kernel_rfl
@[simp] theorem Tryd.zv26 : zeroV Tryd.prog 26 = .agg #[.int .i64 0, .int .i64 0, .int .i64 0, .int .i64 0, .int .i64 0, .int .i64 0, .int .i64 0, .int .i64 0] := by kernel_rfl
@[simp] theorem Tryd.fk26 : flOk Tryd.prog 26 = true := by kernel_rfl
@[simp] theorem Tryd.fl26_0 : flOf Tryd.prog 26 0 = some (0, 3) := by kernel_rfl
@[simp] theorem Tryd.fl26_1 : flOf Tryd.prog 26 1 = some (1, 3) := by kernel_rfl
@[simp] theorem Tryd.fl26_2 : flOf Tryd.prog 26 2 = some (2, 3) := by kernel_rfl
@[simp] theorem Tryd.fl26_3 : flOf Tryd.prog 26 3 = some (3, 3) := by kernel_rfl
@[simp] theorem Tryd.fl26_4 : flOf Tryd.prog 26 4 = some (4, 3) := by kernel_rfl
@[simp] theorem Tryd.fl26_5 : flOf Tryd.prog 26 5 = some (5, 3) := by kernel_rfl
@[simp] theorem Tryd.fl26_6 : flOf Tryd.prog 26 6 = some (6, 3) := by kernel_rfl
@[simp] theorem Tryd.fl26_7 : flOf Tryd.prog 26 7 = some (7, 3) := by kernel_rfl
@[simp] theorem Tryd.eq26 : eqPlan Tryd.prog 26 = some [(0, 0), (0, 1), (0, 2), (0, 3), (0, 4), (0, 5), (0, 6), (0, 7)] := by kernel_rfl
@[simp] theorem Tryd.ok27 : okT Tryd.prog 27 = true := by kernel_rfl
@[simp] theorem Tryd.sz27 : szOf Tryd.prog 27 = 8 := by kernel_rfl
@[simp] theorem Tryd.ag27 : isAg Tryd.prog 27 = true := by kernel_rfl
@[simp] theorem Tryd.hz27 : hasZ Tryd.prog 27 = true := by kernel_rfl
@[simp] theorem Tryd.zc27 : zeroC Tryd.prog 27 = [.int .i64 0, .int .i64 0, .int .i64 0, .int .i64 0, .int .i64 0, .int .i64 0, .int .i64 0, .int .i64 0] := by kernel_rfl
@[simp] theorem Tryd.by27 : byOf Tryd.prog 27 = 64 := by kernel_rfl
@[simp] theorem Tryd.st27 : isStr Tryd.prog 27 = false := by kernel_rfl
@[simp] theorem Tryd.el27 : slEl Tryd.prog 27 = none := by kernel_rfl
@[simp] theorem Tryd.zv27 : zeroV Tryd.prog 27 = .agg #[.int .i64 0, .int .i64 0, .int .i64 0, .int .i64 0, .int .i64 0, .int .i64 0, .int .i64 0, .int .i64 0] := by kernel_rfl
@[simp] theorem Tryd.fk27 : flOk Tryd.prog 27 = true := by kernel_rfl
@[simp] theorem Tryd.fl27_0 : flOf Tryd.prog 27 0 = some (0, 3) := by kernel_rfl
@[simp] theorem Tryd.fl27_1 : flOf Tryd.prog 27 1 = some (1, 3) := by kernel_rfl
@[simp] theorem Tryd.fl27_2 : flOf Tryd.prog 27 2 = some (2, 3) := by kernel_rfl
@[simp] theorem Tryd.fl27_3 : flOf Tryd.prog 27 3 = some (3, 3) := by kernel_rfl
@[simp] theorem Tryd.fl27_4 : flOf Tryd.prog 27 4 = some (4, 3) := by kernel_rfl
@[simp] theorem Tryd.fl27_5 : flOf Tryd.prog 27 5 = some (5, 3) := by kernel_rfl
@[simp] theorem Tryd.fl27_6 : flOf Tryd.prog 27 6 = some (6, 3) := by kernel_rfl
@[simp] theorem Tryd.fl27_7 : flOf Tryd.prog 27 7 = some (7, 3) := by kernel_rfl
@[simp] theorem Tryd.eq27 : eqPlan Tryd.prog 27 = some [(0, 0), (0, 1), (0, 2), (0, 3), (0, 4), (0, 5), (0, 6), (0, 7)] := by kernel_rfl
@[simp] theorem Tryd.ok28 : okT Tryd.prog 28 = true := by kernel_rfl
@[simp] theorem Tryd.sz28 : szOf Tryd.prog 28 = 5 := by kernel_rfl
@[simp] theorem Tryd.ag28 : isAg Tryd.prog 28 = true := by kernel_rfl
@[simp] theorem Tryd.hz28 : hasZ Tryd.prog 28 = true := by kernel_rfl
@[simp] theorem Tryd.zc28 : zeroC Tryd.prog 28 = [.int .i64 0, .int .i64 0, .int .i64 0, .int .i64 0, .int .i64 0] := by kernel_rfl
@[simp] theorem Tryd.by28 : byOf Tryd.prog 28 = 40 := by kernel_rfl
@[simp] theorem Tryd.st28 : isStr Tryd.prog 28 = false := by kernel_rfl
@[simp] theorem Tryd.el28 : slEl Tryd.prog 28 = none := by kernel_rfl
@[simp] theorem Tryd.zv28 : zeroV Tryd.prog 28 = .agg #[.int .i64 0, .int .i64 0, .int .i64 0, .int .i64 0, .int .i64 0] := by kernel_rfl
@[simp] theorem Tryd.fk28 : flOk Tryd.prog 28 = true := by kernel_rfl
@[simp] theorem Tryd.fl28_0 : flOf Tryd.prog 28 0 = some (0, 3) := by kernel_rfl
@[simp] theorem Tryd.fl28_1 : flOf Tryd.prog 28 1 = some (1, 3) := by kernel_rfl
@[simp] theorem Tryd.fl28_2 : flOf Tryd.prog 28 2 = some (2, 3) := by kernel_rfl
@[simp] theorem Tryd.fl28_3 : flOf Tryd.prog 28 3 = some (3, 3) := by kernel_rfl
@[simp] theorem Tryd.fl28_4 : flOf Tryd.prog 28 4 = some (4, 3) := by kernel_rfl
@[simp] theorem Tryd.eq28 : eqPlan Tryd.prog 28 = some [(0, 0), (0, 1), (0, 2), (0, 3), (0, 4)] := by kernel_rfl
@[simp] theorem Tryd.ok29 : okT Tryd.prog 29 = true := by kernel_rfl
@[simp] theorem Tryd.sz29 : szOf Tryd.prog 29 = 5 := by kernel_rfl
@[simp] theorem Tryd.ag29 : isAg Tryd.prog 29 = true := by kernel_rfl
@[simp] theorem Tryd.hz29 : hasZ Tryd.prog 29 = true := by kernel_rfl
@[simp] theorem Tryd.zc29 : zeroC Tryd.prog 29 = [.int .i64 0, .int .i64 0, .int .i64 0, .int .i64 0, .int .i64 0] := by kernel_rfl
@[simp] theorem Tryd.by29 : byOf Tryd.prog 29 = 40 := by kernel_rfl
@[simp] theorem Tryd.st29 : isStr Tryd.prog 29 = false := by kernel_rfl
@[simp] theorem Tryd.el29 : slEl Tryd.prog 29 = none := by kernel_rfl
@[simp] theorem Tryd.zv29 : zeroV Tryd.prog 29 = .agg #[.int .i64 0, .int .i64 0, .int .i64 0, .int .i64 0, .int .i64 0] := by kernel_rfl
@[simp] theorem Tryd.fk29 : flOk Tryd.prog 29 = true := by kernel_rfl
@[simp] theorem Tryd.fl29_0 : flOf Tryd.prog 29 0 = some (0, 3) := by kernel_rfl
@[simp] theorem Tryd.fl29_1 : flOf Tryd.prog 29 1 = some (1, 3) := by kernel_rfl
@[simp] theorem Tryd.fl29_2 : flOf Tryd.prog 29 2 = some (2, 3) := by kernel_rfl
@[simp] theorem Tryd.fl29_3 : flOf Tryd.prog 29 3 = some (3, 3) := by kernel_rfl
@[simp] theorem Tryd.fl29_4 : flOf Tryd.prog 29 4 = some (4, 3) := by kernel_rfl
@[simp] theorem Tryd.eq29 : eqPlan Tryd.prog 29 = some [(0, 0), (0, 1), (0, 2), (0, 3), (0, 4)] := by kernel_rfl
@[simp] theorem Tryd.ok30 : okT Tryd.prog 30 = true := by kernel_rfl
@[simp] theorem Tryd.sz30 : szOf Tryd.prog 30 = 16 := by kernel_rfl
@[simp] theorem Tryd.ag30 : isAg Tryd.prog 30 = true := by kernel_rfl
@[simp] theorem Tryd.hz30 : hasZ Tryd.prog 30 = true := by kernel_rfl
@[simp] theorem Tryd.zc30 : zeroC Tryd.prog 30 = [.int .i64 0, .string ⟨#[]⟩, .int .i64 0, .int .i64 0, .int .i64 0, .int .i64 0, .int .i64 0, .int .i64 0, .int .i64 0, .int .i64 0, .int .i64 0, .int .i64 0, .int .i64 0, .int .i64 0, .int .i64 0, .int .i64 0] := by kernel_rfl
@[simp] theorem Tryd.by30 : byOf Tryd.prog 30 = 136 := by kernel_rfl
@[simp] theorem Tryd.st30 : isStr Tryd.prog 30 = false := by kernel_rfl
@[simp] theorem Tryd.el30 : slEl Tryd.prog 30 = none := by kernel_rfl
@[simp] theorem Tryd.zv30 : zeroV Tryd.prog 30 = .agg #[.int .i64 0, .string ⟨#[]⟩, .int .i64 0, .int .i64 0, .int .i64 0, .int .i64 0, .int .i64 0, .int .i64 0, .int .i64 0, .int .i64 0, .int .i64 0, .int .i64 0, .int .i64 0, .int .i64 0, .int .i64 0, .int .i64 0] := by kernel_rfl
@[simp] theorem Tryd.fk30 : flOk Tryd.prog 30 = true := by kernel_rfl
@[simp] theorem Tryd.fl30_0 : flOf Tryd.prog 30 0 = some (0, 3) := by kernel_rfl
@[simp] theorem Tryd.fl30_1 : flOf Tryd.prog 30 1 = some (1, 9) := by kernel_rfl
@[simp] theorem Tryd.fl30_2 : flOf Tryd.prog 30 2 = some (2, 3) := by kernel_rfl
@[simp] theorem Tryd.fl30_3 : flOf Tryd.prog 30 3 = some (3, 27) := by kernel_rfl
@[simp] theorem Tryd.fl30_4 : flOf Tryd.prog 30 4 = some (11, 29) := by kernel_rfl
@[simp] theorem Tryd.eq30 : eqPlan Tryd.prog 30 = some [(0, 0), (1, 1), (0, 2), (0, 3), (0, 4), (0, 5), (0, 6), (0, 7), (0, 8), (0, 9), (0, 10), (0, 11), (0, 12), (0, 13), (0, 14), (0, 15)] := by kernel_rfl
@[simp] theorem Tryd.ok31 : okT Tryd.prog 31 = true := by kernel_rfl
@[simp] theorem Tryd.sz31 : szOf Tryd.prog 31 = 16 := by kernel_rfl
@[simp] theorem Tryd.ag31 : isAg Tryd.prog 31 = true := by kernel_rfl
@[simp] theorem Tryd.hz31 : hasZ Tryd.prog 31 = true := by kernel_rfl
@[simp] theorem Tryd.zc31 : zeroC Tryd.prog 31 = [.int .i64 0, .string ⟨#[]⟩, .int .i64 0, .int .i64 0, .int .i64 0, .int .i64 0, .int .i64 0, .int .i64 0, .int .i64 0, .int .i64 0, .int .i64 0, .int .i64 0, .int .i64 0, .int .i64 0, .int .i64 0, .int .i64 0] := by kernel_rfl
@[simp] theorem Tryd.by31 : byOf Tryd.prog 31 = 136 := by kernel_rfl
@[simp] theorem Tryd.st31 : isStr Tryd.prog 31 = false := by kernel_rfl
@[simp] theorem Tryd.el31 : slEl Tryd.prog 31 = none := by kernel_rfl
@[simp] theorem Tryd.zv31 : zeroV Tryd.prog 31 = .agg #[.int .i64 0, .string ⟨#[]⟩, .int .i64 0, .int .i64 0, .int .i64 0, .int .i64 0, .int .i64 0, .int .i64 0, .int .i64 0, .int .i64 0, .int .i64 0, .int .i64 0, .int .i64 0, .int .i64 0, .int .i64 0, .int .i64 0] := by kernel_rfl
@[simp] theorem Tryd.fk31 : flOk Tryd.prog 31 = true := by kernel_rfl
@[simp] theorem Tryd.fl31_0 : flOf Tryd.prog 31 0 = some (0, 3) := by kernel_rfl
@[simp] theorem Tryd.fl31_1 : flOf Tryd.prog 31 1 = some (1, 9) := by kernel_rfl
@[simp] theorem Tryd.fl31_2 : flOf Tryd.prog 31 2 = some (2, 3) := by kernel_rfl
@[simp] theorem Tryd.fl31_3 : flOf Tryd.prog 31 3 = some (3, 27) := by kernel_rfl
@[simp] theorem Tryd.fl31_4 : flOf Tryd.prog 31 4 = some (11, 29) := by kernel_rfl
@[simp] theorem Tryd.eq31 : eqPlan Tryd.prog 31 = some [(0, 0), (1, 1), (0, 2), (0, 3), (0, 4), (0, 5), (0, 6), (0, 7), (0, 8), (0, 9), (0, 10), (0, 11), (0, 12), (0, 13), (0, 14), (0, 15)] := by kernel_rfl
@[simp] theorem Tryd.ok34 : okT Tryd.prog 34 = true := by kernel_rfl
@[simp] theorem Tryd.sz34 : szOf Tryd.prog 34 = 1 := by kernel_rfl
@[simp] theorem Tryd.ag34 : isAg Tryd.prog 34 = false := by kernel_rfl
@[simp] theorem Tryd.hz34 : hasZ Tryd.prog 34 = true := by kernel_rfl
@[simp] theorem Tryd.zc34 : zeroC Tryd.prog 34 = [.slice none 0 0] := by kernel_rfl
@[simp] theorem Tryd.by34 : byOf Tryd.prog 34 = 24 := by kernel_rfl
@[simp] theorem Tryd.st34 : isStr Tryd.prog 34 = false := by kernel_rfl
@[simp] theorem Tryd.el34 : slEl Tryd.prog 34 = some 41 := by kernel_rfl
@[simp] theorem Tryd.zv34 : zeroV Tryd.prog 34 = .slice none 0 0 := by kernel_rfl
@[simp] theorem Tryd.ok35 : okT Tryd.prog 35 = true := by kernel_rfl
@[simp] theorem Tryd.sz35 : szOf Tryd.prog 35 = 1 := by kernel_rfl
@[simp] theorem Tryd.ag35 : isAg Tryd.prog 35 = false := by kernel_rfl
@[simp] theorem Tryd.hz35 : hasZ Tryd.prog 35 = true := by kernel_rfl
@[simp] theorem Tryd.zc35 : zeroC Tryd.prog 35 = [.slice none 0 0] := by kernel_rfl
@[simp] theorem Tryd.by35 : byOf Tryd.prog 35 = 24 := by kernel_rfl
@[simp] theorem Tryd.st35 : isStr Tryd.prog 35 = false := by kernel_rfl
@[simp] theorem Tryd.el35 : slEl Tryd.prog 35 = some 42 := by kernel_rfl
@[simp] theorem Tryd.zv35 : zeroV Tryd.prog 35 = .slice none 0 0 := by kernel_rfl
@[simp] theorem Tryd.ok36 : okT Tryd.prog 36 = true := by kernel_rfl
@[simp] theorem Tryd.sz36 : szOf Tryd.prog 36 = 4 := by kernel_rfl
@[simp] theorem Tryd.ag36 : isAg Tryd.prog 36 = true := by kernel_rfl
@[simp] theorem Tryd.hz36 : hasZ Tryd.prog 36 = true := by kernel_rfl
@[simp] theorem Tryd.zc36 : zeroC Tryd.prog 36 = [.string ⟨#[]⟩, .slice none 0 0, .slice none 0 0, .int .i64 0] := by kernel_rfl
@[simp] theorem Tryd.by36 : byOf Tryd.prog 36 = 72 := by kernel_rfl
@[simp] theorem Tryd.st36 : isStr Tryd.prog 36 = false := by kernel_rfl
@[simp] theorem Tryd.el36 : slEl Tryd.prog 36 = none := by kernel_rfl
@[simp] theorem Tryd.zv36 : zeroV Tryd.prog 36 = .agg #[.string ⟨#[]⟩, .slice none 0 0, .slice none 0 0, .int .i64 0] := by kernel_rfl
@[simp] theorem Tryd.fk36 : flOk Tryd.prog 36 = true := by kernel_rfl
@[simp] theorem Tryd.fl36_0 : flOf Tryd.prog 36 0 = some (0, 9) := by kernel_rfl
@[simp] theorem Tryd.fl36_1 : flOf Tryd.prog 36 1 = some (1, 34) := by kernel_rfl
@[simp] theorem Tryd.fl36_2 : flOf Tryd.prog 36 2 = some (2, 35) := by kernel_rfl
@[simp] theorem Tryd.fl36_3 : flOf Tryd.prog 36 3 = some (3, 3) := by kernel_rfl
@[simp] theorem Tryd.ok37 : okT Tryd.prog 37 = true := by kernel_rfl
@[simp] theorem Tryd.sz37 : szOf Tryd.prog 37 = 4 := by kernel_rfl
@[simp] theorem Tryd.ag37 : isAg Tryd.prog 37 = true := by kernel_rfl
@[simp] theorem Tryd.hz37 : hasZ Tryd.prog 37 = true := by kernel_rfl
@[simp] theorem Tryd.zc37 : zeroC Tryd.prog 37 = [.string ⟨#[]⟩, .slice none 0 0, .slice none 0 0, .int .i64 0] := by kernel_rfl
@[simp] theorem Tryd.by37 : byOf Tryd.prog 37 = 72 := by kernel_rfl
@[simp] theorem Tryd.st37 : isStr Tryd.prog 37 = false := by kernel_rfl
@[simp] theorem Tryd.el37 : slEl Tryd.prog 37 = none := by kernel_rfl
@[simp] theorem Tryd.zv37 : zeroV Tryd.prog 37 = .agg #[.string ⟨#[]⟩, .slice none 0 0, .slice none 0 0, .int .i64 0] := by kernel_rfl
@[simp] theorem Tryd.fk37 : flOk Tryd.prog 37 = true := by kernel_rfl
@[simp] theorem Tryd.fl37_0 : flOf Tryd.prog 37 0 = some (0, 9) := by kernel_rfl
@[simp] theorem Tryd.fl37_1 : flOf Tryd.prog 37 1 = some (1, 34) := by kernel_rfl
@[simp] theorem Tryd.fl37_2 : flOf Tryd.prog 37 2 = some (2, 35) := by kernel_rfl
@[simp] theorem Tryd.fl37_3 : flOf Tryd.prog 37 3 = some (3, 3) := by kernel_rfl
@[simp] theorem Tryd.ok41 : okT Tryd.prog 41 = true := by kernel_rfl
@[simp] theorem Tryd.sz41 : szOf Tryd.prog 41 = 8 := by kernel_rfl
@[simp] theorem Tryd.ag41 : isAg Tryd.prog 41 = true := by kernel_rfl
@[simp] theorem Tryd.hz41 : hasZ Tryd.prog 41 = true := by kernel_rfl
@[simp] theorem Tryd.zc41 : zeroC Tryd.prog 41 = [.int .i64 0, .int .i64 0, .int .i64 0, .int .i64 0, .int .i64 0, .int .i64 0, .int .i64 0, .int .i64 0] := by kernel_rfl
@[simp] theorem Tryd.by41 : byOf Tryd.prog 41 = 64 := by kernel_rfl
@[simp] theorem Tryd.st41 : isStr Tryd.prog 41 = false := by kernel_rfl
@[simp] theorem Tryd.el41 : slEl Tryd.prog 41 = none := by kernel_rfl
@[simp] theorem Tryd.zv41 : zeroV Tryd.prog 41 = .agg #[.int .i64 0, .int .i64 0, .int .i64 0, .int .i64 0, .int .i64 0, .int .i64 0, .int .i64 0, .int .i64 0] := by kernel_rfl
@[simp] theorem Tryd.fk41 : flOk Tryd.prog 41 = true := by kernel_rfl
@[simp] theorem Tryd.fl41_0 : flOf Tryd.prog 41 0 = some (0, 3) := by kernel_rfl
@[simp] theorem Tryd.fl41_1 : flOf Tryd.prog 41 1 = some (1, 3) := by kernel_rfl
@[simp] theorem Tryd.fl41_2 : flOf Tryd.prog 41 2 = some (2, 3) := by kernel_rfl
@[simp] theorem Tryd.fl41_3 : flOf Tryd.prog 41 3 = some (3, 3) := by kernel_rfl
@[simp] theorem Tryd.fl41_4 : flOf Tryd.prog 41 4 = some (4, 3) := by kernel_rfl
@[simp] theorem Tryd.fl41_5 : flOf Tryd.prog 41 5 = some (5, 3) := by kernel_rfl
@[simp] theorem Tryd.fl41_6 : flOf Tryd.prog 41 6 = some (6, 3) := by kernel_rfl
@[simp] theorem Tryd.fl41_7 : flOf Tryd.prog 41 7 = some (7, 3) := by kernel_rfl
@[simp] theorem Tryd.eq41 : eqPlan Tryd.prog 41 = some [(0, 0), (0, 1), (0, 2), (0, 3), (0, 4), (0, 5), (0, 6), (0, 7)] := by kernel_rfl
@[simp] theorem Tryd.ok42 : okT Tryd.prog 42 = true := by kernel_rfl
@[simp] theorem Tryd.sz42 : szOf Tryd.prog 42 = 5 := by kernel_rfl
@[simp] theorem Tryd.ag42 : isAg Tryd.prog 42 = true := by kernel_rfl
@[simp] theorem Tryd.hz42 : hasZ Tryd.prog 42 = true := by kernel_rfl
@[simp] theorem Tryd.zc42 : zeroC Tryd.prog 42 = [.int .i64 0, .int .i64 0, .int .i64 0, .int .i64 0, .int .i64 0] := by kernel_rfl
@[simp] theorem Tryd.by42 : byOf Tryd.prog 42 = 40 := by kernel_rfl
@[simp] theorem Tryd.st42 : isStr Tryd.prog 42 = false := by kernel_rfl
@[simp] theorem Tryd.el42 : slEl Tryd.prog 42 = none := by kernel_rfl
@[simp] theorem Tryd.zv42 : zeroV Tryd.prog 42 = .agg #[.int .i64 0, .int .i64 0, .int .i64 0, .int .i64 0, .int .i64 0] := by kernel_rfl
@[simp] theorem Tryd.fk42 : flOk Tryd.prog 42 = true := by kernel_rfl
@[simp] theorem Tryd.fl42_0 : flOf Tryd.prog 42 0 = some (0, 3) := by kernel_rfl
@[simp] theorem Tryd.fl42_1 : flOf Tryd.prog 42 1 = some (1, 3) := by kernel_rfl
@[simp] theorem Tryd.fl42_2 : flOf Tryd.prog 42 2 = some (2, 3) := by kernel_rfl
@[simp] theorem Tryd.fl42_3 : flOf Tryd.prog 42 3 = some (3, 3) := by kernel_rfl
@[simp] theorem Tryd.fl42_4 : flOf Tryd.prog 42 4 = some (4, 3) := by kernel_rfl
@[simp] theorem Tryd.eq42 : eqPlan Tryd.prog 42 = some [(0, 0), (0, 1), (0, 2), (0, 3), (0, 4)] := by kernel_rfl
@[simp] theorem Tryd.ok43 : okT Tryd.prog 43 = true := by kernel_rfl
@[simp] theorem Tryd.sz43 : szOf Tryd.prog 43 = 16 := by kernel_rfl
@[simp] theorem Tryd.ag43 : isAg Tryd.prog 43 = true := by kernel_rfl
@[simp] theorem Tryd.hz43 : hasZ Tryd.prog 43 = true := by kernel_rfl
@[simp] theorem Tryd.zc43 : zeroC Tryd.prog 43 = [.int .i64 0, .string ⟨#[]⟩, .int .i64 0, .int .i64 0, .int .i64 0, .int .i64 0, .int .i64 0, .int .i64 0, .int .i64 0, .int .i64 0, .int .i64 0, .int .i64 0, .int .i64 0, .int .i64 0, .int .i64 0, .int .i64 0] := by kernel_rfl
@[simp] theorem Tryd.by43 : byOf Tryd.prog 43 = 136 := by kernel_rfl
@[simp] theorem Tryd.st43 : isStr Tryd.prog 43 = false := by kernel_rfl
@[simp] theorem Tryd.el43 : slEl Tryd.prog 43 = none := by kernel_rfl
@[simp] theorem Tryd.zv43 : zeroV Tryd.prog 43 = .agg #[.int .i64 0, .string ⟨#[]⟩, .int .i64 0, .int .i64 0, .int .i64 0, .int .i64 0, .int .i64 0, .int .i64 0, .int .i64 0, .int .i64 0, .int .i64 0, .int .i64 0, .int .i64 0, .int .i64 0, .int .i64 0, .int .i64 0] := by kernel_rfl
@[simp] theorem Tryd.fk43 : flOk Tryd.prog 43 = true := by kernel_rfl
@[simp] theorem Tryd.fl43_0 : flOf Tryd.prog 43 0 = some (0, 3) := by kernel_rfl
@[simp] theorem Tryd.fl43_1 : flOf Tryd.prog 43 1 = some (1, 9) := by kernel_rfl
@[simp] theorem Tryd.fl43_2 : flOf Tryd.prog 43 2 = some (2, 3) := by kernel_rfl
@[simp] theorem Tryd.fl43_3 : flOf Tryd.prog 43 3 = some (3, 41) := by kernel_rfl
@[simp] theorem Tryd.fl43_4 : flOf Tryd.prog 43 4 = some (11, 42) := by kernel_rfl
@[simp] theorem Tryd.eq43 : eqPlan Tryd.prog 43 = some [(0, 0), (1, 1), (0, 2), (0, 3), (0, 4), (0, 5), (0, 6), (0, 7), (0, 8), (0, 9), (0, 10), (0, 11), (0, 12), (0, 13), (0, 14), (0, 15)] := by kernel_rfl
@[simp] theorem Tryd.ok44 : okT Tryd.prog 44 = true := by kernel_rfl
@[simp] theorem Tryd.sz44 : szOf Tryd.prog 44 = 16 := by kernel_rfl
@[simp] theorem Tryd.ag44 : isAg Tryd.prog 44 = true := by kernel_rfl
@[simp] theorem Tryd.hz44 : hasZ Tryd.prog 44 = true := by kernel_rfl
@[simp] theorem Tryd.zc44 : zeroC Tryd.prog 44 = [.int .i64 0, .string ⟨#[]⟩, .int .i64 0, .int .i64 0, .int .i64 0, .int .i64 0, .int .i64 0, .int .i64 0, .int .i64 0, .int .i64 0, .int .i64 0, .int .i64 0, .int .i64 0, .int .i64 0, .int .i64 0, .int .i64 0] := by kernel_rfl
@[simp] theorem Tryd.by44 : byOf Tryd.prog 44 = 136 := by kernel_rfl
@[simp] theorem Tryd.st44 : isStr Tryd.prog 44 = false := by kernel_rfl
@[simp] theorem Tryd.el44 : slEl Tryd.prog 44 = none := by kernel_rfl
@[simp] theorem Tryd.zv44 : zeroV Tryd.prog 44 = .agg #[.int .i64 0, .string ⟨#[]⟩, .int .i64 0, .int .i64 0, .int .i64 0, .int .i64 0, .int .i64 0, .int .i64 0, .int .i64 0, .int .i64 0, .int .i64 0, .int .i64 0, .int .i64 0, .int .i64 0, .int .i64 0, .int .i64 0] := by kernel_rfl
@[simp] theorem Tryd.fk44 : flOk Tryd.prog 44 = true := by kernel_rfl
@[simp] theorem Tryd.fl44_0 : flOf Tryd.prog 44 0 = some (0, 3) := by kernel_rfl
@[simp] theorem Tryd.fl44_1 : flOf Tryd.prog 44 1 = some (1, 9) := by kernel_rfl
@[simp] theorem Tryd.fl44_2 : flOf Tryd.prog 44 2 = some (2, 3) := by kernel_rfl
@[simp] theorem Tryd.fl44_3 : flOf Tryd.prog 44 3 = some (3, 41) := by kernel_rfl
@[simp] theorem Tryd.fl44_4 : flOf Tryd.prog 44 4 = some (11, 42) := by kernel_rfl
@[simp] theorem Tryd.eq44 : eqPlan Tryd.prog 44 = some [(0, 0), (1, 1), (0, 2), (0, 3), (0, 4), (0, 5), (0, 6), (0, 7), (0, 8), (0, 9), (0, 10), (0, 11), (0, 12), (0, 13), (0, 14), (0, 15)] := by kernel_rfl
@[simp] theorem Tryd.ok72 : okT Tryd.prog 72 = true := by kernel_rfl
@[simp] theorem Tryd.sz72 : szOf Tryd.prog 72 = 1 := by kernel_rfl
@[simp] theorem Tryd.ag72 : isAg Tryd.prog 72 = false := by kernel_rfl
@[simp] theorem Tryd.hz72 : hasZ Tryd.prog 72 = true := by kernel_rfl
@[simp] theorem Tryd.zc72 : zeroC Tryd.prog 72 = [.pointer none] := by kernel_rfl
@[simp] theorem Tryd.by72 : byOf Tryd.prog 72 = 8 := by kernel_rfl
@[simp] theorem Tryd.st72 : isStr Tryd.prog 72 = false := by kernel_rfl
@[simp] theorem Tryd.el72 : slEl Tryd.prog 72 = none := by kernel_rfl
@[simp] theorem Tryd.zv72 : zeroV Tryd.prog 72 = .pointer none := by kernel_rfl
@[simp] theorem Tryd.ok86 : okT Tryd.prog 86 = true := by kernel_rfl
@[simp] theorem Tryd.sz86 : szOf Tryd.prog 86 = 1 := by kernel_rfl
@[simp] theorem Tryd.ag86 : isAg Tryd.prog 86 = false := by kernel_rfl
@[simp] theorem Tryd.hz86 : hasZ Tryd.prog 86 = true := by kernel_rfl
@[simp] theorem Tryd.zc86 : zeroC Tryd.prog 86 = [.slice none 0 0] := by kernel_rfl
@[simp] theorem Tryd.by86 : byOf Tryd.prog 86 = 24 := by kernel_rfl
@[simp] theorem Tryd.st86 : isStr Tryd.prog 86 = false := by kernel_rfl
@[simp] theorem Tryd.el86 : slEl Tryd.prog 86 = some 9 := by kernel_rfl
@[simp] theorem Tryd.zv86 : zeroV Tryd.prog 86 = .slice none 0 0 := by kernel_rfl
@[simp] theorem Tryd.ok88 : okT Tryd.prog 88 = true := by kernel_rfl
@[simp] theorem Tryd.sz88 : szOf Tryd.prog 88 = 14 := by kernel_rfl
@[simp] theorem Tryd.ag88 : isAg Tryd.prog 88 = true := by kernel_rfl
@[simp] theorem Tryd.hz88 : hasZ Tryd.prog 88 = true := by kernel_rfl
@[simp] theorem Tryd.zc88 : zeroC Tryd.prog 88 = [.string ⟨#[]⟩, .string ⟨#[]⟩, .string ⟨#[]⟩, .string ⟨#[]⟩, .string ⟨#[]⟩, .string ⟨#[]⟩, .string ⟨#[]⟩, .string ⟨#[]⟩, .string ⟨#[]⟩, .string ⟨#[]⟩, .string ⟨#[]⟩, .string ⟨#[]⟩, .string ⟨#[]⟩, .string ⟨#[]⟩] := by kernel_rfl
@[simp] theorem Tryd.by88 : byOf Tryd.prog 88 = 224 := by kernel_rfl
@[simp] theorem Tryd.st88 : isStr Tryd.prog 88 = false := by kernel_rfl
@[simp] theorem Tryd.el88 : slEl Tryd.prog 88 = none := by kernel_rfl
@[simp] theorem Tryd.ar88 : arEl Tryd.prog 88 = some (14, 9) := by kernel_rfl
@[simp] theorem Tryd.ok95 : okT Tryd.prog 95 = true := by kernel_rfl
@[simp] theorem Tryd.sz95 : szOf Tryd.prog 95 = 1 := by kernel_rfl
@[simp] theorem Tryd.ag95 : isAg Tryd.prog 95 = false := by kernel_rfl
@[simp] theorem Tryd.hz95 : hasZ Tryd.prog 95 = true := by kernel_rfl
@[simp] theorem Tryd.zc95 : zeroC Tryd.prog 95 = [.int .u64 0] := by kernel_rfl
@[simp] theorem Tryd.by95 : byOf Tryd.prog 95 = 8 := by kernel_rfl
@[simp] theorem Tryd.st95 : isStr Tryd.prog 95 = false := by kernel_rfl
@[simp] theorem Tryd.ik95 : inK Tryd.prog 95 = some .u64 := by kernel_rfl
@[simp] theorem Tryd.el95 : slEl Tryd.prog 95 = none := by kernel_rfl
@[simp] theorem Tryd.zv95 : zeroV Tryd.prog 95 = .int .u64 0 := by kernel_rfl
@[simp] theorem Tryd.ok103 : okT Tryd.prog 103 = true := by kernel_rfl
@[simp] theorem Tryd.sz103 : szOf Tryd.prog 103 = 1 := by kernel_rfl
@[simp] theorem Tryd.ag103 : isAg Tryd.prog 103 = false := by kernel_rfl
@[simp] theorem Tryd.hz103 : hasZ Tryd.prog 103 = true := by kernel_rfl
@[simp] theorem Tryd.zc103 : zeroC Tryd.prog 103 = [.int .u32 0] := by kernel_rfl
@[simp] theorem Tryd.by103 : byOf Tryd.prog 103 = 4 := by kernel_rfl
@[simp] theorem Tryd.st103 : isStr Tryd.prog 103 = false := by kernel_rfl
@[simp] theorem Tryd.ik103 : inK Tryd.prog 103 = some .u32 := by kernel_rfl
@[simp] theorem Tryd.el103 : slEl Tryd.prog 103 = none := by kernel_rfl
@[simp] theorem Tryd.zv103 : zeroV Tryd.prog 103 = .int .u32 0 := by kernel_rfl
@[simp] theorem Tryd.ok107 : okT Tryd.prog 107 = true := by kernel_rfl
@[simp] theorem Tryd.sz107 : szOf Tryd.prog 107 = 1 := by kernel_rfl
@[simp] theorem Tryd.ag107 : isAg Tryd.prog 107 = false := by kernel_rfl
@[simp] theorem Tryd.hz107 : hasZ Tryd.prog 107 = true := by kernel_rfl
@[simp] theorem Tryd.zc107 : zeroC Tryd.prog 107 = [.pointer none] := by kernel_rfl
@[simp] theorem Tryd.by107 : byOf Tryd.prog 107 = 8 := by kernel_rfl
@[simp] theorem Tryd.st107 : isStr Tryd.prog 107 = false := by kernel_rfl
@[simp] theorem Tryd.el107 : slEl Tryd.prog 107 = none := by kernel_rfl
@[simp] theorem Tryd.zv107 : zeroV Tryd.prog 107 = .pointer none := by kernel_rfl
theorem Tryd.mix : Tryd.prog.follows .mixedOrders = true := by kernel_rfl
end Go.Proofs
