/-
  What is proved here: facts on the types of the program. Condition: none.
-/
import Derived.Test.YtoefkakkcoinkaaAbs22
import Derived.Test.YtoefkakkcoinkaaProg
import Derived.KernelRfl
namespace Go.Proofs
open Go.Abs
@[simp] theorem Try.ok2 : okT Try.prog 2 = true := by kernel_rfl
@[simp] theorem Try.sz2 : szOf Try.prog 2 = 1 := by kernel_rfl
@[simp] theorem Try.ag2 : isAg Try.prog 2 = false := by kernel_rfl
@[simp] theorem Try.hz2 : hasZ Try.prog 2 = true := by kernel_rfl
@[simp] theorem Try.zc2 : zeroC Try.prog 2 = [.int .i64 0] := by kernel_rfl
@[simp] theorem Try.by2 : byOf Try.prog 2 = 8 := by kernel_rfl
@[simp] theorem Try.st2 : isStr Try.prog 2 = false := by kernel_rfl
@[simp] theorem Try.ik2 : inK Try.prog 2 = some .i64 := by kernel_rfl
@[simp] theorem Try.el2 : slEl Try.prog 2 = none := by kernel_rfl
@[simp] theorem Try.zv2 : zeroV Try.prog 2 = .int .i64 0 := by kernel_rfl
@[simp] theorem Try.ok3 : okT Try.prog 3 = true := by kernel_rfl
@[simp] theorem Try.sz3 : szOf Try.prog 3 = 1 := by kernel_rfl
@[simp] theorem Try.ag3 : isAg Try.prog 3 = false := by kernel_rfl
@[simp] theorem Try.hz3 : hasZ Try.prog 3 = true := by kernel_rfl
@[simp] theorem Try.zc3 : zeroC Try.prog 3 = [.int .i64 0] := by kernel_rfl
@[simp] theorem Try.by3 : byOf Try.prog 3 = 8 := by kernel_rfl
@[simp] theorem Try.st3 : isStr Try.prog 3 = false := by kernel_rfl
@[simp] theorem Try.ik3 : inK Try.prog 3 = some .i64 := by kernel_rfl
@[simp] theorem Try.el3 : slEl Try.prog 3 = none := by kernel_rfl
@[simp] theorem Try.zv3 : zeroV Try.prog 3 = .int .i64 0 := by kernel_rfl
@[simp] theorem Try.ok4 : okT Try.prog 4 = true := by kernel_rfl
@[simp] theorem Try.sz4 : szOf Try.prog 4 = 1 := by kernel_rfl
@[simp] theorem Try.ag4 : isAg Try.prog 4 = false := by kernel_rfl
@[simp] theorem Try.hz4 : hasZ Try.prog 4 = true := by kernel_rfl
@[simp] theorem Try.zc4 : zeroC Try.prog 4 = [.bool false] := by kernel_rfl
@[simp] theorem Try.by4 : byOf Try.prog 4 = 1 := by kernel_rfl
@[simp] theorem Try.st4 : isStr Try.prog 4 = false := by kernel_rfl
@[simp] theorem Try.un4 : Try.prog.underlying 4 = some .bool := by kernel_rfl
@[simp] theorem Try.el4 : slEl Try.prog 4 = none := by kernel_rfl
@[simp] theorem Try.zv4 : zeroV Try.prog 4 = .bool false := by kernel_rfl
@[simp] theorem Try.ok5 : okT Try.prog 5 = true := by kernel_rfl
@[simp] theorem Try.sz5 : szOf Try.prog 5 = 1 := by kernel_rfl
@[simp] theorem Try.ag5 : isAg Try.prog 5 = false := by kernel_rfl
@[simp] theorem Try.hz5 : hasZ Try.prog 5 = true := by kernel_rfl
@[simp] theorem Try.zc5 : zeroC Try.prog 5 = [.int .u8 0] := by kernel_rfl
@[simp] theorem Try.by5 : byOf Try.prog 5 = 1 := by kernel_rfl
@[simp] theorem Try.st5 : isStr Try.prog 5 = false := by kernel_rfl
@[simp] theorem Try.ik5 : inK Try.prog 5 = some .u8 := by kernel_rfl
@[simp] theorem Try.el5 : slEl Try.prog 5 = none := by kernel_rfl
@[simp] theorem Try.zv5 : zeroV Try.prog 5 = .int .u8 0 := by kernel_rfl
@[simp] theorem Try.ok9 : okT Try.prog 9 = true := by kernel_rfl
@[simp] theorem Try.sz9 : szOf Try.prog 9 = 1 := by kernel_rfl
@[simp] theorem Try.ag9 : isAg Try.prog 9 = false := by kernel_rfl
@[simp] theorem Try.hz9 : hasZ Try.prog 9 = true := by kernel_rfl
@[simp] theorem Try.zc9 : zeroC Try.prog 9 = [.string ⟨#[]⟩] := by kernel_rfl
@[simp] theorem Try.by9 : byOf Try.prog 9 = 16 := by kernel_rfl
@[simp] theorem Try.st9 : isStr Try.prog 9 = true := by kernel_rfl
@[simp] theorem Try.el9 : slEl Try.prog 9 = none := by kernel_rfl
@[simp] theorem Try.zv9 : zeroV Try.prog 9 = .string ⟨#[]⟩ := by kernel_rfl
@[simp] theorem Try.ok12 : okT Try.prog 12 = true := by kernel_rfl
@[simp] theorem Try.sz12 : szOf Try.prog 12 = 1 := by kernel_rfl
@[simp] theorem Try.ag12 : isAg Try.prog 12 = false := by kernel_rfl
@[simp] theorem Try.hz12 : hasZ Try.prog 12 = true := by kernel_rfl
@[simp] theorem Try.zc12 : zeroC Try.prog 12 = [.int .u64 0] := by kernel_rfl
@[simp] theorem Try.by12 : byOf Try.prog 12 = 8 := by kernel_rfl
@[simp] theorem Try.st12 : isStr Try.prog 12 = false := by kernel_rfl
@[simp] theorem Try.ik12 : inK Try.prog 12 = some .u64 := by kernel_rfl
@[simp] theorem Try.el12 : slEl Try.prog 12 = none := by kernel_rfl
@[simp] theorem Try.zv12 : zeroV Try.prog 12 = .int .u64 0 := by kernel_rfl
@[simp] theorem Try.ok21 : okT Try.prog 21 = true := by kernel_rfl
@[simp] theorem Try.sz21 : szOf Try.prog 21 = 1 := by kernel_rfl
@[simp] theorem Try.ag21 : isAg Try.prog 21 = false := by kernel_rfl
@[simp] theorem Try.hz21 : hasZ Try.prog 21 = true := by kernel_rfl
@[simp] theorem Try.zc21 : zeroC Try.prog 21 = [.int .i32 0] := by kernel_rfl
@[simp] theorem Try.by21 : byOf Try.prog 21 = 4 := by kernel_rfl
@[simp] theorem Try.st21 : isStr Try.prog 21 = false := by kernel_rfl
@[simp] theorem Try.ik21 : inK Try.prog 21 = some .i32 := by kernel_rfl
@[simp] theorem Try.el21 : slEl Try.prog 21 = none := by kernel_rfl
@[simp] theorem Try.zv21 : zeroV Try.prog 21 = .int .i32 0 := by kernel_rfl
@[simp] theorem Try.ok22 : okT Try.prog 22 = true := by kernel_rfl
@[simp] theorem Try.sz22 : szOf Try.prog 22 = 1 := by kernel_rfl
@[simp] theorem Try.ag22 : isAg Try.prog 22 = false := by kernel_rfl
@[simp] theorem Try.hz22 : hasZ Try.prog 22 = true := by kernel_rfl
@[simp] theorem Try.zc22 : zeroC Try.prog 22 = [.slice none 0 0] := by kernel_rfl
@[simp] theorem Try.by22 : byOf Try.prog 22 = 24 := by kernel_rfl
@[simp] theorem Try.st22 : isStr Try.prog 22 = false := by kernel_rfl
@[simp] theorem Try.el22 : slEl Try.prog 22 = some 65 := by kernel_rfl
@[simp] theorem Try.zv22 : zeroV Try.prog 22 = .slice none 0 0 := by kernel_rfl
@[simp] theorem Try.ok23 : okT Try.prog 23 = true := by kernel_rfl
@[simp] theorem Try.sz23 : szOf Try.prog 23 = 2 := by kernel_rfl
@[simp] theorem Try.ag23 : isAg Try.prog 23 = true := by kernel_rfl
@[simp] theorem Try.hz23 : hasZ Try.prog 23 = true := by kernel_rfl
@[simp] theorem Try.zc23 : zeroC Try.prog 23 = [.int .i64 0, .int .i64 0] := by kernel_rfl
@[simp] theorem Try.by23 : byOf Try.prog 23 = 16 := by kernel_rfl
@[simp] theorem Try.st23 : isStr Try.prog 23 = false := by kernel_rfl
@[simp] theorem Try.el23 : slEl Try.prog 23 = none := by kernel_rfl
@[simp] theorem Try.zv23 : zeroV Try.prog 23 = .agg #[.int .i64 0, .int .i64 0] := by kernel_rfl
@[simp] theorem Try.fk23 : flOk Try.prog 23 = true := by kernel_rfl
@[simp] theorem Try.fl23_0 : flOf Try.prog 23 0 = some (0, 3) := by kernel_rfl
@[simp] theorem Try.fl23_1 : flOf Try.prog 23 1 = some (1, 3) := by kernel_rfl
@[simp] theorem Try.eq23 : eqPlan Try.prog 23 = some [(0, 0), (0, 1)] := by kernel_rfl
@[simp] theorem Try.ok24 : okT Try.prog 24 = true := by kernel_rfl
@[simp] theorem Try.sz24 : szOf Try.prog 24 = 2 := by kernel_rfl
@[simp] theorem Try.ag24 : isAg Try.prog 24 = true := by kernel_rfl
@[simp] theorem Try.hz24 : hasZ Try.prog 24 = true := by kernel_rfl
@[simp] theorem Try.zc24 : zeroC Try.prog 24 = [.int .i64 0, .int .i64 0] := by kernel_rfl
@[simp] theorem Try.by24 : byOf Try.prog 24 = 16 := by kernel_rfl
@[simp] theorem Try.st24 : isStr Try.prog 24 = false := by kernel_rfl
@[simp] theorem Try.el24 : slEl Try.prog 24 = none := by kernel_rfl
@[simp] theorem Try.zv24 : zeroV Try.prog 24 = .agg #[.int .i64 0, .int .i64 0] := by kernel_rfl
@[simp] theorem Try.fk24 : flOk Try.prog 24 = true := by kernel_rfl
@[simp] theorem Try.fl24_0 : flOf Try.prog 24 0 = some (0, 3) := by kernel_rfl
@[simp] theorem Try.fl24_1 : flOf Try.prog 24 1 = some (1, 3) := by kernel_rfl
@[simp] theorem Try.eq24 : eqPlan Try.prog 24 = some [(0, 0), (0, 1)] := by kernel_rfl
@[simp] theorem Try.ok31 : okT Try.prog 31 = true := by kernel_rfl
@[simp] theorem Try.sz31 : szOf Try.prog 31 = 1 := by kernel_rfl
@[simp] theorem Try.ag31 : isAg Try.prog 31 = false := by kernel_rfl
@[simp] theorem Try.hz31 : hasZ Try.prog 31 = true := by kernel_rfl
@[simp] theorem Try.zc31 : zeroC Try.prog 31 = [.slice none 0 0] := by kernel_rfl
@[simp] theorem Try.by31 : byOf Try.prog 31 = 24 := by kernel_rfl
@[simp] theorem Try.st31 : isStr Try.prog 31 = false := by kernel_rfl
@[simp] theorem Try.el31 : slEl Try.prog 31 = some 73 := by kernel_rfl
@[simp] theorem Try.zv31 : zeroV Try.prog 31 = .slice none 0 0 := by kernel_rfl
@[simp] theorem Try.ok33 : okT Try.prog 33 = true := by kernel_rfl
@[simp] theorem Try.sz33 : szOf Try.prog 33 = 1 := by kernel_rfl
@[simp] theorem Try.ag33 : isAg Try.prog 33 = false := by kernel_rfl
@[simp] theorem Try.hz33 : hasZ Try.prog 33 = true := by kernel_rfl
@[simp] theorem Try.zc33 : zeroC Try.prog 33 = [.slice none 0 0] := by kernel_rfl
@[simp] theorem Try.by33 : byOf Try.prog 33 = 24 := by kernel_rfl
@[simp] theorem Try.st33 : isStr Try.prog 33 = false := by kernel_rfl
@[simp] theorem Try.el33 : slEl Try.prog 33 = some 3 := by kernel_rfl
@[simp] theorem Try.zv33 : zeroV Try.prog 33 = .slice none 0 0 := by kernel_rfl
@[simp] theorem Try.ok36 : okT Try.prog 36 = true := by kernel_rfl
@[simp] theorem Try.sz36 : szOf Try.prog 36 = 1 := by kernel_rfl
@[simp] theorem Try.ag36 : isAg Try.prog 36 = false := by kernel_rfl
@[simp] theorem Try.hz36 : hasZ Try.prog 36 = true := by kernel_rfl
@[simp] theorem Try.zc36 : zeroC Try.prog 36 = [.slice none 0 0] := by kernel_rfl
@[simp] theorem Try.by36 : byOf Try.prog 36 = 24 := by kernel_rfl
@[simp] theorem Try.st36 : isStr Try.prog 36 = false := by kernel_rfl
@[simp] theorem Try.el36 : slEl Try.prog 36 = some 71 := by kernel_rfl
@[simp] theorem Try.zv36 : zeroV Try.prog 36 = .slice none 0 0 := by kernel_rfl
@[simp] theorem Try.ok47 : okT Try.prog 47 = true := by kernel_rfl
@[simp] theorem Try.sz47 : szOf Try.prog 47 = 5 := by kernel_rfl
@[simp] theorem Try.ag47 : isAg Try.prog 47 = true := by kernel_rfl
@[simp] theorem Try.hz47 : hasZ Try.prog 47 = true := by kernel_rfl
@[simp] theorem Try.zc47 : zeroC Try.prog 47 = [.int .i64 0, .int .i64 0, .int .i64 0, .int .i64 0, .int .i64 0] := by kernel_rfl
@[simp] theorem Try.by47 : byOf Try.prog 47 = 40 := by kernel_rfl
@[simp] theorem Try.st47 : isStr Try.prog 47 = false := by kernel_rfl
@[simp] theorem Try.el47 : slEl Try.prog 47 = none := by kernel_rfl
@[simp] theorem Try.zv47 : zeroV Try.prog 47 = .agg #[.int .i64 0, .int .i64 0, .int .i64 0, .int .i64 0, .int .i64 0] := by kernel_rfl
@[simp] theorem Try.fk47 : flOk Try.prog 47 = true := by kernel_rfl
@[simp] theorem Try.fl47_0 : flOf Try.prog 47 0 = some (0, 3) := by kernel_rfl
@[simp] theorem Try.fl47_1 : flOf Try.prog 47 1 = some (1, 3) := by kernel_rfl
@[simp] theorem Try.fl47_2 : flOf Try.prog 47 2 = some (2, 3) := by kernel_rfl
@[simp] theorem Try.fl47_3 : flOf Try.prog 47 3 = some (3, 3) := by kernel_rfl
@[simp] theorem Try.fl47_4 : flOf Try.prog 47 4 = some (4, 3) := by kernel_rfl
@[simp] theorem Try.eq47 : eqPlan Try.prog 47 = some [(0, 0), (0, 1), (0, 2), (0, 3), (0, 4)] := by kernel_rfl
@[simp] theorem Try.ok48 : okT Try.prog 48 = true := by kernel_rfl
@[simp] theorem Try.sz48 : szOf Try.prog 48 = 5 := by kernel_rfl
@[simp] theorem Try.ag48 : isAg Try.prog 48 = true := by kernel_rfl
@[simp] theorem Try.hz48 : hasZ Try.prog 48 = true := by kernel_rfl
@[simp] theorem Try.zc48 : zeroC Try.prog 48 = [.int .i64 0, .int .i64 0, .int .i64 0, .int .i64 0, .int .i64 0] := by kernel_rfl
@[simp] theorem Try.by48 : byOf Try.prog 48 = 40 := by kernel_rfl
@[simp] theorem Try.st48 : isStr Try.prog 48 = false := by kernel_rfl
@[simp] theorem Try.el48 : slEl Try.prog 48 = none := by kernel_rfl
@[simp] theorem Try.zv48 : zeroV Try.prog 48 = .agg #[.int .i64 0, .int .i64 0, .int .i64 0, .int .i64 0, .int .i64 0] := by kernel_rfl
@[simp] theorem Try.fk48 : flOk Try.prog 48 = true := by kernel_rfl
@[simp] theorem Try.fl48_0 : flOf Try.prog 48 0 = some (0, 3) := by kernel_rfl
@[simp] theorem Try.fl48_1 : flOf Try.prog 48 1 = some (1, 3) := by kernel_rfl
@[simp] theorem Try.fl48_2 : flOf Try.prog 48 2 = some (2, 3) := by kernel_rfl
@[simp] theorem Try.fl48_3 : flOf Try.prog 48 3 = some (3, 3) := by kernel_rfl
@[simp] theorem Try.fl48_4 : flOf Try.prog 48 4 = some (4, 3) := by kernel_rfl
@[simp] theorem Try.eq48 : eqPlan Try.prog 48 = some [(0, 0), (0, 1), (0, 2), (0, 3), (0, 4)] := by kernel_rfl
@[simp] theorem Try.ok52 : okT Try.prog 52 = true := by kernel_rfl
@[simp] theorem Try.sz52 : szOf Try.prog 52 = 8 := by kernel_rfl
@[simp] theorem Try.ag52 : isAg Try.prog 52 = true := by kernel_rfl
@[simp] theorem Try.hz52 : hasZ Try.prog 52 = true := by kernel_rfl
@[simp] theorem Try.zc52 : zeroC Try.prog 52 = [.int .i64 0, .int .i64 0, .int .i64 0, .int .i64 0, .int .i64 0, .int .i64 0, .int .i64 0, .int .i64 0] := by kernel_rfl
@[simp] theorem Try.by52 : byOf Try.prog 52 = 64 := by kernel_rfl
@[simp] theorem Try.st52 : isStr Try.prog 52 = false := by kernel_rfl
@[simp] theorem Try.el52 : slEl Try.prog 52 = none := by kernel_rfl
@[simp] theorem Try.zv52 : zeroV Try.prog 52 = .agg #[.int .i64 0, .int .i64 0, .int .i64 0, .int .i64 0, .int .i64 0, .int .i64 0, .int .i64 0, .int .i64 0] := by kernel_rfl
@[simp] theorem Try.fk52 : flOk Try.prog 52 = true := by kernel_rfl
@[simp] theorem Try.fl52_0 : flOf Try.prog 52 0 = some (0, 3) := by kernel_rfl
@[simp] theorem Try.fl52_1 : flOf Try.prog 52 1 = some (1, 3) := by kernel_rfl
@[simp] theorem Try.fl52_2 : flOf Try.prog 52 2 = some (2, 3) := by kernel_rfl
@[simp] theorem Try.fl52_3 : flOf Try.prog 52 3 = some (3, 3) := by kernel_rfl
@[simp] theorem Try.fl52_4 : flOf Try.prog 52 4 = some (4, 3) := by kernel_rfl
@[simp] theorem Try.fl52_5 : flOf Try.prog 52 5 = some (5, 3) := by kernel_rfl
@[simp] theorem Try.fl52_6 : flOf Try.prog 52 6 = some (6, 3) := by kernel_rfl
@[simp] theorem Try.fl52_7 : flOf Try.prog 52 7 = some (7, 3) := by kernel_rfl
@[simp] theorem Try.eq52 : eqPlan Try.prog 52 = some [(0, 0), (0, 1), (0, 2), (0, 3), (0, 4), (0, 5), (0, 6), (0, 7)] := by kernel_rfl
@[simp] theorem Try.ok53 : okT Try.prog 53 = true := by kernel_rfl
@[simp] theorem Try.sz53 : szOf Try.prog 53 = 8 := by kernel_rfl
@[simp] theorem Try.ag53 : isAg Try.prog 53 = true := by kernel_rfl
@[simp] theorem Try.hz53 : hasZ Try.prog 53 = true := by kernel_rfl
@[simp] theorem Try.zc53 : zeroC Try.prog 53 = [.int .i64 0, .int .i64 0, .int .i64 0, .int .i64 0, .int .i64 0, .int .i64 0, .int .i64 0, .int .i64 0] := by kernel_rfl
@[simp] theorem Try.by53 : byOf Try.prog 53 = 64 := by kernel_rfl
@[simp] theorem Try.st53 : isStr Try.prog 53 = false := by kernel_rfl
@[simp] theorem Try.el53 : slEl Try.prog 53 = none := by kernel_rfl
@[simp] theorem Try.zv53 : zeroV Try.prog 53 = .agg #[.int .i64 0, .int .i64 0, .int .i64 0, .int .i64 0, .int .i64 0, .int .i64 0, .int .i64 0, .int .i64 0] := by kernel_rfl
@[simp] theorem Try.fk53 : flOk Try.prog 53 = true := by kernel_rfl
@[simp] theorem Try.fl53_0 : flOf Try.prog 53 0 = some (0, 3) := by kernel_rfl
@[simp] theorem Try.fl53_1 : flOf Try.prog 53 1 = some (1, 3) := by kernel_rfl
@[simp] theorem Try.fl53_2 : flOf Try.prog 53 2 = some (2, 3) := by kernel_rfl
@[simp] theorem Try.fl53_3 : flOf Try.prog 53 3 = some (3, 3) := by kernel_rfl
@[simp] theorem Try.fl53_4 : flOf Try.prog 53 4 = some (4, 3) := by kernel_rfl
@[simp] theorem Try.fl53_5 : flOf Try.prog 53 5 = some (5, 3) := by kernel_rfl
@[simp] theorem Try.fl53_6 : flOf Try.prog 53 6 = some (6, 3) := by kernel_rfl
@[simp] theorem Try.fl53_7 : flOf Try.prog 53 7 = some (7, 3) := by kernel_rfl
@[simp] theorem Try.eq53 : eqPlan Try.prog 53 = some [(0, 0), (0, 1), (0, 2), (0, 3), (0, 4), (0, 5), (0, 6), (0, 7)] := by kernel_rfl
@[simp] theorem Try.ok59 : okT Try.prog 59 = true := by kernel_rfl
@[simp] theorem Try.sz59 : szOf Try.prog 59 = 1 := by kernel_rfl
@[simp] theorem Try.ag59 : isAg Try.prog 59 = false := by kernel_rfl
@[simp] theorem Try.hz59 : hasZ Try.prog 59 = true := by kernel_rfl
@[simp] theorem Try.zc59 : zeroC Try.prog 59 = [.pointer none] := by kernel_rfl
@[simp] theorem Try.by59 : byOf Try.prog 59 = 8 := by kernel_rfl
@[simp] theorem Try.st59 : isStr Try.prog 59 = false := by kernel_rfl
@[simp] theorem Try.el59 : slEl Try.prog 59 = none := by kernel_rfl
@[simp] theorem Try.zv59 : zeroV Try.prog 59 = .pointer none := by kernel_rfl
@[simp] theorem Try.ok60 : okT Try.prog 60 = true := by kernel_rfl
@[simp] theorem Try.sz60 : szOf Try.prog 60 = 4 := by kernel_rfl
@[simp] theorem Try.ag60 : isAg Try.prog 60 = true := by kernel_rfl
@[simp] theorem Try.hz60 : hasZ Try.prog 60 = true := by kernel_rfl
@[simp] theorem Try.zc60 : zeroC Try.prog 60 = [.string ⟨#[]⟩, .slice none 0 0, .int .i64 0, .int .i64 0] := by kernel_rfl
@[simp] theorem Try.by60 : byOf Try.prog 60 = 56 := by kernel_rfl
@[simp] theorem Try.st60 : isStr Try.prog 60 = false := by kernel_rfl
@[simp] theorem Try.el60 : slEl Try.prog 60 = none := by kernel_rfl
@[simp] theorem Try.zv60 : zeroV Try.prog 60 = .agg #[.string ⟨#[]⟩, .slice none 0 0, .int .i64 0, .int .i64 0] := by kernel_rfl
@[simp] theorem Try.fk60 : flOk Try.prog 60 = true := by kernel_rfl
@[simp] theorem Try.fl60_0 : flOf Try.prog 60 0 = some (0, 9) := by kernel_rfl
@[simp] theorem Try.fl60_1 : flOf Try.prog 60 1 = some (1, 22) := by kernel_rfl
@[simp] theorem Try.fl60_2 : flOf Try.prog 60 2 = some (2, 24) := by kernel_rfl
@[simp] theorem Try.ok61 : okT Try.prog 61 = true := by kernel_rfl
@[simp] theorem Try.sz61 : szOf Try.prog 61 = 4 := by kernel_rfl
@[simp] theorem Try.ag61 : isAg Try.prog 61 = true := by kernel_rfl
@[simp] theorem Try.hz61 : hasZ Try.prog 61 = true := by kernel_rfl
@[simp] theorem Try.zc61 : zeroC Try.prog 61 = [.string ⟨#[]⟩, .slice none 0 0, .int .i64 0, .int .i64 0] := by kernel_rfl
@[simp] theorem Try.by61 : byOf Try.prog 61 = 56 := by kernel_rfl
@[simp] theorem Try.st61 : isStr Try.prog 61 = false := by kernel_rfl
@[simp] theorem Try.el61 : slEl Try.prog 61 = none := by kernel_rfl
@[simp] theorem Try.zv61 : zeroV Try.prog 61 = .agg #[.string ⟨#[]⟩, .slice none 0 0, .int .i64 0, .int .i64 0] := by kernel_rfl
@[simp] theorem Try.fk61 : flOk Try.prog 61 = true := by kernel_rfl
@[simp] theorem Try.fl61_0 : flOf Try.prog 61 0 = some (0, 9) := by kernel_rfl
@[simp] theorem Try.fl61_1 : flOf Try.prog 61 1 = some (1, 22) := by kernel_rfl
@[simp] theorem Try.fl61_2 : flOf Try.prog 61 2 = some (2, 24) := by kernel_rfl
@[simp] theorem Try.ok64 : okT Try.prog 64 = true := by kernel_rfl
@[simp] theorem Try.sz64 : szOf Try.prog 64 = 4 := by kernel_rfl
@[simp] theorem Try.ag64 : isAg Try.prog 64 = true := by kernel_rfl
@[simp] theorem Try.hz64 : hasZ Try.prog 64 = true := by kernel_rfl
@[simp] theorem Try.zc64 : zeroC Try.prog 64 = [.int .i64 0, .int .i64 0, .bool false, .string ⟨#[]⟩] := by kernel_rfl
@[simp] theorem Try.by64 : byOf Try.prog 64 = 40 := by kernel_rfl
@[simp] theorem Try.st64 : isStr Try.prog 64 = false := by kernel_rfl
@[simp] theorem Try.el64 : slEl Try.prog 64 = none := by kernel_rfl
@[simp] theorem Try.zv64 : zeroV Try.prog 64 = .agg #[.int .i64 0, .int .i64 0, .bool false, .string ⟨#[]⟩] := by kernel_rfl
@[simp] theorem Try.fk64 : flOk Try.prog 64 = true := by kernel_rfl
@[simp] theorem Try.fl64_0 : flOf Try.prog 64 0 = some (0, 3) := by kernel_rfl
@[simp] theorem Try.fl64_1 : flOf Try.prog 64 1 = some (1, 3) := by kernel_rfl
@[simp] theorem Try.fl64_2 : flOf Try.prog 64 2 = some (2, 4) := by kernel_rfl
@[simp] theorem Try.fl64_3 : flOf Try.prog 64 3 = some (3, 9) := by kernel_rfl
@[simp] theorem Try.eq64 : eqPlan Try.prog 64 = some [(0, 0), (0, 1), (2, 2), (1, 3)] := by kernel_rfl
@[simp] theorem Try.ok65 : okT Try.prog 65 = true := by kernel_rfl
@[simp] theorem Try.sz65 : szOf Try.prog 65 = 4 := by kernel_rfl
@[simp] theorem Try.ag65 : isAg Try.prog 65 = true := by kernel_rfl
@[simp] theorem Try.hz65 : hasZ Try.prog 65 = true := by kernel_rfl
@[simp] theorem Try.zc65 : zeroC Try.prog 65 = [.int .i64 0, .int .i64 0, .bool false, .string ⟨#[]⟩] := by kernel_rfl
@[simp] theorem Try.by65 : byOf Try.prog 65 = 40 := by kernel_rfl
@[simp] theorem Try.st65 : isStr Try.prog 65 = false := by kernel_rfl
@[simp] theorem Try.el65 : slEl Try.prog 65 = none := by kernel_rfl
@[simp] theorem Try.zv65 : zeroV Try.prog 65 = .agg #[.int .i64 0, .int .i64 0, .bool false, .string ⟨#[]⟩] := by kernel_rfl
@[simp] theorem Try.fk65 : flOk Try.prog 65 = true := by kernel_rfl
@[simp] theorem Try.fl65_0 : flOf Try.prog 65 0 = some (0, 3) := by kernel_rfl
@[simp] theorem Try.fl65_1 : flOf Try.prog 65 1 = some (1, 3) := by kernel_rfl
@[simp] theorem Try.fl65_2 : flOf Try.prog 65 2 = some (2, 4) := by kernel_rfl
@[simp] theorem Try.fl65_3 : flOf Try.prog 65 3 = some (3, 9) := by kernel_rfl
@[simp] theorem Try.eq65 : eqPlan Try.prog 65 = some [(0, 0), (0, 1), (2, 2), (1, 3)] := by kernel_rfl
@[simp] theorem Try.ok70 : okT Try.prog 70 = true := by kernel_rfl
@[simp] theorem Try.sz70 : szOf Try.prog 70 = 5 := by kernel_rfl
@[simp] theorem Try.ag70 : isAg Try.prog 70 = true := by kernel_rfl
@[simp] theorem Try.hz70 : hasZ Try.prog 70 = true := by kernel_rfl
@[simp] theorem Try.zc70 : zeroC Try.prog 70 = [.int .i64 0, .int .i64 0, .int .i64 0, .int .i64 0, .int .i64 0] := by kernel_rfl
@[simp] theorem Try.by70 : byOf Try.prog 70 = 40 := by kernel_rfl
@[simp] theorem Try.st70 : isStr Try.prog 70 = false := by kernel_rfl
@[simp] theorem Try.el70 : slEl Try.prog 70 = none := by kernel_rfl
@[simp] theorem Try.zv70 : zeroV Try.prog 70 = .agg #[.int .i64 0, .int .i64 0, .int .i64 0, .int .i64 0, .int .i64 0] := by kernel_rfl
@[simp] theorem Try.fk70 : flOk Try.prog 70 = true := by kernel_rfl
@[simp] theorem Try.fl70_0 : flOf Try.prog 70 0 = some (0, 3) := by kernel_rfl
@[simp] theorem Try.fl70_1 : flOf Try.prog 70 1 = some (1, 3) := by kernel_rfl
@[simp] theorem Try.fl70_2 : flOf Try.prog 70 2 = some (2, 3) := by kernel_rfl
@[simp] theorem Try.fl70_3 : flOf Try.prog 70 3 = some (3, 3) := by kernel_rfl
@[simp] theorem Try.fl70_4 : flOf Try.prog 70 4 = some (4, 3) := by kernel_rfl
@[simp] theorem Try.eq70 : eqPlan Try.prog 70 = some [(0, 0), (0, 1), (0, 2), (0, 3), (0, 4)] := by kernel_rfl
@[simp] theorem Try.ok71 : okT Try.prog 71 = true := by kernel_rfl
@[simp] theorem Try.sz71 : szOf Try.prog 71 = 5 := by kernel_rfl
@[simp] theorem Try.ag71 : isAg Try.prog 71 = true := by kernel_rfl
@[simp] theorem Try.hz71 : hasZ Try.prog 71 = true := by kernel_rfl
@[simp] theorem Try.zc71 : zeroC Try.prog 71 = [.int .i64 0, .int .i64 0, .int .i64 0, .int .i64 0, .int .i64 0] := by kernel_rfl
@[simp] theorem Try.by71 : byOf Try.prog 71 = 40 := by kernel_rfl
@[simp] theorem Try.st71 : isStr Try.prog 71 = false := by kernel_rfl
@[simp] theorem Try.el71 : slEl Try.prog 71 = none := by kernel_rfl
@[simp] theorem Try.zv71 : zeroV Try.prog 71 = .agg #[.int .i64 0, .int .i64 0, .int .i64 0, .int .i64 0, .int .i64 0] := by kernel_rfl
@[simp] theorem Try.fk71 : flOk Try.prog 71 = true := by kernel_rfl
@[simp] theorem Try.fl71_0 : flOf Try.prog 71 0 = some (0, 3) := by kernel_rfl
@[simp] theorem Try.fl71_1 : flOf Try.prog 71 1 = some (1, 3) := by kernel_rfl
@[simp] theorem Try.fl71_2 : flOf Try.prog 71 2 = some (2, 3) := by kernel_rfl
@[simp] theorem Try.fl71_3 : flOf Try.prog 71 3 = some (3, 3) := by kernel_rfl
@[simp] theorem Try.fl71_4 : flOf Try.prog 71 4 = some (4, 3) := by kernel_rfl
@[simp] theorem Try.eq71 : eqPlan Try.prog 71 = some [(0, 0), (0, 1), (0, 2), (0, 3), (0, 4)] := by kernel_rfl
@[simp] theorem Try.ok73 : okT Try.prog 73 = true := by kernel_rfl
@[simp] theorem Try.sz73 : szOf Try.prog 73 = 5 := by kernel_rfl
@[simp] theorem Try.ag73 : isAg Try.prog 73 = true := by kernel_rfl
@[simp] theorem Try.hz73 : hasZ Try.prog 73 = true := by kernel_rfl
@[simp] theorem Try.zc73 : zeroC Try.prog 73 = [.int .i64 0, .int .i64 0, .int .i64 0, .int .i64 0, .int .i64 0] := by kernel_rfl
@[simp] theorem Try.by73 : byOf Try.prog 73 = 40 := by kernel_rfl
@[simp] theorem Try.st73 : isStr Try.prog 73 = false := by kernel_rfl
@[simp] theorem Try.el73 : slEl Try.prog 73 = none := by kernel_rfl
@[simp] theorem Try.zv73 : zeroV Try.prog 73 = .agg #[.int .i64 0, .int .i64 0, .int .i64 0, .int .i64 0, .int .i64 0] := by kernel_rfl
@[simp] theorem Try.fk73 : flOk Try.prog 73 = true := by kernel_rfl
@[simp] theorem Try.fl73_0 : flOf Try.prog 73 0 = some (0, 3) := by kernel_rfl
@[simp] theorem Try.fl73_1 : flOf Try.prog 73 1 = some (1, 3) := by kernel_rfl
@[simp] theorem Try.fl73_2 : flOf Try.prog 73 2 = some (2, 3) := by kernel_rfl
@[simp] theorem Try.fl73_3 : flOf Try.prog 73 3 = some (3, 3) := by kernel_rfl
@[simp] theorem Try.fl73_4 : flOf Try.prog 73 4 = some (4, 3) := by kernel_rfl
@[simp] theorem Try.eq73 : eqPlan Try.prog 73 = some [(0, 0), (0, 1), (0, 2), (0, 3), (0, 4)] := by kernel_rfl
@[simp] theorem Try.ok80 : okT Try.prog 80 = true := by kernel_rfl
@[simp] theorem Try.sz80 : szOf Try.prog 80 = 1 := by kernel_rfl
@[simp] theorem Try.ag80 : isAg Try.prog 80 = false := by kernel_rfl
@[simp] theorem Try.hz80 : hasZ Try.prog 80 = true := by kernel_rfl
@[simp] theorem Try.zc80 : zeroC Try.prog 80 = [.slice none 0 0] := by kernel_rfl
@[simp] theorem Try.by80 : byOf Try.prog 80 = 24 := by kernel_rfl
@[simp] theorem Try.st80 : isStr Try.prog 80 = false := by kernel_rfl
@[simp] theorem Try.el80 : slEl Try.prog 80 = some 9 := by kernel_rfl
@[simp] theorem Try.zv80 : zeroV Try.prog 80 = .slice none 0 0 := by kernel_rfl
@[simp] theorem Try.ok89 : okT Try.prog 89 = true := by kernel_rfl
@[simp] theorem Try.sz89 : szOf Try.prog 89 = 1 := by kernel_rfl
@[simp] theorem Try.ag89 : isAg Try.prog 89 = false := by kernel_rfl
@[simp] theorem Try.hz89 : hasZ Try.prog 89 = true := by kernel_rfl
@[simp] theorem Try.zc89 : zeroC Try.prog 89 = [.pointer none] := by kernel_rfl
@[simp] theorem Try.by89 : byOf Try.prog 89 = 8 := by kernel_rfl
@[simp] theorem Try.st89 : isStr Try.prog 89 = false := by kernel_rfl
@[simp] theorem Try.el89 : slEl Try.prog 89 = none := by kernel_rfl
@[simp] theorem Try.zv89 : zeroV Try.prog 89 = .pointer none := by kernel_rfl
@[simp] theorem Try.ok90 : okT Try.prog 90 = true := by kernel_rfl
@[simp] theorem Try.sz90 : szOf Try.prog 90 = 2 := by kernel_rfl
@[simp] theorem Try.ag90 : isAg Try.prog 90 = true := by kernel_rfl
@[simp] theorem Try.hz90 : hasZ Try.prog 90 = true := by kernel_rfl
@[simp] theorem Try.zc90 : zeroC Try.prog 90 = [.string ⟨#[]⟩, .slice none 0 0] := by kernel_rfl
@[simp] theorem Try.by90 : byOf Try.prog 90 = 40 := by kernel_rfl
@[simp] theorem Try.st90 : isStr Try.prog 90 = false := by kernel_rfl
@[simp] theorem Try.el90 : slEl Try.prog 90 = none := by kernel_rfl
@[simp] theorem Try.zv90 : zeroV Try.prog 90 = .agg #[.string ⟨#[]⟩, .slice none 0 0] := by kernel_rfl
@[simp] theorem Try.fk90 : flOk Try.prog 90 = true := by kernel_rfl
@[simp] theorem Try.fl90_0 : flOf Try.prog 90 0 = some (0, 9) := by kernel_rfl
@[simp] theorem Try.fl90_1 : flOf Try.prog 90 1 = some (1, 22) := by kernel_rfl
@[simp] theorem Try.ok91 : okT Try.prog 91 = true := by kernel_rfl
@[simp] theorem Try.sz91 : szOf Try.prog 91 = 2 := by kernel_rfl
@[simp] theorem Try.ag91 : isAg Try.prog 91 = true := by kernel_rfl
@[simp] theorem Try.hz91 : hasZ Try.prog 91 = true := by kernel_rfl
@[simp] theorem Try.zc91 : zeroC Try.prog 91 = [.string ⟨#[]⟩, .slice none 0 0] := by kernel_rfl
@[simp] theorem Try.by91 : byOf Try.prog 91 = 40 := by kernel_rfl
@[simp] theorem Try.st91 : isStr Try.prog 91 = false := by kernel_rfl
@[simp] theorem Try.el91 : slEl Try.prog 91 = none := by kernel_rfl
@[simp] theorem Try.zv91 : zeroV Try.prog 91 = .agg #[.string ⟨#[]⟩, .slice none 0 0] := by kernel_rfl
@[simp] theorem Try.fk91 : flOk Try.prog 91 = true := by kernel_rfl
@[simp] theorem Try.fl91_0 : flOf Try.prog 91 0 = some (0, 9) := by kernel_rfl
@[simp] theorem Try.fl91_1 : flOf Try.prog 91 1 = some (1, 22) := by kernel_rfl
@[simp] theorem Try.ok95 : okT Try.prog 95 = true := by kernel_rfl
@[simp] theorem Try.sz95 : szOf Try.prog 95 = 1 := by kernel_rfl
@[simp] theorem Try.ag95 : isAg Try.prog 95 = false := by kernel_rfl
@[simp] theorem Try.hz95 : hasZ Try.prog 95 = true := by kernel_rfl
@[simp] theorem Try.zc95 : zeroC Try.prog 95 = [.slice none 0 0] := by kernel_rfl
@[simp] theorem Try.by95 : byOf Try.prog 95 = 24 := by kernel_rfl
@[simp] theorem Try.st95 : isStr Try.prog 95 = false := by kernel_rfl
@[simp] theorem Try.el95 : slEl Try.prog 95 = some 5 := by kernel_rfl
@[simp] theorem Try.bs95 : byteSl Try.prog 95 = true := by kernel_rfl
@[simp] theorem Try.zv95 : zeroV Try.prog 95 = .slice none 0 0 := by kernel_rfl
@[simp] theorem Try.ok97 : okT Try.prog 97 = true := by kernel_rfl
@[simp] theorem Try.sz97 : szOf Try.prog 97 = 1 := by kernel_rfl
@[simp] theorem Try.ag97 : isAg Try.prog 97 = false := by kernel_rfl
@[simp] theorem Try.hz97 : hasZ Try.prog 97 = true := by kernel_rfl
@[simp] theorem Try.zc97 : zeroC Try.prog 97 = [.map none] := by kernel_rfl
@[simp] theorem Try.by97 : byOf Try.prog 97 = 8 := by kernel_rfl
@[simp] theorem Try.st97 : isStr Try.prog 97 = false := by kernel_rfl
@[simp] theorem Try.el97 : slEl Try.prog 97 = none := by kernel_rfl
@[simp] theorem Try.mk97 : mapKV Try.prog 97 = some (3, 71) := by kernel_rfl
@[simp] theorem Try.zv97 : zeroV Try.prog 97 = .map none := by kernel_rfl
@[simp] theorem Try.ok98 : okT Try.prog 98 = true := by kernel_rfl
@[simp] theorem Try.sz98 : szOf Try.prog 98 = 1 := by kernel_rfl
@[simp] theorem Try.ag98 : isAg Try.prog 98 = false := by kernel_rfl
@[simp] theorem Try.hz98 : hasZ Try.prog 98 = true := by kernel_rfl
@[simp] theorem Try.zc98 : zeroC Try.prog 98 = [.map none] := by kernel_rfl
@[simp] theorem Try.by98 : byOf Try.prog 98 = 8 := by kernel_rfl
@[simp] theorem Try.st98 : isStr Try.prog 98 = false := by kernel_rfl
@[simp] theorem Try.el98 : slEl Try.prog 98 = none := by kernel_rfl
@[simp] theorem Try.mk98 : mapKV Try.prog 98 = some (3, 4) := by kernel_rfl
@[simp] theorem Try.zv98 : zeroV Try.prog 98 = .map none := by kernel_rfl
@[simp] theorem Try.ok103 : okT Try.prog 103 = true := by kernel_rfl
@[simp] theorem Try.sz103 : szOf Try.prog 103 = 1 := by kernel_rfl
@[simp] theorem Try.ag103 : isAg Try.prog 103 = false := by kernel_rfl
@[simp] theorem Try.hz103 : hasZ Try.prog 103 = true := by kernel_rfl
@[simp] theorem Try.zc103 : zeroC Try.prog 103 = [.pointer none] := by kernel_rfl
@[simp] theorem Try.by103 : byOf Try.prog 103 = 8 := by kernel_rfl
@[simp] theorem Try.st103 : isStr Try.prog 103 = false := by kernel_rfl
@[simp] theorem Try.el103 : slEl Try.prog 103 = none := by kernel_rfl
@[simp] theorem Try.zv103 : zeroV Try.prog 103 = .pointer none := by kernel_rfl
@[simp] theorem Try.ok104 : okT Try.prog 104 = true := by kernel_rfl
@[simp] theorem Try.sz104 : szOf Try.prog 104 = 6 := by kernel_rfl
@[simp] theorem Try.ag104 : isAg Try.prog 104 = true := by kernel_rfl
@[simp] theorem Try.hz104 : hasZ Try.prog 104 = true := by kernel_rfl
@[simp] theorem Try.zc104 : zeroC Try.prog 104 = [.string ⟨#[]⟩, .int .i64 0, .int .i64 0, .bool false, .int .i64 0, .int .i64 0] := by kernel_rfl
@[simp] theorem Try.by104 : byOf Try.prog 104 = 56 := by kernel_rfl
@[simp] theorem Try.st104 : isStr Try.prog 104 = false := by kernel_rfl
@[simp] theorem Try.el104 : slEl Try.prog 104 = none := by kernel_rfl
@[simp] theorem Try.zv104 : zeroV Try.prog 104 = .agg #[.string ⟨#[]⟩, .int .i64 0, .int .i64 0, .bool false, .int .i64 0, .int .i64 0] := by kernel_rfl
@[simp] theorem Try.fk104 : flOk Try.prog 104 = true := by kernel_rfl
@[simp] theorem Try.fl104_0 : flOf Try.prog 104 0 = some (0, 9) := by kernel_rfl
@[simp] theorem Try.fl104_1 : flOf Try.prog 104 1 = some (1, 3) := by kernel_rfl
@[simp] theorem Try.fl104_2 : flOf Try.prog 104 2 = some (2, 3) := by kernel_rfl
@[simp] theorem Try.fl104_3 : flOf Try.prog 104 3 = some (3, 4) := by kernel_rfl
@[simp] theorem Try.fl104_4 : flOf Try.prog 104 4 = some (4, 24) := by kernel_rfl
@[simp] theorem Try.eq104 : eqPlan Try.prog 104 = some [(1, 0), (0, 1), (0, 2), (2, 3), (0, 4), (0, 5)] := by kernel_rfl
@[simp] theorem Try.ok105 : okT Try.prog 105 = true := by kernel_rfl
@[simp] theorem Try.sz105 : szOf Try.prog 105 = 6 := by kernel_rfl
@[simp] theorem Try.ag105 : isAg Try.prog 105 = true := by kernel_rfl
@[simp] theorem Try.hz105 : hasZ Try.prog 105 = true := by kernel_rfl
@[simp] theorem Try.zc105 : zeroC Try.prog 105 = [.string ⟨#[]⟩, .int .i64 0, .int .i64 0, .bool false, .int .i64 0, .int .i64 0] := by kernel_rfl
@[simp] theorem Try.by105 : byOf Try.prog 105 = 56 := by kernel_rfl
@[simp] theorem Try.st105 : isStr Try.prog 105 = false := by kernel_rfl
@[simp] theorem Try.el105 : slEl Try.prog 105 = none := by kernel_rfl
@[simp] theorem Try.zv105 : zeroV Try.prog 105 = .agg #[.string ⟨#[]⟩, .int .i64 0, .int .i64 0, .bool false, .int .i64 0, .int .i64 0] := by kernel_rfl
@[simp] theorem Try.fk105 : flOk Try.prog 105 = true := by kernel_rfl
@[simp] theorem Try.fl105_0 : flOf Try.prog 105 0 = some (0, 9) := by kernel_rfl
@[simp] theorem Try.fl105_1 : flOf Try.prog 105 1 = some (1, 3) := by kernel_rfl
@[simp] theorem Try.fl105_2 : flOf Try.prog 105 2 = some (2, 3) := by kernel_rfl
@[simp] theorem Try.fl105_3 : flOf Try.prog 105 3 = some (3, 4) := by kernel_rfl
@[simp] theorem Try.fl105_4 : flOf Try.prog 105 4 = some (4, 24) := by kernel_rfl
@[simp] theorem Try.eq105 : eqPlan Try.prog 105 = some [(1, 0), (0, 1), (0, 2), (2, 3), (0, 4), (0, 5)] := by kernel_rfl
@[simp] theorem Try.ok112 : okT Try.prog 112 = true := by kernel_rfl
@[simp] theorem Try.sz112 : szOf Try.prog 112 = 1 := by kernel_rfl
@[simp] theorem Try.ag112 : isAg Try.prog 112 = false := by kernel_rfl
@[simp] theorem Try.hz112 : hasZ Try.prog 112 = true := by kernel_rfl
@[simp] theorem Try.zc112 : zeroC Try.prog 112 = [.int .u64 0] := by kernel_rfl
@[simp] theorem Try.by112 : byOf Try.prog 112 = 8 := by kernel_rfl
@[simp] theorem Try.st112 : isStr Try.prog 112 = false := by kernel_rfl
@[simp] theorem Try.ik112 : inK Try.prog 112 = some .u64 := by kernel_rfl
@[simp] theorem Try.el112 : slEl Try.prog 112 = none := by kernel_rfl
@[simp] theorem Try.zv112 : zeroV Try.prog 112 = .int .u64 0 := by kernel_rfl
@[simp] theorem Try.ok126 : okT Try.prog 126 = true := by kernel_rfl
@[simp] theorem Try.sz126 : szOf Try.prog 126 = 1 := by kernel_rfl
@[simp] theorem Try.ag126 : isAg Try.prog 126 = false := by kernel_rfl
@[simp] theorem Try.hz126 : hasZ Try.prog 126 = true := by kernel_rfl
@[simp] theorem Try.zc126 : zeroC Try.prog 126 = [.int .u32 0] := by kernel_rfl
@[simp] theorem Try.by126 : byOf Try.prog 126 = 4 := by kernel_rfl
@[simp] theorem Try.st126 : isStr Try.prog 126 = false := by kernel_rfl
@[simp] theorem Try.ik126 : inK Try.prog 126 = some .u32 := by kernel_rfl
@[simp] theorem Try.el126 : slEl Try.prog 126 = none := by kernel_rfl
@[simp] theorem Try.zv126 : zeroV Try.prog 126 = .int .u32 0 := by kernel_rfl
@[simp] theorem Try.ok130 : okT Try.prog 130 = true := by kernel_rfl
@[simp] theorem Try.sz130 : szOf Try.prog 130 = 1 := by kernel_rfl
@[simp] theorem Try.ag130 : isAg Try.prog 130 = false := by kernel_rfl
@[simp] theorem Try.hz130 : hasZ Try.prog 130 = true := by kernel_rfl
@[simp] theorem Try.zc130 : zeroC Try.prog 130 = [.pointer none] := by kernel_rfl
@[simp] theorem Try.by130 : byOf Try.prog 130 = 8 := by kernel_rfl
@[simp] theorem Try.st130 : isStr Try.prog 130 = false := by kernel_rfl
@[simp] theorem Try.el130 : slEl Try.prog 130 = none := by kernel_rfl
@[simp] theorem Try.zv130 : zeroV Try.prog 130 = .pointer none := by kernel_rfl
theorem Try.mix : Try.prog.follows .mixedOrders = true := by kernel_rfl
end Go.Proofs
