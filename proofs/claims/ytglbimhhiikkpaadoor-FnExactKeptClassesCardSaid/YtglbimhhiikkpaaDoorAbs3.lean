/-
  What is proved here: what one operation of the model does to the abstract state, and that it does so in every related world. Condition: the operation's own condition, in the abstract state.
-/
import Derived.Test.YtglbimhhiikkpaaDoorAbs2
namespace Go.Abs
open Go.RowKit

/-! ### the program's tables, as total functions -/
def szOf (P : Program) (T : Nat) : Nat := ((P.info? T).map (·.size)).getD 0
def byOf (P : Program) (T : Nat) : Nat := ((P.info? T).map (·.bytes)).getD 0
def okT (P : Program) (T : Nat) : Bool := (P.info? T).isSome && (P.underlying T).isSome
def isAg (P : Program) (T : Nat) : Bool := match P.underlying T with | some (.struct _) | some (.array _ _) => true | _ => false
def slEl (P : Program) (T : Nat) : Option Nat := match P.underlying T with | some (.slice e) => some e | _ => none
def arEl (P : Program) (T : Nat) : Option (Nat × Nat) := match P.underlying T with | some (.array n e) => some (n, e) | _ => none
def flOf (P : Program) (T f : Nat) : Option (Nat × Nat) := match P.underlying T with | some (.struct fs) => (fs[f]?).map fun x => (x.offset, x.type) | _ => none
def isStr (P : Program) (T : Nat) : Bool := match P.underlying T with | some .string => true | _ => false
def inK (P : Program) (T : Nat) : Option IntKind := match P.underlying T with | some (.int k) => some k | _ => none
def zeroC (P : Program) (T : Nat) : List Value := ((((P.info? T).bind (·.zero)).map (·.cells.toList)).getD [])
def hasZ (P : Program) (T : Nat) : Bool := ((P.info? T).bind (·.zero)).isSome

theorem okT_info {P : Program} {T : Nat} (h : okT P T = true) : ∃ i, P.info? T = some i ∧ szOf P T = i.size ∧ byOf P T = i.bytes := by
  simp only [okT, Bool.and_eq_true, Option.isSome_iff_exists] at h
  obtain ⟨⟨i, hi⟩, _⟩ := h
  exact ⟨i, hi, by simp [szOf, hi], by simp [byOf, hi]⟩
theorem okT_und {P : Program} {T : Nat} (h : okT P T = true) : ∃ d, P.underlying T = some d := by
  simp only [okT, Bool.and_eq_true, Option.isSome_iff_exists] at h
  exact h.2
theorem slEl_eq {P : Program} {T e : Nat} (h : slEl P T = some e) : P.underlying T = some (.slice e) := by
  unfold slEl at h; split at h
  · injection h with h; subst h; assumption
  · cases h
theorem arEl_eq {P : Program} {T n e : Nat} (h : arEl P T = some (n, e)) : P.underlying T = some (.array n e) := by
  unfold arEl at h; split at h
  · injection h with h; injection h with h1 h2; subst h1 h2; assumption
  · cases h

theorem run_isAgg {P : Program} {T : Nat} (h : okT P T = true) (w : World) : (isAgg T).run P w = .ok (isAg P T) w := by
  obtain ⟨d, hd⟩ := okT_und h
  unfold isAgg isAg
  rw [hd]
  simp only [Sem.run_bind, run_underlying hd, Result.andThen_ok]
  cases d <;> rfl
theorem run_sizeOf {P : Program} {T : Nat} (h : okT P T = true) (w : World) : (sizeOf T).run P w = .ok (szOf P T) w := by
  obtain ⟨i, hi, h1, _⟩ := okT_info h
  simp [sizeOf, typeInfo, hi, h1]

/-! ### operands -/
def cst (c : Value) : X :=
  if plain c then .v c else match c with
    | .agg cs => if cs.all plain then .agg (cs.toList.map .v) else .top
    | _ => .top
def ev (s : St) : Operand → X
  | .tmp t => s.t t
  | .const c => cst c
  | .global _ => .top
  | .func f => .fn f []

theorem plain_one {c : Value} (h : plain c = true) : c.oneCell' = true := by
  cases c <;> first | rfl | simp [plain] at h

theorem rep_cst (w : World) (S : Nat → Prop) (β : Pl) (c : Value) : Rep w S β c (cst c) := by
  unfold cst
  by_cases h : plain c = true
  · rw [if_pos h]; exact .v c h
  · rw [if_neg h]
    split
    · rename_i cs
      split
      · rename_i hall
        rw [Array.all_eq_true] at hall
        have hp : ∀ (j : Nat) c, cs[j]? = some c → plain c = true := fun j c hc => by
          obtain ⟨hj, e⟩ := Array.getElem?_eq_some_iff.1 hc
          rw [← e]; exact hall j hj
        refine .agg cs _ (by simp) (fun c hc => ?_) fun j x c hx hc => ?_
        · obtain ⟨j, hj, e⟩ := Array.mem_iff_getElem.1 hc
          exact plain_one (hp j c (by rw [Array.getElem?_eq_some_iff]; exact ⟨hj, e⟩))
        · rw [List.getElem?_map, Array.getElem?_toList, hc] at hx
          injection hx with hx
          subst hx
          exact .v c (hp j c hc)
      · exact .top _
    · exact .top _

theorem rep_ev {c : Cx} {s : St} {β : Pl} {a : Act} {w : World} (H : Rel c s β a w) (x : Operand) : Rep w (Stab c.w0 c.S0 s.h β w) β (a.eval x) (ev s x) := by
  cases x with
  | tmp t => exact H.2.2.2 t
  | const v => exact rep_cst _ _ _ v
  | global g => exact .top _
  | func f => exact .fn f #[] [] rfl (fun j x c hx => by simp at hx)

/-! ### what an operation gives: its condition, its value, the objects behind it -/
structure Eff where
  cond : Prop
  val : X
  h : List Ob

/-- 'sem' does what the effect says, in every related world -/
def Does (P : Program) (c : Cx) (s : St) (β : Pl) (w : World) (sem : Sem Value) (e : Eff) : Prop :=
  ∃ v w' β', sem.run P w = .ok v w' ∧ HRel c e.h β' w' ∧ (∀ u x, Rep w (Stab c.w0 c.S0 s.h β w) β u x → Rep w' (Stab c.w0 c.S0 e.h β' w') β' u x) ∧
    Rep w' (Stab c.w0 c.S0 e.h β' w') β' v e.val

theorem Does.pure {P : Program} {c : Cx} {s : St} {β : Pl} {w : World} {sem : Sem Value} {cond : Prop} {v : Value} {x : X} (H : HRel c s.h β w) (hrun : sem.run P w = .ok v w)
    (hr : Rep w (Stab c.w0 c.S0 s.h β w) β v x) : Does P c s β w sem ⟨cond, x, s.h⟩ := ⟨v, w, β, hrun, H, fun _ _ h => h, hr⟩

/-! ### scalars -/
def binV (op : BinOp) (a b : Value) : Value :=
  match op, a, b with
  | .add, .int k x, .int _ y => .int k (k.wrap (x + y))
  | .sub, .int k x, .int _ y => .int k (k.wrap (x - y))
  | .mul, .int k x, .int _ y => .int k (k.wrap (x * y))
  | .quo, .int k x, .int _ y => .int k (k.wrap (x.tdiv y))
  | .rem, .int k x, .int _ y => .int k (x.tmod y)
  | .and, .int k x, .int _ y => .int k (k.wrap (BitVec.ofInt k.bits x &&& BitVec.ofInt k.bits y).toNat)
  | .or, .int k x, .int _ y => .int k (k.wrap (BitVec.ofInt k.bits x ||| BitVec.ofInt k.bits y).toNat)
  | .xor, .int k x, .int _ y => .int k (k.wrap (BitVec.ofInt k.bits x ^^^ BitVec.ofInt k.bits y).toNat)
  | .andNot, .int k x, .int _ y => .int k (k.wrap (BitVec.ofInt k.bits x &&& ~~~BitVec.ofInt k.bits y).toNat)
  | .shl, .int k x, .int _ y => .int k (k.wrap (x * 2 ^ (min y.toNat k.bits)))
  | .shr, .int k x, .int _ y => .int k (x.fdiv (2 ^ (min y.toNat k.bits)))
  | .eql, .int _ x, .int _ y => .bool (x == y)
  | .neq, .int _ x, .int _ y => .bool (x != y)
  | .lss, .int _ x, .int _ y => .bool (x < y)
  | .leq, .int _ x, .int _ y => .bool (x ≤ y)
  | .gtr, .int _ x, .int _ y => .bool (x > y)
  | .geq, .int _ x, .int _ y => .bool (x ≥ y)
  | .add, .string x, .string y => .string (x ++ y)
  | .eql, .string x, .string y => .bool (x.toList == y.toList)
  | .neq, .string x, .string y => .bool (!(x.toList == y.toList))
  | .lss, .string x, .string y => .bool (Op.bytesLess x.toList y.toList)
  | .leq, .string x, .string y => .bool (Op.bytesLess x.toList y.toList || x.toList == y.toList)
  | .gtr, .string x, .string y => .bool (!(Op.bytesLess x.toList y.toList || x.toList == y.toList))
  | .geq, .string x, .string y => .bool (!Op.bytesLess x.toList y.toList)
  | .eql, .bool x, .bool y => .bool (x == y)
  | .neq, .bool x, .bool y => .bool (!(x == y))
  | _, _, _ => .nilFunc
def binC (P : Program) (T : Nat) (op : BinOp) (a b : Value) : Prop :=
  match op, a, b with
  | .add, .int k _, .int k' _ | .sub, .int k _, .int k' _ | .mul, .int k _, .int k' _ => k = k'
  | .and, .int k _, .int k' _ | .or, .int k _, .int k' _ | .xor, .int k _, .int k' _ | .andNot, .int k _, .int k' _ => k = k'
  | .quo, .int k _, .int k' y | .rem, .int k _, .int k' y => k = k' ∧ y ≠ 0
  | .shl, .int _ _, .int _ y | .shr, .int _ _, .int _ y => 0 ≤ y
  | .eql, .int k _, .int k' _ | .neq, .int k _, .int k' _ | .lss, .int k _, .int k' _ | .leq, .int k _, .int k' _ | .gtr, .int k _, .int k' _ | .geq, .int k _, .int k' _ => k = k'
  | .add, .string x, .string y => x.size + y.size ≤ 9223372036854775807
  | .eql, .string _, .string _ | .neq, .string _, .string _ | .lss, .string _, .string _ | .leq, .string _, .string _ | .gtr, .string _, .string _ | .geq, .string _, .string _ => True
  | .eql, .bool _, .bool _ | .neq, .bool _, .bool _ => P.underlying T = some .bool
  | _, _, _ => False

theorem run_equal_bool {P : Program} {T : Nat} (h : P.underlying T = some .bool) (x y : Bool) (w : World) : (Op.equal T (.bool x) (.bool y)).run P w = .ok (x == y) w := by
  have : ∀ d, (Op.equalIn (d + 1) T (.bool x) (.bool y)).run P w = .ok (x == y) w := fun d => by simp [Op.equalIn, run_underlying h]
  exact this 9999

theorem run_concat {P : Program} (x y : ByteArray) (h : x.size + y.size ≤ 9223372036854775807) (w : World) : (Op.stringOp .add x y).run P w = .ok (.string (x ++ y)) w := by
  have h' : ¬ (((x.size + y.size : Nat) : Int) > IntKind.i64.max) := by simp only [IntKind.max, IntKind.signed, IntKind.bits]; omega
  simp only [Op.stringOp]
  rw [if_neg h']
  rfl

theorem binV_run {P : Program} {T : Nat} {op : BinOp} {a b : Value} (h : binC P T op a b) (w : World) (x y : Operand) :
    ((do eqGuard op T x y a b; binOp op T a b : Sem Value)).run P w = .ok (binV op a b) w ∧ plain (binV op a b) = true := by
  unfold binC at h
  split at h <;> first
    | exact h.elim
    | (subst h; refine ⟨?_, rfl⟩; simp [eqGuard, binOp, binV, Op.intArith, Op.intBits, Op.intCmp]; done)
    | (obtain ⟨h1, h2⟩ := h; subst h1; refine ⟨?_, rfl⟩; simp [eqGuard, binOp, binV, Op.intDiv, h2]; done)
    | (refine ⟨?_, rfl⟩; simp [eqGuard, binOp, binV, Op.shift, Int.not_lt.2 h]; done)
    | (refine ⟨?_, rfl⟩; simp [eqGuard, binOp, binV, run_concat _ _ h]; done)
    | (refine ⟨?_, rfl⟩; simp [eqGuard, binOp, binV, Op.stringOp]; done)
    | (refine ⟨?_, rfl⟩; simp [eqGuard, binOp, binV, run_equal_bool h]; done)

end Go.Abs
