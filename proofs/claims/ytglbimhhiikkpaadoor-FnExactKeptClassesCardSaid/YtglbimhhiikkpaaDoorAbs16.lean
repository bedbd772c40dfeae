/-
  What is proved here: equations by which single operations of 'awp' are reckoned. Condition: none.
-/
import Derived.Test.YtglbimhhiikkpaaDoorAbs15
namespace Go.Abs
open Go.RowKit

section
variable {P : Program} {E : Env} (s : St)
theorem aop_move (x : Operand) : aop P E s (.move x) = ⟨True, ev s x, s.h⟩ := rfl
theorem aop_assign (x : Operand) : aop P E s (.assign x) = ⟨True, ev s x, s.h⟩ := rfl
theorem aop_pick (c a b : Operand) : aop P E s (.pick c a b) = ePick s (ev s c) (ev s a) (ev s b) := rfl
theorem aop_alloc (T : Nat) : aop P E s (.alloc T) = eAlloc P s T := rfl
theorem aop_box (T : Nat) (x : Operand) : aop P E s (.box T x) = eBox s T (ev s x) := rfl
theorem aop_build (T : Nat) (l : List (Nat × Operand)) : aop P E s (.build T l.toArray) = eBuild P s T (l.map fun p => (p.1, ev s p.2)) := rfl
theorem aop_buildSlice (T n : Nat) (l : List (Nat × Operand)) : aop P E s (.buildSlice T n l.toArray) = eBuildSlice P s T n (l.map fun p => (p.1, ev s p.2)) := rfl
theorem evG_tmp (t : Nat) : evG E s (.tmp t) = s.t t := rfl
theorem evG_const (c : Value) : evG E s (.const c) = cst c := rfl
theorem evG_global (g : Nat) : evG E s (.global g) = glX (E.A.lookup g) := rfl
theorem glX_some (c : List X) : glX (some c) = .pt c := rfl
theorem aop_load (T : Nat) (a : Operand) : aop P E s (.load T a) = eLoad P s T (evG E s a) := rfl
theorem aop_store (T : Nat) (a x : Operand) : aop P E s (.store T a x) = eStore P s T (ev s a) (ev s x) := rfl
theorem aop_nilCheck (x : Operand) : aop P E s (.nilCheck x) = eNil s (ev s x) := rfl
theorem aop_binOp (op : BinOp) (T : Nat) (x y : Operand) (T' : Nat) : aop P E s (.binOp op T x y T') = eBin P s op T (ev s x) (ev s y) := rfl
theorem aop_unOp (op : UnOp) (T : Nat) (x : Operand) : aop P E s (.unOp op T x) = eUn s op (ev s x) := rfl
theorem aop_convert (a b : Nat) (x : Operand) : aop P E s (.convert a b x) = eConv P s a b (ev s x) := rfl
theorem aop_makeFunc (f : Nat) (cap : List Operand) : aop P E s (.makeFunc (.func f) #[] cap.toArray) = ⟨True, .fn f (cap.map (ev s)), s.h⟩ := rfl
theorem aop_makeSlice (T : Nat) (l c : Operand) : aop P E s (.makeSlice T l c) = eMake P s T (ev s l) (ev s c) := rfl
theorem aop_slice (T : Nat) (x : Operand) (lo hi mx : Option Operand) : aop P E s (.slice T x lo hi mx) = eSlice P s T (ev s x) (lo.map (ev s)) (hi.map (ev s)) (mx.map (ev s)) := rfl
theorem aop_fieldAddr (T : Nat) (x : Operand) (f : Nat) : aop P E s (.fieldAddr T x f) = eFieldAddr P s T f (evG E s x) := rfl
theorem aop_field (T : Nat) (x : Operand) (f : Nat) : aop P E s (.field T x f) = eField P s T f (ev s x) := rfl
theorem aop_indexAddr (T : Nat) (x i : Operand) : aop P E s (.indexAddr T x i) = eIndexAddr P s T (evG E s x) (ev s i) := rfl
theorem aop_index (T : Nat) (x i : Operand) : aop P E s (.index T x i) = eIndex P s T (ev s x) (ev s i) := rfl
theorem aop_extract (t : Operand) (i : Nat) : aop P E s (.extract t i) = eExtract s (ev s t) i := rfl
theorem aop_builtin (b : Builtin) (l : List Operand) (ts : List Nat) : aop P E s (.call ⟨.builtin b, l.toArray, ts.toArray⟩) = eBuiltin P s b ts (l.map (ev s)) := rfl
theorem aop_call (f : Operand) (l : List Operand) (ts : Array Nat) : aop P E s (.call ⟨.value f, l.toArray, ts⟩) = eFn E s (ev s f) (l.map (ev s)) := rfl
theorem eBuiltin_len (T : Nat) (x : X) : eBuiltin P s .len [T] [x] = eLen P s T x := rfl
theorem eBuiltin_append (T : Nat) (a x : X) : eBuiltin P s .append [T, T] [a, x] = eAppend P s T a x := by simp [eBuiltin]
theorem eBuiltin_min (ts : List Nat) (xs : List X) : eBuiltin P s .min ts xs = eMin s xs := by
  unfold eBuiltin; split <;> first | rfl | simp_all
theorem eBuiltin_max (ts : List Nat) (xs : List X) : eBuiltin P s .max ts xs = eMax s xs := by
  unfold eBuiltin; split <;> first | rfl | simp_all
theorem eMin_int (k k' : IntKind) (x y : Int) : eMin s [.v (.int k x), .v (.int k' y)] = ⟨True, .v (.int k (if y < x then y else x)), s.h⟩ := rfl
theorem eMax_int (k k' : IntKind) (x y : Int) : eMax s [.v (.int k x), .v (.int k' y)] = ⟨True, .v (.int k (if y > x then y else x)), s.h⟩ := rfl
theorem eFn_call (f : Nat) (cap args : List X) (F : Fun) (h : E.f f = some F) : eFn E s (.fn f cap) args = eCall s F (args ++ cap) := by simp [eFn, h]
theorem ePick_bool (p : Bool) (a b : X) : ePick s (.v (.bool p)) a b = ⟨True, pX p a b, s.h⟩ := rfl
theorem eNil_pt (c : List X) : eNil s (.pt c) = ⟨True, .pt c, s.h⟩ := rfl
theorem eNil_optr (k v i j : Nat) : eNil s (.optr k v i j) = ⟨True, .optr k v i j, s.h⟩ := rfl
theorem eNil_fn (f : Nat) (c : List X) : eNil s (.fn f c) = ⟨True, .fn f c, s.h⟩ := rfl
theorem eUn_not (b : Bool) : eUn s .not (.v (.bool b)) = ⟨True, .v (.bool !b), s.h⟩ := rfl
theorem eUn_neg (k : IntKind) (n : Int) : eUn s .neg (.v (.int k n)) = ⟨True, .v (.int k (k.wrap (0 - n))), s.h⟩ := rfl
/-! numbers -/
variable (T : Nat) (k : IntKind) (a b : Int)
theorem bin_agg (xs ys : List X) (l : List (Nat × Nat)) (h : eqPlan P T = some l) : eBin P s .eql T (.agg xs) (.agg ys) = (match vals xs, vals ys with | some cs, some ds => (match planEq cs.toArray ds.toArray l with | some b => ⟨l.all (fun p => p.2 < szOf P T) = true ∧ xs.length = szOf P T ∧ ys.length = szOf P T, .v (.bool b), s.h⟩ | none => bad s) | _, _ => bad s) := by
  simp only [eBin, h]
  cases vals xs <;> cases vals ys <;> try rfl
  rename_i cs ds
  dsimp only
  cases planEq cs.toArray ds.toArray l <;> rfl
theorem bin_add : eBin P s .add T (.v (.int k a)) (.v (.int k b)) = ⟨True, .v (.int k (k.wrap (a + b))), s.h⟩ := by simp [eBin, binC, binV]
theorem bin_sub : eBin P s .sub T (.v (.int k a)) (.v (.int k b)) = ⟨True, .v (.int k (k.wrap (a - b))), s.h⟩ := by simp [eBin, binC, binV]
theorem bin_mul : eBin P s .mul T (.v (.int k a)) (.v (.int k b)) = ⟨True, .v (.int k (k.wrap (a * b))), s.h⟩ := by simp [eBin, binC, binV]
theorem bin_quo : eBin P s .quo T (.v (.int k a)) (.v (.int k b)) = ⟨b ≠ 0, .v (.int k (k.wrap (a.tdiv b))), s.h⟩ := by simp [eBin, binC, binV]
theorem bin_rem : eBin P s .rem T (.v (.int k a)) (.v (.int k b)) = ⟨b ≠ 0, .v (.int k (a.tmod b)), s.h⟩ := by simp [eBin, binC, binV]
theorem bin_eql : eBin P s .eql T (.v (.int k a)) (.v (.int k b)) = ⟨True, .v (.bool (a == b)), s.h⟩ := by simp [eBin, binC, binV]
theorem bin_neq : eBin P s .neq T (.v (.int k a)) (.v (.int k b)) = ⟨True, .v (.bool (a != b)), s.h⟩ := by simp [eBin, binC, binV]
theorem bin_lss : eBin P s .lss T (.v (.int k a)) (.v (.int k b)) = ⟨True, .v (.bool (decide (a < b))), s.h⟩ := by simp [eBin, binC, binV]
theorem bin_leq : eBin P s .leq T (.v (.int k a)) (.v (.int k b)) = ⟨True, .v (.bool (decide (a ≤ b))), s.h⟩ := by simp [eBin, binC, binV]
theorem bin_gtr : eBin P s .gtr T (.v (.int k a)) (.v (.int k b)) = ⟨True, .v (.bool (decide (b < a))), s.h⟩ := by simp [eBin, binC, binV]
theorem bin_geq : eBin P s .geq T (.v (.int k a)) (.v (.int k b)) = ⟨True, .v (.bool (decide (b ≤ a))), s.h⟩ := by simp [eBin, binC, binV]
theorem bin_shl (k' : IntKind) : eBin P s .shl T (.v (.int k a)) (.v (.int k' b)) = ⟨0 ≤ b, .v (.int k (k.wrap (a * 2 ^ (min b.toNat k.bits)))), s.h⟩ := by simp [eBin, binC, binV]
theorem bin_shr (k' : IntKind) : eBin P s .shr T (.v (.int k a)) (.v (.int k' b)) = ⟨0 ≤ b, .v (.int k (a.fdiv (2 ^ (min b.toNat k.bits)))), s.h⟩ := by simp [eBin, binC, binV]
theorem bin_beq (p q : Bool) (h : P.underlying T = some .bool) : eBin P s .eql T (.v (.bool p)) (.v (.bool q)) = ⟨True, .v (.bool (p == q)), s.h⟩ := by simp [eBin, binC, binV, h]
theorem bin_bne (p q : Bool) (h : P.underlying T = some .bool) : eBin P s .neq T (.v (.bool p)) (.v (.bool q)) = ⟨True, .v (.bool (p != q)), s.h⟩ := by
  simp [eBin, binC, binV, h]; cases p <;> cases q <;> rfl
variable (x y : ByteArray)
theorem bin_cat : eBin P s .add T (.v (.string x)) (.v (.string y)) = ⟨x.size + y.size ≤ 9223372036854775807, .v (.string (x ++ y)), s.h⟩ := by simp [eBin, binC, binV]
theorem bin_seq : eBin P s .eql T (.v (.string x)) (.v (.string y)) = ⟨True, .v (.bool (x.toList == y.toList)), s.h⟩ := by simp [eBin, binC, binV]
theorem bin_sne : eBin P s .neq T (.v (.string x)) (.v (.string y)) = ⟨True, .v (.bool (!(x.toList == y.toList))), s.h⟩ := by simp [eBin, binC, binV]
/-! memory -/
theorem eLen_sl (rows : List (List X)) : eLen P s T (.sl rows) = ⟨(slEl P T).isSome = true, .v (.int .i64 rows.length), s.h⟩ := rfl
theorem eLen_str (b : ByteArray) : eLen P s T (.v (.string b)) = ⟨isStr P T = true, .v (.int .i64 b.size), s.h⟩ := rfl
theorem eLen_nil : eLen P s T (.v (.slice none 0 0)) = ⟨(slEl P T).isSome = true, .v (.int .i64 0), s.h⟩ := rfl
theorem eLen_osl (k ver : Nat) : eLen P s T (.osl k ver) = ⟨(slEl P T).isSome = true ∧ verOk s.h k ver ∧ ((s.h[k]?.map (·.bx)).getD true) = false, .v (.int .i64 ((s.h[k]?.map (·.rows)).getD []).length), s.h⟩ := rfl
theorem eLen_osub (k ver off len : Nat) : eLen P s T (.osub k ver off len) = ⟨(slEl P T).isSome = true, .v (.int .i64 len), s.h⟩ := rfl
theorem ix_sl (rows : List (List X)) (n : Int) (e : Nat) (h : slEl P T = some e) : eIndexAddr P s T (.sl rows) (.v (.int k n)) = ⟨okT P e = true ∧ 0 ≤ n ∧ n.toNat < rows.length ∧ (rows[n.toNat]?.getD []).length = szOf P e, .pt (rows[n.toNat]?.getD []), s.h⟩ := by
  simp [eIndexAddr, h]
theorem ix_osl (k' ver : Nat) (n : Int) (e : Nat) (h : slEl P T = some e) : eIndexAddr P s T (.osl k' ver) (.v (.int k n)) = ⟨okT P e = true ∧ 0 ≤ n ∧ verOk s.h k' ver ∧ n.toNat < ((s.h[k']?.map (·.rows)).getD []).length ∧ ((s.h[k']?.map (·.sz)).getD 0) = szOf P e ∧ ((s.h[k']?.map (·.bx)).getD true) = false, .optr k' ver n.toNat 0, s.h⟩ := by
  simp [eIndexAddr, h]
theorem ix_osub (k' ver off len : Nat) (n : Int) (e : Nat) (h : slEl P T = some e) : eIndexAddr P s T (.osub k' ver off len) (.v (.int k n)) = ⟨okT P e = true ∧ 0 ≤ n ∧ n.toNat < len ∧ verOk s.h k' ver ∧ ((s.h[k']?.map (·.sz)).getD 0) = szOf P e, .optr k' ver (off + n.toNat) 0, s.h⟩ := by
  simp [eIndexAddr, h]
theorem ix_arp (cells : List X) (n : Int) (l e : Nat) (h : slEl P T = none) (h' : arEl P T = some (l, e)) : eIndexAddr P s T (.pt cells) (.v (.int k n)) = ⟨okT P e = true ∧ 0 ≤ n ∧ n.toNat < l ∧ l * szOf P e ≤ cells.length, .pt (cells.drop (n.toNat * szOf P e)), s.h⟩ := by
  simp [eIndexAddr, h, h']
theorem ix_aro (k' ver r j : Nat) (n : Int) (l e : Nat) (h : slEl P T = none) (h' : arEl P T = some (l, e)) : eIndexAddr P s T (.optr k' ver r j) (.v (.int k n)) = ⟨okT P e = true ∧ 0 ≤ n ∧ n.toNat < l, .optr k' ver r (j + n.toNat * szOf P e), s.h⟩ := by
  simp [eIndexAddr, h, h']
theorem ld_pt1 (cells : List X) (h : isAg P T = false) : eLoad P s T (.pt cells) = ⟨okT P T = true ∧ 1 ≤ cells.length, cells.headD .top, s.h⟩ := by simp [eLoad, need, ldX, h]
theorem ld_ptN (cells : List X) (h : isAg P T = true) : eLoad P s T (.pt cells) = ⟨okT P T = true ∧ szOf P T ≤ cells.length, .agg (cells.take (szOf P T)), s.h⟩ := by simp [eLoad, need, ldX, h]
theorem ld_op1 (k' ver i j : Nat) (h : isAg P T = false) : eLoad P s T (.optr k' ver i j) = ⟨okT P T = true ∧ verOk s.h k' ver ∧ j + 1 ≤ (rowOf s.h k' i).length, ((rowOf s.h k' i).drop j).headD .top, s.h⟩ := by simp [eLoad, need, ldX, h]
theorem ld_opN (k' ver i j : Nat) (h : isAg P T = true) : eLoad P s T (.optr k' ver i j) = ⟨okT P T = true ∧ verOk s.h k' ver ∧ 0 < szOf P T ∧ j + szOf P T ≤ (rowOf s.h k' i).length, .agg (((rowOf s.h k' i).drop j).take (szOf P T)), s.h⟩ := by simp [eLoad, need, ldX, h]
theorem fa_pt (f : Nat) (cells : List X) (o ft : Nat) (h : flOf P T f = some (o, ft)) : eFieldAddr P s T f (.pt cells) = ⟨okT P ft = true ∧ 0 < szOf P ft ∧ o ≤ cells.length, .pt (cells.drop o), s.h⟩ := by simp [eFieldAddr, h]
theorem fa_op (f k' ver i j : Nat) (o ft : Nat) (h : flOf P T f = some (o, ft)) : eFieldAddr P s T f (.optr k' ver i j) = ⟨okT P ft = true ∧ 0 < szOf P ft, .optr k' ver i (j + o), s.h⟩ := by simp [eFieldAddr, h]
theorem fi_ag (f : Nat) (cells : List X) (o ft : Nat) (h : flOf P T f = some (o, ft)) : eField P s T f (.agg cells) = ⟨okT P ft = true ∧ o + need P ft ≤ cells.length, ldX (isAg P ft) (szOf P ft) (cells.drop o), s.h⟩ := by simp [eField, h]
theorem ldX_false (sz : Nat) (l : List X) : ldX false sz l = l.headD .top := rfl
theorem ldX_true (sz : Nat) (l : List X) : ldX true sz l = .agg (l.take sz) := rfl
theorem need_1 (h : isAg P T = false) : need P T = 1 := by simp [need, h]
theorem need_N (h : isAg P T = true) : need P T = szOf P T := by simp [need, h]
theorem ext_tup (xs : List X) (i : Nat) : eExtract s (.tup xs) i = ⟨i < xs.length, xs.getD i .top, s.h⟩ := rfl
theorem box_agg (xs : List X) : eBox s T (.agg xs) = ⟨True, .optr s.h.length 0 0 0, s.h ++ [⟨T, xs.length, 0, [xs], true, true, none⟩]⟩ := rfl
theorem box_v (u : Value) : eBox s T (.v u) = ⟨True, .optr s.h.length 0 0 0, s.h ++ [⟨T, 1, 0, [[.v u]], true, true, none⟩]⟩ := rfl
theorem box_sl (r : List (List X)) : eBox s T (.sl r) = ⟨True, .optr s.h.length 0 0 0, s.h ++ [⟨T, 1, 0, [[.sl r]], true, true, none⟩]⟩ := rfl
theorem box_osl (k ver : Nat) : eBox s T (.osl k ver) = ⟨True, .optr s.h.length 0 0 0, s.h ++ [⟨T, 1, 0, [[.osl k ver]], true, true, none⟩]⟩ := rfl
theorem st_v (k' ver i j : Nat) (u : Value) : eStore P s T (.optr k' ver i j) (.v u) = ⟨okT P T = true ∧ 1 = szOf P T ∧ verOk s.h k' ver ∧ liveOk s.h k' ∧ j + 1 ≤ (rowOf s.h k' i).length, .top, putCells s.h k' i j [.v u]⟩ := by simp [eStore, cellsX]
theorem st_sl (k' ver i j : Nat) (r : List (List X)) : eStore P s T (.optr k' ver i j) (.sl r) = ⟨okT P T = true ∧ 1 = szOf P T ∧ verOk s.h k' ver ∧ liveOk s.h k' ∧ j + 1 ≤ (rowOf s.h k' i).length, .top, putCells s.h k' i j [.sl r]⟩ := by simp [eStore, cellsX]
theorem st_osl (k' ver i j k2 v2 : Nat) : eStore P s T (.optr k' ver i j) (.osl k2 v2) = ⟨okT P T = true ∧ 1 = szOf P T ∧ verOk s.h k' ver ∧ liveOk s.h k' ∧ j + 1 ≤ (rowOf s.h k' i).length, .top, putCells s.h k' i j [.osl k2 v2]⟩ := by simp [eStore, cellsX]
theorem st_agg (k' ver i j : Nat) (xs : List X) : eStore P s T (.optr k' ver i j) (.agg xs) = ⟨okT P T = true ∧ xs.length = szOf P T ∧ 0 < xs.length ∧ verOk s.h k' ver ∧ liveOk s.h k' ∧ j + xs.length ≤ (rowOf s.h k' i).length, .top, putCells s.h k' i j xs⟩ := by simp [eStore, cellsX]
end

/-! ### guarded values -/
theorem un_mk (n : Nat) (t : Nat → X) (h : List Ob) (es : List (Bool × Bool)) : St.un ⟨n, t, h⟩ es = ⟨n, unT es t, h⟩ := rfl
theorem unT_app (es : List (Bool × Bool)) (t : Nat → X) (i : Nat) : unT es t i = unL es (t i) := rfl
theorem unL_nil (x : X) : unL [] x = x := rfl
theorem unL_cons (p w : Bool) (es : List (Bool × Bool)) (x : X) : unL ((p, w) :: es) x = unL es (un p w x) := rfl
theorem un_gd (p want : Bool) (es : List (Bool × Bool)) (x : X) : un p want (.gd ((p, want) :: es) x) = gdL es x := by simp [un]
theorem gdL_nil (x : X) : gdL [] x = x := rfl
theorem gdL_cons (e : Bool × Bool) (es : List (Bool × Bool)) (x : X) : gdL (e :: es) x = .gd (e :: es) x := rfl
theorem allT_nil : allT [] = True := rfl
theorem allT_cons (p w : Bool) (es : List (Bool × Bool)) : allT ((p, w) :: es) = (p = w ∧ allT es) := rfl
theorem useG_ft (e : Eff) (es : List (Bool × Bool)) (h0 : List Ob) (k : X → Prop) : Eff.useG e ((false, true) :: es) h0 k = k (.gd ((false, true) :: es) e.val) := by simp [Eff.useG, allT]
theorem useG_tf (e : Eff) (es : List (Bool × Bool)) (h0 : List Ob) (k : X → Prop) : Eff.useG e ((true, false) :: es) h0 k = k (.gd ((true, false) :: es) e.val) := by simp [Eff.useG, allT]
theorem un_v (p want : Bool) (x : Value) : un p want (.v x) = .v x := rfl
theorem un_sl (p want : Bool) (x : List (List X)) : un p want (.sl x) = .sl x := rfl
theorem un_pt (p want : Bool) (x : List X) : un p want (.pt x) = .pt x := rfl
theorem un_agg (p want : Bool) (x : List X) : un p want (.agg x) = .agg x := rfl
theorem un_tup (p want : Bool) (x : List X) : un p want (.tup x) = .tup x := rfl
theorem un_fn (p want : Bool) (f : Nat) (x : List X) : un p want (.fn f x) = .fn f x := rfl
theorem un_osl (p want : Bool) (k v : Nat) : un p want (.osl k v) = .osl k v := rfl
theorem un_osub (p want : Bool) (k v o l : Nat) : un p want (.osub k v o l) = .osub k v o l := rfl
theorem un_optr (p want : Bool) (k v i j : Nat) : un p want (.optr k v i j) = .optr k v i j := rfl
theorem un_top (p want : Bool) : un p want .top = .top := rfl
theorem pX_t (a b : X) : pX true a b = un true true a := rfl
theorem pX_f (a b : X) : pX false a b = un false false b := rfl
theorem pick_and (p q r : Bool) : pX p (.gd [(p, true)] (.v (.bool q))) (.v (.bool r)) = .v (.bool (if p then q else r)) := by cases p <;> simp [pX, un, gdL]
theorem pick_or (p q r : Bool) : pX p (.v (.bool r)) (.gd [(p, false)] (.v (.bool q))) = .v (.bool (if p then r else q)) := by cases p <;> simp [pX, un, gdL]
theorem if_and (p q : Bool) : (if p = true then q else false) = (p && q) := by cases p <;> rfl
theorem if_or (p q : Bool) : (if p = true then true else q) = (p || q) := by cases p <;> rfl

/-! ### objects -/
theorem verOk_mk (h : List Ob) (k ver : Nat) : verOk h k ver = ((h[k]?).map (·.ver) = some ver) := rfl
theorem liveOk_mk (h : List Ob) (k : Nat) : liveOk h k = (((h[k]?).map (·.live)).getD false = true) := rfl

end Go.Abs
