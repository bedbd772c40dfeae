/-
  What is proved here: the equations of single operations over the program's tables, without a condition, marked for simp. Condition: none.
-/
import Derived.Test.YtglbimhhiikkpaaDoorAbs19
import Derived.Test.YtglbimhhiikkpaaDoorAbs21
namespace Go.Abs
open Go.RowKit

section
variable {P : Program} {E : Env} (s : St) (T : Nat)
theorem need_eq : need P T = if isAg P T = true then szOf P T else 1 := rfl
theorem g_ldp (cells : List X) : eLoad P s T (.pt cells) = ⟨okT P T = true ∧ need P T ≤ cells.length, ldX (isAg P T) (szOf P T) cells, s.h⟩ := rfl
theorem g_ldo (k ver i j : Nat) : eLoad P s T (.optr k ver i j) = ⟨okT P T = true ∧ verOk s.h k ver ∧ 0 < need P T ∧ j + need P T ≤ (rowOf s.h k i).length, ldX (isAg P T) (szOf P T) ((rowOf s.h k i).drop j), s.h⟩ := rfl
theorem g_fap (f : Nat) (cells : List X) : eFieldAddr P s T f (.pt cells) = (match flOf P T f with | some (o, ft) => ⟨okT P ft = true ∧ 0 < szOf P ft ∧ o ≤ cells.length, .pt (cells.drop o), s.h⟩ | none => ⟨False, .top, s.h⟩) := rfl
theorem g_fao (f k ver i j : Nat) : eFieldAddr P s T f (.optr k ver i j) = (match flOf P T f with | some (o, ft) => ⟨okT P ft = true ∧ 0 < szOf P ft, .optr k ver i (j + o), s.h⟩ | none => ⟨False, .top, s.h⟩) := rfl
theorem g_fi (f : Nat) (cells : List X) : eField P s T f (.agg cells) = (match flOf P T f with | some (o, ft) => ⟨okT P ft = true ∧ o + need P ft ≤ cells.length, ldX (isAg P ft) (szOf P ft) (cells.drop o), s.h⟩ | none => ⟨False, .top, s.h⟩) := rfl
theorem g_ixsl (k : IntKind) (rows : List (List X)) (n : Int) : eIndexAddr P s T (.sl rows) (.v (.int k n)) = (match slEl P T with | some e => ⟨okT P e = true ∧ 0 ≤ n ∧ n.toNat < rows.length ∧ (rows[n.toNat]?.getD []).length = szOf P e, .pt (rows[n.toNat]?.getD []), s.h⟩ | none => ⟨False, .top, s.h⟩) := by
  simp only [eIndexAddr]
  cases slEl P T with
  | some e => rfl
  | none => cases arEl P T <;> rfl
theorem g_ixosl (k : IntKind) (k' ver : Nat) (n : Int) : eIndexAddr P s T (.osl k' ver) (.v (.int k n)) = (match slEl P T with | some e => ⟨okT P e = true ∧ 0 ≤ n ∧ verOk s.h k' ver ∧ n.toNat < ((s.h[k']?.map (·.rows)).getD []).length ∧ ((s.h[k']?.map (·.sz)).getD 0) = szOf P e ∧ ((s.h[k']?.map (·.bx)).getD true) = false, .optr k' ver n.toNat 0, s.h⟩ | none => ⟨False, .top, s.h⟩) := by
  simp only [eIndexAddr]
  cases slEl P T with
  | some e => rfl
  | none => cases arEl P T <;> rfl
theorem g_ixosub (k : IntKind) (k' ver off len : Nat) (n : Int) : eIndexAddr P s T (.osub k' ver off len) (.v (.int k n)) = (match slEl P T with | some e => ⟨okT P e = true ∧ 0 ≤ n ∧ n.toNat < len ∧ verOk s.h k' ver ∧ ((s.h[k']?.map (·.sz)).getD 0) = szOf P e, .optr k' ver (off + n.toNat) 0, s.h⟩ | none => ⟨False, .top, s.h⟩) := by
  simp only [eIndexAddr]
  cases slEl P T with
  | some e => rfl
  | none => cases arEl P T <;> rfl
theorem g_ixarp (k : IntKind) (cells : List X) (n : Int) : eIndexAddr P s T (.pt cells) (.v (.int k n)) = (match slEl P T, arEl P T with | none, some (l, e) => ⟨okT P e = true ∧ 0 ≤ n ∧ n.toNat < l ∧ l * szOf P e ≤ cells.length, .pt (cells.drop (n.toNat * szOf P e)), s.h⟩ | _, _ => ⟨False, .top, s.h⟩) := by
  simp only [eIndexAddr]
  cases slEl P T with
  | some e => rfl
  | none => cases arEl P T <;> rfl
theorem g_ixaro (k : IntKind) (k' ver r j : Nat) (n : Int) : eIndexAddr P s T (.optr k' ver r j) (.v (.int k n)) = (match slEl P T, arEl P T with | none, some (l, e) => ⟨okT P e = true ∧ 0 ≤ n ∧ n.toNat < l, .optr k' ver r (j + n.toNat * szOf P e), s.h⟩ | _, _ => ⟨False, .top, s.h⟩) := by
  simp only [eIndexAddr]
  cases slEl P T with
  | some e => rfl
  | none => cases arEl P T <;> rfl
theorem g_eiag (cells : List X) (k : IntKind) (n : Int) : eIndex P s T (.agg cells) (.v (.int k n)) = (match arEl P T with | some (l, e) => ⟨okT P e = true ∧ 0 ≤ n ∧ n.toNat < l ∧ n.toNat * szOf P e + need P e ≤ cells.length, ldX (isAg P e) (szOf P e) (cells.drop (n.toNat * szOf P e)), s.h⟩ | none => ⟨False, .top, s.h⟩) := rfl
theorem g_beq (p q : Bool) : eBin P s .eql T (.v (.bool p)) (.v (.bool q)) = ⟨P.underlying T = some .bool, .v (.bool (p == q)), s.h⟩ := by simp [eBin, binC, binV]
theorem g_bne (p q : Bool) : eBin P s .neq T (.v (.bool p)) (.v (.bool q)) = ⟨P.underlying T = some .bool, .v (.bool (p != q)), s.h⟩ := by
  simp [eBin, binC, binV]; cases p <;> cases q <;> rfl
theorem g_bagg (xs ys : List X) : eBin P s .eql T (.agg xs) (.agg ys) = (match eqPlan P T, vals xs, vals ys with | some l, some cs, some ds => (match planEq cs.toArray ds.toArray l with | some b => ⟨l.all (fun p => p.2 < szOf P T) = true ∧ xs.length = szOf P T ∧ ys.length = szOf P T, .v (.bool b), s.h⟩ | none => bad s) | _, _, _ => bad s) := by
  simp only [eBin]
  cases eqPlan P T with
  | none => rfl
  | some l => cases vals xs with
    | none => rfl
    | some cs => cases vals ys with
      | none => rfl
      | some ds => dsimp only; cases planEq cs.toArray ds.toArray l <;> rfl
theorem g_bnagg (xs ys : List X) : eBin P s .neq T (.agg xs) (.agg ys) = (match eqPlan P T, vals xs, vals ys with | some l, some cs, some ds => (match planEq cs.toArray ds.toArray l with | some b => ⟨l.all (fun p => p.2 < szOf P T) = true ∧ xs.length = szOf P T ∧ ys.length = szOf P T, .v (.bool !b), s.h⟩ | none => bad s) | _, _, _ => bad s) := by
  simp only [eBin]
  cases eqPlan P T with
  | none => rfl
  | some l => cases vals xs with
    | none => rfl
    | some cs => cases vals ys with
      | none => rfl
      | some ds => dsimp only; cases planEq cs.toArray ds.toArray l <;> rfl
theorem g_strlt (x y : ByteArray) : eBin P s .lss T (.v (.string x)) (.v (.string y)) = ⟨True, .v (.bool (Op.bytesLess x.toList y.toList)), s.h⟩ := by simp [eBin, binC, binV]
/-! maps -/
theorem aop_makeMap (r : Option Operand) : aop P E s (.makeMap T r) = eMakeMap P s T (r.map (ev s)) := rfl
theorem aop_lookup (x i : Operand) (ok : Bool) : aop P E s (.lookup T x i ok) = eLookup P s T (ev s x) (ev s i) ok := rfl
theorem aop_mapUpdate (x i y : Operand) : aop P E s (.mapUpdate T x i y) = eMapSet P s T (ev s x) (ev s i) (ev s y) := rfl
theorem aopD_lookup (x i : Operand) (ok : Bool) : aopD P E s (.lookup T x i ok) = eLookup P s T (ev s x) (ev s i) ok := rfl
theorem g_mk : eMakeMap P s T none = ⟨True, .osl s.h.length 0, s.h ++ [⟨0, 0, 0, [], true, true, some []⟩]⟩ := rfl
theorem g_mkn (k : IntKind) (n : Int) : eMakeMap P s T (some (.v (.int k n))) = ⟨(mapKV P T).isSome = true, .osl s.h.length 0, s.h ++ [⟨0, 0, 0, [], true, true, some []⟩]⟩ := rfl
theorem g_lk (k ver : Nat) (n : Int) (ok : Bool) : eLookup P s T (.osl k ver) (.v (.int .i64 n)) ok = (match mapKV P T with
  | some (_, e) => (match (s.h[k]?).bind (·.mp) with
    | some l => ⟨hasZ P e = true ∧ verOk s.h k ver ∧ ((s.h[k]?.map (·.bx)).getD false) = true ∧ ((s.h[k]?.map (·.rows)).getD []) = [], mres ok (l.lookup n) (zeroV P e), s.h⟩
    | none => ⟨False, .top, s.h⟩)
  | none => ⟨False, .top, s.h⟩) := by
  simp only [eLookup]
  cases mapKV P T <;> rfl
theorem g_ms (k ver : Nat) (n : Int) (y : X) : eMapSet P s T (.osl k ver) (.v (.int .i64 n)) y = (match mapKV P T, toV y with
  | some _, some v => (match s.h[k]? with
    | some ob => (match ob.mp with
      | some l => ⟨verOk s.h k ver ∧ liveOk s.h k ∧ ob.bx = true ∧ ob.rows = [], .top, s.h.set k { ob with mp := some (mset l n v) }⟩
      | none => ⟨False, .top, s.h⟩)
    | none => ⟨False, .top, s.h⟩)
  | _, _ => ⟨False, .top, s.h⟩) := by
  simp only [eMapSet]
  cases mapKV P T <;> cases toV y <;> rfl
theorem g_tov (x : Value) : toV (.v x) = some x := rfl
theorem g_toa (xs : List X) : toV (.agg xs) = (vals xs).map fun vs => .agg vs.toArray := rfl
end
theorem mres_t (o : Option Value) (z : Value) : mres true o z = .tup [cst (o.getD z), .v (.bool o.isSome)] := rfl
theorem mres_f (o : Option Value) (z : Value) : mres false o z = cst (o.getD z) := rfl

def esBad : List (Bool × Bool) → Bool
  | [] => false
  | (a, b) :: es => (a != b) || esBad es
theorem esBad_nil : esBad [] = false := rfl
theorem esBad_cons (a b : Bool) (es : List (Bool × Bool)) : esBad ((a, b) :: es) = ((a != b) || esBad es) := rfl
theorem esBad_not : ∀ {es : List (Bool × Bool)}, esBad es = true → ¬ allT es
  | (a, b) :: es, h, ha => by
    simp only [esBad_cons, Bool.or_eq_true] at h
    rcases h with h | h
    · have e : a = b := ha.1
      rw [e] at h; simp at h
    · exact esBad_not h ha.2
theorem useG_skip (e : Eff) (es : List (Bool × Bool)) (h0 : List Ob) (k : X → Prop) (h : esBad es = true) : Eff.useG e es h0 k = k (.gd es e.val) := by
  simp [Eff.useG, esBad_not h]

attribute [simp ↓] awp_skip awp_seq awp_region awp_draw awp_cond awp_block awp_loop awp_exit awp_ret thenP_normal thenP_exit thenP_ret blockP_normal blockP_exit blockP_ret rgW_nil rgW_cons rgW_guard rgD_nil rgD_cons rgD_guard rgZ_nil rgZ_cons
attribute [simp] brP_true brP_false brP_bool guardP_bool guardP_gd gval Eff.use_mk Eff.useG_mk useG_ft useG_tf put_some put_none dok_some dok_none upd_app ev_tmp ev_const ev_func evG_tmp evG_const evG_global glX_some envA vals planEq leafEq cst_int cst_bool cst_string cst_nil tl_cons tl_nil args
attribute [simp] aop_move aop_assign aop_pick aop_alloc aop_box aop_build aop_buildSlice aop_load aop_store aop_nilCheck aop_binOp aop_unOp aop_convert aop_makeFunc aop_makeSlice aop_slice aop_fieldAddr aop_field aop_indexAddr aop_index aop_extract aop_builtin aop_call aop_makeMap aop_lookup aop_mapUpdate
attribute [simp] eBuiltin_len eBuiltin_append eBuiltin_min eBuiltin_max eMin_int eMax_int ePick_bool eNil_pt eNil_optr eNil_fn eUn_not eUn_neg bin_add bin_sub bin_mul bin_quo bin_rem bin_eql bin_neq bin_lss bin_leq bin_gtr bin_geq bin_shl bin_shr bin_cat bin_seq bin_sne eLen_sl eLen_str eLen_nil eLen_osl eLen_osub ldX_false ldX_true ext_tup box_agg box_v box_sl box_osl st_v st_sl st_osl st_agg
attribute [simp] pX_t pX_f un_mk unT_app unL_nil unL_cons gdL_nil gdL_cons allT_nil allT_cons un_gd un_v un_sl un_pt un_agg un_tup un_fn un_osl un_osub un_optr un_top verOk_mk liveOk_mk iR_length iR_get iR_getE retP_ret retP_normal retM_ret retM_normal pinl_nil pinl_cons envM eCallM pickK mArgs mPure setObs rb2 rb1 rb0 verOf rn0 rn1 pickA pickObs resL_nil resL_tmp resL_cell one_one one_two envOf eFn eCall
attribute [simp] pur_v pur_b pur_s pur_nil pur_sl pur_oslE pur_osubE pur_optrE pur_aggE pur_fnE shOb_mk iR_sh rowOf putCells splice iR_set iR_append iR_inj iR_pur deIs_sl deI_I sh2 sh1 sh0 isPure isP0 mf2 mf1 mf0 mfObs
attribute [simp] aopD_move aopD_assign aopD_pick aopD_build aopD_load aopD_nilCheck aopD_binOp aopD_unOp aopD_convert aopD_makeFunc aopD_slice aopD_fieldAddr aopD_field aopD_indexAddr aopD_index aopD_extract aopD_len aopD_min aopD_max aopD_call aopD_lookup eFnD_call rgO_ch rgO_fl rgO_flg free againL_nil againL_cons aopD_buildSlice
attribute [simp] p2_I p2_B p2_int p2_str p2_bool eAlloc eBuild placesX fillX cellsX plain ei_str bin_and bin_andNot sR_length sR_get sR_getE sR_inj sR_pur sR_mf sR_ok sR_sh
attribute [simp] need_eq g_ldp g_ldo g_fap g_fao g_fi g_ixsl g_ixosl g_ixosub g_ixarp g_ixaro g_eiag g_beq g_bne g_bagg g_bnagg g_strlt g_mk g_mkn g_lk g_ms g_tov g_toa mres_t mres_f
attribute [simp] bodyOf esBad_nil esBad_cons useG_skip
end Go.Abs
