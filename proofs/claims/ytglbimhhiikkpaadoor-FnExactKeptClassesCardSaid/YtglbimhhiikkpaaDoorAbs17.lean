/-
  What is proved here: equations by which a region that draws its order is reckoned; numbers and lists of numbers as data; a law's contract gives its walk. Condition: none.
-/
import Derived.Test.YtglbimhhiikkpaaDoorAbs16
namespace Go.Abs
open Go.RowKit

section
variable {P : Program} {E : Env} {ops : Array Oper} {s : St} {K : St → Prop} {rest : List Oper}
theorem rgD_nil : rgD P E ops [] s K = K s := rfl
theorem rgD_cons (d : Option Nat) (op : Op) (ty : Nat) (pos : String) (af : Array Edge) : rgD P E ops (⟨d, op, ty, pos, af, none⟩ :: rest) s K = (dok s d ∧ (aopD P E s op).use fun v _ => rgD P E ops rest (s.put d v s.h) K) := rfl
theorem rgD_guard (d : Option Nat) (op : Op) (ty : Nat) (pos : String) (af : Array Edge) (j : Nat) (want : Bool) :
    rgD P E ops (⟨d, op, ty, pos, af, some (j, want)⟩ :: rest) s K = guardP (gval ops s j) want fun es => dok s d ∧ (aopD P E (s.un es) op).useG es s.h fun v => rgD P E ops rest (s.put d v s.h) K := rfl
theorem drawP_all (l : List Oper) (h : drawOk l.toArray l.length = true) (h2 : rgD P E l.toArray l s K) : drawP P E l.toArray s K := by
  refine .inl ⟨l.length, h, ?_⟩
  simp only [List.take_length, List.drop_length]
  exact h2
theorem drawP_cut (l : List Oper) (m : Nat) (h : drawOk l.toArray m = true) (h2 : rgD P E l.toArray (l.take m) s fun s' => rgW P E l.toArray (l.drop m) s' K) : drawP P E l.toArray s K := .inl ⟨m, h, h2⟩
/-- the same value at these heaps, too -/
def againL (P : Program) (E : Env) (ops : Array Oper) (o : Oper) (v : X) (n : Nat) (t : Nat → X) : List (List Ob) → Prop
  | [] => True
  | h :: rest => OpOk P E ops ⟨n, t, h⟩ o v ∧ againL P E ops o v n t rest
theorem againL_all {o : Oper} {v : X} {n : Nat} {t : Nat → X} : ∀ {l : List (List Ob)}, againL P E ops o v n t l → ∀ h ∈ l, OpOk P E ops ⟨n, t, h⟩ o v
  | [], _, _, hm => by simp at hm
  | h0 :: rest, ha, h, hm => by
    rcases List.mem_cons.1 hm with rfl | hm
    · exact ha.1
    · exact againL_all ha.2 h hm
def rgO (P : Program) (E : Env) (ops : Array Oper) (ch : List Nat) (lv i : Nat) (o : Option Oper) (s : St) (past : List (List Ob)) (K : St → List (List Ob) → Prop) : Prop :=
  match o with
  | none => False
  | some o =>
    if ch.contains i = true then o.guard = none ∧ dok s o.dst ∧ (aop P E s o.op).use fun v h => K (s.put o.dst v h) (s.h :: past)
    else opX P E ops s o fun v => (free o.op = true ∨ againL P E ops o v s.n s.t (past.take (past.length - lv))) ∧ K (s.put o.dst v s.h) past
def rgZ (P : Program) (E : Env) (l : List Oper) (ch : List Nat) : List (Nat × Nat) → St → List (List Ob) → (St → Prop) → Prop
  | [], s, _, K => K s
  | (i, lv) :: rest, s, past, K => rgO P E l.toArray ch lv i l[i]? s past fun s' past' => rgZ P E l ch rest s' past' K
theorem rgZ_X {l : List Oper} {ch : List Nat} : ∀ (ord : List (Nat × Nat)) (s : St) (past : List (List Ob)), (ord.all fun p => p.2 == lev l.toArray ch p.1) = true → rgZ P E l ch ord s past K → rgX P E l.toArray ch (ord.map (·.1)) s past K
  | [], _, _, _, h => h
  | (i, lv) :: rest, s, past, hl, h => by
    simp only [List.all_cons, Bool.and_eq_true, beq_iff_eq] at hl
    unfold rgZ rgO at h
    simp only [List.map_cons]
    unfold rgX
    have e : l.toArray[i]? = l[i]? := by simp
    rw [e]
    split at h
    · exact h.elim
    · rename_i o ho
      rw [ho]
      dsimp only
      split at h
      · rename_i hc
        rw [if_pos hc]
        exact ⟨h.1, h.2.1, h.2.2.1, rgZ_X rest _ _ hl.2 h.2.2.2⟩
      · rename_i hc
        rw [if_neg hc]
        refine opX_mono (fun x hx => ⟨hx.1.imp id fun h1 => ?_, rgZ_X rest _ _ hl.2 hx.2⟩) h
        rw [← hl.1]
        exact againL_all h1
/-- in the order ord (each with the chain's count ahead of it), about the chain ch -/
theorem drawP_x (l : List Oper) (ord : List (Nat × Nat)) (ch : List Nat) (h : (drawOkX l.toArray (ord.map (·.1)) ch && ord.all fun p => p.2 == lev l.toArray ch p.1) = true) (h2 : rgZ P E l ch ord s [] K) : drawP P E l.toArray s K := by
  rw [Bool.and_eq_true] at h
  exact .inr (.inl ⟨_, ch, h.1, rgZ_X ord s [] h.2 h2⟩)
theorem rgZ_nil {l : List Oper} {ch : List Nat} {past : List (List Ob)} : rgZ P E l ch [] s past K = K s := rfl
theorem rgZ_cons {l : List Oper} {ch : List Nat} {past : List (List Ob)} (i lv : Nat) (r : List (Nat × Nat)) : rgZ P E l ch ((i, lv) :: r) s past K = rgO P E l.toArray ch lv i l[i]? s past fun s' past' => rgZ P E l ch r s' past' K := rfl
theorem rgO_congr {ch : List Nat} {lv i : Nat} {o o' : Option Oper} {past : List (List Ob)} {K : St → List (List Ob) → Prop} (h : o = o') : rgO P E ops ch lv i o s past K = rgO P E ops ch lv i o' s past K := by rw [h]
attribute [congr] rgO_congr
variable {ch : List Nat} {lv i : Nat} {past : List (List Ob)} {K' : St → List (List Ob) → Prop}
theorem rgO_ch (d : Option Nat) (op : Op) (ty : Nat) (pos : String) (af : Array Edge) (h : ch.contains i = true) : rgO P E ops ch lv i (some ⟨d, op, ty, pos, af, none⟩) s past K' = (dok s d ∧ (aop P E s op).use fun v h => K' (s.put d v h) (s.h :: past)) := by
  unfold rgO
  simp only [h, if_true, true_and]
theorem rgO_fl (d : Option Nat) (op : Op) (ty : Nat) (pos : String) (af : Array Edge) (h : ch.contains i = false) : rgO P E ops ch lv i (some ⟨d, op, ty, pos, af, none⟩) s past K' = (dok s d ∧ (aopD P E s op).use fun v _ => (free op = true ∨ againL P E ops ⟨d, op, ty, pos, af, none⟩ v s.n s.t (past.take (past.length - lv))) ∧ K' (s.put d v s.h) past) := by
  unfold rgO
  simp only [h, Bool.false_eq_true, if_false, opX]
theorem rgO_flg (d : Option Nat) (op : Op) (ty : Nat) (pos : String) (af : Array Edge) (j : Nat) (want : Bool) (h : ch.contains i = false) : rgO P E ops ch lv i (some ⟨d, op, ty, pos, af, some (j, want)⟩) s past K' = guardP (gval ops s j) want fun es => dok s d ∧ (aopD P E (s.un es) op).useG es s.h fun v => (free op = true ∨ againL P E ops ⟨d, op, ty, pos, af, some (j, want)⟩ v s.n s.t (past.take (past.length - lv))) ∧ K' (s.put d v s.h) past := by
  unfold rgO
  simp only [h, Bool.false_eq_true, if_false, opX]
theorem againL_nil (o : Oper) (v : X) (n : Nat) (t : Nat → X) : againL P E ops o v n t [] = True := rfl
theorem againL_cons (d : Option Nat) (op : Op) (ty : Nat) (pos : String) (af : Array Edge) (v : X) (n : Nat) (t : Nat → X) (h : List Ob) (r : List (List Ob)) : againL P E ops ⟨d, op, ty, pos, af, none⟩ v n t (h :: r) = ((dok ⟨n, t, h⟩ d ∧ (aopD P E ⟨n, t, h⟩ op).use fun v' _ => v = v') ∧ againL P E ops ⟨d, op, ty, pos, af, none⟩ v n t r) := rfl
variable (s)
theorem aopD_move (x : Operand) : aopD P E s (.move x) = ⟨True, ev s x, s.h⟩ := rfl
theorem aopD_assign (x : Operand) : aopD P E s (.assign x) = ⟨True, ev s x, s.h⟩ := rfl
theorem aopD_pick (c a b : Operand) : aopD P E s (.pick c a b) = ePick s (ev s c) (ev s a) (ev s b) := rfl
theorem aopD_build (T : Nat) (l : List (Nat × Operand)) : aopD P E s (.build T l.toArray) = eBuild P s T (l.map fun p => (p.1, ev s p.2)) := rfl
theorem aopD_buildSlice (T n : Nat) (l : List (Nat × Operand)) : aopD P E s (.buildSlice T n l.toArray) = eBSD P s T n (l.map fun p => (p.1, ev s p.2)) := rfl
theorem aopD_load (T : Nat) (a : Operand) : aopD P E s (.load T a) = eLoad P s T (evG E s a) := rfl
theorem aopD_nilCheck (x : Operand) : aopD P E s (.nilCheck x) = eNil s (ev s x) := rfl
theorem aopD_binOp (op : BinOp) (T : Nat) (x y : Operand) (T' : Nat) : aopD P E s (.binOp op T x y T') = eBin P s op T (ev s x) (ev s y) := rfl
theorem aopD_unOp (op : UnOp) (T : Nat) (x : Operand) : aopD P E s (.unOp op T x) = eUn s op (ev s x) := rfl
theorem aopD_convert (a b : Nat) (x : Operand) : aopD P E s (.convert a b x) = eConv P s a b (ev s x) := rfl
theorem aopD_makeFunc (f : Nat) (cap : List Operand) : aopD P E s (.makeFunc (.func f) #[] cap.toArray) = ⟨True, .fn f (cap.map (ev s)), s.h⟩ := rfl
theorem aopD_slice (T : Nat) (x : Operand) (lo hi mx : Option Operand) : aopD P E s (.slice T x lo hi mx) = eSlice P s T (ev s x) (lo.map (ev s)) (hi.map (ev s)) (mx.map (ev s)) := rfl
theorem aopD_fieldAddr (T : Nat) (x : Operand) (f : Nat) : aopD P E s (.fieldAddr T x f) = eFieldAddr P s T f (evG E s x) := rfl
theorem aopD_field (T : Nat) (x : Operand) (f : Nat) : aopD P E s (.field T x f) = eField P s T f (ev s x) := rfl
theorem aopD_indexAddr (T : Nat) (x i : Operand) : aopD P E s (.indexAddr T x i) = eIndexAddr P s T (evG E s x) (ev s i) := rfl
theorem aopD_index (T : Nat) (x i : Operand) : aopD P E s (.index T x i) = eIndex P s T (ev s x) (ev s i) := rfl
theorem aopD_extract (t : Operand) (i : Nat) : aopD P E s (.extract t i) = eExtract s (ev s t) i := rfl
theorem aopD_len (l : List Operand) (ts : List Nat) : aopD P E s (.call ⟨.builtin .len, l.toArray, ts.toArray⟩) = eBuiltin P s .len ts (l.map (ev s)) := rfl
theorem aopD_min (l : List Operand) (ts : List Nat) : aopD P E s (.call ⟨.builtin .min, l.toArray, ts.toArray⟩) = eBuiltin P s .min ts (l.map (ev s)) := rfl
theorem aopD_max (l : List Operand) (ts : List Nat) : aopD P E s (.call ⟨.builtin .max, l.toArray, ts.toArray⟩) = eBuiltin P s .max ts (l.map (ev s)) := rfl
theorem aopD_call (f : Operand) (l : List Operand) (ts : Array Nat) : aopD P E s (.call ⟨.value f, l.toArray, ts⟩) = eFnD E s (ev s f) (l.map (ev s)) := rfl
theorem eFnD_call (f : Nat) (cap args : List X) (F : Fun) (h : E.f f = some F) : eFnD E s (.fn f cap) args = ⟨F.pre ((args ++ cap).map (purN s.h 3)) ∧ (F.res ((args ++ cap).map (purN s.h 3))).2 = [] ∧ ((args ++ cap).all isPure = true ∨ mf2 (F.res ((args ++ cap).map (purN s.h 3))).1 = true),
    sh2 s.h.length (F.res ((args ++ cap).map (purN s.h 3))).1, s.h⟩ := by simp [eFnD, h]
end

/-! ### numbers -/
abbrev I (n : Int) : X := .v (.int .i64 n)
abbrev B (b : Bool) : X := .v (.bool b)
/-- a list of numbers, as rows -/
def iR (l : List Int) : List (List X) := l.map fun n => [I n]
def ints (l : List Int) : X := .sl (iR l)
def deI : X → Int
  | .v (.int _ n) => n
  | _ => 0
def deIs : X → List Int
  | .sl rows => rows.map fun r => deI (r.headD .top)
  | _ => []
theorem deI_I (n : Int) : deI (.v (.int .i64 n)) = n := rfl
theorem deIs_sl (l : List Int) : deIs (.sl (iR l)) = l := by simp [deIs, iR, deI, Function.comp_def]
theorem iR_length (l : List Int) : (iR l).length = l.length := by simp [iR]
theorem iR_get (l : List Int) (k : Nat) : (iR l)[k]? = (l[k]?).map fun n => [I n] := by simp [iR]
theorem iR_getE (l : List Int) (k : Nat) (h : k < (iR l).length) : (iR l)[k] = [I (l[k]'(by rw [← iR_length]; exact h))] := by simp [iR]
theorem iR_row {l : List Int} {r : List X} (h : r ∈ iR l) : r.length = 1 := by
  simp only [iR, List.mem_map] at h
  obtain ⟨n, _, rfl⟩ := h
  rfl
theorem iR_pur (h : List Ob) (n : Nat) (l : List Int) : ((iR l).map fun r => r.map (purN h n)) = iR l := by
  unfold iR
  rw [List.map_map]
  refine List.map_congr_left fun x _ => ?_
  cases n <;> rfl
theorem iR_append (l m : List Int) : iR l ++ iR m = iR (l ++ m) := by simp [iR]
theorem iR_single (n : Int) : [[I n]] = iR [n] := rfl
theorem iR_nil : iR [] = [] := rfl
theorem iR_take (l : List Int) (k : Nat) : (iR l).take k = iR (l.take k) := by simp [iR]
theorem iR_drop (l : List Int) (k : Nat) : (iR l).drop k = iR (l.drop k) := by simp [iR]
theorem iR_set (l : List Int) (k : Nat) (n : Int) : (iR l).set k [I n] = iR (l.set k n) := by simp [iR, List.map_set]
theorem iR_ok (l : List Int) (m : Nat) : (iR l).all (fun r => r.all (ok0 m)) = true := by simp [iR, ok0]
theorem iR_mf (l : List Int) : (iR l).all (fun r => r.all mf0) = true := by simp [iR, mf0]
theorem iR_replicate (k : Nat) (n : Int) : List.replicate k [I n] = iR (List.replicate k n) := by simp [iR]

/-! ### views of arguments -/
theorem pur_v (h : List Ob) (k : IntKind) (n : Int) : purN h 3 (.v (.int k n)) = .v (.int k n) := rfl
theorem pur_b (h : List Ob) (b : Bool) : purN h 3 (.v (.bool b)) = .v (.bool b) := rfl
theorem pur_s (h : List Ob) (b : ByteArray) : purN h 3 (.v (.string b)) = .v (.string b) := rfl
theorem pur_nil (h : List Ob) : purN h 3 (.v (.slice none 0 0)) = .sl [] := rfl
theorem pur_sl (h : List Ob) (r : List (List X)) : purN h 3 (.sl r) = .sl r := rfl
theorem pur_osl (h : List Ob) (k ver : Nat) (ob : Ob) (hk : h[k]? = some ob) (hv : ob.ver = ver) (hb : ob.bx = false) : purN h 3 (.osl k ver) = .sl (ob.rows.map fun r => r.map (purN h 2)) := by simp [purN, hk, hv, hb]

theorem iR_inj (l m : List Int) : (iR l = iR m) = (l = m) := by
  refine propext ⟨fun h => ?_, fun h => by rw [h]⟩
  have h1 := congrArg (fun r => deIs (.sl r)) h
  simpa only [deIs_sl] using h1
theorem iR_cons (n : Int) (l : List Int) : iR (n :: l) = [I n] :: iR l := rfl

/-! ### results -/
section
variable {P : Program} {s : St} {ro : X × List Ob} {rs : List ResultVar} {k : List X → Prop}
theorem retM_ret {us : List Value} : retM P rs us ro .ret s = resL P s rs fun xs => FinM s us (one xs) ro := rfl
theorem retM_normal {us : List Value} : retM P rs us ro .normal s = resL P s rs fun xs => FinM s us (one xs) ro := rfl
theorem retP_ret : retP P rs ro .ret s = resL P s rs fun xs => Fin s.h (one xs) ro := rfl
theorem retP_normal : retP P rs ro .normal s = resL P s rs fun xs => Fin s.h (one xs) ro := rfl
theorem resL_nil : resL P s [] k = k [] := rfl
theorem resL_tmp (n : Nat) (t : Nat → X) (h : List Ob) (i : Nat) : resL P ⟨n, t, h⟩ (.tmp i :: rs) k = resL P ⟨n, t, h⟩ rs fun vs => k (t i :: vs) := by simp [resL, resX, Eff.use]
theorem resL_cell (n : Nat) (t : Nat → X) (h : List Ob) (a T : Nat) : resL P ⟨n, t, h⟩ (.cell a T :: rs) k = (eLoad P ⟨n, t, h⟩ T (t a)).use fun v _ => resL P ⟨n, t, h⟩ rs fun vs => k (v :: vs) := rfl
theorem one_one (x : X) : one [x] = x := rfl
theorem one_two (x y : X) (l : List X) : one (x :: y :: l) = .tup (x :: y :: l) := rfl
theorem one_nil : one [] = .tup [] := rfl
end
/-- the result, read as data -/
theorem fin_pure {h : List Ob} {x : X} {ro : X × List Ob} (hl : h.all (·.live) = true) (e : (pur2 h x, []) = ro) : Fin h x ro := e ▸ Fin.pure hl
/-- the result, with the objects that it owns -/
theorem finM0 {n : Nat} {t : Nat → X} {h : List Ob} {x : X} {ro : X × List Ob} (ks : List Nat) (hp : pickOk h ks) (e : (rn2 h ks x, pickObs h ks) = ro) : FinM ⟨n, t, h⟩ [] x ro := ⟨ks, hp, by simp, e.symm⟩
theorem finM1 {n : Nat} {t : Nat → X} {h : List Ob} {x : X} {ro : X × List Ob} {u : Value} (k : Nat) (ks : List Nat) (ob : Ob) (hp : pickOk h (k :: ks)) (hk : h[k]? = some ob) (ht : t 1000 = .pin k ob.ver u) (e : (rn2 h (k :: ks) x, pickObs h (k :: ks)) = ro) : FinM ⟨n, t, h⟩ [u] x ro :=
  ⟨k :: ks, hp, fun i u' hu => by
    cases i with
    | zero => simp at hu; subst hu; exact ⟨k, ob, rfl, hk, ht⟩
    | succ i => simp at hu, e.symm⟩
theorem finM2 {n : Nat} {t : Nat → X} {h : List Ob} {x : X} {ro : X × List Ob} {u v : Value} (k l : Nat) (ks : List Nat) (ob ob' : Ob) (hp : pickOk h (k :: l :: ks)) (hk : h[k]? = some ob) (hl : h[l]? = some ob') (ht : t 1000 = .pin k ob.ver u) (ht' : t 1001 = .pin l ob'.ver v) (e : (rn2 h (k :: l :: ks) x, pickObs h (k :: l :: ks)) = ro) : FinM ⟨n, t, h⟩ [u, v] x ro :=
  ⟨k :: l :: ks, hp, fun i u' hu => by
    match i, hu with
    | 0, hu => simp at hu; subst hu; exact ⟨k, ob, rfl, hk, ht⟩
    | 1, hu => simp at hu; subst hu; exact ⟨l, ob', rfl, hl, ht'⟩
    | i + 2, hu => simp at hu, e.symm⟩
theorem fin_own {h : List Ob} {x : X} {ro : X × List Ob} (ks : List Nat) (hp : pickOk h ks) (e : (rn2 h ks x, pickObs h ks) = ro) : Fin h x ro := e ▸ Fin.own ks hp

theorem pur2_i (h : List Ob) (k : IntKind) (n : Int) : pur2 h (.v (.int k n)) = .v (.int k n) := rfl
theorem pur2_b (h : List Ob) (b : Bool) : pur2 h (.v (.bool b)) = .v (.bool b) := rfl
theorem pur2_s (h : List Ob) (b : ByteArray) : pur2 h (.v (.string b)) = .v (.string b) := rfl
theorem pur2_nil (h : List Ob) : pur2 h (.v (.slice none 0 0)) = .sl [] := rfl
theorem pur2_sl (h : List Ob) (r : List (List X)) : pur2 h (.sl r) = .sl r := rfl
theorem pur2_tup (h : List Ob) (xs : List X) : pur2 h (.tup xs) = .tup (xs.map (purN h 3)) := rfl
theorem rn2_tup (h : List Ob) (ks : List Nat) (xs : List X) : rn2 h ks (.tup xs) = .tup (xs.map (rn1 h ks)) := rfl
theorem rn2_agg (h : List Ob) (ks : List Nat) (xs : List X) : rn2 h ks (.agg xs) = .agg (xs.map (rn0 h ks)) := rfl
theorem rn2_osl (h : List Ob) (ks : List Nat) (k ver : Nat) : rn2 h ks (.osl k ver) = rn0 h ks (.osl k ver) := rfl
theorem rn1_v (h : List Ob) (ks : List Nat) (y : Value) : rn1 h ks (.v y) = .v y := rfl
theorem rn1_osl (h : List Ob) (ks : List Nat) (k ver : Nat) : rn1 h ks (.osl k ver) = rn0 h ks (.osl k ver) := rfl
theorem rn1_agg (h : List Ob) (ks : List Nat) (xs : List X) : rn1 h ks (.agg xs) = .agg (xs.map (rn0 h ks)) := rfl
theorem rn0_v (h : List Ob) (ks : List Nat) (y : Value) : rn0 h ks (.v y) = .v y := rfl
theorem rn0_sl (h : List Ob) (ks : List Nat) (y : List (List X)) : rn0 h ks (.sl y) = .sl y := rfl
theorem rn0_osl (h : List Ob) (ks : List Nat) (k ver : Nat) (ob : Ob) (i : Nat) (hk : h[k]? = some ob) (hv : ob.ver = ver) (hi : ks.idxOf? k = some i) : rn0 h ks (.osl k ver) = .osl i 0 := by simp [rn0, hk, hv, hi]

/-! ### wraps -/
theorem w64 {n : Int} (h1 : -9223372036854775808 ≤ n) (h2 : n ≤ 9223372036854775807) : IntKind.i64.wrap n = n := by
  rw [IntKind.wrap_i64]; omega
theorem w64_nat {k : Nat} (h : k < 4611686018427387904) : IntKind.i64.wrap ((k : Int) + 1) = ((k + 1 : Nat) : Int) := by
  rw [w64 (by omega) (by omega)]; omega

theorem pur_oslE (h : List Ob) (k ver : Nat) : purN h 3 (.osl k ver) = (match h[k]? with
    | some ob => if ob.ver = ver ∧ ob.bx = false then .sl (ob.rows.map fun r => r.map (purN h 2)) else .top
    | none => .top) := rfl
theorem pur_osubE (h : List Ob) (k ver off len : Nat) : purN h 3 (.osub k ver off len) = (match h[k]? with
    | some ob => if ob.ver = ver ∧ ob.bx = false ∧ off + len ≤ ob.rows.length then .sl (((ob.rows.drop off).take len).map fun r => r.map (purN h 2)) else .top
    | none => .top) := rfl
theorem pur_optrE (h : List Ob) (k ver i j : Nat) : purN h 3 (.optr k ver i j) = (match h[k]? with
    | some ob => if ob.ver = ver then .pt (((rowOf h k i).drop j).map (purN h 2)) else .top
    | none => .top) := rfl
theorem pur_aggE (h : List Ob) (cs : List X) : purN h 3 (.agg cs) = .agg (cs.map (purN h 2)) := rfl
theorem pur_fnE (h : List Ob) (f : Nat) (cs : List X) : purN h 3 (.fn f cs) = .fn f (cs.map (purN h 2)) := rfl
theorem shOb_mk (n ty sz ver : Nat) (rows : List (List X)) (bx live : Bool) (mp : Option (List (Int × Value))) : shOb n ⟨ty, sz, ver, rows, bx, live, mp⟩ = ⟨ty, sz, ver, rows.map fun r => r.map (sh0 n), bx, live, mp⟩ := rfl
theorem iR_sh (n : Nat) (l : List Int) : ((iR l).map fun r => r.map (sh0 n)) = iR l := by
  unfold iR
  rw [List.map_map]
  rfl

/-! ### a law -/
theorem law_walk {P : Program} {f : Nat} {F : Fun} (hF : GenC P f F) (w : World) (vs : Array Value) (xs : List X) (hpre : F.pre xs) (hres : F.res xs = (.v (.bool true), [])) (hl : vs.size = xs.length)
    (hr : ∀ (j : Nat) x v, xs[j]? = some x → vs[j]? = some v → Rep w (fun b => b < w.heap.size) Pl.none v x) : Calls P f vs w fun e w' => e = .returned (.bool true) ∧ Below w.heap.size w w' := by
  refine (hF.2 w (fun b => b < w.heap.size) vs xs hpre hl hr (fun _ h => h) (fun _ h => by simp at h)).mono ?_
  rintro e w' ⟨v, β', rfl, h1, _, h3⟩
  rw [hres] at h1 h3
  obtain ⟨rfl, _⟩ := h3.inv_v
  exact ⟨rfl, frm_below h1.frm⟩

/-- a slice of numbers that came in -/
theorem rep_ints {w : World} {x : Addr} {len cap : Nat} {zs : List Int} (hl : len ≤ cap) (hz : zs.length = cap) (hcell : ∀ i, i < zs.length → w.cell? (x.add i) = some (.int .i64 (zs.getD i 0))) :
    Rep w (fun b => b < w.heap.size) Pl.none (.slice (some x) len cap) (ints (zs.take len)) := by
  rcases Nat.eq_zero_or_pos len with h0 | hpos
  · subst h0
    simp only [List.take_zero]
    exact .nil _ _
  · have hc0 := hcell 0 (by omega)
    have hb : x.block < w.heap.size := by
      have := World.block_lt_of_cell? w _ hc0
      rwa [add_block] at this
    have hlen : (iR (zs.take len)).length = len := by rw [iR_length]; simp; omega
    have := Rep.sl (w := w) (S := fun b => b < w.heap.size) (β := Pl.none) x cap 1 (iR (zs.take len)) (fun i _ => .int .i64 (zs.getD i 0)) (by rw [hlen]; exact hl) hb (fun r hr => iR_row hr)
      (fun i j hi hj => by
        rw [hlen] at hi
        have : j = 0 := by omega
        subst this
        simpa using hcell i (by omega)) (fun _ _ => rfl) (fun i j y hy => by
        simp only [at2, iR_get] at hy
        cases ht : (zs.take len)[i]? with
        | none => rw [ht] at hy; cases hy
        | some n =>
          rw [ht] at hy
          cases j with
          | succ j => simp at hy
          | zero =>
            simp at hy
            subst hy
            rw [List.getElem?_take] at ht
            split at ht
            · have : zs.getD i 0 = n := by simp [List.getD, ht]
              rw [this]; exact .v _ rfl
            · cases ht)
    rw [hlen] at this
    exact this

/-- a number that fits -/
def inI (n : Int) : Prop := -9223372036854775808 ≤ n ∧ n ≤ 9223372036854775807
theorem wf_rng {n : Int} (h : (Lit.int .i64 n).wf = true) : inI n := by
  simp only [Lit.wf, Bool.and_eq_true, decide_eq_true_eq] at h
  exact h

end Go.Abs
