/-
  What is proved here: equations by which 'awp' is reckoned, step by step. Condition: none.
  What is proved here: soundness as a goal of its own, so that a body can be cut in pieces, states can be weakened between two, and a slice can be compared with nil. Condition: none.
  What is proved here: equations by which single operations of 'awp' are reckoned. Condition: none.
  What is proved here: equations by which a region that draws its order is reckoned; numbers and lists of numbers as data; a law's contract gives its walk. Condition: none.
  What is proved here: a contract whose result is an object of its own also holds with the result read as data. Condition: the first contract.
  What is proved here: equations on strings and rows of strings, for simp. Condition: none.
  What is proved here: how an argument of a struct of numbers, strings and bools is opened; a table of strings that the program lays. Condition: a check of the type.
  What is proved here: how an argument that is a slice of structs of numbers, strings and bools is opened. Condition: a check of the type.
  What is proved here: the equations of single operations over the program's tables, without a condition, marked for simp. Condition: none.
-/
import Derived.Test.YteleljfnjdlnkaaGreatDoorAbsC
import Derived.Lib.SliceRun
import Derived.ProofKit
import Derived.OpenShut
set_option linter.unusedSimpArgs false
set_option linter.unnecessarySimpa false
namespace Go.Abs
open Go.RowKit

section
variable {P : Program} {E : Env} {Q : Exit → St → Prop} {s : St}
theorem awp_skip : awp P E .skip Q s = Q .normal s := rfl
theorem awp_seq (x y : Code) : awp P E (.seq x y) Q s = awp P E x (thenP (awp P E y Q) Q) s := rfl
theorem awp_region (id : Nat) (l : List Oper) : awp P E (.region id l.toArray false) Q s = rgW P E l.toArray l s (Q .normal) := rfl
theorem awp_draw (id : Nat) (l : List Oper) : awp P E (.region id l.toArray true) Q s = drawP P E l.toArray s (Q .normal) := rfl
theorem awp_cond (c : Operand) (x y : Code) : awp P E (.cond c x y) Q s = brP (ev s c) (awp P E x Q s) (awp P E y Q s) := rfl
theorem awp_block (id : Nat) (x : Code) : awp P E (.block id x) Q s = awp P E x (blockP id Q) s := rfl
theorem awp_loop (x : Code) : awp P E (.loop x) Q s = loopP (awp P E x) Q s := rfl
theorem awp_exit (id : Nat) : awp P E (.exit id) Q s = Q (.exit id) s := rfl
theorem awp_ret : awp P E .ret Q s = Q .ret s := rfl
theorem thenP_normal (k : St → Prop) : thenP k Q .normal s = k s := rfl
theorem thenP_exit (k : St → Prop) (i : Nat) : thenP k Q (.exit i) s = Q (.exit i) s := rfl
theorem thenP_ret (k : St → Prop) : thenP k Q .ret s = Q .ret s := rfl
theorem blockP_normal (id : Nat) : blockP id Q .normal s = Q .normal s := rfl
theorem blockP_exit (id i : Nat) : blockP id Q (.exit i) s = if i = id then Q .normal s else Q (.exit i) s := rfl
theorem blockP_ret (id : Nat) : blockP id Q .ret s = Q .ret s := rfl
theorem brP_bool (b : Bool) (p q : Prop) : brP (.v (.bool b)) p q = ((b = true → p) ∧ (b = false → q)) := rfl
theorem brP_true (p q : Prop) : brP (.v (.bool true)) p q = p := by simp [brP]
theorem brP_false (p q : Prop) : brP (.v (.bool false)) p q = q := by simp [brP]
theorem guardP_bool (p want : Bool) (k : List (Bool × Bool) → Prop) : guardP (.v (.bool p)) want k = k [(p, want)] := rfl
theorem guardP_gd (es : List (Bool × Bool)) (p want : Bool) (k : List (Bool × Bool) → Prop) : guardP (.gd es (.v (.bool p))) want k = k (es ++ [(p, want)]) := rfl

variable {ops : Array Oper} {K : St → Prop} {rest : List Oper}
theorem rgW_nil : rgW P E ops [] s K = K s := rfl
theorem rgW_cons (d : Option Nat) (op : Op) (ty : Nat) (pos : String) (af : Array Edge) : rgW P E ops (⟨d, op, ty, pos, af, none⟩ :: rest) s K = (dok s d ∧ (aop P E s op).use fun v h => rgW P E ops rest (s.put d v h) K) := rfl
theorem rgW_guard (d : Option Nat) (op : Op) (ty : Nat) (pos : String) (af : Array Edge) (j : Nat) (want : Bool) :
    rgW P E ops (⟨d, op, ty, pos, af, some (j, want)⟩ :: rest) s K = guardP (gval ops s j) want fun es => dok s d ∧ (aop P E (s.un es) op).useG es s.h fun v => rgW P E ops rest (s.put d v s.h) K := rfl
end

theorem Eff.use_congr {e e' : Eff} (h : e = e') (k : X → List Ob → Prop) : e.use k = e'.use k := by rw [h]
theorem Eff.useG_congr {e e' : Eff} (h : e = e') (es : List (Bool × Bool)) (h0 : List Ob) (k : X → Prop) : e.useG es h0 k = e'.useG es h0 k := by rw [h]
theorem guardP_congr {x x' : X} (h : x = x') (want : Bool) (k : List (Bool × Bool) → Prop) : guardP x want k = guardP x' want k := by rw [h]
theorem brP_congr {x x' : X} (h : x = x') (p q : Prop) : brP x p q = brP x' p q := by rw [h]
theorem loopP_congr {B : (Exit → St → Prop) → St → Prop} {Q : Exit → St → Prop} {s : St} : loopP B Q s = loopP B Q s := rfl
theorem rgW_congr {P : Program} {E : Env} {ops : Array Oper} {l : List Oper} {s : St} {K : St → Prop} : rgW P E ops l s K = rgW P E ops l s K := rfl
theorem awp_congr {P : Program} {E : Env} {x : Code} {Q : Exit → St → Prop} {s : St} : awp P E x Q s = awp P E x Q s := rfl
attribute [congr] Eff.use_congr Eff.useG_congr guardP_congr brP_congr

/-! ### slots -/
theorem put_some (n d : Nat) (t : Nat → X) (h h' : List Ob) (x : X) : St.put ⟨n, t, h⟩ (some d) x h' = ⟨n, upd t d x, h'⟩ := rfl
theorem put_none (n : Nat) (t : Nat → X) (h h' : List Ob) (x : X) : St.put ⟨n, t, h⟩ none x h' = ⟨n, t, h'⟩ := rfl
theorem dok_some (n d : Nat) (t : Nat → X) (h : List Ob) : dok ⟨n, t, h⟩ (some d) = (d < n) := rfl
theorem dok_none (s : St) : dok s none = True := rfl
theorem upd_app (t : Nat → X) (d : Nat) (x : X) (i : Nat) : upd t d x i = if i = d then x else t i := rfl
theorem ev_tmp (n : Nat) (t : Nat → X) (h : List Ob) (i : Nat) : ev ⟨n, t, h⟩ (.tmp i) = t i := rfl
theorem ev_const (s : St) (c : Value) : ev s (.const c) = cst c := rfl
theorem ev_func (s : St) (f : Nat) : ev s (.func f) = .fn f [] := rfl
theorem cst_int (k : IntKind) (n : Int) : cst (.int k n) = .v (.int k n) := rfl
theorem cst_bool (b : Bool) : cst (.bool b) = .v (.bool b) := rfl
theorem cst_string (b : ByteArray) : cst (.string b) = .v (.string b) := rfl
theorem cst_nil : cst (.slice none 0 0) = .v (.slice none 0 0) := rfl
def tl (l : List (Nat × X)) (t : Nat) : X := (l.lookup t).getD .top
theorem tl_nil (t : Nat) : tl [] t = .top := rfl
theorem tl_cons (k : Nat) (x : X) (l : List (Nat × X)) (t : Nat) : tl ((k, x) :: l) t = if t = k then x else tl l t := by
  unfold tl
  rw [List.lookup_cons]
  by_cases h : t = k
  · subst h; simp
  · have : (t == k) = false := by simpa using h
    simp [h, this]
/-- the arguments' slots -/
def args (i : Nat) : List X → List (Nat × X)
  | [] => []
  | x :: xs => (i, x) :: args (i + 1) xs
theorem args_tl (xs : List X) : ∀ i t, i ≤ t → tl (args i xs) t = xs.getD (t - i) .top := by
  induction xs with
  | nil => intro i t _; simp [args, tl_nil]
  | cons x xs ih =>
    intro i t h
    simp only [args, tl_cons]
    by_cases e : t = i
    · subst e; simp
    · rw [if_neg e, ih (i + 1) t (by omega)]
      have : t - i = (t - (i + 1)) + 1 := by omega
      rw [this]; simp [List.getD]
theorem ent_eq (n : Nat) (xs : List X) : ent n xs = ⟨n, tl (args 0 xs), []⟩ := by
  unfold ent
  congr 1
  funext t
  rw [args_tl xs 0 t (Nat.zero_le _)]
  simp

/-- the slots hold what the list says -/
def hold (t : Nat → X) : List (Nat × X) → Prop
  | [] => True
  | (k, x) :: l => t k = x ∧ hold t l
theorem hold_nil (t : Nat → X) : hold t [] = True := rfl
theorem hold_cons (t : Nat → X) (k : Nat) (x : X) (l : List (Nat × X)) : hold t ((k, x) :: l) = (t k = x ∧ hold t l) := rfl
theorem hold_tl {t : Nat → X} : ∀ {l : List (Nat × X)}, hold t l → ∀ i, tl l i = .top ∨ tl l i = t i
  | [], _, _ => .inl rfl
  | (k, x) :: l, h, i => by
    rw [tl_cons]
    by_cases e : i = k
    · subst e; rw [if_pos rfl]; exact .inr h.1.symm
    · rw [if_neg e]; exact hold_tl h.2 i

theorem Wk.tl {n : Nat} {t : Nat → X} {h : List Ob} {l : List (Nat × X)} (hl : hold t l) : Wk ⟨n, t, h⟩ ⟨n, Go.Abs.tl l, h⟩ := Wk.slots (s := ⟨n, t, h⟩) (hold_tl hl)

/-- slots are forgotten; some objects are kept, under new numbers -/
theorem Wk.tlP {n : Nat} {t : Nat → X} {h h' : List Ob} {l : List (Nat × X)} (ks : List Nat) (hp : pickOk h ks) (hh : pickObs h ks = h') (hl : hold (fun i => rn1 h ks (t i)) l) : Wk ⟨n, t, h⟩ ⟨n, Go.Abs.tl l, h'⟩ := by
  subst hh
  exact Wk.pick (s := ⟨n, t, h⟩) ks hp (hold_tl hl)
/-- a nil slice, as an object with no rows; slots are forgotten -/
theorem Wk.tlN {n : Nat} {t : Nat → X} {h : List Ob} {l : List (Nat × X)} (ty sz i : Nat) (hi : t i = .v (.slice none 0 0)) (hl : hold (fun t' => if t' = i then .osl h.length 0 else t t') l) : Wk ⟨n, t, h⟩ ⟨n, Go.Abs.tl l, h ++ [⟨ty, sz, 0, [], false, true, none⟩]⟩ :=
  (Wk.nil (s := ⟨n, t, h⟩) ty sz i hi).trans (Wk.tl hl)

def okL (m : Nat) : List (Nat × X) → Prop
  | [] => True
  | (_, x) :: l => ok1 m x = true ∧ okL m l
theorem okL_nil (m : Nat) : okL m [] = True := rfl
theorem okL_cons (m k : Nat) (x : X) (l : List (Nat × X)) : okL m ((k, x) :: l) = (ok1 m x = true ∧ okL m l) := rfl
def okH (m : Nat) (h : List Ob) : Prop := ∀ ob ∈ h, ∀ r ∈ ob.rows, ∀ x ∈ r, ok0 m x = true
theorem okH_nil (m : Nat) : okH m [] = True := by simp [okH]
theorem okH_cons (m : Nat) (ob : Ob) (h : List Ob) : okH m (ob :: h) = ((∀ r ∈ ob.rows, ∀ x ∈ r, ok0 m x = true) ∧ okH m h) := by simp [okH]

theorem okL_tl {m : Nat} : ∀ {l : List (Nat × X)}, okL m l → ∀ i, ok1 m (tl l i) = true
  | [], _, _ => rfl
  | (k, x) :: l, h, i => by
    rw [tl_cons]
    by_cases e : i = k
    · rw [if_pos e]; exact h.1
    · rw [if_neg e]; exact okL_tl h.2 i

/-- slots and the last objects are forgotten -/
theorem Wk.tlD {n m : Nat} {t : Nat → X} {h h' : List Ob} {l : List (Nat × X)} (hh : h.take m = h') (hl : hold t l) (ho : okL m l) (hk : okH m h') : Wk ⟨n, t, h⟩ ⟨n, Go.Abs.tl l, h'⟩ := by
  subst hh
  refine Wk.drop (s := ⟨n, t, h⟩) m hk fun i => ?_
  rcases hold_tl hl i with e | e
  · exact .inl e
  · refine .inr ⟨e, ?_⟩
    show ok1 m (t i) = true
    rw [← e]; exact okL_tl ho i

theorem awp_mono {P : Program} {E : Env} : ∀ (x : Code) (Q Q' : Exit → St → Prop) (s : St), (∀ e s, Q e s → Q' e s) → awp P E x Q s → awp P E x Q' s := by
  intro x
  induction x with
  | skip => intro Q Q' s hq h; exact hq _ _ h
  | region id ops draw =>
    intro Q Q' s hq h
    unfold awp at h ⊢
    cases draw with
    | true => exact drawP_mono (P := P) (E := E) (ops := ops) (s := s) (K := Q .normal) (K' := Q' .normal) (fun s => hq _ s) h
    | false => exact rgW_mono (K := Q .normal) (K' := Q' .normal) (fun s => hq _ s) _ _ h
  | seq x y ihx ihy =>
    intro Q Q' s hq h
    refine ihx _ _ s ?_ h
    intro e s' h'
    cases e with
    | normal => exact ihy Q Q' s' hq h'
    | _ => exact hq _ _ h'
  | cond c x y ihx ihy =>
    intro Q Q' s hq h
    unfold awp brP at h ⊢
    split at h
    · exact ⟨fun e => ihx Q Q' s hq (h.1 e), fun e => ihy Q Q' s hq (h.2 e)⟩
    · exact h.elim
  | block id x ih =>
    intro Q Q' s hq h
    refine ih _ _ s ?_ h
    intro e s' h'
    cases e with
    | exit i =>
      simp only [blockP] at h' ⊢
      split
      · rename_i hi; rw [if_pos hi] at h'; exact hq _ _ h'
      · rename_i hi; rw [if_neg hi] at h'; exact hq _ _ h'
    | _ => exact hq _ _ h'
  | loop x ih =>
    intro Q Q' s hq h
    obtain ⟨ι, S, μ, h0, hr⟩ := h
    refine ⟨ι, S, μ, h0, fun i => ih _ _ _ ?_ (hr i)⟩
    intro e s' h'
    cases e with
    | normal => exact h'
    | _ => exact hq _ _ h'
  | exit id => intro Q Q' s hq h; exact hq _ _ h
  | ret => intro Q Q' s hq h; exact hq _ _ h
  | _ => intro Q Q' s hq h; exact h.elim

/-- one loop: give the states at its head -/
theorem loopP_of {B : (Exit → St → Prop) → St → Prop} {Q : Exit → St → Prop} {s : St} {ι : Type} (S : ι → St) (μ : ι → Nat) (i : ι) (h0 : Wk s (S i)) (h : ∀ i, B (thenP (fun s' => ∃ j, μ j < μ i ∧ Wk s' (S j)) Q) (S i)) : loopP B Q s :=
  ⟨ι, S, μ, ⟨i, h0⟩, h⟩

theorem loopP_inv {P : Program} {E : Env} {x : Code} {Q : Exit → St → Prop} {s : St} {ι : Type} (S : ι → St) (I : ι → Prop) (μ : ι → Nat) (i : ι) (hi : I i) (h0 : Wk s (S i))
    (h : ∀ i, I i → awp P E x (thenP (fun s' => ∃ j, I j ∧ μ j < μ i ∧ Wk s' (S j)) Q) (S i)) : loopP (awp P E x) Q s := by
  refine ⟨{ i // I i }, fun i => S i.1, fun i => μ i.1, ⟨⟨i, hi⟩, h0⟩, fun i => awp_mono x _ _ _ ?_ (h i.1 i.2)⟩
  intro e s hq
  cases e with
  | normal => obtain ⟨j, hj, h1, h2⟩ := hq; exact ⟨⟨j, hj⟩, h1, h2⟩
  | _ => exact hq

def bodyOf (fn : Func) : Code := fn.body.getD .skip

def pinl (i : Nat) : List Value → List (Nat × X)
  | [] => []
  | u :: us => (1000 + i, .pin i 0 u) :: pinl (i + 1) us
theorem pinl_nil (i : Nat) : pinl i [] = [] := rfl
theorem pinl_cons (i : Nat) (u : Value) (us : List Value) : pinl i (u :: us) = (1000 + i, .pin i 0 u) :: pinl (i + 1) us := rfl
theorem pinl_tl : ∀ (us : List Value) (i t : Nat), i ≤ t → tl (pinl i us) (1000 + t) = match us[t - i]? with | some u => .pin t 0 u | none => .top
  | [], i, t, _ => by simp [pinl, tl_nil]
  | u :: us, i, t, h => by
    rw [pinl_cons, tl_cons]
    by_cases e : t = i
    · subst e; simp
    · rw [if_neg (by omega), pinl_tl us (i + 1) t (by omega)]
      have : t - i = (t - (i + 1)) + 1 := by omega
      rw [this]; simp
theorem pinl_low : ∀ (us : List Value) (i t : Nat), t < 1000 → tl (pinl i us) t = .top
  | [], i, t, _ => rfl
  | u :: us, i, t, h => by rw [pinl_cons, tl_cons, if_neg (by omega), pinl_low us (i + 1) t h]
theorem tl_append_lo {a b : List (Nat × X)} {t : Nat} (h : tl b t = .top) : tl (a ++ b) t = tl a t := by
  induction a with
  | nil => exact h
  | cons p a ih => obtain ⟨k, x⟩ := p; rw [List.cons_append, tl_cons, tl_cons, ih]
theorem tl_append_hi {a b : List (Nat × X)} {t : Nat} (h : ∀ p ∈ a, p.1 ≠ t) : tl (a ++ b) t = tl b t := by
  induction a with
  | nil => rfl
  | cons p a ih => obtain ⟨k, x⟩ := p; rw [List.cons_append, tl_cons, if_neg (fun e => h (k, x) (by simp) e.symm), ih (fun p hp => h p (List.mem_cons_of_mem _ hp))]
theorem args_lt : ∀ (xs : List X) (i : Nat), ∀ p ∈ args i xs, p.1 < i + xs.length
  | [], i, p, hp => by simp [args] at hp
  | x :: xs, i, p, hp => by
    simp only [args, List.mem_cons] at hp
    rcases hp with rfl | hp
    · simp
    · have := args_lt xs (i + 1) p hp; simp; omega
theorem entM_eq (n : Nat) (xs : List X) (us : List Value) (obs : List Ob) (hx : xs.length ≤ 1000) : entM n xs us obs = ⟨n, tl (args 0 xs ++ pinl 0 us), obs⟩ := by
  unfold entM
  congr 1
  funext t
  split
  · rename_i h
    rw [tl_append_lo (pinl_low us 0 t h), args_tl xs 0 t (Nat.zero_le _)]
    simp
  · rename_i h
    rw [tl_append_hi (fun p hp => by have := args_lt xs 0 p hp; omega)]
    obtain ⟨m, rfl⟩ : ∃ m, t = 1000 + m := ⟨t - 1000, by omega⟩
    rw [pinl_tl us 0 m (Nat.zero_le _)]
    simp only [Nat.add_sub_cancel_left, Nat.sub_zero]
    cases us[m]? <;> rfl

/-- a contract of a function that writes to what it is handed -/
theorem contractM {P : Program} (hm : P.follows .mixedOrders = true) (l : List (Nat × Fun)) (m : List (Nat × MFun)) (hE : ∀ p ∈ l, GenC P p.1 p.2) (hM : ∀ p ∈ m, GenM P p.1 p.2) {f : Nat} {fn : Func} {F : MFun} (hf : P.funcs[f]? = some fn) (hb : fn.body.isSome = true) (hn : (fn.name == "runtime.NumGoroutine") = false)
    (h : ∀ xs obs us, F.pre xs obs → us.length = obs.length → (xs.length ≤ fn.ntmps ∧ xs.length ≤ 1000 ∧ (∀ (k : Nat) ob, obs[k]? = some ob → ∃ ob', (F.res xs obs).2[k]? = some ob' ∧ sameOb ob ob')) ∧
      awp P (envM l m) (bodyOf fn) (retM P fn.results.toList us (F.res xs obs)) ⟨fn.ntmps, tl (args 0 xs ++ pinl 0 us), obs⟩) : GenM P f F := by
  obtain ⟨body, hbody⟩ := Option.isSome_iff_exists.1 hb
  refine genM_of (envM_ok hE hM) hm hf hbody hn fun xs obs us hx hu => ?_
  obtain ⟨⟨h1, h2, h3⟩, h4⟩ := h xs obs us hx hu
  refine ⟨h1, h2, h3, ?_⟩
  rw [entM_eq _ _ _ _ h2]
  have : bodyOf fn = body := by simp [bodyOf, hbody]
  rw [← this]
  exact h4

/-- a contract of a function that calls some that write -/
theorem contract2 {P : Program} (hm : P.follows .mixedOrders = true) (l : List (Nat × Fun)) (m : List (Nat × MFun)) (hE : ∀ p ∈ l, GenC P p.1 p.2) (hM : ∀ p ∈ m, GenM P p.1 p.2) {f : Nat} {fn : Func} {F : Fun} (hf : P.funcs[f]? = some fn) (hb : fn.body.isSome = true) (hn : (fn.name == "runtime.NumGoroutine") = false)
    (h : ∀ xs, F.pre xs → xs.length ≤ fn.ntmps ∧ awp P (envM l m) (bodyOf fn) (retP P fn.results.toList (F.res xs)) ⟨fn.ntmps, tl (args 0 xs), []⟩) : GenC P f F := by
  obtain ⟨body, hbody⟩ := Option.isSome_iff_exists.1 hb
  refine genC_of (envM_ok hE hM) hm hf hbody hn fun xs hx => ?_
  obtain ⟨h1, h2⟩ := h xs hx
  refine ⟨h1, ?_⟩
  rw [ent_eq]
  have : bodyOf fn = body := by simp [bodyOf, hbody]
  rw [← this]
  exact h2

/-- contracts of functions that look at the package's variables listed in A -/
theorem contractA {P : Program} (hm : P.follows .mixedOrders = true) (A : List (Nat × List X)) (l : List (Nat × Fun)) (m : List (Nat × MFun)) (hE : ∀ p ∈ l, GenCA A P p.1 p.2) (hM : ∀ p ∈ m, GenMA A P p.1 p.2) {f : Nat} {fn : Func} {F : Fun} (hf : P.funcs[f]? = some fn) (hb : fn.body.isSome = true) (hn : (fn.name == "runtime.NumGoroutine") = false)
    (h : ∀ xs, F.pre xs → xs.length ≤ fn.ntmps ∧ awp P (envA A l m) (bodyOf fn) (retP P fn.results.toList (F.res xs)) ⟨fn.ntmps, tl (args 0 xs), []⟩) : GenCA A P f F := by
  obtain ⟨body, hbody⟩ := Option.isSome_iff_exists.1 hb
  refine genC_of (envA_ok hE hM) hm hf hbody hn fun xs hx => ?_
  obtain ⟨h1, h2⟩ := h xs hx
  refine ⟨h1, ?_⟩
  rw [ent_eq]
  have : bodyOf fn = body := by simp [bodyOf, hbody]
  rw [← this]
  exact h2
theorem contractMA {P : Program} (hm : P.follows .mixedOrders = true) (A : List (Nat × List X)) (l : List (Nat × Fun)) (m : List (Nat × MFun)) (hE : ∀ p ∈ l, GenCA A P p.1 p.2) (hM : ∀ p ∈ m, GenMA A P p.1 p.2) {f : Nat} {fn : Func} {F : MFun} (hf : P.funcs[f]? = some fn) (hb : fn.body.isSome = true) (hn : (fn.name == "runtime.NumGoroutine") = false)
    (h : ∀ xs obs us, F.pre xs obs → us.length = obs.length → (xs.length ≤ fn.ntmps ∧ xs.length ≤ 1000 ∧ (∀ (k : Nat) ob, obs[k]? = some ob → ∃ ob', (F.res xs obs).2[k]? = some ob' ∧ sameOb ob ob')) ∧
      awp P (envA A l m) (bodyOf fn) (retM P fn.results.toList us (F.res xs obs)) ⟨fn.ntmps, tl (args 0 xs ++ pinl 0 us), obs⟩) : GenMA A P f F := by
  obtain ⟨body, hbody⟩ := Option.isSome_iff_exists.1 hb
  refine genM_of (envA_ok hE hM) hm hf hbody hn fun xs obs us hx hu => ?_
  obtain ⟨⟨h1, h2, h3⟩, h4⟩ := h xs obs us hx hu
  refine ⟨h1, h2, h3, ?_⟩
  rw [entM_eq _ _ _ _ h2]
  have : bodyOf fn = body := by simp [bodyOf, hbody]
  rw [← this]
  exact h4

/-- contracts of functions that call some that lay anew what they are handed -/
theorem contractAN {P : Program} (hm : P.follows .mixedOrders = true) (A : List (Nat × List X)) (l : List (Nat × Fun)) (m n : List (Nat × MFun)) (hE : ∀ p ∈ l, GenCA A P p.1 p.2) (hM : ∀ p ∈ m, GenMA A P p.1 p.2) (hN : ∀ p ∈ n, GenNA A P p.1 p.2) {f : Nat} {fn : Func} {F : Fun} (hf : P.funcs[f]? = some fn) (hb : fn.body.isSome = true) (hn : (fn.name == "runtime.NumGoroutine") = false)
    (h : ∀ xs, F.pre xs → xs.length ≤ fn.ntmps ∧ awp P (envN A l m n) (bodyOf fn) (retP P fn.results.toList (F.res xs)) ⟨fn.ntmps, tl (args 0 xs), []⟩) : GenCA A P f F := by
  obtain ⟨body, hbody⟩ := Option.isSome_iff_exists.1 hb
  refine genC_of (envN_ok hE hM hN) hm hf hbody hn fun xs hx => ?_
  obtain ⟨h1, h2⟩ := h xs hx
  refine ⟨h1, ?_⟩
  rw [ent_eq]
  have : bodyOf fn = body := by simp [bodyOf, hbody]
  rw [← this]
  exact h2
theorem contractMAN {P : Program} (hm : P.follows .mixedOrders = true) (A : List (Nat × List X)) (l : List (Nat × Fun)) (m n : List (Nat × MFun)) (hE : ∀ p ∈ l, GenCA A P p.1 p.2) (hM : ∀ p ∈ m, GenMA A P p.1 p.2) (hN : ∀ p ∈ n, GenNA A P p.1 p.2) {f : Nat} {fn : Func} {F : MFun} (hf : P.funcs[f]? = some fn) (hb : fn.body.isSome = true) (hn : (fn.name == "runtime.NumGoroutine") = false)
    (h : ∀ xs obs us, F.pre xs obs → us.length = obs.length → (xs.length ≤ fn.ntmps ∧ xs.length ≤ 1000 ∧ (∀ (k : Nat) ob, obs[k]? = some ob → ∃ ob', (F.res xs obs).2[k]? = some ob' ∧ sameOb ob ob')) ∧
      awp P (envN A l m n) (bodyOf fn) (retM P fn.results.toList us (F.res xs obs)) ⟨fn.ntmps, tl (args 0 xs ++ pinl 0 us), obs⟩) : GenMA A P f F := by
  obtain ⟨body, hbody⟩ := Option.isSome_iff_exists.1 hb
  refine genM_of (envN_ok hE hM hN) hm hf hbody hn fun xs obs us hx hu => ?_
  obtain ⟨⟨h1, h2, h3⟩, h4⟩ := h xs obs us hx hu
  refine ⟨h1, h2, h3, ?_⟩
  rw [entM_eq _ _ _ _ h2]
  have : bodyOf fn = body := by simp [bodyOf, hbody]
  rw [← this]
  exact h4
theorem contractNA {P : Program} (hm : P.follows .mixedOrders = true) (A : List (Nat × List X)) (l : List (Nat × Fun)) (m n : List (Nat × MFun)) (hE : ∀ p ∈ l, GenCA A P p.1 p.2) (hM : ∀ p ∈ m, GenMA A P p.1 p.2) (hN : ∀ p ∈ n, GenNA A P p.1 p.2) {f : Nat} {fn : Func} {F : MFun} (hf : P.funcs[f]? = some fn) (hb : fn.body.isSome = true) (hn : (fn.name == "runtime.NumGoroutine") = false)
    (h : ∀ xs obs us, F.pre xs obs → us.length = obs.length → (xs.length ≤ fn.ntmps ∧ xs.length ≤ 1000 ∧ (∀ (k : Nat) ob, obs[k]? = some ob → ∃ ob', (F.res xs obs).2[k]? = some ob' ∧ sameObN ob ob')) ∧
      awp P (envN A l m n) (bodyOf fn) (retN P fn.results.toList us (F.res xs obs)) ⟨fn.ntmps, tl (args 0 xs ++ pinl 0 us), obs⟩) : GenNA A P f F := by
  obtain ⟨body, hbody⟩ := Option.isSome_iff_exists.1 hb
  refine genN_of (envN_ok hE hM hN) hm hf hbody hn fun xs obs us hx hu => ?_
  obtain ⟨⟨h1, h2, h3⟩, h4⟩ := h xs obs us hx hu
  refine ⟨h1, h2, h3, ?_⟩
  rw [entM_eq _ _ _ _ h2]
  have : bodyOf fn = body := by simp [bodyOf, hbody]
  rw [← this]
  exact h4
/-- slots are forgotten; some objects are kept, with what they hold, under new numbers -/
theorem Wk.tlPN {n : Nat} {t : Nat → X} {h h' : List Ob} {l : List (Nat × X)} (ks : List Nat) (hp : pickOkN h ks) (hh : pickV h ks [] = h') (hl : hold (fun i => rv1 h ks [] (t i)) l) : Wk ⟨n, t, h⟩ ⟨n, Go.Abs.tl l, h'⟩ := by
  subst hh
  exact Wk.pickN (s := ⟨n, t, h⟩) ks hp (hold_tl hl)

/-- a contract: of a function whose body is written out -/
theorem contract {P : Program} (hm : P.follows .mixedOrders = true) (l : List (Nat × Fun)) (hE : ∀ p ∈ l, GenC P p.1 p.2) {f : Nat} {fn : Func} {F : Fun} (hf : P.funcs[f]? = some fn) (hb : fn.body.isSome = true) (hn : (fn.name == "runtime.NumGoroutine") = false)
    (h : ∀ xs, F.pre xs → xs.length ≤ fn.ntmps ∧ awp P (envOf l) (bodyOf fn) (retP P fn.results.toList (F.res xs)) ⟨fn.ntmps, tl (args 0 xs), []⟩) : GenC P f F := by
  obtain ⟨body, hbody⟩ := Option.isSome_iff_exists.1 hb
  refine genC_of (envOf_ok hE) hm hf hbody hn fun xs hx => ?_
  obtain ⟨h1, h2⟩ := h xs hx
  refine ⟨h1, ?_⟩
  rw [ent_eq]
  have : bodyOf fn = body := by simp [bodyOf, hbody]
  rw [← this]
  exact h2

end Go.Abs

namespace Go.Abs
open Go.RowKit
set_option linter.unusedVariables false

/-- what is promised of the abstract state, the model's run keeps -/
def Snd (P : Program) (E : Env) (x : Code) (Q : Exit → St → Prop) (s : St) : Prop :=
  P.follows .mixedOrders = true → ∀ c, E.ok P c → ∀ β a w, Rel c s β a w → x.wp P (Post c Q) a w
section
variable {P : Program} {E : Env} {Q Q' : Exit → St → Prop} {s s' : St}
theorem Snd.of {x : Code} (h : awp P E x Q s) : Snd P E x Q s := fun hm c hE β a w H => awp_sound hE hm x Q s β a w h H
theorem Snd.mono {x : Code} (hq : ∀ e s, Q e s → Q' e s) (h : Snd P E x Q s) : Snd P E x Q' s := fun hm c hE β a w H =>
  wp_mono (h hm c hE β a w H) fun e a' w' ⟨s', β', h1, h2⟩ => ⟨s', β', hq e s' h1, h2⟩
theorem Snd.wk {x : Code} (hw : Wk s s') (h : Snd P E x Q s') : Snd P E x Q s := fun hm c hE β a w H => by
  obtain ⟨β', H'⟩ := hw c β a w H
  exact h hm c hE β' a w H'
theorem Snd.seq {x y : Code} (h : Snd P E x (thenP (fun s => Snd P E y Q s) Q) s) : Snd P E (.seq x y) Q s := fun hm c hE β a w H => by
  refine wp_seq (wp_mono (h hm c hE β a w H) ?_)
  rintro e a' w' ⟨s', β', hq, H'⟩
  cases e with
  | normal => exact hq hm c hE β' a' w' H'
  | _ => exact ⟨s', β', hq, H'⟩
/-- the middle state may be weakened to one that is named -/
theorem Snd.cut {x y : Code} (R : St → Prop) (h : awp P E x (thenP (fun s => ∃ s', Wk s s' ∧ R s') Q) s) (h2 : ∀ s, R s → Snd P E y Q s) : Snd P E (.seq x y) Q s :=
  Snd.seq ((Snd.of h).mono fun e s hq => by
    cases e with
    | normal => obtain ⟨s', hw, hr⟩ := hq; exact (h2 s' hr).wk hw
    | _ => exact hq)
theorem Snd.cond {cc : Operand} {x y : Code} {b : Bool} (hb : ev s cc = .v (.bool b)) (h1 : b = true → Snd P E x Q s) (h2 : b = false → Snd P E y Q s) : Snd P E (.cond cc x y) Q s := fun hm c hE β a w H => by
  have hr := rep_ev H cc
  rw [hb] at hr
  obtain ⟨hv, _⟩ := hr.inv_v
  cases b with
  | true => exact wp_cond_true hv (h1 rfl hm c hE β a w H)
  | false => exact wp_cond_false hv (h2 rfl hm c hE β a w H)
/-- a slice is compared with nil: either may come out, unless it holds something -/
theorem Snd.nilq {id T d d' ty ty' : Nat} {x y : Nat} {pos pos' : String} {af af' : Array Edge} {rows : List (List X)} (hT : (slEl P T).isSome = true) (hx : s.t x = .sl rows) (hd : d < s.n) (hd' : d' < s.n) (hy : y = d)
    (h : ∀ b : Bool, (rows ≠ [] → b = false) → Q .normal ((s.put (some d) (.sl rows) s.h).put (some d') (.v (.bool b)) s.h)) :
    Snd P E (.region id #[⟨some d, .move (.tmp x), ty, pos, af, none⟩, ⟨some d', .binOp .eql T (.tmp y) (.const (.slice none 0 0)) T, ty', pos', af', none⟩] false) Q s := fun hm c hE β a w H => by
  subst hy
  obtain ⟨e, he⟩ := Option.isSome_iff_exists.1 hT
  refine wp_region_list ?_
  unfold wpList
  rw [if_pos (by simp [Region.wanted])]
  have hrx : Rep w (Stab c.w0 c.S0 s.h β w) β (a.eval (.tmp x)) (.sl rows) := by
    have := rep_ev H (.tmp x)
    simp only [ev] at this
    rw [hx] at this
    exact this
  refine .inl ((does1_of (s := s) (e := ⟨True, .sl rows, s.h⟩) (o := ⟨some y, .move (.tmp x), ty, pos, af, none⟩) (sem := pure (a.eval (.tmp x))) rfl (Does.pure H.2.2.1 rfl hrx)) _ _ fun v β' w' h1 h2 h3 => ?_)
  have h3' : Rep w' (Stab c.w0 c.S0 s.h β' w') β' v (.sl rows) := h3
  have H1 : Rel c (s.put (some y) (.sl rows) s.h) β' (a.put (some y) v) w' := Rel.put (some y) H hd h1 h2 h3'
  obtain ⟨ad, n, cp, hv, hb⟩ : ∃ ad n cp, v = .slice ad n cp ∧ (rows ≠ [] → ad.isNone = false) := by
    rcases h3'.inv_sl with ⟨rfl, ad, cp, rfl⟩ | ⟨ad, cp, sz, cs, rfl, _⟩
    · exact ⟨_, _, _, rfl, fun h => absurd rfl h⟩
    · exact ⟨_, _, _, rfl, fun _ => rfl⟩
  have hy : (a.put (some y) v).eval (.tmp y) = v := by
    have hys : y < a.tmps.size := by rw [H.2.1]; exact hd
    simp [Act.put, Act.eval, hys]
  unfold wpList
  rw [if_pos (by simp [Region.wanted])]
  refine .inl ?_
  have hrun : (do eqGuard .eql T (.tmp y) (.const (.slice none 0 0)) ((a.put (some y) v).eval (.tmp y)) ((a.put (some y) v).eval (.const (.slice none 0 0))); binOp .eql T ((a.put (some y) v).eval (.tmp y)) ((a.put (some y) v).eval (.const (.slice none 0 0)))).run P w' = .ok (.bool ad.isNone) w' := by
    rw [hy, hv]
    have hq := Lib.run_eql_slice_nil (P := P) w' T e ad n cp 0 0 (slEl_eq he)
    simp [eqGuard, Act.eval] at hq ⊢
    exact hq
  refine (does1_of (s := s.put (some y) (.sl rows) s.h) (e := ⟨True, .v (.bool ad.isNone), s.h⟩) (o := ⟨some d', .binOp .eql T (.tmp y) (.const (.slice none 0 0)) T, ty', pos', af', none⟩) rfl (Does.pure H1.2.2.1 hrun (.v _ rfl))) _ _ fun v2 β2 w2 h1 h2 h3 => ?_
  unfold wpList
  exact ⟨_, β2, h ad.isNone hb, Rel.put (some d') H1 hd' h1 h2 h3⟩
end
theorem genC_ofS {P : Program} {E : Env} {f : Nat} {fn : Func} {body : Code} {F : Fun} (hE : E.okA P) (hm : P.follows .mixedOrders = true) (hf : P.funcs[f]? = some fn) (hb : fn.body = some body) (hn : (fn.name == "runtime.NumGoroutine") = false)
    (h : ∀ xs, F.pre xs → xs.length ≤ fn.ntmps ∧ Snd P E body (retP P fn.results.toList (F.res xs)) (ent fn.ntmps xs)) : GenCA E.A P f F := by
  refine ⟨fun args w => callFunc_enter hf hn (by simp [hb]) args w, fun w S vs xs hpre hl hr hS hA => ?_⟩
  obtain ⟨hle, haw⟩ := h xs hpre
  refine calls_of_wp hf hb (wp_mono (haw hm _ (hE.at rfl) Pl.none _ w (rel_ent hl hr hS hA hle)) ?_)
  have fin : ∀ (s : St) (β : Pl) (a : Act) (w' : World), Rel ⟨w, S, fun _ => False, E.A⟩ s β a w' → (resL P s fn.results.toList fun xs' => Fin s.h (one xs') (F.res xs)) →
      a.defers = [] ∧ ∃ v, (results fn a.tmps).run P w' = .ok v w' ∧ ∃ v' β', Ending.returned v = .returned v' ∧ HRel ⟨w, S, fun _ => False, E.A⟩ (F.res xs).2 β' w' ∧ (∀ ob ∈ (F.res xs).2, ob.live = true) ∧ Rep w' (Stab w S (F.res xs).2 β' w') β' v' (F.res xs).1 := by
    intro s β a w' H hres
    obtain ⟨v, x, hk, hrun, hrep⟩ := results_sound H fn (fun x => Fin s.h x (F.res xs)) hres
    obtain ⟨β', g1, g2, g3⟩ := hk _ β w' v (fun b h => h) H.2.2.1 hrep
    exact ⟨H.1, v, hrun, v, β', rfl, g1, g2, g3⟩
  rintro e a w' ⟨s, β, hq, H⟩
  cases e with
  | normal => exact fin s β a w' H hq
  | ret => exact fin s β a w' H hq
  | _ => exact hq.elim

theorem genN_ofS {P : Program} {E : Env} {f : Nat} {fn : Func} {body : Code} {F : MFun} (hE : E.okA P) (hm : P.follows .mixedOrders = true) (hf : P.funcs[f]? = some fn) (hb : fn.body = some body) (hn : (fn.name == "runtime.NumGoroutine") = false)
    (h : ∀ xs obs us, F.pre xs obs → us.length = obs.length → xs.length ≤ fn.ntmps ∧ xs.length ≤ 1000 ∧ (∀ (k : Nat) ob, obs[k]? = some ob → ∃ ob', (F.res xs obs).2[k]? = some ob' ∧ sameObN ob ob') ∧
      Snd P E body (retN P fn.results.toList us (F.res xs obs)) (entM fn.ntmps xs us obs)) : GenNA E.A P f F := by
  refine ⟨fun args w => callFunc_enter hf hn (by simp [hb]) args w, fun w S β obs vs xs hpre hl H0 hlv hr => ?_⟩
  -- the values of what is handed in
  have hval : ∀ (k : Nat) ob, obs[k]? = some ob → ∃ u, β.val k 0 = some u := by
    intro k ob hk
    obtain ⟨_, _, u, hu, _⟩ := H0.objs k ob hk
    rw [(hlv ob (List.mem_of_getElem? hk)).2] at hu
    exact ⟨u, hu⟩
  let us : List Value := (List.range obs.length).map fun k => (β.val k 0).getD undef
  have husl : us.length = obs.length := by simp [us]
  have hus : ∀ (k : Nat) u, us[k]? = some u → β.val k 0 = some u := by
    intro k u hu
    have hk : k < obs.length := by rw [← husl]; exact (List.getElem?_eq_some_iff.1 hu).1
    obtain ⟨u', hu'⟩ := hval k obs[k] (List.getElem?_eq_getElem hk)
    have : us[k]? = some ((β.val k 0).getD undef) := by simp [us, hk]
    rw [this, hu'] at hu
    rw [hu']
    simpa using hu
  obtain ⟨hle, hle', hsame, haw⟩ := h xs obs us hpre husl
  have hent : Rel ⟨w, S, fun b => Owned obs β b, E.A⟩ (entM fn.ntmps xs us obs) β { tmps := vs ++ Array.replicate (fn.ntmps - vs.size) undef, defers := [] } w := by
    refine ⟨rfl, by simp [entM]; omega, H0, fun t => ?_⟩
    show Rep _ _ _ _ (if t < 1000 then xs.getD t .top else match us[t - 1000]? with | some u => .pin (t - 1000) 0 u | none => .top)
    split
    · rcases Nat.lt_or_ge t xs.length with h | h
      · have h1 : xs[t]? = some xs[t] := List.getElem?_eq_getElem h
        have h2 : vs[t]? = some (vs[t]'(by omega)) := Array.getElem?_eq_getElem (by omega)
        have e1 : xs.getD t .top = xs[t] := by simp [List.getD, h1]
        have e2 : (vs ++ Array.replicate (fn.ntmps - vs.size) undef).getD t undef = vs[t]'(by omega) := by
          rw [Array.getD_eq_getD_getElem?, Array.getElem?_append_left (by omega), h2]; rfl
        rw [e1]
        show Rep _ _ _ ((vs ++ Array.replicate (fn.ntmps - vs.size) undef).getD t undef) _
        rw [e2]
        exact hr t _ _ h1 h2
      · have : xs.getD t .top = .top := by simp [List.getD, List.getElem?_eq_none h]
        rw [this]; exact .top _
    · split
      · rename_i u hu
        exact .pin _ _ _ u (hus _ u hu)
      · exact .top _
  refine calls_of_wp hf hb (wp_mono (haw hm _ (hE.at rfl) β _ w hent) ?_)
  have fin : ∀ (s : St) (β1 : Pl) (a : Act) (w' : World), Rel ⟨w, S, fun b => Owned obs β b, E.A⟩ s β1 a w' → (resL P s fn.results.toList fun xs' => FinT s.t s.h us (one xs') (F.res xs obs)) →
      a.defers = [] ∧ ∃ v, (results fn a.tmps).run P w' = .ok v w' ∧ ∃ v' β', Ending.returned v = .returned v' ∧ HRel ⟨w, S, fun b => Owned obs β b, E.A⟩ (F.res xs obs).2 β' w' ∧ (∀ ob ∈ (F.res xs obs).2, ob.live = true) ∧
        (∀ (k : Nat) ob, obs[k]? = some ob → ∃ ob', (F.res xs obs).2[k]? = some ob' ∧ sameObN ob ob' ∧ ((ob'.ver = 0 ∧ β'.val k 0 = β.val k 0) ∨ ob'.ver = 1)) ∧ Rep w' (Stab w S (F.res xs obs).2 β' w') β' v' (F.res xs obs).1 := by
    intro s β1 a w' H1 hres
    obtain ⟨v, x, hfin, hrun, hrep⟩ := results_sound H1 fn (fun x => FinT s.t s.h us x (F.res xs obs)) hres
    have main : ∀ (h : List Ob) (β2 : Pl) (x : X), HRel ⟨w, S, fun b => Owned obs β b, E.A⟩ h β2 w' → (∀ t, Rep w' (Stab w S h β2 w') β2 (a.tmps.getD t undef) (s.t t)) → Rep w' (Stab w S h β2 w') β2 v x → FinN s.t h us x (F.res xs obs) →
        ∃ v' β', Ending.returned v = .returned v' ∧ HRel ⟨w, S, fun b => Owned obs β b, E.A⟩ (F.res xs obs).2 β' w' ∧ (∀ ob ∈ (F.res xs obs).2, ob.live = true) ∧
        (∀ (k : Nat) ob, obs[k]? = some ob → ∃ ob', (F.res xs obs).2[k]? = some ob' ∧ sameObN ob ob' ∧ ((ob'.ver = 0 ∧ β'.val k 0 = β.val k 0) ∨ ob'.ver = 1)) ∧ Rep w' (Stab w S (F.res xs obs).2 β' w') β' v' (F.res xs obs).1 := by
      rintro h β2 x H2 ht hrep ⟨ks, fl, hp, hpin, hro⟩
      obtain ⟨q1, q2, q3⟩ := H2.pickVS ks fl hp
      have e1 : (F.res xs obs).1 = rv2 h ks fl x := by rw [hro]
      have e2 : (F.res xs obs).2 = pickV h ks fl := by rw [hro]
      refine ⟨v, β2.pickV h ks fl, rfl, by rw [e2]; exact q1, by rw [e2]; exact q2, fun k ob hk => ?_, ?_⟩
      · obtain ⟨ob', h1, h2⟩ := hsame k ob hk
        refine ⟨ob', h1, h2, ?_⟩
        obtain ⟨u, hu⟩ := hval k ob hk
        have hku : us[k]? = some u := by
          have hk' : k < obs.length := (List.getElem?_eq_some_iff.1 hk).1
          simp [us, hk', hu]
        obtain ⟨k', ob1, a1, a2, a3⟩ := hpin k u hku
        have hver : ob'.ver = vf fl k := by
          rw [e2, pickV_at a1 a2] at h1
          injection h1 with h1
          rw [← h1]
        rcases a3 with a3 | ⟨a3, a4⟩
        · exact .inr (by rw [hver, a3])
        · refine .inl ⟨by rw [hver, a3], ?_⟩
          have hpv := Pl.pickV_val (β := β2) (fl := fl) a1 a2
          rw [a3] at hpv
          rw [hpv, hu]
          have := ht (1000 + k)
          rw [a4] at this
          exact this.inv_pin
      · rw [e1, e2]
        cases x with
        | tup xs =>
          obtain ⟨cs, rfl, hlen, hrep⟩ := hrep.inv_tup
          refine .tup _ _ (by simpa using hlen) fun j x c' hx hc => ?_
          rw [List.getElem?_map] at hx
          cases hj : xs[j]? with
          | none => rw [hj] at hx; cases hx
          | some y => rw [hj] at hx; injection hx with hx; subst hx; exact q3 _ _ (hrep j y c' hj hc)
        | _ => exact q3 _ _ hrep
    rcases hfin with hfin | ⟨k, m, ob, hk, hl, hbx, hpos, hm, rfl, hfin⟩
    · obtain ⟨v', β', h1, h2⟩ := main s.h β1 x H1.2.2.1 H1.2.2.2 hrep hfin
      exact ⟨H1.1, v, hrun, v', β', h1, h2⟩
    · obtain ⟨β2, t1, t2, t3⟩ := H1.2.2.1.trunc hk hl hbx hpos hm hrep
      obtain ⟨v', β', h1, h2⟩ := main _ β2 _ t1 (fun t => t2 _ _ (H1.2.2.2 t)) t3 hfin
      exact ⟨H1.1, v, hrun, v', β', h1, h2⟩
  rintro e a w' ⟨s, β1, hq, H1⟩
  cases e with
  | normal => exact fin s β1 a w' H1 hq
  | ret => exact fin s β1 a w' H1 hq
  | _ => exact hq.elim

theorem contractAS {P : Program} (hm : P.follows .mixedOrders = true) (A : List (Nat × List X)) (l : List (Nat × Fun)) (m n : List (Nat × MFun)) (hE : ∀ p ∈ l, GenCA A P p.1 p.2) (hM : ∀ p ∈ m, GenMA A P p.1 p.2) (hN : ∀ p ∈ n, GenNA A P p.1 p.2) {f : Nat} {fn : Func} {F : Fun} (hf : P.funcs[f]? = some fn) (hb : fn.body.isSome = true) (hn : (fn.name == "runtime.NumGoroutine") = false)
    (h : ∀ xs, F.pre xs → xs.length ≤ fn.ntmps ∧ Snd P (envN A l m n) (bodyOf fn) (retP P fn.results.toList (F.res xs)) ⟨fn.ntmps, tl (args 0 xs), []⟩) : GenCA A P f F := by
  obtain ⟨body, hbody⟩ := Option.isSome_iff_exists.1 hb
  refine genC_ofS (envN_ok hE hM hN) hm hf hbody hn fun xs hx => ?_
  obtain ⟨h1, h2⟩ := h xs hx
  refine ⟨h1, ?_⟩
  rw [ent_eq]
  have : bodyOf fn = body := by simp [bodyOf, hbody]
  rw [← this]
  exact h2
theorem contractNS {P : Program} (hm : P.follows .mixedOrders = true) (A : List (Nat × List X)) (l : List (Nat × Fun)) (m n : List (Nat × MFun)) (hE : ∀ p ∈ l, GenCA A P p.1 p.2) (hM : ∀ p ∈ m, GenMA A P p.1 p.2) (hN : ∀ p ∈ n, GenNA A P p.1 p.2) {f : Nat} {fn : Func} {F : MFun} (hf : P.funcs[f]? = some fn) (hb : fn.body.isSome = true) (hn : (fn.name == "runtime.NumGoroutine") = false)
    (h : ∀ xs obs us, F.pre xs obs → us.length = obs.length → (xs.length ≤ fn.ntmps ∧ xs.length ≤ 1000 ∧ (∀ (k : Nat) ob, obs[k]? = some ob → ∃ ob', (F.res xs obs).2[k]? = some ob' ∧ sameObN ob ob')) ∧
      Snd P (envN A l m n) (bodyOf fn) (retN P fn.results.toList us (F.res xs obs)) ⟨fn.ntmps, tl (args 0 xs ++ pinl 0 us), obs⟩) : GenNA A P f F := by
  obtain ⟨body, hbody⟩ := Option.isSome_iff_exists.1 hb
  refine genN_ofS (envN_ok hE hM hN) hm hf hbody hn fun xs obs us hx hu => ?_
  obtain ⟨⟨h1, h2, h3⟩, h4⟩ := h xs obs us hx hu
  refine ⟨h1, h2, h3, ?_⟩
  rw [entM_eq _ _ _ _ h2]
  have : bodyOf fn = body := by simp [bodyOf, hbody]
  rw [← this]
  exact h4

end Go.Abs

namespace Go.Abs
open Go.RowKit

section
variable {P : Program} {E : Env} (s : St)
theorem aop_move (x : Operand) : aop P E s (.move x) = ⟨True, ev s x, s.h⟩ := rfl
theorem aop_assign (x : Operand) : aop P E s (.assign x) = ⟨True, ev s x, s.h⟩ := rfl
theorem aop_pick (c a b : Operand) : aop P E s (.pick c a b) = ePick s (ev s c) (ev s a) (ev s b) := rfl
theorem aop_alloc (T : Nat) : aop P E s (.alloc T) = eAlloc P s T := rfl
theorem aop_box (T : Nat) (x : Operand) : aop P E s (.box T x) = eBox s T (ev s x) := rfl
theorem aop_build (T : Nat) (l : List (Nat × Operand)) : aop P E s (.build T l.toArray) = eBuild P s T (l.map fun p => (p.1, ev s p.2)) := rfl
theorem aop_buildSlice (T n : Nat) (l : List (Nat × Operand)) : aop P E s (.buildSlice T n l.toArray) = eBuildSlice P s T n (l.map fun p => (p.1, ev s p.2)) := rfl
theorem evG_tmp (t : Nat) : evG E s (.tmp t) = s.t t := rfl
theorem evG_const (c : Value) : evG E s (.const c) = cst c := rfl
theorem evG_global (g : Nat) : evG E s (.global g) = glX (E.A.lookup g) := rfl
theorem glX_some (c : List X) : glX (some c) = .pt c := rfl
theorem aop_load (T : Nat) (a : Operand) : aop P E s (.load T a) = eLoad P s T (evG E s a) := rfl
theorem aop_store (T : Nat) (a x : Operand) : aop P E s (.store T a x) = eStore P s T (ev s a) (ev s x) := rfl
theorem aop_nilCheck (x : Operand) : aop P E s (.nilCheck x) = eNil s (ev s x) := rfl
theorem aop_binOp (op : BinOp) (T : Nat) (x y : Operand) (T' : Nat) : aop P E s (.binOp op T x y T') = eBin P s op T (ev s x) (ev s y) := rfl
theorem aop_unOp (op : UnOp) (T : Nat) (x : Operand) : aop P E s (.unOp op T x) = eUn s op (ev s x) := rfl
theorem aop_convert (a b : Nat) (x : Operand) : aop P E s (.convert a b x) = eConv P s a b (ev s x) := rfl
theorem aop_makeFunc (f : Nat) (cap : List Operand) : aop P E s (.makeFunc (.func f) #[] cap.toArray) = ⟨True, .fn f (cap.map (ev s)), s.h⟩ := rfl
theorem aop_makeSlice (T : Nat) (l c : Operand) : aop P E s (.makeSlice T l c) = eMake P s T (ev s l) (ev s c) := rfl
theorem aop_slice (T : Nat) (x : Operand) (lo hi mx : Option Operand) : aop P E s (.slice T x lo hi mx) = eSlice P s T (ev s x) (lo.map (ev s)) (hi.map (ev s)) (mx.map (ev s)) := rfl
theorem aop_fieldAddr (T : Nat) (x : Operand) (f : Nat) : aop P E s (.fieldAddr T x f) = eFieldAddr P s T f (evG E s x) := rfl
theorem aop_field (T : Nat) (x : Operand) (f : Nat) : aop P E s (.field T x f) = eField P s T f (ev s x) := rfl
theorem aop_indexAddr (T : Nat) (x i : Operand) : aop P E s (.indexAddr T x i) = eIndexAddr P s T (evG E s x) (ev s i) := rfl
theorem aop_index (T : Nat) (x i : Operand) : aop P E s (.index T x i) = eIndex P s T (ev s x) (ev s i) := rfl
theorem aop_extract (t : Operand) (i : Nat) : aop P E s (.extract t i) = eExtract s (ev s t) i := rfl
theorem aop_builtin (b : Builtin) (l : List Operand) (ts : List Nat) : aop P E s (.call ⟨.builtin b, l.toArray, ts.toArray⟩) = eBuiltin P s b ts (l.map (ev s)) := rfl
theorem aop_call (f : Operand) (l : List Operand) (ts : Array Nat) : aop P E s (.call ⟨.value f, l.toArray, ts⟩) = eFn E s (ev s f) (l.map (ev s)) := rfl
theorem eBuiltin_len (T : Nat) (x : X) : eBuiltin P s .len [T] [x] = eLen P s T x := rfl
theorem eBuiltin_append (T : Nat) (a x : X) : eBuiltin P s .append [T, T] [a, x] = eAppend P s T a x := by simp [eBuiltin]
theorem eBuiltin_min (ts : List Nat) (xs : List X) : eBuiltin P s .min ts xs = eMin s xs := by
  unfold eBuiltin; split <;> first | rfl | simp_all
theorem eBuiltin_max (ts : List Nat) (xs : List X) : eBuiltin P s .max ts xs = eMax s xs := by
  unfold eBuiltin; split <;> first | rfl | simp_all
theorem eMin_int (k k' : IntKind) (x y : Int) : eMin s [.v (.int k x), .v (.int k' y)] = ⟨True, .v (.int k (if y < x then y else x)), s.h⟩ := rfl
theorem eMax_int (k k' : IntKind) (x y : Int) : eMax s [.v (.int k x), .v (.int k' y)] = ⟨True, .v (.int k (if y > x then y else x)), s.h⟩ := rfl
theorem eFn_call (f : Nat) (cap args : List X) (F : Fun) (h : E.f f = some F) : eFn E s (.fn f cap) args = eCall s F (args ++ cap) := by simp [eFn, h]
theorem ePick_bool (p : Bool) (a b : X) : ePick s (.v (.bool p)) a b = ⟨True, pX p a b, s.h⟩ := rfl
theorem eNil_pt (c : List X) : eNil s (.pt c) = ⟨True, .pt c, s.h⟩ := rfl
theorem eNil_optr (k v i j : Nat) : eNil s (.optr k v i j) = ⟨True, .optr k v i j, s.h⟩ := rfl
theorem eNil_fn (f : Nat) (c : List X) : eNil s (.fn f c) = ⟨True, .fn f c, s.h⟩ := rfl
theorem eUn_not (b : Bool) : eUn s .not (.v (.bool b)) = ⟨True, .v (.bool !b), s.h⟩ := rfl
theorem eUn_neg (k : IntKind) (n : Int) : eUn s .neg (.v (.int k n)) = ⟨True, .v (.int k (k.wrap (0 - n))), s.h⟩ := rfl
/-! numbers -/
variable (T : Nat) (k : IntKind) (a b : Int)
theorem bin_agg (xs ys : List X) (l : List (Nat × Nat)) (h : eqPlan P T = some l) : eBin P s .eql T (.agg xs) (.agg ys) = (match vals xs, vals ys with | some cs, some ds => (match planEq cs.toArray ds.toArray l with | some b => ⟨l.all (fun p => p.2 < szOf P T) = true ∧ xs.length = szOf P T ∧ ys.length = szOf P T, .v (.bool b), s.h⟩ | none => bad s) | _, _ => bad s) := by
  simp only [eBin, h]
  cases vals xs <;> cases vals ys <;> try rfl
  rename_i cs ds
  dsimp only
  cases planEq cs.toArray ds.toArray l <;> rfl
theorem bin_add : eBin P s .add T (.v (.int k a)) (.v (.int k b)) = ⟨True, .v (.int k (k.wrap (a + b))), s.h⟩ := by simp [eBin, binC, binV]
theorem bin_sub : eBin P s .sub T (.v (.int k a)) (.v (.int k b)) = ⟨True, .v (.int k (k.wrap (a - b))), s.h⟩ := by simp [eBin, binC, binV]
theorem bin_mul : eBin P s .mul T (.v (.int k a)) (.v (.int k b)) = ⟨True, .v (.int k (k.wrap (a * b))), s.h⟩ := by simp [eBin, binC, binV]
theorem bin_quo : eBin P s .quo T (.v (.int k a)) (.v (.int k b)) = ⟨b ≠ 0, .v (.int k (k.wrap (a.tdiv b))), s.h⟩ := by simp [eBin, binC, binV]
theorem bin_rem : eBin P s .rem T (.v (.int k a)) (.v (.int k b)) = ⟨b ≠ 0, .v (.int k (a.tmod b)), s.h⟩ := by simp [eBin, binC, binV]
theorem bin_eql : eBin P s .eql T (.v (.int k a)) (.v (.int k b)) = ⟨True, .v (.bool (a == b)), s.h⟩ := by simp [eBin, binC, binV]
theorem bin_neq : eBin P s .neq T (.v (.int k a)) (.v (.int k b)) = ⟨True, .v (.bool (a != b)), s.h⟩ := by simp [eBin, binC, binV]
theorem bin_lss : eBin P s .lss T (.v (.int k a)) (.v (.int k b)) = ⟨True, .v (.bool (decide (a < b))), s.h⟩ := by simp [eBin, binC, binV]
theorem bin_leq : eBin P s .leq T (.v (.int k a)) (.v (.int k b)) = ⟨True, .v (.bool (decide (a ≤ b))), s.h⟩ := by simp [eBin, binC, binV]
theorem bin_gtr : eBin P s .gtr T (.v (.int k a)) (.v (.int k b)) = ⟨True, .v (.bool (decide (b < a))), s.h⟩ := by simp [eBin, binC, binV]
theorem bin_geq : eBin P s .geq T (.v (.int k a)) (.v (.int k b)) = ⟨True, .v (.bool (decide (b ≤ a))), s.h⟩ := by simp [eBin, binC, binV]
theorem bin_shl (k' : IntKind) : eBin P s .shl T (.v (.int k a)) (.v (.int k' b)) = ⟨0 ≤ b, .v (.int k (k.wrap (a * 2 ^ (min b.toNat k.bits)))), s.h⟩ := by simp [eBin, binC, binV]
theorem bin_shr (k' : IntKind) : eBin P s .shr T (.v (.int k a)) (.v (.int k' b)) = ⟨0 ≤ b, .v (.int k (a.fdiv (2 ^ (min b.toNat k.bits)))), s.h⟩ := by simp [eBin, binC, binV]
theorem bin_beq (p q : Bool) (h : P.underlying T = some .bool) : eBin P s .eql T (.v (.bool p)) (.v (.bool q)) = ⟨True, .v (.bool (p == q)), s.h⟩ := by simp [eBin, binC, binV, h]
theorem bin_bne (p q : Bool) (h : P.underlying T = some .bool) : eBin P s .neq T (.v (.bool p)) (.v (.bool q)) = ⟨True, .v (.bool (p != q)), s.h⟩ := by
  simp [eBin, binC, binV, h]; cases p <;> cases q <;> rfl
variable (x y : ByteArray)
theorem bin_cat : eBin P s .add T (.v (.string x)) (.v (.string y)) = ⟨x.size + y.size ≤ 9223372036854775807, .v (.string (x ++ y)), s.h⟩ := by simp [eBin, binC, binV]
theorem bin_seq : eBin P s .eql T (.v (.string x)) (.v (.string y)) = ⟨True, .v (.bool (x.toList == y.toList)), s.h⟩ := by simp [eBin, binC, binV]
theorem bin_sne : eBin P s .neq T (.v (.string x)) (.v (.string y)) = ⟨True, .v (.bool (!(x.toList == y.toList))), s.h⟩ := by simp [eBin, binC, binV]
/-! memory -/
theorem eLen_sl (rows : List (List X)) : eLen P s T (.sl rows) = ⟨(slEl P T).isSome = true, .v (.int .i64 rows.length), s.h⟩ := rfl
theorem eLen_str (b : ByteArray) : eLen P s T (.v (.string b)) = ⟨isStr P T = true, .v (.int .i64 b.size), s.h⟩ := rfl
theorem eLen_nil : eLen P s T (.v (.slice none 0 0)) = ⟨(slEl P T).isSome = true, .v (.int .i64 0), s.h⟩ := rfl
theorem eLen_osl (k ver : Nat) : eLen P s T (.osl k ver) = ⟨(slEl P T).isSome = true ∧ verOk s.h k ver ∧ ((s.h[k]?.map (·.bx)).getD true) = false, .v (.int .i64 ((s.h[k]?.map (·.rows)).getD []).length), s.h⟩ := rfl
theorem eLen_osub (k ver off len : Nat) : eLen P s T (.osub k ver off len) = ⟨(slEl P T).isSome = true, .v (.int .i64 len), s.h⟩ := rfl
theorem ix_sl (rows : List (List X)) (n : Int) (e : Nat) (h : slEl P T = some e) : eIndexAddr P s T (.sl rows) (.v (.int k n)) = ⟨okT P e = true ∧ 0 ≤ n ∧ n.toNat < rows.length ∧ (rows[n.toNat]?.getD []).length = szOf P e, .pt (rows[n.toNat]?.getD []), s.h⟩ := by
  simp [eIndexAddr, h]
theorem ix_osl (k' ver : Nat) (n : Int) (e : Nat) (h : slEl P T = some e) : eIndexAddr P s T (.osl k' ver) (.v (.int k n)) = ⟨okT P e = true ∧ 0 ≤ n ∧ verOk s.h k' ver ∧ n.toNat < ((s.h[k']?.map (·.rows)).getD []).length ∧ ((s.h[k']?.map (·.sz)).getD 0) = szOf P e ∧ ((s.h[k']?.map (·.bx)).getD true) = false, .optr k' ver n.toNat 0, s.h⟩ := by
  simp [eIndexAddr, h]
theorem ix_osub (k' ver off len : Nat) (n : Int) (e : Nat) (h : slEl P T = some e) : eIndexAddr P s T (.osub k' ver off len) (.v (.int k n)) = ⟨okT P e = true ∧ 0 ≤ n ∧ n.toNat < len ∧ verOk s.h k' ver ∧ ((s.h[k']?.map (·.sz)).getD 0) = szOf P e, .optr k' ver (off + n.toNat) 0, s.h⟩ := by
  simp [eIndexAddr, h]
theorem ix_arp (cells : List X) (n : Int) (l e : Nat) (h : slEl P T = none) (h' : arEl P T = some (l, e)) : eIndexAddr P s T (.pt cells) (.v (.int k n)) = ⟨okT P e = true ∧ 0 ≤ n ∧ n.toNat < l ∧ l * szOf P e ≤ cells.length, .pt (cells.drop (n.toNat * szOf P e)), s.h⟩ := by
  simp [eIndexAddr, h, h']
theorem ix_aro (k' ver r j : Nat) (n : Int) (l e : Nat) (h : slEl P T = none) (h' : arEl P T = some (l, e)) : eIndexAddr P s T (.optr k' ver r j) (.v (.int k n)) = ⟨okT P e = true ∧ 0 ≤ n ∧ n.toNat < l, .optr k' ver r (j + n.toNat * szOf P e), s.h⟩ := by
  simp [eIndexAddr, h, h']
theorem ld_pt1 (cells : List X) (h : isAg P T = false) : eLoad P s T (.pt cells) = ⟨okT P T = true ∧ 1 ≤ cells.length, cells.headD .top, s.h⟩ := by simp [eLoad, need, ldX, h]
theorem ld_ptN (cells : List X) (h : isAg P T = true) : eLoad P s T (.pt cells) = ⟨okT P T = true ∧ szOf P T ≤ cells.length, .agg (cells.take (szOf P T)), s.h⟩ := by simp [eLoad, need, ldX, h]
theorem ld_op1 (k' ver i j : Nat) (h : isAg P T = false) : eLoad P s T (.optr k' ver i j) = ⟨okT P T = true ∧ verOk s.h k' ver ∧ j + 1 ≤ (rowOf s.h k' i).length, ((rowOf s.h k' i).drop j).headD .top, s.h⟩ := by simp [eLoad, need, ldX, h]
theorem ld_opN (k' ver i j : Nat) (h : isAg P T = true) : eLoad P s T (.optr k' ver i j) = ⟨okT P T = true ∧ verOk s.h k' ver ∧ 0 < szOf P T ∧ j + szOf P T ≤ (rowOf s.h k' i).length, .agg (((rowOf s.h k' i).drop j).take (szOf P T)), s.h⟩ := by simp [eLoad, need, ldX, h]
theorem fa_pt (f : Nat) (cells : List X) (o ft : Nat) (h : flOf P T f = some (o, ft)) : eFieldAddr P s T f (.pt cells) = ⟨okT P ft = true ∧ 0 < szOf P ft ∧ o ≤ cells.length, .pt (cells.drop o), s.h⟩ := by simp [eFieldAddr, h]
theorem fa_op (f k' ver i j : Nat) (o ft : Nat) (h : flOf P T f = some (o, ft)) : eFieldAddr P s T f (.optr k' ver i j) = ⟨okT P ft = true ∧ 0 < szOf P ft, .optr k' ver i (j + o), s.h⟩ := by simp [eFieldAddr, h]
theorem fi_ag (f : Nat) (cells : List X) (o ft : Nat) (h : flOf P T f = some (o, ft)) : eField P s T f (.agg cells) = ⟨okT P ft = true ∧ o + need P ft ≤ cells.length, ldX (isAg P ft) (szOf P ft) (cells.drop o), s.h⟩ := by simp [eField, h]
theorem ldX_false (sz : Nat) (l : List X) : ldX false sz l = l.headD .top := rfl
theorem ldX_true (sz : Nat) (l : List X) : ldX true sz l = .agg (l.take sz) := rfl
theorem need_1 (h : isAg P T = false) : need P T = 1 := by simp [need, h]
theorem need_N (h : isAg P T = true) : need P T = szOf P T := by simp [need, h]
theorem ext_tup (xs : List X) (i : Nat) : eExtract s (.tup xs) i = ⟨i < xs.length, xs.getD i .top, s.h⟩ := rfl
theorem box_agg (xs : List X) : eBox s T (.agg xs) = ⟨True, .optr s.h.length 0 0 0, s.h ++ [⟨T, xs.length, 0, [xs], true, true, none⟩]⟩ := rfl
theorem box_v (u : Value) : eBox s T (.v u) = ⟨True, .optr s.h.length 0 0 0, s.h ++ [⟨T, 1, 0, [[.v u]], true, true, none⟩]⟩ := rfl
theorem box_sl (r : List (List X)) : eBox s T (.sl r) = ⟨True, .optr s.h.length 0 0 0, s.h ++ [⟨T, 1, 0, [[.sl r]], true, true, none⟩]⟩ := rfl
theorem box_osl (k ver : Nat) : eBox s T (.osl k ver) = ⟨True, .optr s.h.length 0 0 0, s.h ++ [⟨T, 1, 0, [[.osl k ver]], true, true, none⟩]⟩ := rfl
theorem st_v (k' ver i j : Nat) (u : Value) : eStore P s T (.optr k' ver i j) (.v u) = ⟨okT P T = true ∧ 1 = szOf P T ∧ verOk s.h k' ver ∧ liveOk s.h k' ∧ j + 1 ≤ (rowOf s.h k' i).length, .top, putCells s.h k' i j [.v u]⟩ := by simp [eStore, cellsX]
theorem st_sl (k' ver i j : Nat) (r : List (List X)) : eStore P s T (.optr k' ver i j) (.sl r) = ⟨okT P T = true ∧ 1 = szOf P T ∧ verOk s.h k' ver ∧ liveOk s.h k' ∧ j + 1 ≤ (rowOf s.h k' i).length, .top, putCells s.h k' i j [.sl r]⟩ := by simp [eStore, cellsX]
theorem st_osl (k' ver i j k2 v2 : Nat) : eStore P s T (.optr k' ver i j) (.osl k2 v2) = ⟨okT P T = true ∧ 1 = szOf P T ∧ verOk s.h k' ver ∧ liveOk s.h k' ∧ j + 1 ≤ (rowOf s.h k' i).length, .top, putCells s.h k' i j [.osl k2 v2]⟩ := by simp [eStore, cellsX]
theorem st_agg (k' ver i j : Nat) (xs : List X) : eStore P s T (.optr k' ver i j) (.agg xs) = ⟨okT P T = true ∧ xs.length = szOf P T ∧ 0 < xs.length ∧ verOk s.h k' ver ∧ liveOk s.h k' ∧ j + xs.length ≤ (rowOf s.h k' i).length, .top, putCells s.h k' i j xs⟩ := by simp [eStore, cellsX]
end

/-! ### guarded values -/
theorem un_mk (n : Nat) (t : Nat → X) (h : List Ob) (es : List (Bool × Bool)) : St.un ⟨n, t, h⟩ es = ⟨n, unT es t, h⟩ := rfl
theorem unT_app (es : List (Bool × Bool)) (t : Nat → X) (i : Nat) : unT es t i = unL es (t i) := rfl
theorem unL_nil (x : X) : unL [] x = x := rfl
theorem unL_cons (p w : Bool) (es : List (Bool × Bool)) (x : X) : unL ((p, w) :: es) x = unL es (un p w x) := rfl
theorem un_gd (p want : Bool) (es : List (Bool × Bool)) (x : X) : un p want (.gd ((p, want) :: es) x) = gdL es x := by simp [un]
theorem gdL_nil (x : X) : gdL [] x = x := rfl
theorem gdL_cons (e : Bool × Bool) (es : List (Bool × Bool)) (x : X) : gdL (e :: es) x = .gd (e :: es) x := rfl
theorem allT_nil : allT [] = True := rfl
theorem allT_cons (p w : Bool) (es : List (Bool × Bool)) : allT ((p, w) :: es) = (p = w ∧ allT es) := rfl
theorem useG_ft (e : Eff) (es : List (Bool × Bool)) (h0 : List Ob) (k : X → Prop) : Eff.useG e ((false, true) :: es) h0 k = k (.gd ((false, true) :: es) e.val) := by simp [Eff.useG, allT]
theorem useG_tf (e : Eff) (es : List (Bool × Bool)) (h0 : List Ob) (k : X → Prop) : Eff.useG e ((true, false) :: es) h0 k = k (.gd ((true, false) :: es) e.val) := by simp [Eff.useG, allT]
theorem un_v (p want : Bool) (x : Value) : un p want (.v x) = .v x := rfl
theorem un_sl (p want : Bool) (x : List (List X)) : un p want (.sl x) = .sl x := rfl
theorem un_pt (p want : Bool) (x : List X) : un p want (.pt x) = .pt x := rfl
theorem un_agg (p want : Bool) (x : List X) : un p want (.agg x) = .agg x := rfl
theorem un_tup (p want : Bool) (x : List X) : un p want (.tup x) = .tup x := rfl
theorem un_fn (p want : Bool) (f : Nat) (x : List X) : un p want (.fn f x) = .fn f x := rfl
theorem un_osl (p want : Bool) (k v : Nat) : un p want (.osl k v) = .osl k v := rfl
theorem un_osub (p want : Bool) (k v o l : Nat) : un p want (.osub k v o l) = .osub k v o l := rfl
theorem un_optr (p want : Bool) (k v i j : Nat) : un p want (.optr k v i j) = .optr k v i j := rfl
theorem un_top (p want : Bool) : un p want .top = .top := rfl
theorem pX_t (a b : X) : pX true a b = un true true a := rfl
theorem pX_f (a b : X) : pX false a b = un false false b := rfl
theorem pick_and (p q r : Bool) : pX p (.gd [(p, true)] (.v (.bool q))) (.v (.bool r)) = .v (.bool (if p then q else r)) := by cases p <;> simp [pX, un, gdL]
theorem pick_or (p q r : Bool) : pX p (.v (.bool r)) (.gd [(p, false)] (.v (.bool q))) = .v (.bool (if p then r else q)) := by cases p <;> simp [pX, un, gdL]
theorem if_and (p q : Bool) : (if p = true then q else false) = (p && q) := by cases p <;> rfl
theorem if_or (p q : Bool) : (if p = true then true else q) = (p || q) := by cases p <;> rfl

/-! ### objects -/
theorem verOk_mk (h : List Ob) (k ver : Nat) : verOk h k ver = ((h[k]?).map (·.ver) = some ver) := rfl
theorem liveOk_mk (h : List Ob) (k : Nat) : liveOk h k = (((h[k]?).map (·.live)).getD false = true) := rfl

end Go.Abs

namespace Go.Abs
open Go.RowKit

section
variable {P : Program} {E : Env} {ops : Array Oper} {s : St} {K : St → Prop} {rest : List Oper}
theorem rgD_nil : rgD P E ops [] s K = K s := rfl
theorem rgD_cons (d : Option Nat) (op : Op) (ty : Nat) (pos : String) (af : Array Edge) : rgD P E ops (⟨d, op, ty, pos, af, none⟩ :: rest) s K = (dok s d ∧ (aopD P E s op).use fun v _ => rgD P E ops rest (s.put d v s.h) K) := rfl
theorem rgD_guard (d : Option Nat) (op : Op) (ty : Nat) (pos : String) (af : Array Edge) (j : Nat) (want : Bool) :
    rgD P E ops (⟨d, op, ty, pos, af, some (j, want)⟩ :: rest) s K = guardP (gval ops s j) want fun es => dok s d ∧ (aopD P E (s.un es) op).useG es s.h fun v => rgD P E ops rest (s.put d v s.h) K := rfl
theorem drawP_all (l : List Oper) (h : drawOk l.toArray l.length = true) (h2 : rgD P E l.toArray l s K) : drawP P E l.toArray s K := by
  refine .inl ⟨l.length, h, ?_⟩
  simp only [List.take_length, List.drop_length]
  exact h2
theorem drawP_cut (l : List Oper) (m : Nat) (h : drawOk l.toArray m = true) (h2 : rgD P E l.toArray (l.take m) s fun s' => rgW P E l.toArray (l.drop m) s' K) : drawP P E l.toArray s K := .inl ⟨m, h, h2⟩
/-- the same value at these heaps, too -/
def againL (P : Program) (E : Env) (ops : Array Oper) (o : Oper) (v : X) (n : Nat) (t : Nat → X) : List (List Ob) → Prop
  | [] => True
  | h :: rest => OpOk P E ops ⟨n, t, h⟩ o v ∧ againL P E ops o v n t rest
theorem againL_all {o : Oper} {v : X} {n : Nat} {t : Nat → X} : ∀ {l : List (List Ob)}, againL P E ops o v n t l → ∀ h ∈ l, OpOk P E ops ⟨n, t, h⟩ o v
  | [], _, _, hm => by simp at hm
  | h0 :: rest, ha, h, hm => by
    rcases List.mem_cons.1 hm with rfl | hm
    · exact ha.1
    · exact againL_all ha.2 h hm
def rgO (P : Program) (E : Env) (ops : Array Oper) (ch : List Nat) (lv i : Nat) (o : Option Oper) (s : St) (past : List (List Ob)) (K : St → List (List Ob) → Prop) : Prop :=
  match o with
  | none => False
  | some o =>
    if ch.contains i = true then o.guard = none ∧ dok s o.dst ∧ (aop P E s o.op).use fun v h => K (s.put o.dst v h) (s.h :: past)
    else opX P E ops s o fun v => (free o.op = true ∨ againL P E ops o v s.n s.t (past.take (past.length - lv))) ∧ K (s.put o.dst v s.h) past
def rgZ (P : Program) (E : Env) (l : List Oper) (ch : List Nat) : List (Nat × Nat) → St → List (List Ob) → (St → Prop) → Prop
  | [], s, _, K => K s
  | (i, lv) :: rest, s, past, K => rgO P E l.toArray ch lv i l[i]? s past fun s' past' => rgZ P E l ch rest s' past' K
theorem rgZ_X {l : List Oper} {ch : List Nat} : ∀ (ord : List (Nat × Nat)) (s : St) (past : List (List Ob)), (ord.all fun p => p.2 == lev l.toArray ch p.1) = true → rgZ P E l ch ord s past K → rgX P E l.toArray ch (ord.map (·.1)) s past K
  | [], _, _, _, h => h
  | (i, lv) :: rest, s, past, hl, h => by
    simp only [List.all_cons, Bool.and_eq_true, beq_iff_eq] at hl
    unfold rgZ rgO at h
    simp only [List.map_cons]
    unfold rgX
    have e : l.toArray[i]? = l[i]? := by simp
    rw [e]
    split at h
    · exact h.elim
    · rename_i o ho
      rw [ho]
      dsimp only
      split at h
      · rename_i hc
        rw [if_pos hc]
        exact ⟨h.1, h.2.1, h.2.2.1, rgZ_X rest _ _ hl.2 h.2.2.2⟩
      · rename_i hc
        rw [if_neg hc]
        refine opX_mono (fun x hx => ⟨hx.1.imp id fun h1 => ?_, rgZ_X rest _ _ hl.2 hx.2⟩) h
        rw [← hl.1]
        exact againL_all h1
/-- in the order ord (each with the chain's count ahead of it), about the chain ch -/
theorem drawP_x (l : List Oper) (ord : List (Nat × Nat)) (ch : List Nat) (h : (drawOkX l.toArray (ord.map (·.1)) ch && ord.all fun p => p.2 == lev l.toArray ch p.1) = true) (h2 : rgZ P E l ch ord s [] K) : drawP P E l.toArray s K := by
  rw [Bool.and_eq_true] at h
  exact .inr (.inl ⟨_, ch, h.1, rgZ_X ord s [] h.2 h2⟩)
theorem rgZ_nil {l : List Oper} {ch : List Nat} {past : List (List Ob)} : rgZ P E l ch [] s past K = K s := rfl
theorem rgZ_cons {l : List Oper} {ch : List Nat} {past : List (List Ob)} (i lv : Nat) (r : List (Nat × Nat)) : rgZ P E l ch ((i, lv) :: r) s past K = rgO P E l.toArray ch lv i l[i]? s past fun s' past' => rgZ P E l ch r s' past' K := rfl
theorem rgO_congr {ch : List Nat} {lv i : Nat} {o o' : Option Oper} {past : List (List Ob)} {K : St → List (List Ob) → Prop} (h : o = o') : rgO P E ops ch lv i o s past K = rgO P E ops ch lv i o' s past K := by rw [h]
attribute [congr] rgO_congr
variable {ch : List Nat} {lv i : Nat} {past : List (List Ob)} {K' : St → List (List Ob) → Prop}
theorem rgO_ch (d : Option Nat) (op : Op) (ty : Nat) (pos : String) (af : Array Edge) (h : ch.contains i = true) : rgO P E ops ch lv i (some ⟨d, op, ty, pos, af, none⟩) s past K' = (dok s d ∧ (aop P E s op).use fun v h => K' (s.put d v h) (s.h :: past)) := by
  unfold rgO
  simp only [h, if_true, true_and]
theorem rgO_fl (d : Option Nat) (op : Op) (ty : Nat) (pos : String) (af : Array Edge) (h : ch.contains i = false) : rgO P E ops ch lv i (some ⟨d, op, ty, pos, af, none⟩) s past K' = (dok s d ∧ (aopD P E s op).use fun v _ => (free op = true ∨ againL P E ops ⟨d, op, ty, pos, af, none⟩ v s.n s.t (past.take (past.length - lv))) ∧ K' (s.put d v s.h) past) := by
  unfold rgO
  simp only [h, Bool.false_eq_true, if_false, opX]
theorem rgO_flg (d : Option Nat) (op : Op) (ty : Nat) (pos : String) (af : Array Edge) (j : Nat) (want : Bool) (h : ch.contains i = false) : rgO P E ops ch lv i (some ⟨d, op, ty, pos, af, some (j, want)⟩) s past K' = guardP (gval ops s j) want fun es => dok s d ∧ (aopD P E (s.un es) op).useG es s.h fun v => (free op = true ∨ againL P E ops ⟨d, op, ty, pos, af, some (j, want)⟩ v s.n s.t (past.take (past.length - lv))) ∧ K' (s.put d v s.h) past := by
  unfold rgO
  simp only [h, Bool.false_eq_true, if_false, opX]
theorem againL_nil (o : Oper) (v : X) (n : Nat) (t : Nat → X) : againL P E ops o v n t [] = True := rfl
theorem againL_cons (d : Option Nat) (op : Op) (ty : Nat) (pos : String) (af : Array Edge) (v : X) (n : Nat) (t : Nat → X) (h : List Ob) (r : List (List Ob)) : againL P E ops ⟨d, op, ty, pos, af, none⟩ v n t (h :: r) = ((dok ⟨n, t, h⟩ d ∧ (aopD P E ⟨n, t, h⟩ op).use fun v' _ => v = v') ∧ againL P E ops ⟨d, op, ty, pos, af, none⟩ v n t r) := rfl
variable (s)
theorem aopD_move (x : Operand) : aopD P E s (.move x) = ⟨True, ev s x, s.h⟩ := rfl
theorem aopD_assign (x : Operand) : aopD P E s (.assign x) = ⟨True, ev s x, s.h⟩ := rfl
theorem aopD_pick (c a b : Operand) : aopD P E s (.pick c a b) = ePick s (ev s c) (ev s a) (ev s b) := rfl
theorem aopD_build (T : Nat) (l : List (Nat × Operand)) : aopD P E s (.build T l.toArray) = eBuild P s T (l.map fun p => (p.1, ev s p.2)) := rfl
theorem aopD_buildSlice (T n : Nat) (l : List (Nat × Operand)) : aopD P E s (.buildSlice T n l.toArray) = eBSD P s T n (l.map fun p => (p.1, ev s p.2)) := rfl
theorem aopD_load (T : Nat) (a : Operand) : aopD P E s (.load T a) = eLoad P s T (evG E s a) := rfl
theorem aopD_nilCheck (x : Operand) : aopD P E s (.nilCheck x) = eNil s (ev s x) := rfl
theorem aopD_binOp (op : BinOp) (T : Nat) (x y : Operand) (T' : Nat) : aopD P E s (.binOp op T x y T') = eBin P s op T (ev s x) (ev s y) := rfl
theorem aopD_unOp (op : UnOp) (T : Nat) (x : Operand) : aopD P E s (.unOp op T x) = eUn s op (ev s x) := rfl
theorem aopD_convert (a b : Nat) (x : Operand) : aopD P E s (.convert a b x) = eConv P s a b (ev s x) := rfl
theorem aopD_makeFunc (f : Nat) (cap : List Operand) : aopD P E s (.makeFunc (.func f) #[] cap.toArray) = ⟨True, .fn f (cap.map (ev s)), s.h⟩ := rfl
theorem aopD_slice (T : Nat) (x : Operand) (lo hi mx : Option Operand) : aopD P E s (.slice T x lo hi mx) = eSlice P s T (ev s x) (lo.map (ev s)) (hi.map (ev s)) (mx.map (ev s)) := rfl
theorem aopD_fieldAddr (T : Nat) (x : Operand) (f : Nat) : aopD P E s (.fieldAddr T x f) = eFieldAddr P s T f (evG E s x) := rfl
theorem aopD_field (T : Nat) (x : Operand) (f : Nat) : aopD P E s (.field T x f) = eField P s T f (ev s x) := rfl
theorem aopD_indexAddr (T : Nat) (x i : Operand) : aopD P E s (.indexAddr T x i) = eIndexAddr P s T (evG E s x) (ev s i) := rfl
theorem aopD_index (T : Nat) (x i : Operand) : aopD P E s (.index T x i) = eIndex P s T (ev s x) (ev s i) := rfl
theorem aopD_extract (t : Operand) (i : Nat) : aopD P E s (.extract t i) = eExtract s (ev s t) i := rfl
theorem aopD_len (l : List Operand) (ts : List Nat) : aopD P E s (.call ⟨.builtin .len, l.toArray, ts.toArray⟩) = eBuiltin P s .len ts (l.map (ev s)) := rfl
theorem aopD_min (l : List Operand) (ts : List Nat) : aopD P E s (.call ⟨.builtin .min, l.toArray, ts.toArray⟩) = eBuiltin P s .min ts (l.map (ev s)) := rfl
theorem aopD_max (l : List Operand) (ts : List Nat) : aopD P E s (.call ⟨.builtin .max, l.toArray, ts.toArray⟩) = eBuiltin P s .max ts (l.map (ev s)) := rfl
theorem aopD_call (f : Operand) (l : List Operand) (ts : Array Nat) : aopD P E s (.call ⟨.value f, l.toArray, ts⟩) = eFnD E s (ev s f) (l.map (ev s)) := rfl
theorem eFnD_call (f : Nat) (cap args : List X) (F : Fun) (h : E.f f = some F) : eFnD E s (.fn f cap) args = ⟨F.pre ((args ++ cap).map (purN s.h 3)) ∧ (F.res ((args ++ cap).map (purN s.h 3))).2 = [] ∧ ((args ++ cap).all isPure = true ∨ mf2 (F.res ((args ++ cap).map (purN s.h 3))).1 = true),
    sh2 s.h.length (F.res ((args ++ cap).map (purN s.h 3))).1, s.h⟩ := by simp [eFnD, h]
end

/-! ### numbers -/
abbrev I (n : Int) : X := .v (.int .i64 n)
abbrev B (b : Bool) : X := .v (.bool b)
/-- a list of numbers, as rows -/
def iR (l : List Int) : List (List X) := l.map fun n => [I n]
def ints (l : List Int) : X := .sl (iR l)
def deI : X → Int
  | .v (.int _ n) => n
  | _ => 0
def deIs : X → List Int
  | .sl rows => rows.map fun r => deI (r.headD .top)
  | _ => []
theorem deI_I (n : Int) : deI (.v (.int .i64 n)) = n := rfl
theorem deIs_sl (l : List Int) : deIs (.sl (iR l)) = l := by simp [deIs, iR, deI, Function.comp_def]
theorem iR_length (l : List Int) : (iR l).length = l.length := by simp [iR]
theorem iR_get (l : List Int) (k : Nat) : (iR l)[k]? = (l[k]?).map fun n => [I n] := by simp [iR]
theorem iR_getE (l : List Int) (k : Nat) (h : k < (iR l).length) : (iR l)[k] = [I (l[k]'(by rw [← iR_length]; exact h))] := by simp [iR]
theorem iR_row {l : List Int} {r : List X} (h : r ∈ iR l) : r.length = 1 := by
  simp only [iR, List.mem_map] at h
  obtain ⟨n, _, rfl⟩ := h
  rfl
theorem iR_pur (h : List Ob) (n : Nat) (l : List Int) : ((iR l).map fun r => r.map (purN h n)) = iR l := by
  unfold iR
  rw [List.map_map]
  refine List.map_congr_left fun x _ => ?_
  cases n <;> rfl
theorem iR_append (l m : List Int) : iR l ++ iR m = iR (l ++ m) := by simp [iR]
theorem iR_single (n : Int) : [[I n]] = iR [n] := rfl
theorem iR_nil : iR [] = [] := rfl
theorem iR_take (l : List Int) (k : Nat) : (iR l).take k = iR (l.take k) := by simp [iR]
theorem iR_drop (l : List Int) (k : Nat) : (iR l).drop k = iR (l.drop k) := by simp [iR]
theorem iR_set (l : List Int) (k : Nat) (n : Int) : (iR l).set k [I n] = iR (l.set k n) := by simp [iR, List.map_set]
theorem iR_ok (l : List Int) (m : Nat) : (iR l).all (fun r => r.all (ok0 m)) = true := by simp [iR, ok0]
theorem iR_mf (l : List Int) : (iR l).all (fun r => r.all mf0) = true := by simp [iR, mf0]
theorem iR_replicate (k : Nat) (n : Int) : List.replicate k [I n] = iR (List.replicate k n) := by simp [iR]

/-! ### views of arguments -/
theorem pur_v (h : List Ob) (k : IntKind) (n : Int) : purN h 3 (.v (.int k n)) = .v (.int k n) := rfl
theorem pur_b (h : List Ob) (b : Bool) : purN h 3 (.v (.bool b)) = .v (.bool b) := rfl
theorem pur_s (h : List Ob) (b : ByteArray) : purN h 3 (.v (.string b)) = .v (.string b) := rfl
theorem pur_nil (h : List Ob) : purN h 3 (.v (.slice none 0 0)) = .sl [] := rfl
theorem pur_sl (h : List Ob) (r : List (List X)) : purN h 3 (.sl r) = .sl r := rfl
theorem pur_osl (h : List Ob) (k ver : Nat) (ob : Ob) (hk : h[k]? = some ob) (hv : ob.ver = ver) (hb : ob.bx = false) : purN h 3 (.osl k ver) = .sl (ob.rows.map fun r => r.map (purN h 2)) := by simp [purN, hk, hv, hb]

theorem iR_inj (l m : List Int) : (iR l = iR m) = (l = m) := by
  refine propext ⟨fun h => ?_, fun h => by rw [h]⟩
  have h1 := congrArg (fun r => deIs (.sl r)) h
  simpa only [deIs_sl] using h1
theorem iR_cons (n : Int) (l : List Int) : iR (n :: l) = [I n] :: iR l := rfl

/-! ### results -/
section
variable {P : Program} {s : St} {ro : X × List Ob} {rs : List ResultVar} {k : List X → Prop}
theorem retM_ret {us : List Value} : retM P rs us ro .ret s = resL P s rs fun xs => FinM s us (one xs) ro := rfl
theorem retM_normal {us : List Value} : retM P rs us ro .normal s = resL P s rs fun xs => FinM s us (one xs) ro := rfl
theorem retP_ret : retP P rs ro .ret s = resL P s rs fun xs => Fin s.h (one xs) ro := rfl
theorem retP_normal : retP P rs ro .normal s = resL P s rs fun xs => Fin s.h (one xs) ro := rfl
theorem resL_nil : resL P s [] k = k [] := rfl
theorem resL_tmp (n : Nat) (t : Nat → X) (h : List Ob) (i : Nat) : resL P ⟨n, t, h⟩ (.tmp i :: rs) k = resL P ⟨n, t, h⟩ rs fun vs => k (t i :: vs) := by simp [resL, resX, Eff.use]
theorem resL_cell (n : Nat) (t : Nat → X) (h : List Ob) (a T : Nat) : resL P ⟨n, t, h⟩ (.cell a T :: rs) k = (eLoad P ⟨n, t, h⟩ T (t a)).use fun v _ => resL P ⟨n, t, h⟩ rs fun vs => k (v :: vs) := rfl
theorem one_one (x : X) : one [x] = x := rfl
theorem one_two (x y : X) (l : List X) : one (x :: y :: l) = .tup (x :: y :: l) := rfl
theorem one_nil : one [] = .tup [] := rfl
end
/-- the result, read as data -/
theorem fin_pure {h : List Ob} {x : X} {ro : X × List Ob} (hl : h.all (·.live) = true) (e : (pur2 h x, []) = ro) : Fin h x ro := e ▸ Fin.pure hl
/-- the result, with the objects that it owns -/
theorem finM0 {n : Nat} {t : Nat → X} {h : List Ob} {x : X} {ro : X × List Ob} (ks : List Nat) (hp : pickOk h ks) (e : (rn2 h ks x, pickObs h ks) = ro) : FinM ⟨n, t, h⟩ [] x ro := ⟨ks, hp, by simp, e.symm⟩
theorem finM1 {n : Nat} {t : Nat → X} {h : List Ob} {x : X} {ro : X × List Ob} {u : Value} (k : Nat) (ks : List Nat) (ob : Ob) (hp : pickOk h (k :: ks)) (hk : h[k]? = some ob) (ht : t 1000 = .pin k ob.ver u) (e : (rn2 h (k :: ks) x, pickObs h (k :: ks)) = ro) : FinM ⟨n, t, h⟩ [u] x ro :=
  ⟨k :: ks, hp, fun i u' hu => by
    cases i with
    | zero => simp at hu; subst hu; exact ⟨k, ob, rfl, hk, ht⟩
    | succ i => simp at hu, e.symm⟩
theorem finM2 {n : Nat} {t : Nat → X} {h : List Ob} {x : X} {ro : X × List Ob} {u v : Value} (k l : Nat) (ks : List Nat) (ob ob' : Ob) (hp : pickOk h (k :: l :: ks)) (hk : h[k]? = some ob) (hl : h[l]? = some ob') (ht : t 1000 = .pin k ob.ver u) (ht' : t 1001 = .pin l ob'.ver v) (e : (rn2 h (k :: l :: ks) x, pickObs h (k :: l :: ks)) = ro) : FinM ⟨n, t, h⟩ [u, v] x ro :=
  ⟨k :: l :: ks, hp, fun i u' hu => by
    match i, hu with
    | 0, hu => simp at hu; subst hu; exact ⟨k, ob, rfl, hk, ht⟩
    | 1, hu => simp at hu; subst hu; exact ⟨l, ob', rfl, hl, ht'⟩
    | i + 2, hu => simp at hu, e.symm⟩
theorem fin_own {h : List Ob} {x : X} {ro : X × List Ob} (ks : List Nat) (hp : pickOk h ks) (e : (rn2 h ks x, pickObs h ks) = ro) : Fin h x ro := e ▸ Fin.own ks hp

theorem pur2_i (h : List Ob) (k : IntKind) (n : Int) : pur2 h (.v (.int k n)) = .v (.int k n) := rfl
theorem pur2_b (h : List Ob) (b : Bool) : pur2 h (.v (.bool b)) = .v (.bool b) := rfl
theorem pur2_s (h : List Ob) (b : ByteArray) : pur2 h (.v (.string b)) = .v (.string b) := rfl
theorem pur2_nil (h : List Ob) : pur2 h (.v (.slice none 0 0)) = .sl [] := rfl
theorem pur2_sl (h : List Ob) (r : List (List X)) : pur2 h (.sl r) = .sl r := rfl
theorem pur2_tup (h : List Ob) (xs : List X) : pur2 h (.tup xs) = .tup (xs.map (purN h 3)) := rfl
theorem rn2_tup (h : List Ob) (ks : List Nat) (xs : List X) : rn2 h ks (.tup xs) = .tup (xs.map (rn1 h ks)) := rfl
theorem rn2_agg (h : List Ob) (ks : List Nat) (xs : List X) : rn2 h ks (.agg xs) = .agg (xs.map (rn0 h ks)) := rfl
theorem rn2_osl (h : List Ob) (ks : List Nat) (k ver : Nat) : rn2 h ks (.osl k ver) = rn0 h ks (.osl k ver) := rfl
theorem rn1_v (h : List Ob) (ks : List Nat) (y : Value) : rn1 h ks (.v y) = .v y := rfl
theorem rn1_osl (h : List Ob) (ks : List Nat) (k ver : Nat) : rn1 h ks (.osl k ver) = rn0 h ks (.osl k ver) := rfl
theorem rn1_agg (h : List Ob) (ks : List Nat) (xs : List X) : rn1 h ks (.agg xs) = .agg (xs.map (rn0 h ks)) := rfl
theorem rn0_v (h : List Ob) (ks : List Nat) (y : Value) : rn0 h ks (.v y) = .v y := rfl
theorem rn0_sl (h : List Ob) (ks : List Nat) (y : List (List X)) : rn0 h ks (.sl y) = .sl y := rfl
theorem rn0_osl (h : List Ob) (ks : List Nat) (k ver : Nat) (ob : Ob) (i : Nat) (hk : h[k]? = some ob) (hv : ob.ver = ver) (hi : ks.idxOf? k = some i) : rn0 h ks (.osl k ver) = .osl i 0 := by simp [rn0, hk, hv, hi]

/-! ### wraps -/
theorem w64 {n : Int} (h1 : -9223372036854775808 ≤ n) (h2 : n ≤ 9223372036854775807) : IntKind.i64.wrap n = n := by
  rw [IntKind.wrap_i64]; omega
theorem w64_nat {k : Nat} (h : k < 4611686018427387904) : IntKind.i64.wrap ((k : Int) + 1) = ((k + 1 : Nat) : Int) := by
  rw [w64 (by omega) (by omega)]; omega

theorem pur_oslE (h : List Ob) (k ver : Nat) : purN h 3 (.osl k ver) = (match h[k]? with
    | some ob => if ob.ver = ver ∧ ob.bx = false then .sl (ob.rows.map fun r => r.map (purN h 2)) else .top
    | none => .top) := rfl
theorem pur_osubE (h : List Ob) (k ver off len : Nat) : purN h 3 (.osub k ver off len) = (match h[k]? with
    | some ob => if ob.ver = ver ∧ ob.bx = false ∧ off + len ≤ ob.rows.length then .sl (((ob.rows.drop off).take len).map fun r => r.map (purN h 2)) else .top
    | none => .top) := rfl
theorem pur_optrE (h : List Ob) (k ver i j : Nat) : purN h 3 (.optr k ver i j) = (match h[k]? with
    | some ob => if ob.ver = ver then .pt (((rowOf h k i).drop j).map (purN h 2)) else .top
    | none => .top) := rfl
theorem pur_aggE (h : List Ob) (cs : List X) : purN h 3 (.agg cs) = .agg (cs.map (purN h 2)) := rfl
theorem pur_fnE (h : List Ob) (f : Nat) (cs : List X) : purN h 3 (.fn f cs) = .fn f (cs.map (purN h 2)) := rfl
theorem shOb_mk (n ty sz ver : Nat) (rows : List (List X)) (bx live : Bool) (mp : Option (List (Int × Value))) : shOb n ⟨ty, sz, ver, rows, bx, live, mp⟩ = ⟨ty, sz, ver, rows.map fun r => r.map (sh0 n), bx, live, mp⟩ := rfl
theorem iR_sh (n : Nat) (l : List Int) : ((iR l).map fun r => r.map (sh0 n)) = iR l := by
  unfold iR
  rw [List.map_map]
  rfl

/-! ### a law -/
theorem law_walk {P : Program} {f : Nat} {F : Fun} (hF : GenC P f F) (w : World) (vs : Array Value) (xs : List X) (hpre : F.pre xs) (hres : F.res xs = (.v (.bool true), [])) (hl : vs.size = xs.length)
    (hr : ∀ (j : Nat) x v, xs[j]? = some x → vs[j]? = some v → Rep w (fun b => b < w.heap.size) Pl.none v x) : Calls P f vs w fun e w' => e = .returned (.bool true) ∧ Below w.heap.size w w' := by
  refine (hF.2 w (fun b => b < w.heap.size) vs xs hpre hl hr (fun _ h => h) (fun _ h => by simp at h)).mono ?_
  rintro e w' ⟨v, β', rfl, h1, _, h3⟩
  rw [hres] at h1 h3
  obtain ⟨rfl, _⟩ := h3.inv_v
  exact ⟨rfl, frm_below h1.frm⟩

/-- a slice of numbers that came in -/
theorem rep_ints {w : World} {x : Addr} {len cap : Nat} {zs : List Int} (hl : len ≤ cap) (hz : zs.length = cap) (hcell : ∀ i, i < zs.length → w.cell? (x.add i) = some (.int .i64 (zs.getD i 0))) :
    Rep w (fun b => b < w.heap.size) Pl.none (.slice (some x) len cap) (ints (zs.take len)) := by
  rcases Nat.eq_zero_or_pos len with h0 | hpos
  · subst h0
    simp only [List.take_zero]
    exact .nil _ _
  · have hc0 := hcell 0 (by omega)
    have hb : x.block < w.heap.size := by
      have := World.block_lt_of_cell? w _ hc0
      rwa [add_block] at this
    have hlen : (iR (zs.take len)).length = len := by rw [iR_length]; simp; omega
    have := Rep.sl (w := w) (S := fun b => b < w.heap.size) (β := Pl.none) x cap 1 (iR (zs.take len)) (fun i _ => .int .i64 (zs.getD i 0)) (by rw [hlen]; exact hl) hb (fun r hr => iR_row hr)
      (fun i j hi hj => by
        rw [hlen] at hi
        have : j = 0 := by omega
        subst this
        simpa using hcell i (by omega)) (fun _ _ => rfl) (fun i j y hy => by
        simp only [at2, iR_get] at hy
        cases ht : (zs.take len)[i]? with
        | none => rw [ht] at hy; cases hy
        | some n =>
          rw [ht] at hy
          cases j with
          | succ j => simp at hy
          | zero =>
            simp at hy
            subst hy
            rw [List.getElem?_take] at ht
            split at ht
            · have : zs.getD i 0 = n := by simp [List.getD, ht]
              rw [this]; exact .v _ rfl
            · cases ht)
    rw [hlen] at this
    exact this

/-- a number that fits -/
def inI (n : Int) : Prop := -9223372036854775808 ≤ n ∧ n ≤ 9223372036854775807
theorem wf_rng {n : Int} (h : (Lit.int .i64 n).wf = true) : inI n := by
  simp only [Lit.wf, Bool.and_eq_true, decide_eq_true_eq] at h
  exact h

end Go.Abs

namespace Go.Abs
open Go.RowKit

def Fun.pu (F : Fun) : Fun := ⟨F.pre, fun xs => (pur2 (F.res xs).2 (F.res xs).1, [])⟩

theorem GenCA.pu {A : List (Nat × List X)} {P : Program} {f : Nat} {F : Fun} (h : GenCA A P f F) : GenCA A P f F.pu := by
  refine ⟨h.1, fun w S vs xs hpre hl hr hS hA => (h.2 w S vs xs hpre hl hr hS hA).mono ?_⟩
  rintro e w' ⟨v, β', rfl, h1, h2, h3⟩
  obtain ⟨β2, g1, g2, g3⟩ := Fin.pure (h := (F.res xs).2) (x := (F.res xs).1) (by rw [List.all_eq_true]; exact h2) ⟨w, S, fun _ => False, A⟩ β' w' v (fun _ h => h) h1 h3
  exact ⟨v, β2, rfl, g1, g2, g3⟩

/-- all functions' results read as data -/
def Env.pu (E : Env) : Env := ⟨fun f => (E.f f).map Fun.pu, E.m, E.n, E.A⟩
@[simp] theorem Env.pu_mk (f : Nat → Option Fun) (m n : Nat → Option MFun) (A : List (Nat × List X)) : Env.pu ⟨f, m, n, A⟩ = ⟨fun g => (f g).map Fun.pu, m, n, A⟩ := rfl
theorem Env.pu_ok {P : Program} {E : Env} {c : Cx} (hE : E.ok P c) : E.pu.ok P c := by
  refine ⟨fun f F h => ?_, hE.m, hE.n, hE.a⟩
  simp only [Env.pu] at h
  cases hf : E.f f with
  | none => rw [hf] at h; cases h
  | some G =>
    rw [hf] at h
    injection h with h
    subst h
    exact (hE.f f G hf).pu
theorem drawP_pu {P : Program} {E : Env} {s : St} {K : St → Prop} (l : List Oper) (h : drawOk l.toArray l.length = true) (h2 : rgD P E.pu l.toArray l s K) : drawP P E l.toArray s K := by
  refine .inr (.inr ⟨E.pu, fun _ h => Env.pu_ok h, .inl ⟨l.length, h, ?_⟩⟩)
  simp only [List.take_length, List.drop_length]
  exact h2

/-- as drawP_x, results read as data -/
theorem drawP_xpu {P : Program} {E : Env} {s : St} {K : St → Prop} (l : List Oper) (ord : List (Nat × Nat)) (ch : List Nat) (h : (drawOkX l.toArray (ord.map (·.1)) ch && ord.all fun p => p.2 == lev l.toArray ch p.1) = true) (h2 : rgZ P E.pu l ch ord s [] K) : drawP P E l.toArray s K := by
  rw [Bool.and_eq_true] at h
  exact .inr (.inr ⟨E.pu, fun _ h => Env.pu_ok h, .inr (.inl ⟨_, ch, h.1, rgZ_X ord s [] h.2 h2⟩)⟩)

theorem rgZ_Y {P : Program} {E : Env} {K : St → Prop} {l : List Oper} {ops' : Array Oper} {ch : List Nat} : ∀ (ord : List (Nat × Nat)) (s : St) (past : List (List Ob)), (ord.all fun p => p.2 == lev ops' ch p.1) = true → rgZ P E l ch ord s past K → rgY P E l.toArray ops' ch (ord.map (·.1)) s past K
  | [], _, _, _, h => h
  | (i, lv) :: rest, s, past, hl, h => by
    simp only [List.all_cons, Bool.and_eq_true, beq_iff_eq] at hl
    unfold rgZ rgO at h
    simp only [List.map_cons]
    unfold rgY
    have e : l.toArray[i]? = l[i]? := by simp
    rw [e]
    split at h
    · exact h.elim
    · rename_i o ho
      rw [ho]
      dsimp only
      split at h
      · rename_i hc
        rw [if_pos hc]
        exact ⟨h.1, h.2.1, h.2.2.1, rgZ_Y rest _ _ hl.2 h.2.2.2⟩
      · rename_i hc
        rw [if_neg hc]
        refine opX_mono (fun x hx => ⟨hx.1.imp id fun h1 => ?_, rgZ_Y rest _ _ hl.2 hx.2⟩) h
        rw [← hl.1]
        exact againL_all h1
def vOk1 (l : List Oper) (A C : Nat) (o : List (Nat × Nat)) (c : List Nat) : Bool :=
  (c.getD 0 0 == A) && decide (0 < c.length) && drawOkX (addE l.toArray A C) (o.map (·.1)) c && o.all fun p => p.2 == lev (addE l.toArray A C) c p.1
def vOk (l : List Oper) (A C : Nat) (o1 : List (Nat × Nat)) (c1 : List Nat) (o2 : List (Nat × Nat)) (c2 : List Nat) : Bool :=
  decide (A ≠ C) && decide (A < l.length) && decide (C < l.length) && (l.toArray.all fun o => o.guard.isNone) && vOk1 l A C o1 c1 && vOk1 l C A o2 c2
/-- two operations of which either may come first, at the head of the chain: both ways are shown -/
theorem drawP_v {P : Program} {E : Env} {s : St} {K : St → Prop} (l : List Oper) (A C : Nat) (o1 : List (Nat × Nat)) (c1 : List Nat) (o2 : List (Nat × Nat)) (c2 : List Nat) (h : vOk l A C o1 c1 o2 c2 = true) (k1 : rgZ P E l c1 o1 s [] K) (k2 : rgZ P E l c2 o2 s [] K) : drawP P E l.toArray s K := by
  simp only [vOk, vOk1, Bool.and_eq_true, decide_eq_true_eq, beq_iff_eq] at h
  obtain ⟨⟨⟨⟨⟨h1, h2⟩, h3⟩, h4⟩, ⟨⟨a1, a2⟩, a3⟩, a4⟩, ⟨⟨b1, b2⟩, b3⟩, b4⟩ := h
  exact .inr (.inr ⟨E, fun _ h => h, .inr (.inr ⟨A, C, _, c1, _, c2, h1, by simpa using h2, by simpa using h3, h4, a1, a2, b1, b2, a3, b3, rgX_add h4 _ _ _ (fun _ _ => trivial) (rgZ_Y o1 s [] a4 k1), rgX_add h4 _ _ _ (fun _ _ => trivial) (rgZ_Y o2 s [] b4 k2)⟩)⟩)

theorem GenC.pu {P : Program} {f : Nat} {F : Fun} (h : GenC P f F) : GenC P f F.pu := GenCA.pu h

theorem rbR_iR (h : List Ob) (ks : List Nat) (l : List Int) : rbR h ks (iR l) = iR l := by simp [rbR, iR, rb0]
theorem rbR_nil (h : List Ob) (ks : List Nat) : rbR h ks [] = [] := rfl
theorem rbOb_mk (h : List Ob) (ks : List Nat) (ty sz ver : Nat) (rows : List (List X)) (bx live : Bool) (mp : Option (List (Int × Value))) : rbOb h ks ⟨ty, sz, ver, rows, bx, live, mp⟩ = ⟨ty, sz, ver, rbR h ks rows, bx, live, mp⟩ := rfl
theorem iR_eq_nil (l : List Int) : (iR l = []) = (l = []) := by cases l <;> simp [iR]
theorem pur_pt (h : List Ob) (c : List X) : purN h 3 (.pt c) = .pt c := rfl
theorem deIs_nil : deIs (.sl []) = [] := rfl

end Go.Abs

namespace Go.Abs
open Go.RowKit

def Sx (b : ByteArray) : X := .v (.string b)
def sR (l : List ByteArray) : List (List X) := l.map fun b => [.v (.string b)]
def deS : X → ByteArray
  | .v (.string b) => b
  | _ => ⟨#[]⟩
def deSs : X → List ByteArray
  | .sl rows => rows.map fun r => deS (r.headD .top)
  | _ => []
theorem deS_Sx (b : ByteArray) : deS (.v (.string b)) = b := rfl
theorem deSs_sl (l : List ByteArray) : deSs (.sl (sR l)) = l := by simp [deSs, sR, deS, Function.comp_def]
theorem sR_length (l : List ByteArray) : (sR l).length = l.length := by simp [sR]
theorem sR_get (l : List ByteArray) (k : Nat) : (sR l)[k]? = (l[k]?).map fun b => [.v (.string b)] := by simp [sR]
theorem sR_getE (l : List ByteArray) (k : Nat) (h : k < (sR l).length) : (sR l)[k] = [.v (.string (l[k]'(by rw [← sR_length]; exact h)))] := by simp [sR]
theorem sR_inj (l m : List ByteArray) : (sR l = sR m) = (l = m) := by
  refine propext ⟨fun h => ?_, fun h => by rw [h]⟩
  have h1 := congrArg (fun r => deSs (.sl r)) h
  simpa only [deSs_sl] using h1
theorem sR_pur (h : List Ob) (n : Nat) (l : List ByteArray) : (sR l).map (fun r => r.map (purN h n)) = sR l := by
  simp only [sR, List.map_map]
  refine List.map_congr_left fun b _ => ?_
  cases n <;> rfl
theorem sR_ok (l : List ByteArray) (m : Nat) : (sR l).all (fun r => r.all (ok0 m)) = true := by simp [sR, ok0]
theorem sR_mf (l : List ByteArray) : (sR l).all (fun r => r.all mf0) = true := by simp [sR, mf0]
theorem sR_sh (n : Nat) (l : List ByteArray) : (sR l).map (fun r => r.map (sh0 n)) = sR l := by simp [sR, sh0]
def byt (s : ByteArray) (k : Nat) : Int := ((s.data.toList.getD k 0).toNat : Int)
theorem ei_str {P : Program} {s : St} {T : Nat} (b : ByteArray) (k : IntKind) (n : Int) : eIndex P s T (.v (.string b)) (.v (.int k n)) = ⟨isStr P T = true ∧ 0 ≤ n ∧ n.toNat < b.size, .v (.int .u8 (byt b n.toNat)), s.h⟩ := rfl
theorem ei_ag {P : Program} {s : St} {T : Nat} (cells : List X) (k : IntKind) (n : Int) (l e : Nat) (h : arEl P T = some (l, e)) : eIndex P s T (.agg cells) (.v (.int k n)) = ⟨okT P e = true ∧ 0 ≤ n ∧ n.toNat < l ∧ n.toNat * szOf P e + need P e ≤ cells.length, ldX (isAg P e) (szOf P e) (cells.drop (n.toNat * szOf P e)), s.h⟩ := by simp [eIndex, h]
theorem bin_and {P : Program} {s : St} {T : Nat} (k : IntKind) (a b : Int) : eBin P s .and T (.v (.int k a)) (.v (.int k b)) = ⟨True, .v (.int k (k.wrap (BitVec.ofInt k.bits a &&& BitVec.ofInt k.bits b).toNat)), s.h⟩ := by simp [eBin, binC, binV]
theorem bin_andNot {P : Program} {s : St} {T : Nat} (k : IntKind) (a b : Int) : eBin P s .andNot T (.v (.int k a)) (.v (.int k b)) = ⟨True, .v (.int k (k.wrap (BitVec.ofInt k.bits a &&& ~~~BitVec.ofInt k.bits b).toNat)), s.h⟩ := by simp [eBin, binC, binV]
theorem pur_agg (h : List Ob) (cs : List X) : purN h 3 (.agg cs) = .agg (cs.map (purN h 2)) := rfl
theorem pur2_v (h : List Ob) (y : Value) : purN h 2 (.v y) = purV y := rfl
theorem p2_I (h : List Ob) (n : Int) : purN h 2 (I n) = I n := rfl
theorem p2_B (h : List Ob) (b : Bool) : purN h 2 (B b) = B b := rfl
theorem p2_int (h : List Ob) (k : IntKind) (n : Int) : purN h 2 (.v (.int k n)) = .v (.int k n) := rfl
theorem p2_str (h : List Ob) (b : ByteArray) : purN h 2 (.v (.string b)) = .v (.string b) := rfl
theorem p2_bool (h : List Ob) (b : Bool) : purN h 2 (.v (.bool b)) = .v (.bool b) := rfl
theorem purV_int (k : IntKind) (n : Int) : purV (.int k n) = .v (.int k n) := rfl
theorem purV_str (b : ByteArray) : purV (.string b) = .v (.string b) := rfl
theorem purV_bool (b : Bool) : purV (.bool b) = .v (.bool b) := rfl
end Go.Abs

namespace Go.Abs
open Go.RowKit

def leafT (P : Program) : Nat → Nat → Option (List (Nat × Nat))
  | 0, _ => none
  | d + 1, T => match P.underlying T with
    | some (.int .i64) => some [(0, 0)]
    | some .string => some [(1, 0)]
    | some .bool => some [(2, 0)]
    | some (.struct fs) => fPlan (leafT P d) P.cellsOf fs.toList
    | _ => none
def leafOk : Nat → Value → Prop
  | 0, v => ∃ n, v = .int .i64 n ∧ (Lit.int .i64 n).wf = true
  | 1, v => ∃ s, v = .string s ∧ s.size ≤ maxLen
  | 2, v => ∃ b, v = .bool b
  | _, _ => False

theorem fPlan_mem {rec : Nat → Option (List (Nat × Nat))} {sz : Nat → Nat} : ∀ {fs : List Field} {l : List (Nat × Nat)}, fPlan rec sz fs = some l → ∀ p ∈ l, ∃ (i : Nat) (f : Field) (l1 : List (Nat × Nat)) (q : Nat × Nat), fs[i]? = some f ∧ rec f.type = some l1 ∧ q ∈ l1 ∧ q.2 < sz f.type ∧ p = (q.1, q.2 + f.offset)
  | [], l, h, p, hp => by
    simp only [fPlan, Option.some.injEq] at h
    subst h
    simp at hp
  | f :: fs, l, h, p, hp => by
    simp only [fPlan] at h
    split at h
    · cases h
    · split at h
      · rename_i l1 l2 h1 h2
        split at h
        · rename_i hall
          injection h with h
          subst h
          rw [List.mem_append, List.mem_map] at hp
          rcases hp with ⟨q, hq, rfl⟩ | hp
          · rw [List.all_eq_true] at hall
            exact ⟨0, f, l1, q, rfl, h1, hq, by simpa using hall q hq, rfl⟩
          · obtain ⟨i, f', l', q, a1, a2, a3, a4, a5⟩ := fPlan_mem h2 p hp
            exact ⟨i + 1, f', l', q, by simpa using a1, a2, a3, a4, a5⟩
        · cases h
      · cases h

theorem trod_leaf {H : Type} {enc : TypeId × Value → H} {P : Program} {w : World} {base : Nat} {spare : Nat → Bool} {held : Bool} : ∀ (d T : Nat) (l : List (Nat × Nat)), leafT P d T = some l → ∀ (fuel : Nat) (cs : List Value) (x : DataW H × List MemPlace),
    DataW.trod enc P w base spare held fuel T cs = some x → ∀ p ∈ l, ∃ v, cs[p.2]? = some v ∧ leafOk p.1 v
  | 0, T, l, h => by cases h
  | d + 1, T, l, h => by
    intro fuel cs x hx p hp
    unfold leafT at h
    split at h
    · rename_i hu
      injection h with h
      subst h
      obtain ⟨n, rfl, _, hw⟩ := DataW.trod_int hu hx
      simp at hp
      subst hp
      exact ⟨_, rfl, n, rfl, hw⟩
    · rename_i hu
      injection h with h
      subst h
      obtain ⟨s, rfl, _, hw⟩ := DataW.trod_string hu hx
      simp at hp
      subst hp
      exact ⟨_, rfl, s, rfl, hw⟩
    · rename_i hu
      injection h with h
      subst h
      obtain ⟨b, rfl, _⟩ := DataW.trod_bool hu hx
      simp at hp
      subst hp
      exact ⟨_, rfl, b, rfl⟩
    · rename_i fs hu
      obtain ⟨xs, n, rfl, _, hl, hxl, hel⟩ := DataW.trod_struct hu hx
      obtain ⟨i, f, l1, q, a1, a2, a3, a4, rfl⟩ := fPlan_mem h p hp
      have hf : fs[i]? = some f := by rw [← Array.getElem?_toList]; exact a1
      have hi : i < xs.length := by rw [hxl]; exact (Array.getElem?_eq_some_iff.1 hf).1
      have hy := hel i f hf
      rw [List.getElem?_eq_getElem hi] at hy
      obtain ⟨v, hv, hk⟩ := trod_leaf d f.type l1 a2 n _ _ hy q a3
      refine ⟨v, ?_, hk⟩
      rw [List.getElem?_take, if_pos a4, List.getElem?_drop] at hv
      show cs[q.2 + f.offset]? = some v
      rw [Nat.add_comm]
      exact hv
    · cases h

theorem rep_plain {w : World} {S : Nat → Prop} {β : Pl} (cs : List Value) (h : ∀ c ∈ cs, plain c = true) : Rep w S β (.agg cs.toArray) (.agg (cs.map .v)) := by
  refine .agg _ _ (by simp) (fun c hc => plain_one (h c (by simpa using hc))) fun j x c hx hc => ?_
  rw [List.getElem?_map] at hx
  simp at hc
  rw [hc] at hx
  injection hx with hx
  subst hx
  exact .v c (h c (List.mem_of_getElem? hc))

/-- a table of strings, as it was laid -/
theorem laid_strs {H : Type} {enc : TypeId × Value → H} {P : Program} {w : World} {base : Nat} {spare : Nat → Bool} {held : Bool} {T e n fuel : Nat} {cs : List Value} {x : DataW H × List MemPlace} {bs : List ByteArray} (hu : P.underlying T = some (.array n e)) (he : P.underlying e = some .string) (hc : P.cellsOf e = 1)
    (h : DataW.trod enc P w base spare held fuel T cs = some x) (hx : x.1 = .agg (bs.map fun b => .lit (.string b.data.toList))) : ∀ j, j < n → cs[j]? = some (.string (bs.getD j ⟨#[]⟩)) := by
  obtain ⟨xs, m, rfl, rfl, hl, hn, hel⟩ := DataW.trod_array hu h
  simp only [DataW.agg.injEq] at hx
  intro j hj
  have hy := hel j hj
  have hjx : j < xs.length := by omega
  rw [hc, Nat.mul_one, List.getElem?_eq_getElem hjx] at hy
  obtain ⟨s, h1, h2, _⟩ := DataW.trod_string he hy
  have e1 : (xs.map (·.1))[j]? = some (.lit (.string s.data.toList)) := by rw [List.getElem?_map, List.getElem?_eq_getElem hjx, h2]; rfl
  rw [hx, List.getElem?_map] at e1
  cases hb : bs[j]? with
  | none => rw [hb] at e1; cases e1
  | some b =>
    rw [hb] at e1
    simp only [Option.map_some, Option.some.injEq, DataW.lit.injEq, Lit.string.injEq] at e1
    have hsb : s = b := by
      obtain ⟨⟨l⟩⟩ := s
      obtain ⟨⟨m⟩⟩ := b
      simp at e1
      rw [e1]
    have h3 := congrArg (fun l : List Value => l[0]?) h1
    simp only [List.getElem?_take, List.getElem?_drop] at h3
    simp at h3
    rw [h3, hsb]
    simp [List.getD, hb]

theorem amb_var {P : Program} {w : World} {name : String} {g : Nat} {cs : Array Value} {vs : List Value} (hg : P.globalNamed name = some g) (hv : w.var? P name = some cs) (hvs : cs.toList = vs) (hpl : ∀ v ∈ vs, plain v = true) (hpos : 0 < vs.length) {A : List (Nat × List X)}
    (hA : Amb w (fun b => b < w.heap.size) A) : Amb w (fun b => b < w.heap.size) ((g, vs.map .v) :: A) := by
  subst hvs
  intro p hp
  rcases List.mem_cons.1 hp with rfl | hp
  · have hh : ∃ t z, w.heap[g]? = some (.cells cs t z) := by
      simp only [World.var?, hg, Option.bind_some] at hv
      split at hv
      · rename_i c t z e
        injection hv with hv
        subst hv
        exact ⟨t, z, e⟩
      · cases hv
    obtain ⟨t, z, hh⟩ := hh
    have hb : g < w.heap.size := by
      rcases Nat.lt_or_ge g w.heap.size with h | h
      · exact h
      · rw [Array.getElem?_eq_none h] at hh; cases hh
    refine ⟨.pt ⟨g, 0, none⟩ _ (fun j => cs.toList.getD j .nilFunc) hb (fun j hj => ?_) (fun j => ?_) (fun j x hx => ?_), cs, t, z, hh, by simp⟩
    · rw [add_none, Nat.zero_add]
      have hj' : j < cs.size := by simpa using hj
      simp [World.cell?, hh, List.getD, hj']
    · rcases Nat.lt_or_ge j cs.toList.length with h | h
      · have h' : j < cs.size := by simpa using h
        have : cs.toList.getD j .nilFunc = cs.toList[j] := by simp [List.getD, h']
        rw [this]
        exact plain_one (hpl _ (List.getElem_mem h))
      · have : cs.toList.getD j .nilFunc = .nilFunc := by simp [List.getD, List.getElem?_eq_none h]
        rw [this]; rfl
    · rw [List.getElem?_map] at hx
      cases hq : cs.toList[j]? with
      | none => rw [hq] at hx; cases hx
      | some b =>
        rw [hq] at hx
        injection hx with hx
        subst hx
        have : cs.toList.getD j .nilFunc = b := by simp [List.getD, hq]
        rw [this]
        exact .v _ (hpl b (List.mem_of_getElem? hq))
  · exact hA p hp
theorem laid_strs_all {H : Type} {enc : TypeId × Value → H} {P : Program} {w : World} {base : Nat} {spare : Nat → Bool} {held : Bool} {T e n fuel : Nat} {cs : List Value} {x : DataW H × List MemPlace} {bs : List ByteArray} (hu : P.underlying T = some (.array n e)) (he : P.underlying e = some .string) (hc : P.cellsOf e = 1) (hct : P.cellsOf T = n)
    (h : DataW.trod enc P w base spare held fuel T cs = some x) (hx : x.1 = .agg (bs.map fun b => .lit (.string b.data.toList))) (hb : bs.length = n) : cs = bs.map fun b => .string b := by
  have h1 := laid_strs hu he hc h hx
  have h2 : cs.length = n := by
    cases fuel with
    | zero => simp [DataW.trod] at h
    | succ fuel =>
      simp only [DataW.trod, hu, hc, hct, Nat.mul_one] at h
      split at h
      · assumption
      · cases h
  apply List.ext_getElem?
  intro i
  by_cases hi : i < n
  · rw [h1 i hi, List.getElem?_map]
    simp [List.getD, hb, hi]
  · rw [List.getElem?_eq_none (by omega), List.getElem?_eq_none (by simp; omega)]

theorem law_walkA {P : Program} {A : List (Nat × List X)} {f : Nat} {F : Fun} (hF : GenCA A P f F) (w : World) (vs : Array Value) (xs : List X) (hA : Amb w (fun b => b < w.heap.size) A) (hpre : F.pre xs) (hres : F.res xs = (.v (.bool true), [])) (hl : vs.size = xs.length)
    (hr : ∀ (j : Nat) x v, xs[j]? = some x → vs[j]? = some v → Rep w (fun b => b < w.heap.size) Pl.none v x) : Calls P f vs w fun e w' => e = .returned (.bool true) ∧ Below w.heap.size w w' := by
  refine (hF.2 w (fun b => b < w.heap.size) vs xs hpre hl hr (fun _ h => h) hA).mono ?_
  rintro e w' ⟨v, β', rfl, h1, _, h3⟩
  rw [hres] at h1 h3
  obtain ⟨rfl, _⟩ := h3.inv_v
  exact ⟨rfl, frm_below h1.frm⟩

end Go.Abs

namespace Go.Abs
open Go.RowKit

theorem open_rows {H : Type} {enc : TypeId × Value → H} {P : Program} {w : World} {fuel T e sz d : Nat} {a : Option Addr} {len cap : Nat} {x : DataW H × List MemPlace} {l : List (Nat × Nat)} {spare : Nat → Bool} {held : Bool}
    (hT : P.underlying T = some (.slice e)) (hsz : P.cellsOf e = sz) (hpos : 0 < sz) (hl : leafT P d e = some l) (h : DataW.trod enc P w 0 spare held fuel T [.slice a len cap] = some x) :
    len ≤ maxLen ∧ ∃ rows : List (List Value), rows.length = len ∧ (∀ r ∈ rows, r.length = sz ∧ ∀ p ∈ l, ∃ v, r[p.2]? = some v ∧ leafOk p.1 v) ∧
      ((∀ r ∈ rows, ∀ v ∈ r, plain v = true) → Rep w (fun b => b < w.heap.size) Pl.none (.slice a len cap) (.sl (rows.map fun r => r.map .v))) := by
  rcases DataW.trod_slice hT h with ⟨hcs, _⟩ | ⟨ad, len', cap', elems, rest, n, rfl, hcs, _, _, hlc, hcm, hel, hget, _, _⟩
  · simp at hcs
    obtain ⟨rfl, rfl, rfl⟩ := hcs
    exact ⟨by decide, [], rfl, by simp, fun _ => .nil _ _⟩
  · simp at hcs
    obtain ⟨rfl, rfl, rfl⟩ := hcs
    refine ⟨Nat.le_trans hlc hcm, ?_⟩
    have key : ∀ i, ∃ r : List Value, i < len → r.length = sz ∧ (∀ p ∈ l, ∃ v, r[p.2]? = some v ∧ leafOk p.1 v) ∧ w.cells? 0 (ad.add (i * sz)) sz = some r := by
      intro i
      by_cases hi : i < len
      · have hg := hget i hi
        rw [hsz, List.getElem?_eq_getElem (by omega)] at hg
        cases hc : w.cells? 0 (ad.add (i * sz)) sz with
        | none => rw [hc] at hg; cases hg
        | some r =>
          rw [hc] at hg
          simp only [Option.bind_some] at hg
          refine ⟨r, fun _ => ⟨?_, fun p hp => trod_leaf d e l hl n r _ hg p hp, rfl⟩⟩
          exact (World.cells?_some hc).2.1
      · exact ⟨[], fun h => absurd h hi⟩
    obtain ⟨f, hf⟩ := Classical.axiomOfChoice key
    have hcell : ∀ i j, i < len → j < sz → w.cell? (ad.add (i * sz + j)) = (f i)[j]? := by
      intro i j hi hj
      obtain ⟨h1, _, h3⟩ := hf i hi
      have := (World.cells?_some h3).2.2 j hj
      rw [← this]
      congr 1
      simp only [Addr.add]
      split <;> split <;> split <;> simp_all <;> omega
    refine ⟨(List.range len).map f, by simp, ?_, fun hpl => ?_⟩
    · intro r hr
      simp only [List.mem_map, List.mem_range] at hr
      obtain ⟨i, hi, rfl⟩ := hr
      exact ⟨(hf i hi).1, (hf i hi).2.1⟩
    · rcases Nat.eq_zero_or_pos len with h0 | h0
      · subst h0; exact .nil _ _
      have hrl : (((List.range len).map f).map fun r => r.map X.v).length = len := by simp
      have hb : ad.block < w.heap.size := by
        have h1 := hcell 0 0 h0 hpos
        have h2 := (hf 0 h0).1
        rw [List.getElem?_eq_getElem (by omega)] at h1
        have := World.block_lt_of_cell? w _ h1
        rwa [add_block] at this
      have := Rep.sl (w := w) (S := fun b => b < w.heap.size) (β := Pl.none) ad cap sz (((List.range len).map f).map fun r => r.map X.v) (fun i j => if i < len then ((f i)[j]?).getD .nilFunc else .nilFunc) (by rw [hrl]; exact hlc) hb
        (fun r hr => by
          simp only [List.mem_map, List.mem_range] at hr
          obtain ⟨_, ⟨i, hi, rfl⟩, rfl⟩ := hr
          simpa using (hf i hi).1)
        (fun i j hi hj => by
          rw [hrl] at hi
          rw [hcell i j hi hj, List.getElem?_eq_getElem (by rw [(hf i hi).1]; exact hj)]
          simp [hi])
        (fun i j => by
          by_cases hi : i < len
          · rw [if_pos hi]
            cases hv : (f i)[j]? with
            | none => rfl
            | some v => exact plain_one (hpl (f i) (List.mem_map.2 ⟨i, by simpa using hi, rfl⟩) v (List.mem_of_getElem? hv))
          · rw [if_neg hi]; rfl)
        (fun i j y hy => by
          simp only [at2, List.getElem?_map] at hy
          by_cases hi : i < len
          · rw [List.getElem?_range hi] at hy
            simp only [Option.map_some, Option.bind_some, List.getElem?_map] at hy
            cases hv : (f i)[j]? with
            | none => rw [hv] at hy; cases hy
            | some v =>
              rw [hv] at hy
              injection hy with hy
              subst hy
              rw [if_pos hi]
              exact .v v (hpl (f i) (List.mem_map.2 ⟨i, by simpa using hi, rfl⟩) v (List.mem_of_getElem? hv))
          · rw [List.getElem?_eq_none (by simpa using hi)] at hy; cases hy)
      rw [hrl] at this
      exact this

end Go.Abs

namespace Go.Abs
open Go.RowKit

section
variable {P : Program} {E : Env} (s : St) (T : Nat)
theorem need_eq : need P T = if isAg P T = true then szOf P T else 1 := rfl
theorem g_ldp (cells : List X) : eLoad P s T (.pt cells) = ⟨okT P T = true ∧ need P T ≤ cells.length, ldX (isAg P T) (szOf P T) cells, s.h⟩ := rfl
theorem g_ldo (k ver i j : Nat) : eLoad P s T (.optr k ver i j) = ⟨okT P T = true ∧ verOk s.h k ver ∧ 0 < need P T ∧ j + need P T ≤ (rowOf s.h k i).length, ldX (isAg P T) (szOf P T) ((rowOf s.h k i).drop j), s.h⟩ := rfl
theorem g_fap (f : Nat) (cells : List X) : eFieldAddr P s T f (.pt cells) = (match flOf P T f with | some (o, ft) => ⟨okT P ft = true ∧ 0 < szOf P ft ∧ o ≤ cells.length, .pt (cells.drop o), s.h⟩ | none => ⟨False, .top, s.h⟩) := rfl
theorem g_fao (f k ver i j : Nat) : eFieldAddr P s T f (.optr k ver i j) = (match flOf P T f with | some (o, ft) => ⟨okT P ft = true ∧ 0 < szOf P ft, .optr k ver i (j + o), s.h⟩ | none => ⟨False, .top, s.h⟩) := rfl
theorem g_fi (f : Nat) (cells : List X) : eField P s T f (.agg cells) = (match flOf P T f with | some (o, ft) => ⟨okT P ft = true ∧ o + need P ft ≤ cells.length, ldX (isAg P ft) (szOf P ft) (cells.drop o), s.h⟩ | none => ⟨False, .top, s.h⟩) := rfl
theorem g_ixsl (k : IntKind) (rows : List (List X)) (n : Int) : eIndexAddr P s T (.sl rows) (.v (.int k n)) = (match slEl P T with | some e => ⟨okT P e = true ∧ 0 ≤ n ∧ n.toNat < rows.length ∧ (rows[n.toNat]?.getD []).length = szOf P e, .pt (rows[n.toNat]?.getD []), s.h⟩ | none => ⟨False, .top, s.h⟩) := by
  simp only [eIndexAddr]
  cases slEl P T with
  | some e => rfl
  | none => cases arEl P T <;> rfl
theorem g_ixosl (k : IntKind) (k' ver : Nat) (n : Int) : eIndexAddr P s T (.osl k' ver) (.v (.int k n)) = (match slEl P T with | some e => ⟨okT P e = true ∧ 0 ≤ n ∧ verOk s.h k' ver ∧ n.toNat < ((s.h[k']?.map (·.rows)).getD []).length ∧ ((s.h[k']?.map (·.sz)).getD 0) = szOf P e ∧ ((s.h[k']?.map (·.bx)).getD true) = false, .optr k' ver n.toNat 0, s.h⟩ | none => ⟨False, .top, s.h⟩) := by
  simp only [eIndexAddr]
  cases slEl P T with
  | some e => rfl
  | none => cases arEl P T <;> rfl
theorem g_ixosub (k : IntKind) (k' ver off len : Nat) (n : Int) : eIndexAddr P s T (.osub k' ver off len) (.v (.int k n)) = (match slEl P T with | some e => ⟨okT P e = true ∧ 0 ≤ n ∧ n.toNat < len ∧ verOk s.h k' ver ∧ ((s.h[k']?.map (·.sz)).getD 0) = szOf P e, .optr k' ver (off + n.toNat) 0, s.h⟩ | none => ⟨False, .top, s.h⟩) := by
  simp only [eIndexAddr]
  cases slEl P T with
  | some e => rfl
  | none => cases arEl P T <;> rfl
theorem g_ixarp (k : IntKind) (cells : List X) (n : Int) : eIndexAddr P s T (.pt cells) (.v (.int k n)) = (match slEl P T, arEl P T with | none, some (l, e) => ⟨okT P e = true ∧ 0 ≤ n ∧ n.toNat < l ∧ l * szOf P e ≤ cells.length, .pt (cells.drop (n.toNat * szOf P e)), s.h⟩ | _, _ => ⟨False, .top, s.h⟩) := by
  simp only [eIndexAddr]
  cases slEl P T with
  | some e => rfl
  | none => cases arEl P T <;> rfl
theorem g_ixaro (k : IntKind) (k' ver r j : Nat) (n : Int) : eIndexAddr P s T (.optr k' ver r j) (.v (.int k n)) = (match slEl P T, arEl P T with | none, some (l, e) => ⟨okT P e = true ∧ 0 ≤ n ∧ n.toNat < l, .optr k' ver r (j + n.toNat * szOf P e), s.h⟩ | _, _ => ⟨False, .top, s.h⟩) := by
  simp only [eIndexAddr]
  cases slEl P T with
  | some e => rfl
  | none => cases arEl P T <;> rfl
theorem g_eiag (cells : List X) (k : IntKind) (n : Int) : eIndex P s T (.agg cells) (.v (.int k n)) = (match arEl P T with | some (l, e) => ⟨okT P e = true ∧ 0 ≤ n ∧ n.toNat < l ∧ n.toNat * szOf P e + need P e ≤ cells.length, ldX (isAg P e) (szOf P e) (cells.drop (n.toNat * szOf P e)), s.h⟩ | none => ⟨False, .top, s.h⟩) := rfl
theorem g_beq (p q : Bool) : eBin P s .eql T (.v (.bool p)) (.v (.bool q)) = ⟨P.underlying T = some .bool, .v (.bool (p == q)), s.h⟩ := by simp [eBin, binC, binV]
theorem g_bne (p q : Bool) : eBin P s .neq T (.v (.bool p)) (.v (.bool q)) = ⟨P.underlying T = some .bool, .v (.bool (p != q)), s.h⟩ := by
  simp [eBin, binC, binV]; cases p <;> cases q <;> rfl
theorem g_bagg (xs ys : List X) : eBin P s .eql T (.agg xs) (.agg ys) = (match eqPlan P T, vals xs, vals ys with | some l, some cs, some ds => (match planEq cs.toArray ds.toArray l with | some b => ⟨l.all (fun p => p.2 < szOf P T) = true ∧ xs.length = szOf P T ∧ ys.length = szOf P T, .v (.bool b), s.h⟩ | none => bad s) | _, _, _ => bad s) := by
  simp only [eBin]
  cases eqPlan P T with
  | none => rfl
  | some l => cases vals xs with
    | none => rfl
    | some cs => cases vals ys with
      | none => rfl
      | some ds => dsimp only; cases planEq cs.toArray ds.toArray l <;> rfl
theorem g_bnagg (xs ys : List X) : eBin P s .neq T (.agg xs) (.agg ys) = (match eqPlan P T, vals xs, vals ys with | some l, some cs, some ds => (match planEq cs.toArray ds.toArray l with | some b => ⟨l.all (fun p => p.2 < szOf P T) = true ∧ xs.length = szOf P T ∧ ys.length = szOf P T, .v (.bool !b), s.h⟩ | none => bad s) | _, _, _ => bad s) := by
  simp only [eBin]
  cases eqPlan P T with
  | none => rfl
  | some l => cases vals xs with
    | none => rfl
    | some cs => cases vals ys with
      | none => rfl
      | some ds => dsimp only; cases planEq cs.toArray ds.toArray l <;> rfl
theorem g_strlt (x y : ByteArray) : eBin P s .lss T (.v (.string x)) (.v (.string y)) = ⟨True, .v (.bool (Op.bytesLess x.toList y.toList)), s.h⟩ := by simp [eBin, binC, binV]
/-! maps -/
theorem aop_makeMap (r : Option Operand) : aop P E s (.makeMap T r) = eMakeMap P s T (r.map (ev s)) := rfl
theorem aop_lookup (x i : Operand) (ok : Bool) : aop P E s (.lookup T x i ok) = eLookup P s T (ev s x) (ev s i) ok := rfl
theorem aop_mapUpdate (x i y : Operand) : aop P E s (.mapUpdate T x i y) = eMapSet P s T (ev s x) (ev s i) (ev s y) := rfl
theorem aopD_lookup (x i : Operand) (ok : Bool) : aopD P E s (.lookup T x i ok) = eLookup P s T (ev s x) (ev s i) ok := rfl
theorem g_mk : eMakeMap P s T none = ⟨True, .osl s.h.length 0, s.h ++ [⟨0, 0, 0, [], true, true, some []⟩]⟩ := rfl
theorem g_mkn (k : IntKind) (n : Int) : eMakeMap P s T (some (.v (.int k n))) = ⟨(mapKV P T).isSome = true, .osl s.h.length 0, s.h ++ [⟨0, 0, 0, [], true, true, some []⟩]⟩ := rfl
theorem g_lk (k ver : Nat) (n : Int) (ok : Bool) : eLookup P s T (.osl k ver) (.v (.int .i64 n)) ok = (match mapKV P T with
  | some (_, e) => (match (s.h[k]?).bind (·.mp) with
    | some l => ⟨hasZ P e = true ∧ verOk s.h k ver ∧ ((s.h[k]?.map (·.bx)).getD false) = true ∧ ((s.h[k]?.map (·.rows)).getD []) = [], mres ok (l.lookup n) (zeroV P e), s.h⟩
    | none => ⟨False, .top, s.h⟩)
  | none => ⟨False, .top, s.h⟩) := by
  simp only [eLookup]
  cases mapKV P T <;> rfl
theorem g_ms (k ver : Nat) (n : Int) (y : X) : eMapSet P s T (.osl k ver) (.v (.int .i64 n)) y = (match mapKV P T, toV y with
  | some _, some v => (match s.h[k]? with
    | some ob => (match ob.mp with
      | some l => ⟨verOk s.h k ver ∧ liveOk s.h k ∧ ob.bx = true ∧ ob.rows = [], .top, s.h.set k { ob with mp := some (mset l n v) }⟩
      | none => ⟨False, .top, s.h⟩)
    | none => ⟨False, .top, s.h⟩)
  | _, _ => ⟨False, .top, s.h⟩) := by
  simp only [eMapSet]
  cases mapKV P T <;> cases toV y <;> rfl
theorem g_tov (x : Value) : toV (.v x) = some x := rfl
theorem g_toa (xs : List X) : toV (.agg xs) = (vals xs).map fun vs => .agg vs.toArray := rfl
end
theorem mres_t (o : Option Value) (z : Value) : mres true o z = .tup [cst (o.getD z), .v (.bool o.isSome)] := rfl
theorem mres_f (o : Option Value) (z : Value) : mres false o z = cst (o.getD z) := rfl

def esBad : List (Bool × Bool) → Bool
  | [] => false
  | (a, b) :: es => (a != b) || esBad es
theorem esBad_nil : esBad [] = false := rfl
theorem esBad_cons (a b : Bool) (es : List (Bool × Bool)) : esBad ((a, b) :: es) = ((a != b) || esBad es) := rfl
theorem esBad_not : ∀ {es : List (Bool × Bool)}, esBad es = true → ¬ allT es
  | (a, b) :: es, h, ha => by
    simp only [esBad_cons, Bool.or_eq_true] at h
    rcases h with h | h
    · have e : a = b := ha.1
      rw [e] at h; simp at h
    · exact esBad_not h ha.2
theorem useG_skip (e : Eff) (es : List (Bool × Bool)) (h0 : List Ob) (k : X → Prop) (h : esBad es = true) : Eff.useG e es h0 k = k (.gd es e.val) := by
  simp [Eff.useG, esBad_not h]

attribute [simp ↓] awp_skip awp_seq awp_region awp_draw awp_cond awp_block awp_loop awp_exit awp_ret thenP_normal thenP_exit thenP_ret blockP_normal blockP_exit blockP_ret rgW_nil rgW_cons rgW_guard rgD_nil rgD_cons rgD_guard rgZ_nil rgZ_cons
attribute [simp] brP_true brP_false brP_bool guardP_bool guardP_gd gval Eff.use_mk Eff.useG_mk useG_ft useG_tf put_some put_none dok_some dok_none upd_app ev_tmp ev_const ev_func evG_tmp evG_const evG_global glX_some envA vals planEq leafEq cst_int cst_bool cst_string cst_nil tl_cons tl_nil args
attribute [simp] aop_move aop_assign aop_pick aop_alloc aop_box aop_build aop_buildSlice aop_load aop_store aop_nilCheck aop_binOp aop_unOp aop_convert aop_makeFunc aop_makeSlice aop_slice aop_fieldAddr aop_field aop_indexAddr aop_index aop_extract aop_builtin aop_call aop_makeMap aop_lookup aop_mapUpdate
attribute [simp] eBuiltin_len eBuiltin_append eBuiltin_min eBuiltin_max eMin_int eMax_int ePick_bool eNil_pt eNil_optr eNil_fn eUn_not eUn_neg bin_add bin_sub bin_mul bin_quo bin_rem bin_eql bin_neq bin_lss bin_leq bin_gtr bin_geq bin_shl bin_shr bin_cat bin_seq bin_sne eLen_sl eLen_str eLen_nil eLen_osl eLen_osub ldX_false ldX_true ext_tup box_agg box_v box_sl box_osl st_v st_sl st_osl st_agg
attribute [simp] pX_t pX_f un_mk unT_app unL_nil unL_cons gdL_nil gdL_cons allT_nil allT_cons un_gd un_v un_sl un_pt un_agg un_tup un_fn un_osl un_osub un_optr un_top verOk_mk liveOk_mk iR_length iR_get iR_getE retP_ret retP_normal retM_ret retM_normal pinl_nil pinl_cons envM eCallM pickK mArgs mPure setObs rb2 rb1 rb0 verOf rn0 rn1 pickA pickObs resL_nil resL_tmp resL_cell one_one one_two envOf eFn eCall
attribute [simp] pur_v pur_b pur_s pur_nil pur_sl pur_oslE pur_osubE pur_optrE pur_aggE pur_fnE shOb_mk iR_sh rowOf putCells splice iR_set iR_append iR_inj iR_pur deIs_sl deI_I sh2 sh1 sh0 isPure isP0 mf2 mf1 mf0 mfObs
attribute [simp] aopD_move aopD_assign aopD_pick aopD_build aopD_load aopD_nilCheck aopD_binOp aopD_unOp aopD_convert aopD_makeFunc aopD_slice aopD_fieldAddr aopD_field aopD_indexAddr aopD_index aopD_extract aopD_len aopD_min aopD_max aopD_call aopD_lookup eFnD_call rgO_ch rgO_fl rgO_flg free againL_nil againL_cons aopD_buildSlice
attribute [simp] p2_I p2_B p2_int p2_str p2_bool eAlloc eBuild placesX fillX cellsX plain ei_str bin_and bin_andNot sR_length sR_get sR_getE sR_inj sR_pur sR_mf sR_ok sR_sh
attribute [simp] need_eq g_ldp g_ldo g_fap g_fao g_fi g_ixsl g_ixosl g_ixosub g_ixarp g_ixaro g_eiag g_beq g_bne g_bagg g_bnagg g_strlt g_mk g_mkn g_lk g_ms g_tov g_toa mres_t mres_f
attribute [simp] bodyOf esBad_nil esBad_cons useG_skip
end Go.Abs
