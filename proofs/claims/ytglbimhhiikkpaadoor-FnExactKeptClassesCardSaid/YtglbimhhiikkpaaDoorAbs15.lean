/-
  What is proved here: equations by which 'awp' is reckoned, step by step. Condition: none.
-/
import Derived.Test.YtglbimhhiikkpaaDoorAbs14
namespace Go.Abs
open Go.RowKit

section
variable {P : Program} {E : Env} {Q : Exit → St → Prop} {s : St}
theorem awp_skip : awp P E .skip Q s = Q .normal s := rfl
theorem awp_seq (x y : Code) : awp P E (.seq x y) Q s = awp P E x (thenP (awp P E y Q) Q) s := rfl
theorem awp_region (id : Nat) (l : List Oper) : awp P E (.region id l.toArray false) Q s = rgW P E l.toArray l s (Q .normal) := rfl
theorem awp_draw (id : Nat) (l : List Oper) : awp P E (.region id l.toArray true) Q s = drawP P E l.toArray s (Q .normal) := rfl
theorem awp_cond (c : Operand) (x y : Code) : awp P E (.cond c x y) Q s = brP (ev s c) (awp P E x Q s) (awp P E y Q s) := rfl
theorem awp_block (id : Nat) (x : Code) : awp P E (.block id x) Q s = awp P E x (blockP id Q) s := rfl
theorem awp_loop (x : Code) : awp P E (.loop x) Q s = loopP (awp P E x) Q s := rfl
theorem awp_exit (id : Nat) : awp P E (.exit id) Q s = Q (.exit id) s := rfl
theorem awp_ret : awp P E .ret Q s = Q .ret s := rfl
theorem thenP_normal (k : St → Prop) : thenP k Q .normal s = k s := rfl
theorem thenP_exit (k : St → Prop) (i : Nat) : thenP k Q (.exit i) s = Q (.exit i) s := rfl
theorem thenP_ret (k : St → Prop) : thenP k Q .ret s = Q .ret s := rfl
theorem blockP_normal (id : Nat) : blockP id Q .normal s = Q .normal s := rfl
theorem blockP_exit (id i : Nat) : blockP id Q (.exit i) s = if i = id then Q .normal s else Q (.exit i) s := rfl
theorem blockP_ret (id : Nat) : blockP id Q .ret s = Q .ret s := rfl
theorem brP_bool (b : Bool) (p q : Prop) : brP (.v (.bool b)) p q = ((b = true → p) ∧ (b = false → q)) := rfl
theorem brP_true (p q : Prop) : brP (.v (.bool true)) p q = p := by simp [brP]
theorem brP_false (p q : Prop) : brP (.v (.bool false)) p q = q := by simp [brP]
theorem guardP_bool (p want : Bool) (k : List (Bool × Bool) → Prop) : guardP (.v (.bool p)) want k = k [(p, want)] := rfl
theorem guardP_gd (es : List (Bool × Bool)) (p want : Bool) (k : List (Bool × Bool) → Prop) : guardP (.gd es (.v (.bool p))) want k = k (es ++ [(p, want)]) := rfl

variable {ops : Array Oper} {K : St → Prop} {rest : List Oper}
theorem rgW_nil : rgW P E ops [] s K = K s := rfl
theorem rgW_cons (d : Option Nat) (op : Op) (ty : Nat) (pos : String) (af : Array Edge) : rgW P E ops (⟨d, op, ty, pos, af, none⟩ :: rest) s K = (dok s d ∧ (aop P E s op).use fun v h => rgW P E ops rest (s.put d v h) K) := rfl
theorem rgW_guard (d : Option Nat) (op : Op) (ty : Nat) (pos : String) (af : Array Edge) (j : Nat) (want : Bool) :
    rgW P E ops (⟨d, op, ty, pos, af, some (j, want)⟩ :: rest) s K = guardP (gval ops s j) want fun es => dok s d ∧ (aop P E (s.un es) op).useG es s.h fun v => rgW P E ops rest (s.put d v s.h) K := rfl
end

theorem Eff.use_congr {e e' : Eff} (h : e = e') (k : X → List Ob → Prop) : e.use k = e'.use k := by rw [h]
theorem Eff.useG_congr {e e' : Eff} (h : e = e') (es : List (Bool × Bool)) (h0 : List Ob) (k : X → Prop) : e.useG es h0 k = e'.useG es h0 k := by rw [h]
theorem guardP_congr {x x' : X} (h : x = x') (want : Bool) (k : List (Bool × Bool) → Prop) : guardP x want k = guardP x' want k := by rw [h]
theorem brP_congr {x x' : X} (h : x = x') (p q : Prop) : brP x p q = brP x' p q := by rw [h]
theorem loopP_congr {B : (Exit → St → Prop) → St → Prop} {Q : Exit → St → Prop} {s : St} : loopP B Q s = loopP B Q s := rfl
theorem rgW_congr {P : Program} {E : Env} {ops : Array Oper} {l : List Oper} {s : St} {K : St → Prop} : rgW P E ops l s K = rgW P E ops l s K := rfl
theorem awp_congr {P : Program} {E : Env} {x : Code} {Q : Exit → St → Prop} {s : St} : awp P E x Q s = awp P E x Q s := rfl
attribute [congr] Eff.use_congr Eff.useG_congr guardP_congr brP_congr

/-! ### slots -/
theorem put_some (n d : Nat) (t : Nat → X) (h h' : List Ob) (x : X) : St.put ⟨n, t, h⟩ (some d) x h' = ⟨n, upd t d x, h'⟩ := rfl
theorem put_none (n : Nat) (t : Nat → X) (h h' : List Ob) (x : X) : St.put ⟨n, t, h⟩ none x h' = ⟨n, t, h'⟩ := rfl
theorem dok_some (n d : Nat) (t : Nat → X) (h : List Ob) : dok ⟨n, t, h⟩ (some d) = (d < n) := rfl
theorem dok_none (s : St) : dok s none = True := rfl
theorem upd_app (t : Nat → X) (d : Nat) (x : X) (i : Nat) : upd t d x i = if i = d then x else t i := rfl
theorem ev_tmp (n : Nat) (t : Nat → X) (h : List Ob) (i : Nat) : ev ⟨n, t, h⟩ (.tmp i) = t i := rfl
theorem ev_const (s : St) (c : Value) : ev s (.const c) = cst c := rfl
theorem ev_func (s : St) (f : Nat) : ev s (.func f) = .fn f [] := rfl
theorem cst_int (k : IntKind) (n : Int) : cst (.int k n) = .v (.int k n) := rfl
theorem cst_bool (b : Bool) : cst (.bool b) = .v (.bool b) := rfl
theorem cst_string (b : ByteArray) : cst (.string b) = .v (.string b) := rfl
theorem cst_nil : cst (.slice none 0 0) = .v (.slice none 0 0) := rfl
def tl (l : List (Nat × X)) (t : Nat) : X := (l.lookup t).getD .top
theorem tl_nil (t : Nat) : tl [] t = .top := rfl
theorem tl_cons (k : Nat) (x : X) (l : List (Nat × X)) (t : Nat) : tl ((k, x) :: l) t = if t = k then x else tl l t := by
  unfold tl
  rw [List.lookup_cons]
  by_cases h : t = k
  · subst h; simp
  · have : (t == k) = false := by simpa using h
    simp [h, this]
/-- the arguments' slots -/
def args (i : Nat) : List X → List (Nat × X)
  | [] => []
  | x :: xs => (i, x) :: args (i + 1) xs
theorem args_tl (xs : List X) : ∀ i t, i ≤ t → tl (args i xs) t = xs.getD (t - i) .top := by
  induction xs with
  | nil => intro i t _; simp [args, tl_nil]
  | cons x xs ih =>
    intro i t h
    simp only [args, tl_cons]
    by_cases e : t = i
    · subst e; simp
    · rw [if_neg e, ih (i + 1) t (by omega)]
      have : t - i = (t - (i + 1)) + 1 := by omega
      rw [this]; simp [List.getD]
theorem ent_eq (n : Nat) (xs : List X) : ent n xs = ⟨n, tl (args 0 xs), []⟩ := by
  unfold ent
  congr 1
  funext t
  rw [args_tl xs 0 t (Nat.zero_le _)]
  simp

/-- the slots hold what the list says -/
def hold (t : Nat → X) : List (Nat × X) → Prop
  | [] => True
  | (k, x) :: l => t k = x ∧ hold t l
theorem hold_nil (t : Nat → X) : hold t [] = True := rfl
theorem hold_cons (t : Nat → X) (k : Nat) (x : X) (l : List (Nat × X)) : hold t ((k, x) :: l) = (t k = x ∧ hold t l) := rfl
theorem hold_tl {t : Nat → X} : ∀ {l : List (Nat × X)}, hold t l → ∀ i, tl l i = .top ∨ tl l i = t i
  | [], _, _ => .inl rfl
  | (k, x) :: l, h, i => by
    rw [tl_cons]
    by_cases e : i = k
    · subst e; rw [if_pos rfl]; exact .inr h.1.symm
    · rw [if_neg e]; exact hold_tl h.2 i

theorem Wk.tl {n : Nat} {t : Nat → X} {h : List Ob} {l : List (Nat × X)} (hl : hold t l) : Wk ⟨n, t, h⟩ ⟨n, Go.Abs.tl l, h⟩ := Wk.slots (s := ⟨n, t, h⟩) (hold_tl hl)

/-- slots are forgotten; some objects are kept, under new numbers -/
theorem Wk.tlP {n : Nat} {t : Nat → X} {h h' : List Ob} {l : List (Nat × X)} (ks : List Nat) (hp : pickOk h ks) (hh : pickObs h ks = h') (hl : hold (fun i => rn1 h ks (t i)) l) : Wk ⟨n, t, h⟩ ⟨n, Go.Abs.tl l, h'⟩ := by
  subst hh
  exact Wk.pick (s := ⟨n, t, h⟩) ks hp (hold_tl hl)
/-- a nil slice, as an object with no rows; slots are forgotten -/
theorem Wk.tlN {n : Nat} {t : Nat → X} {h : List Ob} {l : List (Nat × X)} (ty sz i : Nat) (hi : t i = .v (.slice none 0 0)) (hl : hold (fun t' => if t' = i then .osl h.length 0 else t t') l) : Wk ⟨n, t, h⟩ ⟨n, Go.Abs.tl l, h ++ [⟨ty, sz, 0, [], false, true, none⟩]⟩ :=
  (Wk.nil (s := ⟨n, t, h⟩) ty sz i hi).trans (Wk.tl hl)

def okL (m : Nat) : List (Nat × X) → Prop
  | [] => True
  | (_, x) :: l => ok1 m x = true ∧ okL m l
theorem okL_nil (m : Nat) : okL m [] = True := rfl
theorem okL_cons (m k : Nat) (x : X) (l : List (Nat × X)) : okL m ((k, x) :: l) = (ok1 m x = true ∧ okL m l) := rfl
def okH (m : Nat) (h : List Ob) : Prop := ∀ ob ∈ h, ∀ r ∈ ob.rows, ∀ x ∈ r, ok0 m x = true
theorem okH_nil (m : Nat) : okH m [] = True := by simp [okH]
theorem okH_cons (m : Nat) (ob : Ob) (h : List Ob) : okH m (ob :: h) = ((∀ r ∈ ob.rows, ∀ x ∈ r, ok0 m x = true) ∧ okH m h) := by simp [okH]

theorem okL_tl {m : Nat} : ∀ {l : List (Nat × X)}, okL m l → ∀ i, ok1 m (tl l i) = true
  | [], _, _ => rfl
  | (k, x) :: l, h, i => by
    rw [tl_cons]
    by_cases e : i = k
    · rw [if_pos e]; exact h.1
    · rw [if_neg e]; exact okL_tl h.2 i

/-- slots and the last objects are forgotten -/
theorem Wk.tlD {n m : Nat} {t : Nat → X} {h h' : List Ob} {l : List (Nat × X)} (hh : h.take m = h') (hl : hold t l) (ho : okL m l) (hk : okH m h') : Wk ⟨n, t, h⟩ ⟨n, Go.Abs.tl l, h'⟩ := by
  subst hh
  refine Wk.drop (s := ⟨n, t, h⟩) m hk fun i => ?_
  rcases hold_tl hl i with e | e
  · exact .inl e
  · refine .inr ⟨e, ?_⟩
    show ok1 m (t i) = true
    rw [← e]; exact okL_tl ho i

theorem awp_mono {P : Program} {E : Env} : ∀ (x : Code) (Q Q' : Exit → St → Prop) (s : St), (∀ e s, Q e s → Q' e s) → awp P E x Q s → awp P E x Q' s := by
  intro x
  induction x with
  | skip => intro Q Q' s hq h; exact hq _ _ h
  | region id ops draw =>
    intro Q Q' s hq h
    unfold awp at h ⊢
    cases draw with
    | true => exact drawP_mono (P := P) (E := E) (ops := ops) (s := s) (K := Q .normal) (K' := Q' .normal) (fun s => hq _ s) h
    | false => exact rgW_mono (K := Q .normal) (K' := Q' .normal) (fun s => hq _ s) _ _ h
  | seq x y ihx ihy =>
    intro Q Q' s hq h
    refine ihx _ _ s ?_ h
    intro e s' h'
    cases e with
    | normal => exact ihy Q Q' s' hq h'
    | _ => exact hq _ _ h'
  | cond c x y ihx ihy =>
    intro Q Q' s hq h
    unfold awp brP at h ⊢
    split at h
    · exact ⟨fun e => ihx Q Q' s hq (h.1 e), fun e => ihy Q Q' s hq (h.2 e)⟩
    · exact h.elim
  | block id x ih =>
    intro Q Q' s hq h
    refine ih _ _ s ?_ h
    intro e s' h'
    cases e with
    | exit i =>
      simp only [blockP] at h' ⊢
      split
      · rename_i hi; rw [if_pos hi] at h'; exact hq _ _ h'
      · rename_i hi; rw [if_neg hi] at h'; exact hq _ _ h'
    | _ => exact hq _ _ h'
  | loop x ih =>
    intro Q Q' s hq h
    obtain ⟨ι, S, μ, h0, hr⟩ := h
    refine ⟨ι, S, μ, h0, fun i => ih _ _ _ ?_ (hr i)⟩
    intro e s' h'
    cases e with
    | normal => exact h'
    | _ => exact hq _ _ h'
  | exit id => intro Q Q' s hq h; exact hq _ _ h
  | ret => intro Q Q' s hq h; exact hq _ _ h
  | _ => intro Q Q' s hq h; exact h.elim

/-- one loop: give the states at its head -/
theorem loopP_of {B : (Exit → St → Prop) → St → Prop} {Q : Exit → St → Prop} {s : St} {ι : Type} (S : ι → St) (μ : ι → Nat) (i : ι) (h0 : Wk s (S i)) (h : ∀ i, B (thenP (fun s' => ∃ j, μ j < μ i ∧ Wk s' (S j)) Q) (S i)) : loopP B Q s :=
  ⟨ι, S, μ, ⟨i, h0⟩, h⟩

theorem loopP_inv {P : Program} {E : Env} {x : Code} {Q : Exit → St → Prop} {s : St} {ι : Type} (S : ι → St) (I : ι → Prop) (μ : ι → Nat) (i : ι) (hi : I i) (h0 : Wk s (S i))
    (h : ∀ i, I i → awp P E x (thenP (fun s' => ∃ j, I j ∧ μ j < μ i ∧ Wk s' (S j)) Q) (S i)) : loopP (awp P E x) Q s := by
  refine ⟨{ i // I i }, fun i => S i.1, fun i => μ i.1, ⟨⟨i, hi⟩, h0⟩, fun i => awp_mono x _ _ _ ?_ (h i.1 i.2)⟩
  intro e s hq
  cases e with
  | normal => obtain ⟨j, hj, h1, h2⟩ := hq; exact ⟨⟨j, hj⟩, h1, h2⟩
  | _ => exact hq

def bodyOf (fn : Func) : Code := fn.body.getD .skip

def pinl (i : Nat) : List Value → List (Nat × X)
  | [] => []
  | u :: us => (1000 + i, .pin i 0 u) :: pinl (i + 1) us
theorem pinl_nil (i : Nat) : pinl i [] = [] := rfl
theorem pinl_cons (i : Nat) (u : Value) (us : List Value) : pinl i (u :: us) = (1000 + i, .pin i 0 u) :: pinl (i + 1) us := rfl
theorem pinl_tl : ∀ (us : List Value) (i t : Nat), i ≤ t → tl (pinl i us) (1000 + t) = match us[t - i]? with | some u => .pin t 0 u | none => .top
  | [], i, t, _ => by simp [pinl, tl_nil]
  | u :: us, i, t, h => by
    rw [pinl_cons, tl_cons]
    by_cases e : t = i
    · subst e; simp
    · rw [if_neg (by omega), pinl_tl us (i + 1) t (by omega)]
      have : t - i = (t - (i + 1)) + 1 := by omega
      rw [this]; simp
theorem pinl_low : ∀ (us : List Value) (i t : Nat), t < 1000 → tl (pinl i us) t = .top
  | [], i, t, _ => rfl
  | u :: us, i, t, h => by rw [pinl_cons, tl_cons, if_neg (by omega), pinl_low us (i + 1) t h]
theorem tl_append_lo {a b : List (Nat × X)} {t : Nat} (h : tl b t = .top) : tl (a ++ b) t = tl a t := by
  induction a with
  | nil => exact h
  | cons p a ih => obtain ⟨k, x⟩ := p; rw [List.cons_append, tl_cons, tl_cons, ih]
theorem tl_append_hi {a b : List (Nat × X)} {t : Nat} (h : ∀ p ∈ a, p.1 ≠ t) : tl (a ++ b) t = tl b t := by
  induction a with
  | nil => rfl
  | cons p a ih => obtain ⟨k, x⟩ := p; rw [List.cons_append, tl_cons, if_neg (fun e => h (k, x) (by simp) e.symm), ih (fun p hp => h p (List.mem_cons_of_mem _ hp))]
theorem args_lt : ∀ (xs : List X) (i : Nat), ∀ p ∈ args i xs, p.1 < i + xs.length
  | [], i, p, hp => by simp [args] at hp
  | x :: xs, i, p, hp => by
    simp only [args, List.mem_cons] at hp
    rcases hp with rfl | hp
    · simp
    · have := args_lt xs (i + 1) p hp; simp; omega
theorem entM_eq (n : Nat) (xs : List X) (us : List Value) (obs : List Ob) (hx : xs.length ≤ 1000) : entM n xs us obs = ⟨n, tl (args 0 xs ++ pinl 0 us), obs⟩ := by
  unfold entM
  congr 1
  funext t
  split
  · rename_i h
    rw [tl_append_lo (pinl_low us 0 t h), args_tl xs 0 t (Nat.zero_le _)]
    simp
  · rename_i h
    rw [tl_append_hi (fun p hp => by have := args_lt xs 0 p hp; omega)]
    obtain ⟨m, rfl⟩ : ∃ m, t = 1000 + m := ⟨t - 1000, by omega⟩
    rw [pinl_tl us 0 m (Nat.zero_le _)]
    simp only [Nat.add_sub_cancel_left, Nat.sub_zero]
    cases us[m]? <;> rfl

/-- a contract of a function that writes to what it is handed -/
theorem contractM {P : Program} (hm : P.follows .mixedOrders = true) (l : List (Nat × Fun)) (m : List (Nat × MFun)) (hE : ∀ p ∈ l, GenC P p.1 p.2) (hM : ∀ p ∈ m, GenM P p.1 p.2) {f : Nat} {fn : Func} {F : MFun} (hf : P.funcs[f]? = some fn) (hb : fn.body.isSome = true) (hn : (fn.name == "runtime.NumGoroutine") = false)
    (h : ∀ xs obs us, F.pre xs obs → us.length = obs.length → (xs.length ≤ fn.ntmps ∧ xs.length ≤ 1000 ∧ (∀ (k : Nat) ob, obs[k]? = some ob → ∃ ob', (F.res xs obs).2[k]? = some ob' ∧ sameOb ob ob')) ∧
      awp P (envM l m) (bodyOf fn) (retM P fn.results.toList us (F.res xs obs)) ⟨fn.ntmps, tl (args 0 xs ++ pinl 0 us), obs⟩) : GenM P f F := by
  obtain ⟨body, hbody⟩ := Option.isSome_iff_exists.1 hb
  refine genM_of (envM_ok hE hM) hm hf hbody hn fun xs obs us hx hu => ?_
  obtain ⟨⟨h1, h2, h3⟩, h4⟩ := h xs obs us hx hu
  refine ⟨h1, h2, h3, ?_⟩
  rw [entM_eq _ _ _ _ h2]
  have : bodyOf fn = body := by simp [bodyOf, hbody]
  rw [← this]
  exact h4

/-- a contract of a function that calls some that write -/
theorem contract2 {P : Program} (hm : P.follows .mixedOrders = true) (l : List (Nat × Fun)) (m : List (Nat × MFun)) (hE : ∀ p ∈ l, GenC P p.1 p.2) (hM : ∀ p ∈ m, GenM P p.1 p.2) {f : Nat} {fn : Func} {F : Fun} (hf : P.funcs[f]? = some fn) (hb : fn.body.isSome = true) (hn : (fn.name == "runtime.NumGoroutine") = false)
    (h : ∀ xs, F.pre xs → xs.length ≤ fn.ntmps ∧ awp P (envM l m) (bodyOf fn) (retP P fn.results.toList (F.res xs)) ⟨fn.ntmps, tl (args 0 xs), []⟩) : GenC P f F := by
  obtain ⟨body, hbody⟩ := Option.isSome_iff_exists.1 hb
  refine genC_of (envM_ok hE hM) hm hf hbody hn fun xs hx => ?_
  obtain ⟨h1, h2⟩ := h xs hx
  refine ⟨h1, ?_⟩
  rw [ent_eq]
  have : bodyOf fn = body := by simp [bodyOf, hbody]
  rw [← this]
  exact h2

/-- contracts of functions that look at the package's variables listed in A -/
theorem contractA {P : Program} (hm : P.follows .mixedOrders = true) (A : List (Nat × List X)) (l : List (Nat × Fun)) (m : List (Nat × MFun)) (hE : ∀ p ∈ l, GenCA A P p.1 p.2) (hM : ∀ p ∈ m, GenMA A P p.1 p.2) {f : Nat} {fn : Func} {F : Fun} (hf : P.funcs[f]? = some fn) (hb : fn.body.isSome = true) (hn : (fn.name == "runtime.NumGoroutine") = false)
    (h : ∀ xs, F.pre xs → xs.length ≤ fn.ntmps ∧ awp P (envA A l m) (bodyOf fn) (retP P fn.results.toList (F.res xs)) ⟨fn.ntmps, tl (args 0 xs), []⟩) : GenCA A P f F := by
  obtain ⟨body, hbody⟩ := Option.isSome_iff_exists.1 hb
  refine genC_of (envA_ok hE hM) hm hf hbody hn fun xs hx => ?_
  obtain ⟨h1, h2⟩ := h xs hx
  refine ⟨h1, ?_⟩
  rw [ent_eq]
  have : bodyOf fn = body := by simp [bodyOf, hbody]
  rw [← this]
  exact h2
theorem contractMA {P : Program} (hm : P.follows .mixedOrders = true) (A : List (Nat × List X)) (l : List (Nat × Fun)) (m : List (Nat × MFun)) (hE : ∀ p ∈ l, GenCA A P p.1 p.2) (hM : ∀ p ∈ m, GenMA A P p.1 p.2) {f : Nat} {fn : Func} {F : MFun} (hf : P.funcs[f]? = some fn) (hb : fn.body.isSome = true) (hn : (fn.name == "runtime.NumGoroutine") = false)
    (h : ∀ xs obs us, F.pre xs obs → us.length = obs.length → (xs.length ≤ fn.ntmps ∧ xs.length ≤ 1000 ∧ (∀ (k : Nat) ob, obs[k]? = some ob → ∃ ob', (F.res xs obs).2[k]? = some ob' ∧ sameOb ob ob')) ∧
      awp P (envA A l m) (bodyOf fn) (retM P fn.results.toList us (F.res xs obs)) ⟨fn.ntmps, tl (args 0 xs ++ pinl 0 us), obs⟩) : GenMA A P f F := by
  obtain ⟨body, hbody⟩ := Option.isSome_iff_exists.1 hb
  refine genM_of (envA_ok hE hM) hm hf hbody hn fun xs obs us hx hu => ?_
  obtain ⟨⟨h1, h2, h3⟩, h4⟩ := h xs obs us hx hu
  refine ⟨h1, h2, h3, ?_⟩
  rw [entM_eq _ _ _ _ h2]
  have : bodyOf fn = body := by simp [bodyOf, hbody]
  rw [← this]
  exact h4

/-- a contract: of a function whose body is written out -/
theorem contract {P : Program} (hm : P.follows .mixedOrders = true) (l : List (Nat × Fun)) (hE : ∀ p ∈ l, GenC P p.1 p.2) {f : Nat} {fn : Func} {F : Fun} (hf : P.funcs[f]? = some fn) (hb : fn.body.isSome = true) (hn : (fn.name == "runtime.NumGoroutine") = false)
    (h : ∀ xs, F.pre xs → xs.length ≤ fn.ntmps ∧ awp P (envOf l) (bodyOf fn) (retP P fn.results.toList (F.res xs)) ⟨fn.ntmps, tl (args 0 xs), []⟩) : GenC P f F := by
  obtain ⟨body, hbody⟩ := Option.isSome_iff_exists.1 hb
  refine genC_of (envOf_ok hE) hm hf hbody hn fun xs hx => ?_
  obtain ⟨h1, h2⟩ := h xs hx
  refine ⟨h1, ?_⟩
  rw [ent_eq]
  have : bodyOf fn = body := by simp [bodyOf, hbody]
  rw [← this]
  exact h2

end Go.Abs
