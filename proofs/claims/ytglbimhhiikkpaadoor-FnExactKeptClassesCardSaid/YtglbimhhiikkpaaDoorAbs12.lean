/-
  What is proved here: a predicate on abstract states that is sound for whole bodies of functions: what it promises, the model's run keeps. Condition: the contracts of the callees.
-/
import Derived.Test.YtglbimhhiikkpaaDoorAbs11m
import Derived.Test.YtglbimhhiikkpaaDoorAbs9m
import Derived.Test.YtglbimhhiikkpaaDoorAbs3e
import Derived.Deep.LoopGhost
namespace Go.Abs
open Go.RowKit

structure Env where
  f : Nat → Option Fun
  m : Nat → Option MFun
  A : List (Nat × List X)
structure Env.ok (P : Program) (E : Env) (c : Cx) : Prop where
  f : ∀ f F, E.f f = some F → GenCA c.A P f F
  m : ∀ f F, E.m f = some F → GenMA c.A P f F
  a : c.A = E.A

/-- an operand; a package's variable as what it holds -/
def glX : Option (List X) → X
  | some cells => .pt cells
  | none => .top
def evG (E : Env) (s : St) : Operand → X
  | .global g => glX (E.A.lookup g)
  | x => ev s x
theorem lookup_mem {α : Type} : ∀ {l : List (Nat × α)} {k : Nat} {x : α}, l.lookup k = some x → (k, x) ∈ l
  | [], k, x, h => by cases h
  | (k', y) :: l, k, x, h => by
    rw [List.lookup_cons] at h
    split at h
    · rename_i e
      injection h with h
      have : k = k' := by simpa using e
      subst this h
      exact List.mem_cons_self
    · exact List.mem_cons_of_mem _ (lookup_mem h)
theorem rep_evG {P : Program} {E : Env} {c : Cx} (hE : E.ok P c) {s : St} {β : Pl} {a : Act} {w : World} (H : Rel c s β a w) (x : Operand) : Rep w (Stab c.w0 c.S0 s.h β w) β (a.eval x) (evG E s x) := by
  cases x with
  | global g =>
    simp only [evG]
    cases hl : E.A.lookup g with
    | none => exact .top _
    | some cells =>
      have hm : (g, cells) ∈ c.A := by rw [hE.a]; exact lookup_mem hl
      exact (H.2.2.1.ambNow _ hm).1.mono (fun _ h => h) (fun _ _ => rfl) (Pl.none_le _)
  | tmp t => exact rep_ev H (.tmp t)
  | const v => exact rep_ev H (.const v)
  | func f => exact rep_ev H (.func f)

def bad (s : St) : Eff := ⟨False, .top, s.h⟩

def eBuiltin (P : Program) (s : St) (b : Builtin) (ts : List Nat) (args : List X) : Eff :=
  match b, ts, args with
  | .len, [T], [x] => eLen P s T x
  | .append, [T, T'], [a, x] => if T = T' then eAppend P s T a x else bad s
  | .min, _, args => eMin s args
  | .max, _, args => eMax s args
  | _, _, _ => bad s

def eFn (E : Env) (s : St) (f : X) (args : List X) : Eff :=
  match f with
  | .fn g cap => match E.f g with
    | some F => eCall s F (args ++ cap)
    | none => match E.m g with
      | some F => eCallM s F (args ++ cap)
      | none => bad s
  | _ => bad s

def eBin (P : Program) (s : St) (op : BinOp) (T : Nat) (x y : X) : Eff :=
  match x, y with
  | .v a, .v b => ⟨binC P T op a b, .v (binV op a b), s.h⟩
  | .agg xs, .agg ys => match eqPlan P T, vals xs, vals ys with
    | some l, some cs, some ds => match op, planEq cs.toArray ds.toArray l with
      | .eql, some b => ⟨l.all (fun p => p.2 < szOf P T) = true ∧ xs.length = szOf P T ∧ ys.length = szOf P T, .v (.bool b), s.h⟩
      | .neq, some b => ⟨l.all (fun p => p.2 < szOf P T) = true ∧ xs.length = szOf P T ∧ ys.length = szOf P T, .v (.bool !b), s.h⟩
      | _, _ => bad s
    | _, _, _ => bad s
  | _, _ => bad s

def eNil (s : St) : X → Eff
  | .pt c => ⟨True, .pt c, s.h⟩
  | .optr k ver i j => ⟨True, .optr k ver i j, s.h⟩
  | .fn f c => ⟨True, .fn f c, s.h⟩
  | _ => bad s

def gdL (es : List (Bool × Bool)) (x : X) : X :=
  match es with
  | [] => x
  | e :: es => .gd (e :: es) x
def un (p want : Bool) : X → X
  | .gd (e :: es) x => if e.1 = p ∧ e.2 = want then gdL es x else .gd (e :: es) x
  | x => x
theorem un_rep {w : World} {S : Nat → Prop} {β : Pl} {u : Value} {x : X} {p want : Bool} (h : p = want) (hr : Rep w S β u x) : Rep w S β u (un p want x) := by
  unfold un
  split
  · rename_i e es y
    split
    · rename_i he
      have he' : e.1 = e.2 := by rw [he.1, he.2]; exact h
      cases hr with
      | gd _ _ _ hh hu =>
        unfold gdL
        split
        · exact hh ⟨he', trivial⟩
        · exact .gd _ _ _ (fun h1 => hh ⟨he', h1⟩) fun h1 => hu fun h2 => h1 h2.2
    · exact hr
  · exact hr
def unL : List (Bool × Bool) → X → X
  | [], x => x
  | e :: es, x => unL es (un e.1 e.2 x)
theorem unL_rep {w : World} {S : Nat → Prop} {β : Pl} {u : Value} : ∀ (es : List (Bool × Bool)) (x : X), allT es → Rep w S β u x → Rep w S β u (unL es x)
  | [], _, _, hr => hr
  | e :: es, x, h, hr => unL_rep es (un e.1 e.2 x) h.2 (un_rep h.1 hr)
def unT (es : List (Bool × Bool)) (t : Nat → X) : Nat → X := fun i => unL es (t i)
def St.un (s : St) (es : List (Bool × Bool)) : St := ⟨s.n, unT es s.t, s.h⟩
theorem Rel.un {c : Cx} {s : St} {β : Pl} {a : Act} {w : World} {es : List (Bool × Bool)} (h : allT es) (H : Rel c s β a w) : Rel c (s.un es) β a w := ⟨H.1, H.2.1, H.2.2.1, fun t => unL_rep es _ h (H.2.2.2 t)⟩
def pX (p : Bool) (a b : X) : X := if p then un p true a else un p false b
def ePick (s : St) (c a b : X) : Eff :=
  match c with
  | .v (.bool p) => ⟨True, pX p a b, s.h⟩
  | _ => bad s

def aop (P : Program) (E : Env) (s : St) : Op → Eff
  | .move x | .assign x => ⟨True, ev s x, s.h⟩
  | .pick c a b => ePick s (ev s c) (ev s a) (ev s b)
  | .alloc T => eAlloc P s T
  | .box T x => eBox s T (ev s x)
  | .build T ps => eBuild P s T (ps.toList.map fun p => (p.1, ev s p.2))
  | .buildSlice T n ps => eBuildSlice P s T n (ps.toList.map fun p => (p.1, ev s p.2))
  | .load T a => eLoad P s T (evG E s a)
  | .store T a x => eStore P s T (ev s a) (ev s x)
  | .nilCheck x => eNil s (ev s x)
  | .binOp op T x y _ => eBin P s op T (ev s x) (ev s y)
  | .unOp op _ x => eUn s op (ev s x)
  | .convert a b x => eConv P s a b (ev s x)
  | .makeFunc (.func f) first cap => if first.size = 0 then ⟨True, .fn f (cap.toList.map (ev s)), s.h⟩ else bad s
  | .makeSlice T l c => eMake P s T (ev s l) (ev s c)
  | .slice T x lo hi mx => eSlice P s T (ev s x) (lo.map (ev s)) (hi.map (ev s)) (mx.map (ev s))
  | .fieldAddr T x f => eFieldAddr P s T f (evG E s x)
  | .field T x f => eField P s T f (ev s x)
  | .indexAddr T x i => eIndexAddr P s T (evG E s x) (ev s i)
  | .index T x i => eIndex P s T (ev s x) (ev s i)
  | .extract t i => eExtract s (ev s t) i
  | .makeMap T r => eMakeMap P s T (r.map (ev s))
  | .lookup T x i ok => eLookup P s T (ev s x) (ev s i) ok
  | .mapUpdate T x i y => eMapSet P s T (ev s x) (ev s i) (ev s y)
  | .call { callee := .builtin b, args, argTypes } => eBuiltin P s b argTypes.toList (args.toList.map (ev s))
  | .call { callee := .value f, args, .. } => eFn E s (ev s f) (args.toList.map (ev s))
  | _ => bad s

theorem vals_eq {w : World} {S : Nat → Prop} {β : Pl} : ∀ {xs : List X} {cs : Array Value} {vs : List Value}, cs.size = xs.length → (∀ (j : Nat) x c, xs[j]? = some x → cs[j]? = some c → Rep w S β c x) → vals xs = some vs → cs = vs.toArray := by
  intro xs
  induction xs with
  | nil =>
    intro cs vs hl _ hv
    simp only [vals, Option.some.injEq] at hv
    subst hv
    exact Array.eq_empty_of_size_eq_zero hl
  | cons x xs ih =>
    intro cs vs hl hr hv
    cases x with
    | v y =>
      simp only [vals] at hv
      cases hq : vals xs with
      | none => rw [hq] at hv; cases hv
      | some us =>
        rw [hq] at hv
        injection hv with hv
        subst hv
        obtain ⟨l⟩ := cs
        match l, hl, hr with
        | c :: l, hl, hr =>
          have h0 := (hr 0 (.v y) c rfl (by simp)).inv_v.1
          subst h0
          have := ih (cs := l.toArray) (vs := us) (by simpa using hl) (fun j x c' hx hc => hr (j + 1) x c' (by simpa using hx) (by simpa using hc)) hq
          simp at this
          subst this
          rfl
    | _ => cases hv

/-- one operation, in every related world -/
def Does1 (P : Program) (c : Cx) (s : St) (β : Pl) (a : Act) (w : World) (o : Oper) (e : Eff) : Prop :=
  ∀ (K : Act → World → Prop) (Q : Exit → Act → World → Prop),
    (∀ v β' w', HRel c e.h β' w' → (∀ u x, Rep w (Stab c.w0 c.S0 s.h β w) β u x → Rep w' (Stab c.w0 c.S0 e.h β' w') β' u x) → Rep w' (Stab c.w0 c.S0 e.h β' w') β' v e.val → K (a.put o.dst v) w') → o.wp P a w K Q

theorem does1_of {P : Program} {c : Cx} {s : St} {β : Pl} {a : Act} {w : World} {o : Oper} {e : Eff} {sem : Sem Value} (hx : execOp a.eval o = (do pure (.value (← sem)))) (h : Does P c s β w sem e) : Does1 P c s β a w o e := by
  intro K Q hK
  obtain ⟨v, w', β', hrun, h1, h2, h3⟩ := h
  unfold Oper.wp
  rw [hx]
  simp only [Sem.run_bind, hrun, Result.andThen_ok, Sem.run_pure]
  exact hK v β' w' h1 h2 h3

theorem rep_evs {c : Cx} {s : St} {β : Pl} {a : Act} {w : World} (H : Rel c s β a w) (xs : Array Operand) : ∀ (j : Nat) x v, (xs.toList.map (ev s))[j]? = some x → (xs.map a.eval)[j]? = some v → Rep w (Stab c.w0 c.S0 s.h β w) β v x := by
  intro j x v hx hv
  rw [List.getElem?_map, Array.getElem?_toList] at hx
  rw [Array.getElem?_map] at hv
  cases hj : xs[j]? with
  | none => rw [hj] at hx; cases hx
  | some y =>
    rw [hj] at hx hv
    injection hx with hx
    injection hv with hv
    subst hx hv
    exact rep_ev H y

theorem rep_parts {c : Cx} {s : St} {β : Pl} {a : Act} {w : World} (H : Rel c s β a w) (ps : Array (Nat × Operand)) :
    (ps.toList.map fun p => (p.1, ev s p.2)).map (·.1) = ((ps.map fun (i, x) => (i, a.eval x)).toList).map (·.1) ∧
    ∀ (j : Nat) p q, (ps.toList.map fun p => (p.1, ev s p.2))[j]? = some p → ((ps.map fun (i, x) => (i, a.eval x)).toList)[j]? = some q → Rep w (Stab c.w0 c.S0 s.h β w) β q.2 p.2 := by
  refine ⟨by simp, fun j p q hp hq => ?_⟩
  rw [List.getElem?_map, Array.getElem?_toList] at hp
  rw [Array.getElem?_toList, Array.getElem?_map] at hq
  cases hj : ps[j]? with
  | none => rw [hj] at hp; cases hp
  | some y =>
    rw [hj] at hp hq
    injection hp with hp
    injection hq with hq
    subst hp hq
    exact rep_ev H y.2

set_option maxHeartbeats 4000000 in
theorem aop_sound {P : Program} {E : Env} {c : Cx} (hE : E.ok P c) {s : St} {β : Pl} {a : Act} {w : World} (H : Rel c s β a w) (o : Oper) (hc : (aop P E s o.op).cond) : Does1 P c s β a w o (aop P E s o.op) := by
  obtain ⟨dst, op, type, pos, after, guard⟩ := o
  have HH := H.2.2.1
  cases op with
  | move x => exact does1_of (sem := pure (a.eval x)) rfl (Does.pure HH rfl (rep_ev H x))
  | assign x => exact does1_of (sem := pure (a.eval x)) rfl (Does.pure HH rfl (rep_ev H x))
  | pick cc x y =>
    have hr := rep_ev H cc
    simp only [aop] at hc ⊢
    unfold ePick at hc ⊢
    split at hc
    · rename_i p hp
      rw [hp] at hr
      obtain ⟨hv, _⟩ := hr.inv_v
      intro K Q hK
      unfold Oper.wp execOp
      simp only [hv, asBool, Sem.run_bind, Sem.run_pure, Result.andThen_ok]
      refine hK _ β w HH (fun _ _ h => h) ?_
      cases p
      · exact un_rep rfl (rep_ev H y)
      · exact un_rep rfl (rep_ev H x)
    · exact hc.elim
  | alloc T => exact does1_of (sem := Instr.alloc T true (.tuple #[])) rfl (alloc_does HH hc)
  | box T x => exact does1_of (sem := Instr.box T (a.eval x)) rfl (box_does HH (rep_ev H x) hc)
  | build T ps => exact does1_of (sem := Instr.build T (ps.map fun (i, x) => (i, a.eval x))) rfl (build_does HH (rep_parts H ps).1 (rep_parts H ps).2 hc)
  | buildSlice T n ps => exact does1_of (sem := Instr.buildSlice T n (ps.map fun (i, x) => (i, a.eval x))) rfl (buildSlice_does HH (rep_parts H ps).1 (rep_parts H ps).2 hc)
  | load T x => exact does1_of (sem := Instr.loadAt T (a.eval x)) rfl (load_does HH (rep_evG hE H x) hc)
  | store T x y =>
    intro K Q hK
    obtain ⟨w', β', hrun, h1, h2⟩ := store_does HH (rep_ev H x) (rep_ev H y) hc
    have hval : (eStore P s T (ev s x) (ev s y)).val = .top := by
      unfold eStore
      split
      · split <;> rfl
      · rfl
    unfold Oper.wp execOp
    simp only [Sem.run_bind, hrun, Result.andThen_ok, Sem.run_pure]
    refine hK undef β' w' h1 h2 ?_
    show Rep _ _ _ _ (eStore P s T (ev s x) (ev s y)).val
    rw [hval]; exact .top _
  | nilCheck x =>
    have hr := rep_ev H x
    simp only [aop] at hc ⊢
    unfold eNil at hc ⊢
    split at hc
    · rename_i cells hp
      rw [hp] at hr
      obtain ⟨ad, cs, hu, _⟩ := hr.inv_pt
      rw [hu] at hr
      intro K Q hK
      unfold Oper.wp execOp
      simp only [hu, Sem.run_pure]
      exact hK _ β w HH (fun _ _ h => h) hr
    · rename_i k ver i j hp
      rw [hp] at hr
      obtain ⟨g, v, _, _, hu⟩ := hr.inv_optr
      rw [hu] at hr
      intro K Q hK
      unfold Oper.wp execOp
      simp only [hu, Sem.run_pure]
      exact hK _ β w HH (fun _ _ h => h) hr
    · rename_i f cap hp
      rw [hp] at hr
      obtain ⟨cs, hu, _⟩ := hr.inv_fn
      rw [hu] at hr
      intro K Q hK
      unfold Oper.wp execOp
      simp only [hu, Sem.run_pure]
      exact hK _ β w HH (fun _ _ h => h) hr
    · exact hc.elim
  | binOp op T x y T' =>
    have hx := rep_ev H x
    have hy := rep_ev H y
    simp only [aop] at hc ⊢
    unfold eBin at hc ⊢
    split at hc
    · rename_i u v hu hv
      rw [hu] at hx; rw [hv] at hy
      obtain ⟨e1, _⟩ := hx.inv_v
      obtain ⟨e2, _⟩ := hy.inv_v
      obtain ⟨h1, h2⟩ := binV_run hc w x y
      exact does1_of (sem := do eqGuard op T x y (a.eval x) (a.eval y); binOp op T (a.eval x) (a.eval y)) rfl (Does.pure HH (by rw [e1, e2]; exact h1) (.v _ h2))
    · rename_i xs ys hxs hys
      rw [hxs] at hx; rw [hys] at hy
      obtain ⟨cs, e1, hl1, _, hr1⟩ := hx.inv_agg
      obtain ⟨ds, e2, hl2, _, hr2⟩ := hy.inv_agg
      split at hc
      · rename_i l vs us hp hv1 hv2
        have g1 := vals_eq hl1 hr1 hv1
        have g2 := vals_eq hl2 hr2 hv2
        subst g1 g2
        split at hc
        · rename_i b hb
          obtain ⟨c1, c2, c3⟩ := hc
          rw [List.all_eq_true] at c1
          have key := (run_eqStruct hp hb (fun p hp => by simpa using c1 p hp) (hl1.trans c2) (hl2.trans c3) w x y).1
          exact does1_of (sem := do eqGuard .eql T x y (a.eval x) (a.eval y); binOp .eql T (a.eval x) (a.eval y)) rfl (Does.pure HH (by rw [e1, e2]; exact key) (.v _ rfl))
        · rename_i b hb
          obtain ⟨c1, c2, c3⟩ := hc
          rw [List.all_eq_true] at c1
          have key := (run_eqStruct hp hb (fun p hp => by simpa using c1 p hp) (hl1.trans c2) (hl2.trans c3) w x y).2
          exact does1_of (sem := do eqGuard .neq T x y (a.eval x) (a.eval y); binOp .neq T (a.eval x) (a.eval y)) rfl (Does.pure HH (by rw [e1, e2]; exact key) (.v _ rfl))
        · exact hc.elim
      · exact hc.elim
    · exact hc.elim
  | unOp op T x => exact does1_of (sem := Op.unary op (a.eval x)) rfl (un_does HH (rep_ev H x) hc)
  | convert src dd x => exact does1_of (sem := Go.convert src dd (a.eval x)) rfl (conv_does HH (rep_ev H x) hc)
  | makeFunc fn first cap =>
    cases fn with
    | func f =>
      simp only [aop] at hc ⊢
      split at hc
      · rename_i hz
        rw [if_pos hz]
        have e1 : first = #[] := Array.eq_empty_of_size_eq_zero hz
        refine does1_of (sem := Instr.makeFunc (.func f) (first.map a.eval) (cap.map a.eval)) rfl (Does.pure HH rfl ?_)
        rw [e1]
        simp only [Array.map_empty]
        exact .fn f _ _ (by simp) (rep_evs H cap)
      · exact hc.elim
    | _ => exact hc.elim
  | makeSlice T l cp => exact does1_of (sem := Instr.makeSlice T (a.eval l) (a.eval cp)) rfl (make_does HH (rep_ev H l) (rep_ev H cp) hc)
  | slice T x lo hi mx =>
    refine does1_of (sem := Instr.sliceAt T (a.eval x) (lo.map a.eval) (hi.map a.eval) (mx.map a.eval)) rfl (slice_does HH (rep_ev H x) (fun v hv => ?_) (fun hn => ?_) (fun v hv => ?_) (fun hn => ?_) (fun hn => ?_) hc)
    · cases lo with
      | none => cases hv
      | some y => injection hv with hv; subst hv; exact ⟨_, rfl, rep_ev H y⟩
    · cases lo with
      | none => rfl
      | some y => cases hn
    · cases hi with
      | none => cases hv
      | some y => injection hv with hv; subst hv; exact ⟨_, rfl, rep_ev H y⟩
    · cases hi with
      | none => rfl
      | some y => cases hn
    · cases mx with
      | none => rfl
      | some y => cases hn
  | fieldAddr T x f => exact does1_of (sem := Instr.fieldAt T (a.eval x) f) rfl (fieldAddr_does HH (rep_evG hE H x) hc)
  | field T x f => exact does1_of (sem := Instr.field T (a.eval x) f) rfl (field_does HH (rep_ev H x) hc)
  | indexAddr T x i => exact does1_of (sem := Instr.indexAt T (a.eval x) (a.eval i)) rfl (indexAddr_does HH (rep_evG hE H x) (rep_ev H i) hc)
  | index T x i => exact does1_of (sem := Instr.index T (a.eval x) (a.eval i)) rfl (index_does HH (rep_ev H x) (rep_ev H i) hc)
  | extract t i => exact does1_of (sem := Instr.extract (a.eval t) i) rfl (extract_does HH (rep_ev H t) hc)
  | makeMap T r =>
    refine does1_of (sem := Instr.makeMap T (r.map a.eval)) rfl (makeMap_does HH (fun v hv => ?_) (fun hn => ?_) hc)
    · cases r with
      | none => cases hv
      | some y => injection hv with hv; subst hv; exact ⟨_, rfl, rep_ev H y⟩
    · cases r with
      | none => rfl
      | some y => cases hn
  | lookup T x i ok => exact does1_of (sem := Instr.lookup T (a.eval x) (a.eval i) ok) rfl (lookup_does HH (rep_ev H x) (rep_ev H i) hc)
  | mapUpdate T x i y =>
    intro K Q hK
    obtain ⟨hval, w', β', hrun, h1, h2⟩ := mapSet_does HH (rep_ev H x) (rep_ev H i) (rep_ev H y) hc
    unfold Oper.wp execOp
    simp only [Sem.run_bind, hrun, Result.andThen_ok, Sem.run_pure]
    refine hK undef β' w' h1 h2 ?_
    show Rep _ _ _ _ (eMapSet P s T (ev s x) (ev s i) (ev s y)).val
    rw [hval]; exact .top _
  | call cl =>
    obtain ⟨callee, args, argTypes⟩ := cl
    cases callee with
    | invoke r m => exact hc.elim
    | value f =>
      have hf := rep_ev H f
      simp only [aop] at hc ⊢
      unfold eFn at hc ⊢
      split at hc
      · rename_i g cap hg
        rw [hg] at hf
        obtain ⟨cs, hu, hl, hrep⟩ := hf.inv_fn
        have hargs : ∀ (j : Nat) x v, (args.toList.map (ev s) ++ cap)[j]? = some x → (args.map a.eval ++ cs)[j]? = some v → Rep w (Stab c.w0 c.S0 s.h β w) β v x := by
          intro j x v hx hv
          rcases Nat.lt_or_ge j args.size with h | h
          · rw [List.getElem?_append_left (by simpa using h)] at hx
            rw [Array.getElem?_append_left (by simpa using h)] at hv
            exact rep_evs H args j x v hx hv
          · rw [List.getElem?_append_right (by simpa using h)] at hx
            rw [Array.getElem?_append_right (by simpa using h)] at hv
            simp only [List.length_map, Array.length_toList] at hx
            simp only [Array.size_map] at hv
            exact hrep _ x v hx hv
        split at hc
        · rename_i F hF
          have hg' := hE.f g F hF
          intro K Q hK
          unfold Oper.wp execOp
          simp only [resolve, hu, Deferred.ofValue, invoke, Sem.run_bind, Sem.run_pure, Result.andThen_ok, hg'.1, Array.empty_append]
          refine (call_does hg' HH (vs := args.map a.eval ++ cs) (xs := args.toList.map (ev s) ++ cap) (by simp [hl]) hargs hc).mono ?_
          rintro e w' ⟨v, β', rfl, h1, h2, h3⟩
          exact hK v β' w' h1 h2 h3
        · split at hc
          · rename_i F hF
            have hg' := hE.m g F hF
            intro K Q hK
            unfold Oper.wp execOp
            simp only [resolve, hu, Deferred.ofValue, invoke, Sem.run_bind, Sem.run_pure, Result.andThen_ok, hg'.1, Array.empty_append]
            refine (callM_does hg' HH (vs := args.map a.eval ++ cs) (xs := args.toList.map (ev s) ++ cap) (by simp [hl]) hargs hc).mono ?_
            rintro e w' ⟨v, β', rfl, h1, h2, h3⟩
            exact hK v β' w' h1 h2 h3
          · exact hc.elim
      · exact hc.elim
    | builtin b =>
      have hr := rep_evs H args
      have mk : ∀ {sem : Sem Value} {e : Eff}, (∀ cst, builtin b argTypes type cst (args.map a.eval) = (do pure (.value (← sem)))) → Does P c s β w sem e → Does1 P c s β a w ⟨dst, .call ⟨.builtin b, args, argTypes⟩, type, pos, after, guard⟩ e := by
        intro sem e hb h
        intro K Q hK
        obtain ⟨v, w', β', hrun, h1, h2, h3⟩ := h
        unfold Oper.wp execOp
        simp only [resolve, invoke, Sem.run_bind, Sem.run_pure, Result.andThen_ok]
        rw [hb]
        simp only [Sem.run_bind, hrun, Result.andThen_ok, Sem.run_pure]
        exact hK v β' w' h1 h2 h3
      have arr1 : ∀ x, args.toList.map (ev s) = [x] → ∃ y, args = #[y] ∧ ev s y = x := by
        intro x hx
        obtain ⟨l⟩ := args
        match l, hx with
        | [y], hx => simp at hx; exact ⟨y, rfl, hx⟩
      have arr2 : ∀ x y, args.toList.map (ev s) = [x, y] → ∃ x' y', args = #[x', y'] ∧ ev s x' = x ∧ ev s y' = y := by
        intro x y hx
        obtain ⟨l⟩ := args
        match l, hx with
        | [x', y'], hx => simp at hx; exact ⟨x', y', rfl, hx.1, hx.2⟩
      have ty1 : ∀ T, argTypes.toList = [T] → argTypes = #[T] := fun T h => by cases argTypes; simpa using h
      have ty2 : ∀ T T', argTypes.toList = [T, T'] → argTypes = #[T, T'] := fun T T' h => by cases argTypes; simpa using h
      simp only [aop] at hc ⊢
      unfold eBuiltin at hc ⊢
      split at hc
      · rename_i T x hT hx
        obtain ⟨y, rfl, rfl⟩ := arr1 x hx
        have := ty1 T hT
        subst this
        have em : (#[y] : Array Operand).map a.eval = #[a.eval y] := by simp
        exact mk (fun _ => by rw [em]; rfl) (len_does (ty := type) HH (rep_ev H y) hc)
      · rename_i T T' x y hT hx
        obtain ⟨x', y', rfl, rfl, rfl⟩ := arr2 x y hx
        have := ty2 T T' hT
        subst this
        split at hc
        · rename_i e
          subst e
          rw [if_pos rfl]
          have em : (#[x', y'] : Array Operand).map a.eval = #[a.eval x', a.eval y'] := by simp
          exact mk (fun _ => by rw [em]; rfl) (append_does (ty := type) HH (rep_ev H x') (rep_ev H y') hc)
        · exact hc.elim
      · unfold eMin at hc ⊢
        split at hc
        · rename_i k x k' y hx
          obtain ⟨x', y', rfl, hx', hy'⟩ := arr2 _ _ hx
          have h1 := rep_ev H x'
          have h2 := rep_ev H y'
          rw [hx'] at h1; rw [hy'] at h2
          obtain ⟨e1, _⟩ := h1.inv_v
          obtain ⟨e2, _⟩ := h2.inv_v
          refine mk (fun _ => rfl) (Does.pure HH (v := .int k (if y < x then y else x)) ?_ (.v _ rfl))
          simp [Builtin.min_, Builtin.min2, e1, e2]
        · exact hc.elim
      · unfold eMax at hc ⊢
        split at hc
        · rename_i k x k' y hx
          obtain ⟨x', y', rfl, hx', hy'⟩ := arr2 _ _ hx
          have h1 := rep_ev H x'
          have h2 := rep_ev H y'
          rw [hx'] at h1; rw [hy'] at h2
          obtain ⟨e1, _⟩ := h1.inv_v
          obtain ⟨e2, _⟩ := h2.inv_v
          refine mk (fun _ => rfl) (Does.pure HH (v := .int k (if y > x then y else x)) ?_ (.v _ rfl))
          simp [Builtin.max_, Builtin.max2, e1, e2]
        · exact hc.elim
      · exact hc.elim
  | _ => exact hc.elim

end Go.Abs
