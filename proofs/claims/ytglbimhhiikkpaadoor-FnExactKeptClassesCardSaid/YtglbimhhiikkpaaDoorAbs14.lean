/-
  What is proved here: contracts of functions out of 'awp'. Condition: the contracts of the callees.
-/
import Derived.Test.YtglbimhhiikkpaaDoorAbs13
namespace Go.Abs
open Go.RowKit

/-- what a function hands back of its own state -/
def Fin (h : List Ob) (x : X) (ro : X × List Ob) : Prop :=
  ∀ c β w v, (∀ b, ¬ c.M b) → HRel c h β w → Rep w (Stab c.w0 c.S0 h β w) β v x → ∃ β', HRel c ro.2 β' w ∧ (∀ ob ∈ ro.2, ob.live = true) ∧ Rep w (Stab c.w0 c.S0 ro.2 β' w) β' v ro.1

theorem HRel.none_ {c : Cx} {h : List Ob} {β : Pl} {w : World} (H : HRel c h β w) : HRel c [] Pl.none w :=
  ⟨fun k ob hk => by simp at hk, fun k k' ob ob' u u' b hk => by simp at hk, fun k ob ver hk => by simp at hk, fun _ _ _ => rfl, H.frm, fun b ⟨k, ob, u, hk, _⟩ => by simp at hk, H.st0, H.amb⟩

theorem stab_nil {c : Cx} {w : World} {b : Nat} (h1 : b < w.heap.size) (h2 : c.S0 b ∨ c.w0.heap.size ≤ b) : Stab c.w0 c.S0 [] Pl.none w b :=
  ⟨h1, h2, fun ⟨k, ob, u, hk, _⟩ => by simp at hk⟩

def pur2 (h : List Ob) : X → X
  | .tup xs => .tup (xs.map (purN h 3))
  | x => purN h 3 x

/-- the result, read as data: nothing of it is owned any more -/
theorem Fin.pure {h : List Ob} {x : X} (hl : h.all (·.live) = true) : Fin h x (pur2 h x, []) := by
  intro c β w v hM H hr
  have hS : ∀ b, SPlus c h β w b → Stab c.w0 c.S0 [] Pl.none w b := by
    rintro b ⟨h1, h2⟩
    refine stab_nil h1 ?_
    rcases h2 with h2 | ⟨k, ob, u, hk, hu, hb⟩
    · exact h2.2.1
    · rw [List.all_eq_true] at hl
      rcases (H.own b ⟨k, ob, u, hk, hl ob (List.mem_of_getElem? hk), hu, hb⟩).2 with h3 | h3
      · exact .inr h3
      · exact (hM b h3).elim
  refine ⟨Pl.none, H.none_, by simp, ?_⟩
  cases x with
  | tup xs =>
    obtain ⟨cs, rfl, hlen, hrep⟩ := hr.inv_tup
    refine .tup _ _ (by simpa using hlen) fun j x c' hx hc => ?_
    rw [List.getElem?_map] at hx
    cases hj : xs[j]? with
    | none => rw [hj] at hx; cases hx
    | some y =>
      rw [hj] at hx
      injection hx with hx
      subst hx
      exact (pur_rep H 3 (hrep j y c' hj hc)).mono hS (fun _ _ => rfl) (Pl.le_refl _)
  | _ => exact (pur_rep H 3 hr).mono hS (fun _ _ => rfl) (Pl.le_refl _)

theorem Fin.own {h : List Ob} {x : X} (ks : List Nat) (hp : pickOk h ks) : Fin h x (rn2 h ks x, pickObs h ks) := by
  intro c β w v hM H hr
  obtain ⟨h1, h2, r1⟩ := H.pick ks hp
  refine ⟨_, h1, h2, ?_⟩
  cases x with
  | tup xs =>
      obtain ⟨cs, rfl, hlen, hrep⟩ := hr.inv_tup
      refine .tup _ _ (by simpa using hlen) fun j x c' hx hc => ?_
      rw [List.getElem?_map] at hx
      cases hj : xs[j]? with
      | none => rw [hj] at hx; cases hx
      | some y => rw [hj] at hx; injection hx with hx; subst hx; exact r1 _ _ (hrep j y c' hj hc)
  | _ => exact r1 _ _ hr

/-- some objects are kept, under new numbers -/
theorem Wk.pick {s : St} {t' : Nat → X} (ks : List Nat) (hp : pickOk s.h ks) (ht : ∀ t, t' t = .top ∨ t' t = rn1 s.h ks (s.t t)) : Wk s ⟨s.n, t', pickObs s.h ks⟩ := by
  intro c β a w H
  obtain ⟨h1, _, r1⟩ := H.2.2.1.pick ks hp
  refine ⟨_, H.1, H.2.1, h1, fun t => ?_⟩
  rcases ht t with e | e
  · show Rep _ _ _ _ (t' t)
    rw [e]; exact .top _
  · show Rep _ _ _ _ (t' t)
    rw [e]; exact r1 _ _ (H.2.2.2 t)

/-- a nil slice, as an object with no rows -/
theorem Wk.nil {s : St} (ty sz i : Nat) (hi : s.t i = .v (.slice none 0 0)) : Wk s ⟨s.n, fun t => if t = i then .osl s.h.length 0 else s.t t, s.h ++ [⟨ty, sz, 0, [], false, true, none⟩]⟩ := by
  intro c β a w H
  obtain ⟨h1, h2⟩ := H.2.2.1.push (Below.refl _ _) ⟨ty, sz, 0, [], false, true, none⟩ (.slice none 0 0) rfl (by simp) (.inl ⟨rfl, rfl, rfl⟩) (fun b hb => by simp [blk] at hb) (fun S' β' _ i j x hx => by simp [at2] at hx)
  refine ⟨_, H.1, H.2.1, h1, fun t => ?_⟩
  show Rep _ _ _ _ (if t = i then .osl s.h.length 0 else s.t t)
  split
  · rename_i e
    subst e
    have := H.2.2.2 t
    rw [hi] at this
    obtain ⟨hv, _⟩ := this.inv_v
    rw [hv]
    exact .osl _ _ _ (Pl.set_same _ _ _ _ _) rfl
  · exact h2 _ _ (H.2.2.2 t)

/-! ### contracts -/
def ent (n : Nat) (args : List X) : St := ⟨n, fun t => args.getD t .top, []⟩

def retP (P : Program) (rs : List ResultVar) (ro : X × List Ob) : Exit → St → Prop
  | .ret, s => resL P s rs fun xs => Fin s.h (one xs) ro
  | .normal, s => resL P s rs fun xs => Fin s.h (one xs) ro
  | _, _ => False

structure Env.okA (P : Program) (E : Env) : Prop where
  f : ∀ f F, E.f f = some F → GenCA E.A P f F
  m : ∀ f F, E.m f = some F → GenMA E.A P f F
theorem Env.okA.at {P : Program} {E : Env} (h : E.okA P) {c : Cx} (hc : c.A = E.A) : E.ok P c := ⟨by rw [hc]; exact h.f, by rw [hc]; exact h.m, hc⟩

theorem callFunc_enter {P : Program} {f : Nat} {fn : Func} (hf : P.funcs[f]? = some fn) (hn : (fn.name == "runtime.NumGoroutine") = false) (hb : fn.body.isNone = false) (args : Array Value) (w : World) : (callFunc f args).run P w = .ok (.enter f args) w := by
  unfold callFunc
  simp only [Sem.run_bind, run_program, Result.andThen_ok, hf, hn, hb, Bool.false_eq_true, if_false, Sem.run_pure]

theorem rel_ent {A : List (Nat × List X)} {w : World} {S : Nat → Prop} {vs : Array Value} {xs : List X} {n : Nat} (hl : vs.size = xs.length) (hr : ∀ (j : Nat) x v, xs[j]? = some x → vs[j]? = some v → Rep w S Pl.none v x) (hS : ∀ b, S b → b < w.heap.size) (hA : Amb w S A) (hn : xs.length ≤ n) :
    Rel ⟨w, S, fun _ => False, A⟩ (ent n xs) Pl.none { tmps := vs ++ Array.replicate (n - vs.size) undef, defers := [] } w := by
  refine ⟨rfl, by simp [ent]; omega, ⟨fun k ob hk => by simp [ent] at hk, fun k k' ob ob' u u' b hk => by simp [ent] at hk, fun k ob ver hk => by simp [ent] at hk, fun _ _ _ => rfl, Frm.refl _ _, fun b ⟨k, ob, u, hk, _⟩ => by simp [ent] at hk, fun b hb => ⟨hS b hb, fun h => h⟩, hA⟩, fun t => ?_⟩
  show Rep _ _ _ _ (xs.getD t .top)
  rcases Nat.lt_or_ge t xs.length with h | h
  · have h1 : xs[t]? = some xs[t] := List.getElem?_eq_getElem h
    have h2 : vs[t]? = some (vs[t]'(by omega)) := Array.getElem?_eq_getElem (by omega)
    have e1 : xs.getD t .top = xs[t] := by simp [List.getD, h1]
    have e2 : (vs ++ Array.replicate (n - vs.size) undef).getD t undef = vs[t]'(by omega) := by
      rw [Array.getD_eq_getD_getElem?, Array.getElem?_append_left (by omega), h2]; rfl
    rw [e1]
    show Rep _ _ _ ((vs ++ Array.replicate (n - vs.size) undef).getD t undef) _
    rw [e2]
    refine (hr t _ _ h1 h2).mono (fun b hb => ⟨hS b hb, .inl hb, fun ⟨k, ob, u, hk, _⟩ => by simp [ent] at hk⟩) (fun _ _ => rfl) (Pl.le_refl _)
  · have : xs.getD t .top = .top := by simp [List.getD, List.getElem?_eq_none h]
    rw [this]; exact .top _

theorem genC_of {P : Program} {E : Env} {f : Nat} {fn : Func} {body : Code} {F : Fun} (hE : E.okA P) (hm : P.follows .mixedOrders = true) (hf : P.funcs[f]? = some fn) (hb : fn.body = some body) (hn : (fn.name == "runtime.NumGoroutine") = false)
    (h : ∀ xs, F.pre xs → xs.length ≤ fn.ntmps ∧ awp P E body (retP P fn.results.toList (F.res xs)) (ent fn.ntmps xs)) : GenCA E.A P f F := by
  refine ⟨fun args w => callFunc_enter hf hn (by simp [hb]) args w, fun w S vs xs hpre hl hr hS hA => ?_⟩
  obtain ⟨hle, haw⟩ := h xs hpre
  refine calls_of_wp hf hb (wp_mono (awp_sound (hE.at rfl) hm body _ _ Pl.none _ w haw (rel_ent hl hr hS hA hle)) ?_)
  have fin : ∀ (s : St) (β : Pl) (a : Act) (w' : World), Rel ⟨w, S, fun _ => False, E.A⟩ s β a w' → (resL P s fn.results.toList fun xs' => Fin s.h (one xs') (F.res xs)) →
      a.defers = [] ∧ ∃ v, (results fn a.tmps).run P w' = .ok v w' ∧ ∃ v' β', Ending.returned v = .returned v' ∧ HRel ⟨w, S, fun _ => False, E.A⟩ (F.res xs).2 β' w' ∧ (∀ ob ∈ (F.res xs).2, ob.live = true) ∧ Rep w' (Stab w S (F.res xs).2 β' w') β' v' (F.res xs).1 := by
    intro s β a w' H hres
    obtain ⟨v, x, hk, hrun, hrep⟩ := results_sound H fn (fun x => Fin s.h x (F.res xs)) hres
    obtain ⟨β', g1, g2, g3⟩ := hk _ β w' v (fun b h => h) H.2.2.1 hrep
    exact ⟨H.1, v, hrun, v, β', rfl, g1, g2, g3⟩
  rintro e a w' ⟨s, β, hq, H⟩
  cases e with
  | normal => exact fin s β a w' H hq
  | ret => exact fin s β a w' H hq
  | _ => exact hq.elim

/-- what a function that writes hands back: the objects handed in first, at their old places -/
def FinM (s : St) (us : List Value) (x : X) (ro : X × List Ob) : Prop :=
  ∃ ks, pickOk s.h ks ∧ (∀ (i : Nat) u, us[i]? = some u → ∃ k ob, ks[i]? = some k ∧ s.h[k]? = some ob ∧ s.t (1000 + i) = .pin k ob.ver u) ∧ ro = (rn2 s.h ks x, pickObs s.h ks)

def retM (P : Program) (rs : List ResultVar) (us : List Value) (ro : X × List Ob) : Exit → St → Prop
  | .ret, s => resL P s rs fun xs => FinM s us (one xs) ro
  | .normal, s => resL P s rs fun xs => FinM s us (one xs) ro
  | _, _ => False

def entM (n : Nat) (args : List X) (us : List Value) (obs : List Ob) : St :=
  ⟨n, fun t => if t < 1000 then args.getD t .top else match us[t - 1000]? with | some u => .pin (t - 1000) 0 u | none => .top, obs⟩

theorem genM_of {P : Program} {E : Env} {f : Nat} {fn : Func} {body : Code} {F : MFun} (hE : E.okA P) (hm : P.follows .mixedOrders = true) (hf : P.funcs[f]? = some fn) (hb : fn.body = some body) (hn : (fn.name == "runtime.NumGoroutine") = false)
    (h : ∀ xs obs us, F.pre xs obs → us.length = obs.length → xs.length ≤ fn.ntmps ∧ xs.length ≤ 1000 ∧ (∀ (k : Nat) ob, obs[k]? = some ob → ∃ ob', (F.res xs obs).2[k]? = some ob' ∧ sameOb ob ob') ∧
      awp P E body (retM P fn.results.toList us (F.res xs obs)) (entM fn.ntmps xs us obs)) : GenMA E.A P f F := by
  refine ⟨fun args w => callFunc_enter hf hn (by simp [hb]) args w, fun w S β obs vs xs hpre hl H0 hlv hr => ?_⟩
  -- the values of what is handed in
  have hval : ∀ (k : Nat) ob, obs[k]? = some ob → ∃ u, β.val k 0 = some u := by
    intro k ob hk
    obtain ⟨_, _, u, hu, _⟩ := H0.objs k ob hk
    rw [(hlv ob (List.mem_of_getElem? hk)).2] at hu
    exact ⟨u, hu⟩
  let us : List Value := (List.range obs.length).map fun k => (β.val k 0).getD undef
  have husl : us.length = obs.length := by simp [us]
  have hus : ∀ (k : Nat) u, us[k]? = some u → β.val k 0 = some u := by
    intro k u hu
    have hk : k < obs.length := by rw [← husl]; exact (List.getElem?_eq_some_iff.1 hu).1
    obtain ⟨u', hu'⟩ := hval k obs[k] (List.getElem?_eq_getElem hk)
    have : us[k]? = some ((β.val k 0).getD undef) := by simp [us, hk]
    rw [this, hu'] at hu
    rw [hu']
    simpa using hu
  obtain ⟨hle, hle', hsame, haw⟩ := h xs obs us hpre husl
  have hent : Rel ⟨w, S, fun b => Owned obs β b, E.A⟩ (entM fn.ntmps xs us obs) β { tmps := vs ++ Array.replicate (fn.ntmps - vs.size) undef, defers := [] } w := by
    refine ⟨rfl, by simp [entM]; omega, H0, fun t => ?_⟩
    show Rep _ _ _ _ (if t < 1000 then xs.getD t .top else match us[t - 1000]? with | some u => .pin (t - 1000) 0 u | none => .top)
    split
    · rcases Nat.lt_or_ge t xs.length with h | h
      · have h1 : xs[t]? = some xs[t] := List.getElem?_eq_getElem h
        have h2 : vs[t]? = some (vs[t]'(by omega)) := Array.getElem?_eq_getElem (by omega)
        have e1 : xs.getD t .top = xs[t] := by simp [List.getD, h1]
        have e2 : (vs ++ Array.replicate (fn.ntmps - vs.size) undef).getD t undef = vs[t]'(by omega) := by
          rw [Array.getD_eq_getD_getElem?, Array.getElem?_append_left (by omega), h2]; rfl
        rw [e1]
        show Rep _ _ _ ((vs ++ Array.replicate (fn.ntmps - vs.size) undef).getD t undef) _
        rw [e2]
        exact hr t _ _ h1 h2
      · have : xs.getD t .top = .top := by simp [List.getD, List.getElem?_eq_none h]
        rw [this]; exact .top _
    · split
      · rename_i u hu
        exact .pin _ _ _ u (hus _ u hu)
      · exact .top _
  refine calls_of_wp hf hb (wp_mono (awp_sound (hE.at rfl) hm body _ _ β _ w haw hent) ?_)
  have fin : ∀ (s : St) (β1 : Pl) (a : Act) (w' : World), Rel ⟨w, S, fun b => Owned obs β b, E.A⟩ s β1 a w' → (resL P s fn.results.toList fun xs' => FinM s us (one xs') (F.res xs obs)) →
      a.defers = [] ∧ ∃ v, (results fn a.tmps).run P w' = .ok v w' ∧ ∃ v' β', Ending.returned v = .returned v' ∧ HRel ⟨w, S, fun b => Owned obs β b, E.A⟩ (F.res xs obs).2 β' w' ∧ (∀ ob ∈ (F.res xs obs).2, ob.live = true) ∧
        (∀ (k : Nat) ob, obs[k]? = some ob → ∃ ob', (F.res xs obs).2[k]? = some ob' ∧ sameOb ob ob' ∧ β'.val k 0 = β.val k 0) ∧ Rep w' (Stab w S (F.res xs obs).2 β' w') β' v' (F.res xs obs).1 := by
    intro s β1 a w' H1 hres
    obtain ⟨v, x, ⟨ks, hp, hpin, hro⟩, hrun, hrep⟩ := results_sound H1 fn (fun x => FinM s us x (F.res xs obs)) hres
    obtain ⟨q1, q2, q3⟩ := H1.2.2.1.pick ks hp
    have e1 : (F.res xs obs).1 = rn2 s.h ks x := by rw [hro]
    have e2 : (F.res xs obs).2 = pickObs s.h ks := by rw [hro]
    refine ⟨H1.1, v, hrun, v, β1.pick s.h ks, rfl, by rw [e2]; exact q1, by rw [e2]; exact q2, fun k ob hk => ?_, ?_⟩
    · obtain ⟨ob', h1, h2⟩ := hsame k ob hk
      refine ⟨ob', h1, h2, ?_⟩
      obtain ⟨u, hu⟩ := hval k ob hk
      have hku : us[k]? = some u := by
        have hk' : k < obs.length := (List.getElem?_eq_some_iff.1 hk).1
        simp [us, hk', hu]
      obtain ⟨k', ob1, a1, a2, a3⟩ := hpin k u hku
      rw [Pl.pick_val a1 a2, hu]
      have := H1.2.2.2 (1000 + k)
      rw [a3] at this
      exact this.inv_pin
    · rw [e1, e2]
      cases x with
      | tup xs =>
        obtain ⟨cs, rfl, hlen, hrep⟩ := hrep.inv_tup
        refine .tup _ _ (by simpa using hlen) fun j x c' hx hc => ?_
        rw [List.getElem?_map] at hx
        cases hj : xs[j]? with
        | none => rw [hj] at hx; cases hx
        | some y => rw [hj] at hx; injection hx with hx; subst hx; exact q3 _ _ (hrep j y c' hj hc)
      | _ => exact q3 _ _ hrep
  rintro e a w' ⟨s, β1, hq, H1⟩
  cases e with
  | normal => exact fin s β1 a w' H1 hq
  | ret => exact fin s β1 a w' H1 hq
  | _ => exact hq.elim

def envA (A : List (Nat × List X)) (l : List (Nat × Fun)) (m : List (Nat × MFun)) : Env := ⟨fun f => l.lookup f, fun f => m.lookup f, A⟩
def envM (l : List (Nat × Fun)) (m : List (Nat × MFun)) : Env := envA [] l m
def envOf (l : List (Nat × Fun)) : Env := envM l []
theorem lookup_all {α : Type} {p : Nat → α → Prop} : ∀ {l : List (Nat × α)}, (∀ q ∈ l, p q.1 q.2) → ∀ f F, l.lookup f = some F → p f F
  | [], _, f, F, hF => by cases hF
  | (k, G) :: l, h, f, F, hF => by
    rw [List.lookup_cons] at hF
    split at hF
    · rename_i hk
      injection hF with hF
      subst hF
      have : f = k := by simpa using hk
      subst this
      exact h (f, G) List.mem_cons_self
    · exact lookup_all (fun q hq => h q (List.mem_cons_of_mem _ hq)) f F hF
theorem envA_ok {P : Program} {A : List (Nat × List X)} {l : List (Nat × Fun)} {m : List (Nat × MFun)} (h : ∀ p ∈ l, GenCA A P p.1 p.2) (hm : ∀ p ∈ m, GenMA A P p.1 p.2) : (envA A l m).okA P :=
  ⟨fun f F hF => lookup_all (p := fun f F => GenCA A P f F) h f F hF, fun f F hF => lookup_all (p := fun f F => GenMA A P f F) hm f F hF⟩
theorem envM_ok {P : Program} {l : List (Nat × Fun)} {m : List (Nat × MFun)} (h : ∀ p ∈ l, GenC P p.1 p.2) (hm : ∀ p ∈ m, GenM P p.1 p.2) : (envM l m).okA P := envA_ok h hm
theorem envOf_ok {P : Program} {l : List (Nat × Fun)} (h : ∀ p ∈ l, GenC P p.1 p.2) : (envOf l).okA P := envM_ok h (by simp)

end Go.Abs
