/-
  What is proved here: contracts of functions out of 'awp'. Condition: the contracts of the callees.
-/
import Derived.Test.YtlbeedbkafjfcaaAbs13
namespace Go.Abs
open Go.RowKit

/-- what a function hands back of its own state -/
def Fin (h : List Ob) (x : X) (ro : X × List Ob) : Prop :=
  ∀ c β w v, (∀ b, ¬ c.M b) → HRel c h β w → Rep w (Stab c.w0 c.S0 h β w) β v x → ∃ β', HRel c ro.2 β' w ∧ (∀ ob ∈ ro.2, ob.live = true) ∧ Rep w (Stab c.w0 c.S0 ro.2 β' w) β' v ro.1

theorem HRel.none_ {c : Cx} {h : List Ob} {β : Pl} {w : World} (H : HRel c h β w) : HRel c [] Pl.none w :=
  ⟨fun k ob hk => by simp at hk, fun k k' ob ob' u u' b hk => by simp at hk, fun k ob ver hk => by simp at hk, fun _ _ _ => rfl, H.frm, fun b ⟨k, ob, u, hk, _⟩ => by simp at hk, H.st0⟩

theorem stab_nil {c : Cx} {w : World} {b : Nat} (h1 : b < w.heap.size) (h2 : c.S0 b ∨ c.w0.heap.size ≤ b) : Stab c.w0 c.S0 [] Pl.none w b :=
  ⟨h1, h2, fun ⟨k, ob, u, hk, _⟩ => by simp at hk⟩

def pur2 (h : List Ob) : X → X
  | .tup xs => .tup (xs.map (purN h 3))
  | x => purN h 3 x

/-- the result, read as data: nothing of it is owned any more -/
theorem Fin.pure {h : List Ob} {x : X} (hl : h.all (·.live) = true) : Fin h x (pur2 h x, []) := by
  intro c β w v hM H hr
  have hS : ∀ b, SPlus c h β w b → Stab c.w0 c.S0 [] Pl.none w b := by
    rintro b ⟨h1, h2⟩
    refine stab_nil h1 ?_
    rcases h2 with h2 | ⟨k, ob, u, hk, hu, hb⟩
    · exact h2.2.1
    · rw [List.all_eq_true] at hl
      rcases (H.own b ⟨k, ob, u, hk, hl ob (List.mem_of_getElem? hk), hu, hb⟩).2 with h3 | h3
      · exact .inr h3
      · exact (hM b h3).elim
  refine ⟨Pl.none, H.none_, by simp, ?_⟩
  cases x with
  | tup xs =>
    obtain ⟨cs, rfl, hlen, hrep⟩ := hr.inv_tup
    refine .tup _ _ (by simpa using hlen) fun j x c' hx hc => ?_
    rw [List.getElem?_map] at hx
    cases hj : xs[j]? with
    | none => rw [hj] at hx; cases hx
    | some y =>
      rw [hj] at hx
      injection hx with hx
      subst hx
      exact (pur_rep H 3 (hrep j y c' hj hc)).mono hS (fun _ _ => rfl) (Pl.le_refl _)
  | _ => exact (pur_rep H 3 hr).mono hS (fun _ _ => rfl) (Pl.le_refl _)

/-! ### some objects are handed over -/
def rn0 (h : List Ob) (ks : List Nat) : X → X
  | .osl k ver => match h[k]? with
    | some ob => if ob.ver = ver then (match ks.idxOf? k with | some i => .osl i 0 | none => .top) else .top
    | none => .top
  | .osub _ _ _ _ | .optr _ _ _ _ | .agg _ | .tup _ | .fn _ _ | .gd _ _ => .top
  | x => x
def rn1 (h : List Ob) (ks : List Nat) : X → X
  | .agg cs => .agg (cs.map (rn0 h ks))
  | x => rn0 h ks x
def rn2 (h : List Ob) (ks : List Nat) : X → X
  | .tup xs => .tup (xs.map (rn1 h ks))
  | x => rn1 h ks x
def pickObs (h : List Ob) (ks : List Nat) : List Ob := ks.map fun k => { (h[k]?).getD ⟨0, 0, 0, [], false, false⟩ with ver := 0 }
def pickOk (h : List Ob) (ks : List Nat) : Prop :=
  ks.Nodup ∧ ∀ k ∈ ks, ((h[k]?).map fun ob => ob.live && ob.rows.all fun r => r.all (ok0 0)) = some true

theorem pick_get {h : List Ob} {ks : List Nat} (hp : pickOk h ks) {i : Nat} {ob : Ob} (hi : (pickObs h ks)[i]? = some ob) : ∃ k ob', ks[i]? = some k ∧ h[k]? = some ob' ∧ ob = { ob' with ver := 0 } ∧ ob'.live = true ∧ ∀ r ∈ ob'.rows, ∀ x ∈ r, ok0 0 x = true := by
  unfold pickObs at hi
  rw [List.getElem?_map] at hi
  cases hk : ks[i]? with
  | none => rw [hk] at hi; cases hi
  | some k =>
    rw [hk] at hi
    have hq := hp.2 k (List.mem_of_getElem? hk)
    cases ho : h[k]? with
    | none => rw [ho] at hq; cases hq
    | some ob' =>
      rw [ho] at hq
      simp only [Option.map_some, Option.some.injEq, Bool.and_eq_true, List.all_eq_true] at hq
      simp only [Option.map_some, Option.some.injEq, Option.getD_some, ho] at hi
      exact ⟨k, ob', rfl, ho, hi.symm, hq.1, hq.2⟩

def Pl.pick (β : Pl) (h : List Ob) (ks : List Nat) : Pl :=
  ⟨fun i ver => if ver = 0 then (match ks[i]? with | some k => (match h[k]? with | some ob => β.val k ob.ver | Option.none => Option.none) | Option.none => Option.none) else Option.none,
   fun i => match ks[i]? with | some k => β.sz k | Option.none => 0⟩

theorem HRel.pick {c : Cx} {h : List Ob} {β : Pl} {w : World} (ks : List Nat) (hp : pickOk h ks) (H : HRel c h β w) : ∃ β', HRel c (pickObs h ks) β' w ∧ (∀ ob ∈ pickObs h ks, ob.live = true) ∧ ∀ u x, Rep w (Stab c.w0 c.S0 h β w) β u x → Rep w (Stab c.w0 c.S0 (pickObs h ks) β' w) β' u (rn1 h ks x) := by
  have hval : ∀ i k ob, ks[i]? = some k → h[k]? = some ob → (β.pick h ks).val i 0 = β.val k ob.ver := fun i k ob h1 h2 => by simp [Pl.pick, h1, h2]
  have hown : ∀ b, Owned (pickObs h ks) (β.pick h ks) b → Owned h β b := by
    rintro b ⟨i, ob, u, hi, hl, hu, hb⟩
    obtain ⟨k, ob', hk, hob, rfl, hl', _⟩ := pick_get hp hi
    rw [hval i k ob' hk hob] at hu
    exact ⟨k, ob', u, hob, hl', hu, hb⟩
  have hst : ∀ b, Stab c.w0 c.S0 h β w b → Stab c.w0 c.S0 (pickObs h ks) (β.pick h ks) w b := fun b hs => ⟨hs.1, hs.2.1, fun ho => hs.2.2 (hown b ho)⟩
  have pur : ∀ {u x}, Rep w (Stab c.w0 c.S0 h β w) β u x → ok0 0 x = true → Rep w (Stab c.w0 c.S0 (pickObs h ks) (β.pick h ks) w) (β.pick h ks) u x := fun hr ho =>
    (hr.cut0 hst ho).mono (fun _ h => h) (fun _ _ => rfl) (fun _ _ _ h => by simp [Pl.cut] at h)
  have r0 : ∀ {u x}, Rep w (Stab c.w0 c.S0 h β w) β u x → Rep w (Stab c.w0 c.S0 (pickObs h ks) (β.pick h ks) w) (β.pick h ks) u (rn0 h ks x) := by
    intro u x hr
    cases x with
    | osl k ver =>
      obtain ⟨hu, h1⟩ := hr.inv_osl
      simp only [rn0]
      split
      · rename_i ob hk
        split
        · rename_i hver
          split
          · rename_i i hi
            have hki : ks[i]? = some k := by
              obtain ⟨hlt, he, _⟩ := List.idxOf?_eq_some_iff.1 hi
              rw [List.getElem?_eq_getElem hlt]
              simpa using he
            exact .osl i 0 u (by rw [hval i k ob hki hk, hver]; exact hu) h1
          · exact .top _
        · exact .top _
      · exact .top _
    | top => exact pur hr rfl
    | v y => exact pur hr rfl
    | sl r => exact pur hr rfl
    | pt r => exact pur hr rfl
    | _ => exact .top _
  have r1 : ∀ {u x}, Rep w (Stab c.w0 c.S0 h β w) β u x → Rep w (Stab c.w0 c.S0 (pickObs h ks) (β.pick h ks) w) (β.pick h ks) u (rn1 h ks x) := by
    intro u x hr
    cases x with
    | agg xs =>
      obtain ⟨cs, rfl, hlen, h1, hrep⟩ := hr.inv_agg
      refine .agg _ _ (by simpa using hlen) h1 fun j x c' hx hc => ?_
      rw [List.getElem?_map] at hx
      cases hj : xs[j]? with
      | none => rw [hj] at hx; cases hx
      | some y => rw [hj] at hx; injection hx with hx; subst hx; exact r0 (hrep j y c' hj hc)
    | _ => exact r0 hr
  refine ⟨β.pick h ks, ⟨fun i ob hi => ?_, ?_, ?_, ?_, H.frm, fun b ho => H.own b (hown b ho), H.st0⟩, ?_, ?_⟩
  · obtain ⟨k, ob', hk, hob, rfl, hl', hok⟩ := pick_get hp hi
    obtain ⟨h1, h2, u, hu, hs, hc⟩ := H.objs k ob' hob
    refine ⟨by simp [Pl.pick, hk, h1], h2, u, by rw [hval i k ob' hk hob]; exact hu, hs, fun i' j x hx => ?_⟩
    obtain ⟨g, cc, hg, hcell, h1c, hr⟩ := hc i' j x hx
    refine ⟨g, cc, hg, hcell, h1c, pur hr ?_⟩
    unfold at2 at hx
    cases hri : ob'.rows[i']? with
    | none => rw [hri] at hx; cases hx
    | some r => rw [hri] at hx; exact hok r (List.mem_of_getElem? hri) x (List.mem_of_getElem? hx)
  · intro i i' ob1 ob2 u1 u2 b hi hi' hu1 hu2 hb1 hb2
    obtain ⟨k1, o1, hk1, ho1, rfl, _⟩ := pick_get hp hi
    obtain ⟨k2, o2, hk2, ho2, rfl, _⟩ := pick_get hp hi'
    rw [hval i k1 o1 hk1 ho1] at hu1
    rw [hval i' k2 o2 hk2 ho2] at hu2
    have := H.inj k1 k2 o1 o2 u1 u2 b ho1 ho2 hu1 hu2 hb1 hb2
    subst this
    exact (List.getElem?_inj (List.getElem?_eq_some_iff.1 hk1).1 hp.1).1 (hk1.trans hk2.symm)
  · intro i ob ver hi hlt
    obtain ⟨k, ob', hk, hob, rfl, _⟩ := pick_get hp hi
    have : ver ≠ 0 := by simp at hlt; omega
    simp [Pl.pick, this]
  · intro i ver hi
    simp only [pickObs, List.length_map] at hi
    simp [Pl.pick, List.getElem?_eq_none hi]
  · intro ob hob
    obtain ⟨i, hi⟩ := List.getElem?_of_mem hob
    obtain ⟨_, _, _, _, rfl, hl', _⟩ := pick_get hp hi
    exact hl'
  · exact fun u x hr => r1 hr

theorem Fin.own {h : List Ob} {x : X} (ks : List Nat) (hp : pickOk h ks) : Fin h x (rn2 h ks x, pickObs h ks) := by
  intro c β w v hM H hr
  obtain ⟨β', h1, h2, r1⟩ := H.pick ks hp
  refine ⟨β', h1, h2, ?_⟩
  cases x with
  | tup xs =>
      obtain ⟨cs, rfl, hlen, hrep⟩ := hr.inv_tup
      refine .tup _ _ (by simpa using hlen) fun j x c' hx hc => ?_
      rw [List.getElem?_map] at hx
      cases hj : xs[j]? with
      | none => rw [hj] at hx; cases hx
      | some y => rw [hj] at hx; injection hx with hx; subst hx; exact r1 _ _ (hrep j y c' hj hc)
  | _ => exact r1 _ _ hr

/-- some objects are kept, under new numbers -/
theorem Wk.pick {s : St} {t' : Nat → X} (ks : List Nat) (hp : pickOk s.h ks) (ht : ∀ t, t' t = .top ∨ t' t = rn1 s.h ks (s.t t)) : Wk s ⟨s.n, t', pickObs s.h ks⟩ := by
  intro c β a w H
  obtain ⟨β', h1, _, r1⟩ := H.2.2.1.pick ks hp
  refine ⟨β', H.1, H.2.1, h1, fun t => ?_⟩
  rcases ht t with e | e
  · show Rep _ _ _ _ (t' t)
    rw [e]; exact .top _
  · show Rep _ _ _ _ (t' t)
    rw [e]; exact r1 _ _ (H.2.2.2 t)

/-- a nil slice, as an object with no rows -/
theorem Wk.nil {s : St} (ty sz i : Nat) (hi : s.t i = .v (.slice none 0 0)) : Wk s ⟨s.n, fun t => if t = i then .osl s.h.length 0 else s.t t, s.h ++ [⟨ty, sz, 0, [], false, true⟩]⟩ := by
  intro c β a w H
  obtain ⟨h1, h2⟩ := H.2.2.1.push (Below.refl _ _) ⟨ty, sz, 0, [], false, true⟩ (.slice none 0 0) rfl (by simp) (.inl ⟨rfl, rfl, rfl⟩) (fun b hb => by simp [blk] at hb) (fun S' β' _ i j x hx => by simp [at2] at hx)
  refine ⟨_, H.1, H.2.1, h1, fun t => ?_⟩
  show Rep _ _ _ _ (if t = i then .osl s.h.length 0 else s.t t)
  split
  · rename_i e
    subst e
    have := H.2.2.2 t
    rw [hi] at this
    obtain ⟨hv, _⟩ := this.inv_v
    rw [hv]
    exact .osl _ _ _ (Pl.set_same _ _ _ _ _) rfl
  · exact h2 _ _ (H.2.2.2 t)

/-! ### contracts -/
def ent (n : Nat) (args : List X) : St := ⟨n, fun t => args.getD t .top, []⟩

def retP (P : Program) (rs : List ResultVar) (ro : X × List Ob) : Exit → St → Prop
  | .ret, s => resL P s rs fun xs => Fin s.h (one xs) ro
  | .normal, s => resL P s rs fun xs => Fin s.h (one xs) ro
  | _, _ => False

theorem callFunc_enter {P : Program} {f : Nat} {fn : Func} (hf : P.funcs[f]? = some fn) (hn : (fn.name == "runtime.NumGoroutine") = false) (hb : fn.body.isNone = false) (args : Array Value) (w : World) : (callFunc f args).run P w = .ok (.enter f args) w := by
  unfold callFunc
  simp only [Sem.run_bind, run_program, Result.andThen_ok, hf, hn, hb, Bool.false_eq_true, if_false, Sem.run_pure]

theorem rel_ent {w : World} {S : Nat → Prop} {vs : Array Value} {xs : List X} {n : Nat} (hl : vs.size = xs.length) (hr : ∀ (j : Nat) x v, xs[j]? = some x → vs[j]? = some v → Rep w S Pl.none v x) (hS : ∀ b, S b → b < w.heap.size) (hn : xs.length ≤ n) :
    Rel ⟨w, S, fun _ => False⟩ (ent n xs) Pl.none { tmps := vs ++ Array.replicate (n - vs.size) undef, defers := [] } w := by
  refine ⟨rfl, by simp [ent]; omega, ⟨fun k ob hk => by simp [ent] at hk, fun k k' ob ob' u u' b hk => by simp [ent] at hk, fun k ob ver hk => by simp [ent] at hk, fun _ _ _ => rfl, Frm.refl _ _, fun b ⟨k, ob, u, hk, _⟩ => by simp [ent] at hk, fun b hb => ⟨hS b hb, fun h => h⟩⟩, fun t => ?_⟩
  show Rep _ _ _ _ (xs.getD t .top)
  rcases Nat.lt_or_ge t xs.length with h | h
  · have h1 : xs[t]? = some xs[t] := List.getElem?_eq_getElem h
    have h2 : vs[t]? = some (vs[t]'(by omega)) := Array.getElem?_eq_getElem (by omega)
    have e1 : xs.getD t .top = xs[t] := by simp [List.getD, h1]
    have e2 : (vs ++ Array.replicate (n - vs.size) undef).getD t undef = vs[t]'(by omega) := by
      rw [Array.getD_eq_getD_getElem?, Array.getElem?_append_left (by omega), h2]; rfl
    rw [e1]
    show Rep _ _ _ ((vs ++ Array.replicate (n - vs.size) undef).getD t undef) _
    rw [e2]
    refine (hr t _ _ h1 h2).mono (fun b hb => ⟨hS b hb, .inl hb, fun ⟨k, ob, u, hk, _⟩ => by simp [ent] at hk⟩) (fun _ _ => rfl) (Pl.le_refl _)
  · have : xs.getD t .top = .top := by simp [List.getD, List.getElem?_eq_none h]
    rw [this]; exact .top _

theorem genC_of {P : Program} {E : Env} {f : Nat} {fn : Func} {body : Code} {F : Fun} (hE : E.ok P) (hm : P.follows .mixedOrders = true) (hf : P.funcs[f]? = some fn) (hb : fn.body = some body) (hn : (fn.name == "runtime.NumGoroutine") = false)
    (h : ∀ xs, F.pre xs → xs.length ≤ fn.ntmps ∧ awp P E body (retP P fn.results.toList (F.res xs)) (ent fn.ntmps xs)) : GenC P f F := by
  refine ⟨fun args w => callFunc_enter hf hn (by simp [hb]) args w, fun w S vs xs hpre hl hr hS => ?_⟩
  obtain ⟨hle, haw⟩ := h xs hpre
  refine calls_of_wp hf hb (wp_mono (awp_sound hE hm body _ _ Pl.none _ w haw (rel_ent hl hr hS hle)) ?_)
  have fin : ∀ (s : St) (β : Pl) (a : Act) (w' : World), Rel ⟨w, S, fun _ => False⟩ s β a w' → (resL P s fn.results.toList fun xs' => Fin s.h (one xs') (F.res xs)) →
      a.defers = [] ∧ ∃ v, (results fn a.tmps).run P w' = .ok v w' ∧ ∃ v' β', Ending.returned v = .returned v' ∧ HRel ⟨w, S, fun _ => False⟩ (F.res xs).2 β' w' ∧ (∀ ob ∈ (F.res xs).2, ob.live = true) ∧ Rep w' (Stab w S (F.res xs).2 β' w') β' v' (F.res xs).1 := by
    intro s β a w' H hres
    obtain ⟨v, x, hk, hrun, hrep⟩ := results_sound H fn (fun x => Fin s.h x (F.res xs)) hres
    obtain ⟨β', g1, g2, g3⟩ := hk _ β w' v (fun b h => h) H.2.2.1 hrep
    exact ⟨H.1, v, hrun, v, β', rfl, g1, g2, g3⟩
  rintro e a w' ⟨s, β, hq, H⟩
  cases e with
  | normal => exact fin s β a w' H hq
  | ret => exact fin s β a w' H hq
  | _ => exact hq.elim

def envOf (l : List (Nat × Fun)) : Env := fun f => l.lookup f
theorem envOf_ok {P : Program} {l : List (Nat × Fun)} (h : ∀ p ∈ l, GenC P p.1 p.2) : (envOf l).ok P := by
  intro f F hF
  unfold envOf at hF
  induction l with
  | nil => cases hF
  | cons p l ih =>
    obtain ⟨k, G⟩ := p
    rw [List.lookup_cons] at hF
    split at hF
    · rename_i hk
      injection hF with hF
      subst hF
      have : f = k := by simpa using hk
      subst this
      exact h (f, G) List.mem_cons_self
    · exact ih (fun p hp => h p (List.mem_cons_of_mem _ hp)) hF

end Go.Abs
