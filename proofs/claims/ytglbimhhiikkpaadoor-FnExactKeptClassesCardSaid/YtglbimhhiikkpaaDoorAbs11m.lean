/-
  What is proved here: some objects are picked out under new numbers; how a callee that writes to objects handed in leaves the caller's. Condition: none beyond the contract's.
-/
import Derived.Test.YtglbimhhiikkpaaDoorAbs11
namespace Go.Abs
open Go.RowKit

/-! ### some objects are handed over -/
def rn0 (h : List Ob) (ks : List Nat) : X → X
  | .osl k ver => match h[k]? with
    | some ob => if ob.ver = ver then (match ks.idxOf? k with | some i => .osl i 0 | none => .top) else .top
    | none => .top
  | .optr k ver a b => match h[k]? with
    | some ob => if ob.ver = ver then (match ks.idxOf? k with | some i => .optr i 0 a b | none => .top) else .top
    | none => .top
  | .pin k ver u => match h[k]? with
    | some ob => if ob.ver = ver then (match ks.idxOf? k with | some i => .pin i 0 u | none => .top) else .top
    | none => .top
  | .osub _ _ _ _ | .agg _ | .tup _ | .fn _ _ | .gd _ _ => .top
  | x => x
def rn1 (h : List Ob) (ks : List Nat) : X → X
  | .agg cs => .agg (cs.map (rn0 h ks))
  | x => rn0 h ks x
def rn2 (h : List Ob) (ks : List Nat) : X → X
  | .tup xs => .tup (xs.map (rn1 h ks))
  | x => rn1 h ks x
def pickObs (h : List Ob) (ks : List Nat) : List Ob := ks.map fun k => { (h[k]?).getD ⟨0, 0, 0, [], false, false, none⟩ with ver := 0 }
def pickOk (h : List Ob) (ks : List Nat) : Prop :=
  ks.Nodup ∧ ∀ k ∈ ks, ((h[k]?).map fun ob => ob.live && ob.rows.all fun r => r.all (ok0 0)) = some true

theorem pick_get {h : List Ob} {ks : List Nat} (hp : pickOk h ks) {i : Nat} {ob : Ob} (hi : (pickObs h ks)[i]? = some ob) : ∃ k ob', ks[i]? = some k ∧ h[k]? = some ob' ∧ ob = { ob' with ver := 0 } ∧ ob'.live = true ∧ ∀ r ∈ ob'.rows, ∀ x ∈ r, ok0 0 x = true := by
  unfold pickObs at hi
  rw [List.getElem?_map] at hi
  cases hk : ks[i]? with
  | none => rw [hk] at hi; cases hi
  | some k =>
    rw [hk] at hi
    have hq := hp.2 k (List.mem_of_getElem? hk)
    cases ho : h[k]? with
    | none => rw [ho] at hq; cases hq
    | some ob' =>
      rw [ho] at hq
      simp only [Option.map_some, Option.some.injEq, Bool.and_eq_true, List.all_eq_true] at hq
      simp only [Option.map_some, Option.some.injEq, Option.getD_some, ho] at hi
      exact ⟨k, ob', rfl, ho, hi.symm, hq.1, hq.2⟩

def Pl.pick (β : Pl) (h : List Ob) (ks : List Nat) : Pl :=
  ⟨fun i ver => if ver = 0 then (match ks[i]? with | some k => (match h[k]? with | some ob => β.val k ob.ver | Option.none => Option.none) | Option.none => Option.none) else Option.none,
   fun i => match ks[i]? with | some k => β.sz k | Option.none => 0⟩

theorem Pl.pick_val {β : Pl} {h : List Ob} {ks : List Nat} {i k : Nat} {ob : Ob} (h1 : ks[i]? = some k) (h2 : h[k]? = some ob) : (β.pick h ks).val i 0 = β.val k ob.ver := by simp [Pl.pick, h1, h2]

theorem pick_own {h : List Ob} {β : Pl} {ks : List Nat} (hp : pickOk h ks) {b : Nat} (ho : Owned (pickObs h ks) (β.pick h ks) b) : Owned h β b := by
  obtain ⟨i, ob, u, hi, hl, hu, hb⟩ := ho
  obtain ⟨k, ob', hk, hob, rfl, hl', _⟩ := pick_get hp hi
  rw [Pl.pick_val hk hob] at hu
  exact ⟨k, ob', u, hob, hl', hu, hb⟩

/-- the picked objects, in another context -/
theorem HRel.pickG {c c' : Cx} {h : List Ob} {β : Pl} {w : World} (ks : List Nat) (hp : pickOk h ks) (H : HRel c h β w)
    (hst : ∀ b, Stab c.w0 c.S0 h β w b → Stab c'.w0 c'.S0 (pickObs h ks) (β.pick h ks) w b) (hfrm : Frm c'.w0 c'.M w)
    (hown : ∀ b, Owned (pickObs h ks) (β.pick h ks) b → c'.w0.heap.size ≤ b ∨ c'.M b) (hst0 : ∀ b, c'.S0 b → b < c'.w0.heap.size ∧ ¬ c'.M b) (hamb : Amb c'.w0 c'.S0 c'.A) :
    HRel c' (pickObs h ks) (β.pick h ks) w ∧ (∀ ob ∈ pickObs h ks, ob.live = true) ∧ ∀ u x, Rep w (Stab c.w0 c.S0 h β w) β u x → Rep w (Stab c'.w0 c'.S0 (pickObs h ks) (β.pick h ks) w) (β.pick h ks) u (rn1 h ks x) := by
  have hval : ∀ i k ob, ks[i]? = some k → h[k]? = some ob → (β.pick h ks).val i 0 = β.val k ob.ver := fun i k ob h1 h2 => Pl.pick_val h1 h2
  have hsz : ∀ i k, ks[i]? = some k → (β.pick h ks).sz i = β.sz k := fun i k h1 => by simp [Pl.pick, h1]
  have pur : ∀ {u x}, Rep w (Stab c.w0 c.S0 h β w) β u x → ok0 0 x = true → Rep w (Stab c'.w0 c'.S0 (pickObs h ks) (β.pick h ks) w) (β.pick h ks) u x := fun hr ho =>
    (hr.cut0 hst ho).mono (fun _ h => h) (fun _ _ => rfl) (fun _ _ _ h => by simp [Pl.cut] at h)
  have hidx : ∀ {i k}, ks.idxOf? k = some i → ks[i]? = some k := by
    intro i k hi
    obtain ⟨hlt, he, _⟩ := List.idxOf?_eq_some_iff.1 hi
    rw [List.getElem?_eq_getElem hlt]
    simpa using he
  have r0 : ∀ {u x}, Rep w (Stab c.w0 c.S0 h β w) β u x → Rep w (Stab c'.w0 c'.S0 (pickObs h ks) (β.pick h ks) w) (β.pick h ks) u (rn0 h ks x) := by
    intro u x hr
    cases x with
    | osl k ver =>
      obtain ⟨hu, h1⟩ := hr.inv_osl
      simp only [rn0]
      split
      · rename_i ob hk
        split
        · rename_i hver
          split
          · rename_i i hi
            exact .osl i 0 u (by rw [hval i k ob (hidx hi) hk, hver]; exact hu) h1
          · exact .top _
        · exact .top _
      · exact .top _
    | optr k ver a b =>
      obtain ⟨g, v, hv, hg, rfl⟩ := hr.inv_optr
      simp only [rn0]
      split
      · rename_i ob hk
        split
        · rename_i hver
          split
          · rename_i i hi
            have := Rep.optr (w := w) (S := Stab c'.w0 c'.S0 (pickObs h ks) (β.pick h ks) w) (β := β.pick h ks) i 0 a b g v (by rw [hval i k ob (hidx hi) hk, hver]; exact hv) hg
            rw [hsz i k (hidx hi)] at this
            exact this
          · exact .top _
        · exact .top _
      · exact .top _
    | pin k ver v =>
      simp only [rn0]
      split
      · rename_i ob hk
        split
        · rename_i hver
          split
          · rename_i i hi
            refine .pin _ i 0 v ?_
            rw [hval i k ob (hidx hi) hk, hver]
            cases hr with
            | pin _ _ _ _ h => exact h
          · exact .top _
        · exact .top _
      · exact .top _
    | top => exact pur hr rfl
    | v y => exact pur hr rfl
    | sl r => exact pur hr rfl
    | pt r => exact pur hr rfl
    | _ => exact .top _
  have r1 : ∀ {u x}, Rep w (Stab c.w0 c.S0 h β w) β u x → Rep w (Stab c'.w0 c'.S0 (pickObs h ks) (β.pick h ks) w) (β.pick h ks) u (rn1 h ks x) := by
    intro u x hr
    cases x with
    | agg xs =>
      obtain ⟨cs, rfl, hlen, h1, hrep⟩ := hr.inv_agg
      refine .agg _ _ (by simpa using hlen) h1 fun j x c' hx hc => ?_
      rw [List.getElem?_map] at hx
      cases hj : xs[j]? with
      | none => rw [hj] at hx; cases hx
      | some y => rw [hj] at hx; injection hx with hx; subst hx; exact r0 (hrep j y c' hj hc)
    | _ => exact r0 hr
  refine ⟨⟨fun i ob hi => ?_, ?_, ?_, ?_, hfrm, fun b ho => ⟨(H.own b (pick_own hp ho)).1, hown b ho⟩, hst0, hamb⟩, ?_, ?_⟩
  · obtain ⟨k, ob', hk, hob, rfl, hl', hok⟩ := pick_get hp hi
    obtain ⟨h1, h2, u, hu, hs, hc⟩ := H.objs k ob' hob
    refine ⟨by simp [Pl.pick, hk, h1], h2, u, by rw [hval i k ob' hk hob]; exact hu, hs, fun i' j x hx => ?_⟩
    obtain ⟨g, cc, hg, hcell, h1c, hr⟩ := hc i' j x hx
    refine ⟨g, cc, hg, hcell, h1c, pur hr ?_⟩
    unfold at2 at hx
    cases hri : ob'.rows[i']? with
    | none => rw [hri] at hx; cases hx
    | some r => rw [hri] at hx; exact hok r (List.mem_of_getElem? hri) x (List.mem_of_getElem? hx)
  · intro i i' ob1 ob2 u1 u2 b hi hi' hu1 hu2 hb1 hb2
    obtain ⟨k1, o1, hk1, ho1, rfl, _⟩ := pick_get hp hi
    obtain ⟨k2, o2, hk2, ho2, rfl, _⟩ := pick_get hp hi'
    rw [hval i k1 o1 hk1 ho1] at hu1
    rw [hval i' k2 o2 hk2 ho2] at hu2
    have := H.inj k1 k2 o1 o2 u1 u2 b ho1 ho2 hu1 hu2 hb1 hb2
    subst this
    exact (List.getElem?_inj (List.getElem?_eq_some_iff.1 hk1).1 hp.1).1 (hk1.trans hk2.symm)
  · intro i ob ver hi hlt
    obtain ⟨k, ob', hk, hob, rfl, _⟩ := pick_get hp hi
    have : ver ≠ 0 := by simp at hlt; omega
    simp [Pl.pick, this]
  · intro i ver hi
    simp only [pickObs, List.length_map] at hi
    simp [Pl.pick, List.getElem?_eq_none hi]
  · intro ob hob
    obtain ⟨i, hi⟩ := List.getElem?_of_mem hob
    obtain ⟨_, _, _, _, rfl, hl', _⟩ := pick_get hp hi
    exact hl'
  · exact fun u x hr => r1 hr

theorem HRel.pick {c : Cx} {h : List Ob} {β : Pl} {w : World} (ks : List Nat) (hp : pickOk h ks) (H : HRel c h β w) : HRel c (pickObs h ks) (β.pick h ks) w ∧ (∀ ob ∈ pickObs h ks, ob.live = true) ∧ ∀ u x, Rep w (Stab c.w0 c.S0 h β w) β u x → Rep w (Stab c.w0 c.S0 (pickObs h ks) (β.pick h ks) w) (β.pick h ks) u (rn1 h ks x) :=
  H.pickG (c' := c) ks hp (fun _ hs => ⟨hs.1, hs.2.1, fun ho => hs.2.2 (pick_own hp ho)⟩) H.frm (fun b ho => (H.own b (pick_own hp ho)).2) H.st0 H.amb

/-! ### a callee that writes -/
structure MFun where
  mu : List Bool
  pre : List X → List Ob → Prop
  res : List X → List Ob → X × List Ob

/-- an object after the call: the same place -/
def sameOb (ob ob' : Ob) : Prop := ob'.ty = ob.ty ∧ ob'.sz = ob.sz ∧ ob'.bx = ob.bx ∧ ob'.ver = 0 ∧ ob'.mp = ob.mp

def GenMA (A : List (Nat × List X)) (P : Program) (f : Nat) (F : MFun) : Prop :=
  (∀ args w, (callFunc f args).run P w = .ok (.enter f args) w) ∧
  ∀ (w : World) (S : Nat → Prop) (β : Pl) (obs : List Ob) (vs : Array Value) (xs : List X), F.pre xs obs → vs.size = xs.length → HRel ⟨w, S, fun b => Owned obs β b, A⟩ obs β w → (∀ ob ∈ obs, ob.live = true ∧ ob.ver = 0) →
    (∀ (j : Nat) x v, xs[j]? = some x → vs[j]? = some v → Rep w (Stab w S obs β w) β v x) →
    Calls P f vs w fun e w' => ∃ v β', e = .returned v ∧ HRel ⟨w, S, fun b => Owned obs β b, A⟩ (F.res xs obs).2 β' w' ∧ (∀ ob ∈ (F.res xs obs).2, ob.live = true) ∧
      (∀ (k : Nat) ob, obs[k]? = some ob → ∃ ob', (F.res xs obs).2[k]? = some ob' ∧ sameOb ob ob' ∧ β'.val k 0 = β.val k 0) ∧
      Rep w' (Stab w S (F.res xs obs).2 β' w') β' v (F.res xs obs).1

def GenM (P : Program) (f : Nat) (F : MFun) : Prop := GenMA [] P f F

def pickA : List X → List Nat
  | .osl k _ :: xs => k :: pickA xs
  | _ :: xs => pickA xs
  | [] => []
def pickK : List Bool → List X → List Nat
  | true :: fs, .agg cs :: xs => pickA cs ++ pickK fs xs
  | true :: fs, .osl k _ :: xs => k :: pickK fs xs
  | true :: fs, .optr k _ _ _ :: xs => k :: pickK fs xs
  | _ :: fs, _ :: xs => pickK fs xs
  | _, _ => []

def mArgs (h : List Ob) (ks : List Nat) : List Bool → List X → List X
  | _, [] => []
  | true :: fs, x :: xs => rn1 h ks x :: mArgs h ks fs xs
  | false :: fs, x :: xs => purN h 3 x :: mArgs h ks fs xs
  | [], x :: xs => purN h 3 x :: mArgs h ks [] xs
def mPure : List Bool → List X → Bool
  | _, [] => true
  | true :: fs, _ :: xs => mPure fs xs
  | false :: fs, x :: xs => isPure x && mPure fs xs
  | [], x :: xs => isPure x && mPure [] xs

theorem mArgs_get {h : List Ob} {ks : List Nat} : ∀ {fs : List Bool} {xs : List X} {j : Nat} {x' : X}, mPure fs xs = true → (mArgs h ks fs xs)[j]? = some x' → ∃ x, xs[j]? = some x ∧ (x' = rn1 h ks x ∨ (x' = purN h 3 x ∧ isPure x = true))
  | _, [], j, x', _, hx => by simp [mArgs] at hx
  | true :: fs, x :: xs, 0, x', _, hx => by simp [mArgs] at hx; exact ⟨x, rfl, .inl hx.symm⟩
  | true :: fs, x :: xs, j + 1, x', hp, hx => by simp [mArgs] at hx; exact mArgs_get (fs := fs) (xs := xs) (by simpa [mPure] using hp) hx
  | false :: fs, x :: xs, 0, x', hp, hx => by simp [mArgs] at hx; simp [mPure] at hp; exact ⟨x, rfl, .inr ⟨hx.symm, hp.1⟩⟩
  | false :: fs, x :: xs, j + 1, x', hp, hx => by simp [mArgs] at hx; simp [mPure] at hp; exact mArgs_get (fs := fs) (xs := xs) hp.2 hx
  | [], x :: xs, 0, x', hp, hx => by simp [mArgs] at hx; simp [mPure] at hp; exact ⟨x, rfl, .inr ⟨hx.symm, hp.1⟩⟩
  | [], x :: xs, j + 1, x', hp, hx => by simp [mArgs] at hx; simp [mPure] at hp; exact mArgs_get (fs := []) (xs := xs) hp.2 hx
theorem mArgs_len {h : List Ob} {ks : List Nat} : ∀ (fs : List Bool) (xs : List X), (mArgs h ks fs xs).length = xs.length
  | _, [] => by simp [mArgs]
  | true :: fs, x :: xs => by simp [mArgs, mArgs_len fs xs]
  | false :: fs, x :: xs => by simp [mArgs, mArgs_len fs xs]
  | [], x :: xs => by simp [mArgs, mArgs_len [] xs]

/-- the callee's references, as the caller's -/
def verOf (h : List Ob) (k : Nat) : Nat := match h[k]? with | some ob => ob.ver | none => 0
def rb0 (h : List Ob) (ks : List Nat) : X → X
  | .osl i ver => match ks[i]? with
    | some k => if ver = 0 then .osl k (verOf h k) else .top
    | none => .osl (h.length + (i - ks.length)) ver
  | .optr i ver a b => match ks[i]? with
    | some k => if ver = 0 then .optr k (verOf h k) a b else .top
    | none => .optr (h.length + (i - ks.length)) ver a b
  | .osub _ _ _ _ | .fn _ _ | .agg _ | .tup _ | .gd _ _ | .pin _ _ _ => .top
  | x => x
def rb1 (h : List Ob) (ks : List Nat) : X → X
  | .agg cs => .agg (cs.map (rb0 h ks))
  | x => rb0 h ks x
def rb2 (h : List Ob) (ks : List Nat) : X → X
  | .tup xs => .tup (xs.map (rb1 h ks))
  | x => rb1 h ks x
def rbR (h : List Ob) (ks : List Nat) (rows : List (List X)) : List (List X) := rows.map fun r => r.map (rb0 h ks)
def rbOb (h : List Ob) (ks : List Nat) (ob : Ob) : Ob := { ob with rows := rbR h ks ob.rows }
def setObs (g : List (List X) → List (List X)) : List Ob → List Nat → List Ob → List Ob
  | h, k :: ks, ob :: obs => setObs g (h.set k { (h[k]?).getD ⟨0, 0, 0, [], false, false, none⟩ with rows := g ob.rows }) ks obs
  | h, _, _ => h

theorem setObs_get (g : List (List X) → List (List X)) : ∀ (ks : List Nat) (h obs : List Ob), ks.Nodup → ks.length ≤ obs.length → (∀ k ∈ ks, k < h.length) →
    (setObs g h ks obs).length = h.length ∧ (∀ k, k ∉ ks → (setObs g h ks obs)[k]? = h[k]?) ∧ ∀ (i k : Nat) o ob, ks[i]? = some k → h[k]? = some o → obs[i]? = some ob → (setObs g h ks obs)[k]? = some { o with rows := g ob.rows }
  | [], h, obs, _, _, _ => by
    have e : setObs g h [] obs = h := by cases obs <;> rfl
    rw [e]
    exact ⟨rfl, fun _ _ => rfl, fun i k o ob hk => by simp at hk⟩
  | k0 :: ks, h, [], _, hl, _ => by simp at hl
  | k0 :: ks, h, ob0 :: obs, hn, hl, hlt => by
    simp only [List.nodup_cons] at hn
    have hk0 : k0 < h.length := hlt k0 (by simp)
    obtain ⟨h1, h2, h3⟩ := setObs_get g ks (h.set k0 { (h[k0]?).getD ⟨0, 0, 0, [], false, false, none⟩ with rows := g ob0.rows }) obs hn.2 (by simpa using hl) (fun k hk => by rw [List.length_set]; exact hlt k (List.mem_cons_of_mem _ hk))
    rw [List.length_set] at h1
    refine ⟨h1, fun k hk => ?_, fun i k o ob hi ho hob => ?_⟩
    · simp only [List.mem_cons, not_or] at hk
      show (setObs g _ ks obs)[k]? = _
      rw [h2 k hk.2, List.getElem?_set_ne (Ne.symm hk.1)]
    · show (setObs g _ ks obs)[k]? = _
      cases i with
      | zero =>
        simp at hi hob
        subst hi hob
        rw [h2 k0 hn.1, List.getElem?_set_self hk0, ho]
        rfl
      | succ i =>
        simp at hi hob
        have hne : k0 ≠ k := fun e => hn.1 (by rw [e]; exact List.mem_of_getElem? hi)
        exact h3 i k o ob hi (by rw [List.getElem?_set_ne hne]; exact ho) hob

def eCallM (s : St) (F : MFun) (args : List X) : Eff :=
  ⟨pickOk s.h (pickK F.mu args) ∧ mPure F.mu args = true ∧ F.pre (mArgs s.h (pickK F.mu args) F.mu args) (pickObs s.h (pickK F.mu args)),
    rb2 s.h (pickK F.mu args) (F.res (mArgs s.h (pickK F.mu args) F.mu args) (pickObs s.h (pickK F.mu args))).1,
    setObs (rbR s.h (pickK F.mu args)) s.h (pickK F.mu args) (F.res (mArgs s.h (pickK F.mu args) F.mu args) (pickObs s.h (pickK F.mu args))).2 ++
      ((F.res (mArgs s.h (pickK F.mu args) F.mu args) (pickObs s.h (pickK F.mu args))).2.drop (pickK F.mu args).length).map (rbOb s.h (pickK F.mu args))⟩

def Pl.back (β β' : Pl) (n m : Nat) : Pl := ⟨fun k ver => if k < n then β.val k ver else β'.val (k - n + m) ver, fun k => if k < n then β.sz k else β'.sz (k - n + m)⟩

/-- the caller's objects after the callee wrote to some of them -/
theorem HRel.back {c : Cx} {h obs' : List Ob} {β β' : Pl} {w w' : World} {ks : List Nat} (hp : pickOk h ks) (H : HRel c h β w)
    {A : List (Nat × List X)} (H' : HRel ⟨w, Stab c.w0 c.S0 h β w, fun b => Owned (pickObs h ks) (β.pick h ks) b, A⟩ obs' β' w') (hlive : ∀ ob ∈ obs', ob.live = true)
    (hsame : ∀ (k : Nat) ob, (pickObs h ks)[k]? = some ob → ∃ ob', obs'[k]? = some ob' ∧ sameOb ob ob' ∧ β'.val k 0 = (β.pick h ks).val k 0) :
    HRel c (setObs (rbR h ks) h ks obs' ++ (obs'.drop ks.length).map (rbOb h ks)) (β.back β' h.length ks.length) w' ∧
    (∀ u x, Rep w (Stab c.w0 c.S0 h β w) β u x → Rep w' (Stab c.w0 c.S0 (setObs (rbR h ks) h ks obs' ++ (obs'.drop ks.length).map (rbOb h ks)) (β.back β' h.length ks.length) w') (β.back β' h.length ks.length) u x) ∧
    (∀ u x, Rep w' (Stab w (Stab c.w0 c.S0 h β w) obs' β' w') β' u x → Rep w' (Stab c.w0 c.S0 (setObs (rbR h ks) h ks obs' ++ (obs'.drop ks.length).map (rbOb h ks)) (β.back β' h.length ks.length) w') (β.back β' h.length ks.length) u (rb0 h ks x)) := by
  have hks : ∀ k ∈ ks, ∃ o, h[k]? = some o ∧ o.live = true := by
    intro k hk
    have := hp.2 k hk
    cases ho : h[k]? with
    | none => rw [ho] at this; cases this
    | some o =>
      rw [ho] at this
      simp only [Option.map_some, Option.some.injEq, Bool.and_eq_true] at this
      exact ⟨o, rfl, this.1⟩
  have hlt : ∀ k ∈ ks, k < h.length := fun k hk => by
    obtain ⟨o, ho, _⟩ := hks k hk
    exact (List.getElem?_eq_some_iff.1 ho).1
  have hpk : ∀ {i k o}, ks[i]? = some k → h[k]? = some o → ∃ ob', obs'[i]? = some ob' ∧ ob'.ty = o.ty ∧ ob'.sz = o.sz ∧ ob'.bx = o.bx ∧ ob'.ver = 0 ∧ ob'.mp = o.mp ∧ β'.val i 0 = β.val k o.ver := by
    intro i k o hi ho
    have hg : (pickObs h ks)[i]? = some { o with ver := 0 } := by simp [pickObs, hi, ho]
    obtain ⟨ob', h1, ⟨h2, h3, h4, h5, h7⟩, h6⟩ := hsame i _ hg
    exact ⟨ob', h1, h2, h3, h4, h5, h7, by rw [h6, Pl.pick_val hi ho]⟩
  have hlen : ks.length ≤ obs'.length := by
    rcases Nat.eq_zero_or_pos ks.length with h0 | h0
    · omega
    · have hi : ks[ks.length - 1]? = some (ks[ks.length - 1]'(by omega)) := List.getElem?_eq_getElem (by omega)
      obtain ⟨o, ho, _⟩ := hks _ (List.mem_of_getElem? hi)
      obtain ⟨ob', h1, _⟩ := hpk hi ho
      have := (List.getElem?_eq_some_iff.1 h1).1
      omega
  obtain ⟨g1, g2, g3⟩ := setObs_get (rbR h ks) ks h obs' hp.1 hlen hlt
  have hsz := H'.frm.size
  have hle : β.le (β.back β' h.length ks.length) := by
    intro k ver v hv
    have hk : k < h.length := by
      rcases Nat.lt_or_ge k h.length with h1 | h1
      · exact h1
      · rw [H.dom k ver h1] at hv; cases hv
    exact ⟨by simp [Pl.back, hk, hv], by simp [Pl.back, hk]⟩
  have hvl : ∀ k ver, k < h.length → (β.back β' h.length ks.length).val k ver = β.val k ver := fun k ver hk => by simp [Pl.back, hk]
  have hvr : ∀ k ver, h.length ≤ k → (β.back β' h.length ks.length).val k ver = β'.val (k - h.length + ks.length) ver := fun k ver hk => by simp [Pl.back, Nat.not_lt.2 hk]
  have hget : ∀ {k ob}, (setObs (rbR h ks) h ks obs' ++ (obs'.drop ks.length).map (rbOb h ks))[k]? = some ob →
      (k ∉ ks ∧ k < h.length ∧ h[k]? = some ob) ∨ (∃ (i : Nat) (o ob' : Ob), ks[i]? = some k ∧ k < h.length ∧ h[k]? = some o ∧ obs'[i]? = some ob' ∧ ob = { o with rows := rbR h ks ob'.rows }) ∨
      ∃ ob', h.length ≤ k ∧ obs'[k - h.length + ks.length]? = some ob' ∧ ob = rbOb h ks ob' := by
    intro k ob hk
    rcases Nat.lt_or_ge k h.length with hl | hge
    · rw [List.getElem?_append_left (by omega)] at hk
      by_cases hm : k ∈ ks
      · obtain ⟨i, hi⟩ := List.getElem?_of_mem hm
        obtain ⟨o, ho, _⟩ := hks k hm
        obtain ⟨ob', h1, _⟩ := hpk hi ho
        rw [g3 i k o ob' hi ho h1] at hk
        injection hk with hk
        exact .inr (.inl ⟨i, o, ob', hi, hl, ho, h1, hk.symm⟩)
      · rw [g2 k hm] at hk
        exact .inl ⟨hm, hl, hk⟩
    · rw [List.getElem?_append_right (by omega), List.getElem?_map, List.getElem?_drop, g1] at hk
      rw [Nat.add_comm] at hk
      cases ho : obs'[k - h.length + ks.length]? with
      | none => rw [ho] at hk; cases hk
      | some ob' => rw [ho] at hk; injection hk with hk; exact .inr (.inr ⟨ob', hge, rfl, hk.symm⟩)
  -- the blocks of the callee's objects: new, or of those handed over
  have hnew : ∀ {i ob u b}, obs'[i]? = some ob → β'.val i ob.ver = some u → blk u = some b → w.heap.size ≤ b ∨ Owned (pickObs h ks) (β.pick h ks) b := by
    intro i ob u b hi hu hb
    exact (H'.own b ⟨i, ob, u, hi, hlive ob (List.mem_of_getElem? hi), hu, hb⟩).2
  -- a block of an object that stays is not among those handed over
  have hnot : ∀ {k o u b}, k ∉ ks → h[k]? = some o → β.val k o.ver = some u → blk u = some b → ¬ Owned (pickObs h ks) (β.pick h ks) b := by
    rintro k o u b hk ho hu hb ⟨i, ob, u', hi, _, hu', hb'⟩
    obtain ⟨k', o', hk', ho', rfl, _⟩ := pick_get hp hi
    rw [Pl.pick_val hk' ho'] at hu'
    have := H.inj k k' o o' u u' b ho ho' hu hu' hb hb'
    subst this
    exact hk (List.mem_of_getElem? hk')
  have hown : ∀ {b}, Owned (setObs (rbR h ks) h ks obs' ++ (obs'.drop ks.length).map (rbOb h ks)) (β.back β' h.length ks.length) b → (Owned h β b ∧ ¬ Owned (pickObs h ks) (β.pick h ks) b) ∨ Owned obs' β' b := by
    rintro b ⟨k, ob, u, hk, hl, hu, hb⟩
    rcases hget hk with ⟨hm, hlt', hk'⟩ | ⟨i, o, ob', hi, hlt', ho, hob, rfl⟩ | ⟨ob', hge, hob, rfl⟩
    · rw [hvl k _ hlt'] at hu
      exact .inl ⟨⟨k, ob, u, hk', hl, hu, hb⟩, hnot hm hk' hu hb⟩
    · rw [hvl k _ hlt'] at hu
      obtain ⟨ob2, a1, _, _, _, a5, amp, a6⟩ := hpk hi ho
      rw [hob] at a1; injection a1 with a1; subst a1
      exact .inr ⟨i, ob', u, hob, hlive _ (List.mem_of_getElem? hob), by rw [a5, a6]; exact hu, hb⟩
    · rw [hvr k _ hge] at hu
      exact .inr ⟨_, ob', u, hob, hl, hu, hb⟩
  have hst : ∀ b, Stab w (Stab c.w0 c.S0 h β w) obs' β' w' b → Stab c.w0 c.S0 (setObs (rbR h ks) h ks obs' ++ (obs'.drop ks.length).map (rbOb h ks)) (β.back β' h.length ks.length) w' b := by
    rintro b ⟨h1, h2, h3⟩
    refine ⟨h1, ?_, fun ho => ?_⟩
    · rcases h2 with h2 | h2
      · exact h2.2.1
      · exact .inr (Nat.le_trans H.frm.size h2)
    · rcases hown ho with ⟨h4, _⟩ | h4
      · rcases h2 with h2 | h2
        · exact h2.2.2 h4
        · have := (H.own b h4).1
          have h2' : w.heap.size ≤ b := h2
          omega
      · exact h3 h4
  have tr : ∀ u x, Rep w (Stab c.w0 c.S0 h β w) β u x → Rep w' (Stab c.w0 c.S0 (setObs (rbR h ks) h ks obs' ++ (obs'.drop ks.length).map (rbOb h ks)) (β.back β' h.length ks.length) w') (β.back β' h.length ks.length) u x := fun u x hr =>
    hr.mono (fun b hs => ⟨Nat.lt_of_lt_of_le hs.1 hsz, hs.2.1, fun ho => by
      rcases hown ho with ⟨h1, _⟩ | ⟨i, ob, u, hi, hl, hu, hb⟩
      · exact hs.2.2 h1
      · rcases hnew hi hu hb with h1 | h1
        · have := hs.1; omega
        · exact hs.2.2 (pick_own hp h1)⟩) (fun b hs => H'.frm.block b hs.1 fun ho => hs.2.2 (pick_own hp ho)) hle
  have hK : ∀ {i k o}, ks[i]? = some k → h[k]? = some o → verOf h k = o.ver ∧ (β.back β' h.length ks.length).val k o.ver = β'.val i 0 ∧ (β.back β' h.length ks.length).sz k = β'.sz i := by
    intro i k o hi ho
    obtain ⟨ob', a1, _, a3, _, a5, amp, a6⟩ := hpk hi ho
    have hl := hlt k (List.mem_of_getElem? hi)
    refine ⟨by simp [verOf, ho], by rw [hvl k _ hl, a6], ?_⟩
    obtain ⟨b1, _⟩ := H'.objs i ob' a1
    obtain ⟨b2, _⟩ := H.objs k o ho
    rw [b1, a3]
    simp [Pl.back, hl, b2]
  have hN : ∀ {i}, ks[i]? = none → (∀ ver, (β.back β' h.length ks.length).val (h.length + (i - ks.length)) ver = β'.val i ver) ∧ (β.back β' h.length ks.length).sz (h.length + (i - ks.length)) = β'.sz i := by
    intro i hi
    have hi' : ks.length ≤ i := List.getElem?_eq_none_iff.1 hi
    have e : h.length + (i - ks.length) - h.length + ks.length = i := by omega
    refine ⟨fun ver => by rw [hvr _ _ (by omega), e], ?_⟩
    simp only [Pl.back]
    rw [if_neg (by omega), e]
  have r0 : ∀ u x, Rep w' (Stab w (Stab c.w0 c.S0 h β w) obs' β' w') β' u x → Rep w' (Stab c.w0 c.S0 (setObs (rbR h ks) h ks obs' ++ (obs'.drop ks.length).map (rbOb h ks)) (β.back β' h.length ks.length) w') (β.back β' h.length ks.length) u (rb0 h ks x) := by
    intro u x hr
    cases hr with
    | top u => exact .top u
    | v _ h => exact .v _ h
    | nil a c => exact .nil a c
    | sl ad cc sz rows cs hcap hs hz hc h1 hr => exact .sl ad cc sz rows cs hcap (hst _ hs) hz hc h1 fun i j x hx => (hr i j x hx).mono hst (fun _ _ => rfl) (Pl.le_refl _)
    | pt ad cells cs hs hc h1 hr => exact .pt ad cells cs (hst _ hs) hc h1 fun j x hx => (hr j x hx).mono hst (fun _ _ => rfl) (Pl.le_refl _)
    | agg => exact .top _
    | tup => exact .top _
    | fn => exact .top _
    | gd => exact .top _
    | pin => exact .top _
    | osub => exact .top _
    | osub0 => exact .top _
    | osl i ver u hu h1 =>
      simp only [rb0]
      split
      · rename_i k hi
        split
        · rename_i hv
          subst hv
          obtain ⟨o, ho, _⟩ := hks k (List.mem_of_getElem? hi)
          obtain ⟨e1, e2, _⟩ := hK hi ho
          exact .osl _ _ u (by rw [e1, e2]; exact hu) h1
        · exact .top _
      · rename_i hi
        exact .osl _ _ u (by rw [(hN hi).1]; exact hu) h1
    | optr i ver a b g u hu hg =>
      simp only [rb0]
      split
      · rename_i k hi
        split
        · rename_i hv
          subst hv
          obtain ⟨o, ho, _⟩ := hks k (List.mem_of_getElem? hi)
          obtain ⟨e1, e2, e3⟩ := hK hi ho
          rw [← e3]
          exact .optr _ _ _ _ g u (by rw [e1, e2]; exact hu) hg
        · exact .top _
      · rename_i hi
        rw [← (hN hi).2]
        exact .optr _ _ _ _ g u (by rw [(hN hi).1]; exact hu) hg
  have hat : ∀ {rows : List (List X)} {i j : Nat} {x : X}, at2 (rbR h ks rows) i j = some x → ∃ y, at2 rows i j = some y ∧ x = rb0 h ks y := by
    intro rows i j x hx
    simp only [at2, rbR, List.getElem?_map] at hx ⊢
    cases hri : rows[i]? with
    | none => rw [hri] at hx; cases hx
    | some r =>
      rw [hri] at hx
      simp only [Option.map_some, Option.bind_some, List.getElem?_map] at hx ⊢
      cases hrj : r[j]? with
      | none => rw [hrj] at hx; cases hx
      | some y => rw [hrj] at hx; injection hx with hx; exact ⟨y, rfl, hx.symm⟩
  have hrl : ∀ {rows : List (List X)} {z : Nat}, (∀ r ∈ rows, r.length = z) → ∀ r ∈ rbR h ks rows, r.length = z := by
    intro rows z hz r hr
    simp only [rbR, List.mem_map] at hr
    obtain ⟨r', hr', rfl⟩ := hr
    simpa using hz r' hr'
  refine ⟨⟨fun k ob hk => ?_, ?_, ?_, ?_, ?_, ?_, H.st0, H.amb⟩, tr, r0⟩
  · rcases hget hk with ⟨hm, hl, hk'⟩ | ⟨i, o, ob', hi, hl, ho, hob, rfl⟩ | ⟨ob', hge, hob, rfl⟩
    · obtain ⟨h1, h2, u', hu', hs, hc⟩ := H.objs k ob hk'
      have hbk : ∀ b, blk u' = some b → w'.heap[b]? = w.heap[b]? := fun b hb => H'.frm.block b (hs.blk_lt hb) (hnot hm hk' hu' hb)
      refine ⟨by simp [Pl.back, hl, h1], h2, u', by rw [hvl k _ hl]; exact hu', hs.keep hbk, fun i j x hx => ?_⟩
      obtain ⟨g, cc, hg, hcell, h1c, hr⟩ := hc i j x hx
      exact ⟨g, cc, hg, by rw [World.cell?_of_block (w := w) (hbk g hg)]; exact hcell, h1c, tr _ _ hr⟩
    · obtain ⟨ob2, a1, a2, a3, a4, a5, amp, a6⟩ := hpk hi ho
      rw [hob] at a1; injection a1 with a1; subst a1
      obtain ⟨h1, h2, u', hu', hs, hc⟩ := H'.objs i ob' hob
      obtain ⟨b1, _⟩ := H.objs k o ho
      have hz : ob'.sz = o.sz := a3
      refine ⟨by simp [Pl.back, hl, b1], fun r hr => by rw [← hz]; exact hrl h2 r hr, u', ?_, ?_, fun i' j x hx => ?_⟩
      · rw [hvl k _ hl]
        show β.val k o.ver = some u'
        rw [← a6, ← a5]; exact hu'
      · rcases hs with ⟨e1, e2, e3⟩ | ⟨g, es, ck, l, e0, e1, e2, e3, e4, e5⟩ | ⟨g, cap, cur, b1, b2, b3, b4, b5⟩
        · exact .inl ⟨e1, by simp [rbR, e2], by rw [← a4]; exact e3⟩
        · exact .inr (.inl ⟨g, es, ck, l, e0, by rw [← amp]; exact e1, by simp [rbR, e2], by rw [← a4]; exact e3, e4, e5⟩)
        · refine .inr (.inr ⟨g, cap, cur, by rw [← a2]; exact b1, by rw [← hz]; exact b2, by simpa [rbR] using b3, b4, ?_⟩)
          show if o.bx = true then _ else _
          rw [← a4]
          simpa [rbR] using b5
      · obtain ⟨y, hy, rfl⟩ := hat hx
        obtain ⟨g, cc, hg, hcell, h1c, hr⟩ := hc i' j y hy
        exact ⟨g, cc, hg, by rw [← hz]; exact hcell, h1c, r0 _ _ hr⟩
    · obtain ⟨h1, h2, u', hu', hs, hc⟩ := H'.objs _ ob' hob
      refine ⟨by simp [Pl.back, Nat.not_lt.2 hge, h1, rbOb], hrl h2, u', by rw [hvr k _ hge]; exact hu', ?_, fun i j x hx => ?_⟩
      · rcases hs with ⟨e1, e2, e3⟩ | ⟨g, es, ck, l, e0, e1, e2, e3, e4, e5⟩ | ⟨g, cap, cur, a1, a2, a3, a4, a5⟩
        · exact .inl ⟨e1, by simp [rbOb, rbR, e2], e3⟩
        · exact .inr (.inl ⟨g, es, ck, l, e0, e1, by simp [rbOb, rbR, e2], e3, e4, e5⟩)
        · exact .inr (.inr ⟨g, cap, cur, a1, a2, by simpa [rbOb, rbR] using a3, a4, by simpa [rbOb, rbR] using a5⟩)
      · obtain ⟨y, hy, rfl⟩ := hat hx
        obtain ⟨g, cc, hg, hcell, h1c, hr⟩ := hc i j y hy
        exact ⟨g, cc, hg, hcell, h1c, r0 _ _ hr⟩
  · -- no two share a block
    have key : ∀ {k ob u b}, (setObs (rbR h ks) h ks obs' ++ (obs'.drop ks.length).map (rbOb h ks))[k]? = some ob → (β.back β' h.length ks.length).val k ob.ver = some u → blk u = some b →
        (k ∉ ks ∧ k < h.length ∧ ∃ o, h[k]? = some o ∧ β.val k o.ver = some u) ∨ ∃ i ob', obs'[i]? = some ob' ∧ β'.val i ob'.ver = some u ∧ ((ks[i]? = some k ∧ k < h.length) ∨ (ks.length ≤ i ∧ k = i - ks.length + h.length)) := by
      intro k ob u b hk hu hb
      rcases hget hk with ⟨hm, hl, hk'⟩ | ⟨i, o, ob', hi, hl, ho, hob, rfl⟩ | ⟨ob', hge, hob, rfl⟩
      · exact .inl ⟨hm, hl, ob, hk', by rwa [hvl k _ hl] at hu⟩
      · obtain ⟨ob2, a1, _, _, _, a5, amp, a6⟩ := hpk hi ho
        rw [hob] at a1; injection a1 with a1; subst a1
        rw [hvl k _ hl] at hu
        exact .inr ⟨i, ob', hob, by rw [a5, a6]; exact hu, .inl ⟨hi, hl⟩⟩
      · rw [hvr k _ hge] at hu
        exact .inr ⟨_, ob', hob, hu, .inr ⟨by omega, by omega⟩⟩
    intro k k' ob1 ob2 u1 u2 b hk hk' hu1 hu2 hb1 hb2
    rcases key hk hu1 hb1 with ⟨hm1, hl1, o1, ho1, hv1⟩ | ⟨i1, p1, hp1, hv1, hk1⟩ <;> rcases key hk' hu2 hb2 with ⟨hm2, hl2, o2, ho2, hv2⟩ | ⟨i2, p2, hp2, hv2, hk2⟩
    · exact H.inj k k' o1 o2 u1 u2 b ho1 ho2 hv1 hv2 hb1 hb2
    · exfalso
      have h1 := H.blk_lt ho1 hv1 hb1
      rcases hnew hp2 hv2 hb2 with h2 | h2
      · omega
      · exact hnot hm1 ho1 hv1 hb1 h2
    · exfalso
      have h1 := H.blk_lt ho2 hv2 hb2
      rcases hnew hp1 hv1 hb1 with h2 | h2
      · omega
      · exact hnot hm2 ho2 hv2 hb2 h2
    · have e := H'.inj i1 i2 p1 p2 u1 u2 b hp1 hp2 hv1 hv2 hb1 hb2
      subst e
      rcases hk1 with ⟨a1, a2⟩ | ⟨a1, a2⟩ <;> rcases hk2 with ⟨c1, c2⟩ | ⟨c1, c2⟩
      · rw [a1] at c1; injection c1
      · rw [List.getElem?_eq_none c1] at a1; cases a1
      · rw [List.getElem?_eq_none a1] at c1; cases c1
      · omega
  · intro k ob ver hk hlt'
    rcases hget hk with ⟨hm, hl, hk'⟩ | ⟨i, o, ob', hi, hl, ho, hob, rfl⟩ | ⟨ob', hge, hob, rfl⟩
    · rw [hvl k _ hl]; exact H.cur k ob ver hk' hlt'
    · rw [hvl k _ hl]; exact H.cur k o ver ho hlt'
    · rw [hvr k _ hge]; exact H'.cur _ ob' ver hob hlt'
  · intro k ver hk
    rw [List.length_append, g1, List.length_map, List.length_drop] at hk
    rw [hvr k _ (by omega)]; exact H'.dom _ _ (by omega)
  · refine ⟨H'.frm.os.trans H.frm.os, H'.frm.tape.trans H.frm.tape, H'.frm.output.trans H.frm.output, Nat.le_trans H.frm.size hsz, fun b h1 h2 => ?_⟩
    rw [H'.frm.block b (Nat.lt_of_lt_of_le h1 H.frm.size) fun ho => ?_]
    · exact H.frm.block b h1 h2
    · rcases (H.own b (pick_own hp ho)).2 with h3 | h3
      · omega
      · exact h2 h3
  · intro b ho
    rcases hown ho with ⟨h1, _⟩ | h1
    · exact ⟨Nat.lt_of_lt_of_le (H.own b h1).1 hsz, (H.own b h1).2⟩
    · refine ⟨(H'.own b h1).1, ?_⟩
      rcases (H'.own b h1).2 with h2 | h2
      · exact .inl (Nat.le_trans H.frm.size h2)
      · exact (H.own b (pick_own hp h2)).2

theorem callM_does {P : Program} {c : Cx} {s : St} {β : Pl} {w : World} {f : Nat} {F : MFun} (hF : GenMA c.A P f F) {vs : Array Value} {xs : List X} (H : HRel c s.h β w) (hl : vs.size = xs.length)
    (hr : ∀ (j : Nat) x v, xs[j]? = some x → vs[j]? = some v → Rep w (Stab c.w0 c.S0 s.h β w) β v x) (hc : (eCallM s F xs).cond) :
    Calls P f vs w fun e w' => ∃ v β', e = .returned v ∧ HRel c (eCallM s F xs).h β' w' ∧ (∀ u x, Rep w (Stab c.w0 c.S0 s.h β w) β u x → Rep w' (Stab c.w0 c.S0 (eCallM s F xs).h β' w') β' u x) ∧
      Rep w' (Stab c.w0 c.S0 (eCallM s F xs).h β' w') β' v (eCallM s F xs).val := by
  obtain ⟨hp, hpu, hpre⟩ := hc
  obtain ⟨q1, q2, q3⟩ := H.pickG (c' := ⟨w, Stab c.w0 c.S0 s.h β w, fun b => Owned (pickObs s.h (pickK F.mu xs)) (β.pick s.h (pickK F.mu xs)) b, c.A⟩) (pickK F.mu xs) hp
    (fun b hs => ⟨hs.1, .inl hs, fun ho => hs.2.2 (pick_own hp ho)⟩) (Frm.refl _ _) (fun b ho => .inr ho) (fun b hb => ⟨hb.1, fun ho => hb.2.2 (pick_own hp ho)⟩) H.ambNow
  refine (hF.2 w (Stab c.w0 c.S0 s.h β w) (β.pick s.h (pickK F.mu xs)) _ vs _ hpre (by rw [mArgs_len]; exact hl) q1 (fun ob hob => ⟨q2 ob hob, ?_⟩) (fun j x v hx hv => ?_)).mono ?_
  · simp only [pickObs, List.mem_map] at hob
    obtain ⟨k, _, rfl⟩ := hob
    rfl
  · obtain ⟨y, hy, h⟩ := mArgs_get hpu hx
    rcases h with rfl | ⟨rfl, hpy⟩
    · exact q3 _ _ (hr j y v hy hv)
    · exact (pure_rep (hr j y v hy hv) hpy).mono (fun b hs => ⟨hs.1, .inl hs, fun ho => hs.2.2 (pick_own hp ho)⟩) (fun _ _ => rfl) (Pl.none_le _)
  · rintro e w' ⟨v, β', rfl, h1, h2, h3, h4⟩
    obtain ⟨g1, g2, g3⟩ := H.back hp h1 h2 h3
    refine ⟨v, _, rfl, g1, g2, ?_⟩
    have r1 : ∀ u x, Rep w' (Stab w (Stab c.w0 c.S0 s.h β w) (F.res (mArgs s.h (pickK F.mu xs) F.mu xs) (pickObs s.h (pickK F.mu xs))).2 β' w') β' u x → Rep w' (Stab c.w0 c.S0 (eCallM s F xs).h (β.back β' s.h.length (pickK F.mu xs).length) w') (β.back β' s.h.length (pickK F.mu xs).length) u (rb1 s.h (pickK F.mu xs) x) := by
      intro u x hx
      cases x with
      | agg ys =>
        obtain ⟨cs, rfl, hlen, h1, hrep⟩ := hx.inv_agg
        refine .agg _ _ (by simpa using hlen) h1 fun j x c' hx hc => ?_
        rw [List.getElem?_map] at hx
        cases hj : ys[j]? with
        | none => rw [hj] at hx; cases hx
        | some y => rw [hj] at hx; injection hx with hx; subst hx; exact g3 _ _ (hrep j y c' hj hc)
      | _ => exact g3 _ _ hx
    show Rep _ _ _ _ (rb2 _ _ _)
    generalize (F.res (mArgs s.h (pickK F.mu xs) F.mu xs) (pickObs s.h (pickK F.mu xs))).1 = y at h4
    cases y with
    | tup ys =>
      obtain ⟨cs, rfl, hlen, hrep⟩ := h4.inv_tup
      refine .tup _ _ (by simpa using hlen) fun j x c' hx hc => ?_
      rw [List.getElem?_map] at hx
      cases hj : ys[j]? with
      | none => rw [hj] at hx; cases hx
      | some y => rw [hj] at hx; injection hx with hx; subst hx; exact r1 _ _ (hrep j y c' hj hc)
    | _ => exact r1 _ _ h4

end Go.Abs
