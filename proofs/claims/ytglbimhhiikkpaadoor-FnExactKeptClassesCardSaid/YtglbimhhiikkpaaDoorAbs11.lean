/-
  What is proved here: how the objects that a callee hands back join the caller's. Condition: none beyond the contract's.
-/
import Derived.Test.YtglbimhhiikkpaaDoorAbs10
namespace Go.Abs
open Go.RowKit

/-! ### pure values; values without memory -/
def isP0 : X → Bool
  | .v _ | .sl _ | .pt _ | .top => true
  | _ => false
def isPure : X → Bool
  | .agg cs => cs.all isP0
  | .fn _ cs => cs.all isP0
  | x => isP0 x
def mf0 : X → Bool
  | .v _ | .top | .osl _ _ | .osub _ _ _ _ | .optr _ _ _ _ => true
  | .sl rows => rows.isEmpty
  | _ => false
def mf1 : X → Bool
  | .agg cs => cs.all mf0
  | x => mf0 x
def mf2 : X → Bool
  | .tup xs => xs.all mf1
  | x => mf1 x
def mfObs (obs : List Ob) : Bool := obs.all fun ob => ob.rows.all fun r => r.all mf0

/-! ### shifting references -/
def sh0 (n : Nat) : X → X
  | .osl k ver => .osl (k + n) ver
  | .osub k ver o l => .osub (k + n) ver o l
  | .optr k ver i j => .optr (k + n) ver i j
  | .fn _ _ | .agg _ | .tup _ | .gd _ _ | .pin _ _ _ => .top
  | x => x
def sh1 (n : Nat) : X → X
  | .agg cs => .agg (cs.map (sh0 n))
  | x => sh0 n x
def sh2 (n : Nat) : X → X
  | .tup xs => .tup (xs.map (sh1 n))
  | x => sh1 n x
def shOb (n : Nat) (ob : Ob) : Ob := { ob with rows := ob.rows.map fun r => r.map (sh0 n) }

def Pl.join (β β' : Pl) (n : Nat) : Pl := ⟨fun k ver => if k < n then β.val k ver else β'.val (k - n) ver, fun k => if k < n then β.sz k else β'.sz (k - n)⟩

/-- nothing but references and plain values: S does not matter -/
theorem rep_mf0 {w : World} {S S' : Nat → Prop} {β : Pl} {u : Value} {x : X} (h : Rep w S β u x) (hm : mf0 x = true) : Rep w S' β u x := by
  cases h with
  | top u => exact .top u
  | v _ h => exact .v _ h
  | nil a c => exact .nil a c
  | sl ad c sz rows cs hcap hs hz hc h1 hr =>
    simp only [mf0, List.isEmpty_iff] at hm
    subst hm
    exact .nil _ _
  | osl k ver u h h1 => exact .osl k ver u h h1
  | osub k ver off len g c n cap hcap h => exact .osub k ver off len g c n cap hcap h
  | osub0 k ver off a c => exact .osub0 k ver off a c
  | optr k ver i j g u h hg => exact .optr k ver i j g u h hg
  | _ => simp [mf0] at hm

theorem rep_sh0 {w : World} {S : Nat → Prop} {β β' : Pl} {n : Nat} {u : Value} {x : X} (h : Rep w S β' u x) : Rep w S (β.join β' n) u (sh0 n x) := by
  have hval : ∀ k ver, (β.join β' n).val (k + n) ver = β'.val k ver := fun k ver => by simp only [Pl.join]; rw [if_neg (by omega), Nat.add_sub_cancel]
  have hsz : ∀ k, (β.join β' n).sz (k + n) = β'.sz k := fun k => by simp only [Pl.join]; rw [if_neg (by omega), Nat.add_sub_cancel]
  cases h with
  | top u => exact .top u
  | v _ h => exact .v _ h
  | nil a c => exact .nil a c
  | sl ad c sz rows cs hcap hs hz hc h1 hr => exact .sl ad c sz rows cs hcap hs hz hc h1 hr
  | pt ad cells cs hs hc h1 hr => exact .pt ad cells cs hs hc h1 hr
  | agg => exact .top _
  | tup => exact .top _
  | fn => exact .top _
  | gd => exact .top _
  | pin => exact .top _
  | osl k ver u h h1 => exact .osl _ _ u (by rw [hval]; exact h) h1
  | osub k ver off len g c nn cap hcap h =>
    have := Rep.osub (w := w) (S := S) (β := β.join β' n) (k + n) ver off len g c nn cap hcap (by rw [hval]; exact h)
    rw [hsz] at this; exact this
  | osub0 k ver off a c => exact .osub0 _ _ _ _ _
  | optr k ver i j g u h hg =>
    have := Rep.optr (w := w) (S := S) (β := β.join β' n) (k + n) ver i j g u (by rw [hval]; exact h) hg
    rw [hsz] at this; exact this

theorem rep_sh1 {w : World} {S : Nat → Prop} {β β' : Pl} {n : Nat} {u : Value} {x : X} (h : Rep w S β' u x) : Rep w S (β.join β' n) u (sh1 n x) := by
  cases x with
  | agg cs =>
    obtain ⟨cs', rfl, hl, h1, hr⟩ := h.inv_agg
    refine .agg _ _ (by simpa using hl) h1 fun j x c hx hc => ?_
    rw [List.getElem?_map] at hx
    cases hj : cs[j]? with
    | none => rw [hj] at hx; cases hx
    | some y => rw [hj] at hx; injection hx with hx; subst hx; exact rep_sh0 (hr j y c hj hc)
  | _ => exact rep_sh0 h
theorem rep_sh2 {w : World} {S : Nat → Prop} {β β' : Pl} {n : Nat} {u : Value} {x : X} (h : Rep w S β' u x) : Rep w S (β.join β' n) u (sh2 n x) := by
  cases x with
  | tup cs =>
    obtain ⟨cs', rfl, hl, hr⟩ := h.inv_tup
    refine .tup _ _ (by simpa using hl) fun j x c hx hc => ?_
    rw [List.getElem?_map] at hx
    cases hj : cs[j]? with
    | none => rw [hj] at hx; cases hx
    | some y => rw [hj] at hx; injection hx with hx; subst hx; exact rep_sh1 (hr j y c hj hc)
  | _ => exact rep_sh1 h
theorem rep_mf1 {w : World} {S S' : Nat → Prop} {β : Pl} {u : Value} {x : X} (h : Rep w S β u x) (hm : mf1 x = true) : Rep w S' β u x := by
  cases x with
  | agg cs =>
    obtain ⟨cs', rfl, hl, h1, hr⟩ := h.inv_agg
    simp only [mf1, List.all_eq_true] at hm
    exact .agg _ _ hl h1 fun j x c hx hc => rep_mf0 (hr j x c hx hc) (hm x (List.mem_of_getElem? hx))
  | _ => exact rep_mf0 h hm
theorem rep_mf2 {w : World} {S S' : Nat → Prop} {β : Pl} {u : Value} {x : X} (h : Rep w S β u x) (hm : mf2 x = true) : Rep w S' β u x := by
  cases x with
  | tup cs =>
    obtain ⟨cs', rfl, hl, hr⟩ := h.inv_tup
    simp only [mf2, List.all_eq_true] at hm
    exact .tup _ _ hl fun j x c hx hc => rep_mf1 (hr j x c hx hc) (hm x (List.mem_of_getElem? hx))
  | _ => exact rep_mf1 h hm

theorem frm_below {w w' : World} (h : Frm w (fun _ => False) w') : Below w.heap.size w w' := ⟨h.os, h.tape, h.output, h.size, fun k hk => h.block k hk (fun h => h)⟩

/-- the callee's objects join the caller's -/
theorem HRel.join {c : Cx} {h obs : List Ob} {β β' : Pl} {w w' : World} {S : Nat → Prop} {A : List (Nat × List X)} (H : HRel c h β w) (H' : HRel ⟨w, S, fun _ => False, A⟩ obs β' w') (hlive : ∀ ob ∈ obs, ob.live = true)
    (hS : (∀ b, S b → Stab c.w0 c.S0 h β w b) ∨ mfObs obs = true) :
    HRel c (h ++ obs.map (shOb h.length)) (β.join β' h.length) w' ∧ (∀ u x, Rep w (Stab c.w0 c.S0 h β w) β u x → Rep w' (Stab c.w0 c.S0 (h ++ obs.map (shOb h.length)) (β.join β' h.length) w') (β.join β' h.length) u x) ∧
      ((∀ b, S b → Stab c.w0 c.S0 h β w b) → ∀ b, Stab w S obs β' w' b → Stab c.w0 c.S0 (h ++ obs.map (shOb h.length)) (β.join β' h.length) w' b) := by
  have hb := frm_below H'.frm
  have hle : β.le (β.join β' h.length) := by
    intro k ver v hv
    have hk : k < h.length := by
      rcases Nat.lt_or_ge k h.length with h1 | h1
      · exact h1
      · rw [H.dom k ver h1] at hv; cases hv
    exact ⟨by simp [Pl.join, hk, hv], by simp [Pl.join, hk]⟩
  have hget : ∀ {k ob}, (h ++ obs.map (shOb h.length))[k]? = some ob → (k < h.length ∧ h[k]? = some ob) ∨ ∃ ob', h.length ≤ k ∧ obs[k - h.length]? = some ob' ∧ ob = shOb h.length ob' := by
    intro k ob hk
    rcases Nat.lt_or_ge k h.length with hlt | hge
    · exact .inl ⟨hlt, by rwa [List.getElem?_append_left hlt] at hk⟩
    · rw [List.getElem?_append_right hge, List.getElem?_map] at hk
      cases ho : obs[k - h.length]? with
      | none => rw [ho] at hk; cases hk
      | some ob' => rw [ho] at hk; injection hk with hk; exact .inr ⟨ob', hge, rfl, hk.symm⟩
  have hvl : ∀ k ver, k < h.length → (β.join β' h.length).val k ver = β.val k ver := fun k ver hk => by simp [Pl.join, hk]
  have hvr : ∀ k ver, h.length ≤ k → (β.join β' h.length).val k ver = β'.val (k - h.length) ver := fun k ver hk => by simp [Pl.join, Nat.not_lt.2 hk]
  -- the blocks of the callee's objects are new
  have hnew : ∀ k ob u b, obs[k]? = some ob → β'.val k ob.ver = some u → blk u = some b → w.heap.size ≤ b := by
    intro k ob u b hk hu hbl
    rcases (H'.own b ⟨k, ob, u, hk, hlive ob (List.mem_of_getElem? hk), hu, hbl⟩).2 with h1 | h1
    · exact h1
    · exact h1.elim
  have hown : ∀ b, Owned (h ++ obs.map (shOb h.length)) (β.join β' h.length) b → Owned h β b ∨ (w.heap.size ≤ b ∧ Owned obs β' b) := by
    rintro b ⟨k, ob, u, hk, hl, hu, hbl⟩
    rcases hget hk with ⟨hlt, hk'⟩ | ⟨ob', hge, hk', rfl⟩
    · exact .inl ⟨k, ob, u, hk', hl, by rwa [hvl k _ hlt] at hu, hbl⟩
    · have hu' : β'.val (k - h.length) ob'.ver = some u := by rwa [hvr k _ hge] at hu
      exact .inr ⟨hnew _ ob' u b hk' hu' hbl, _, ob', u, hk', hl, hu', hbl⟩
  have tr : ∀ u x, Rep w (Stab c.w0 c.S0 h β w) β u x → Rep w' (Stab c.w0 c.S0 (h ++ obs.map (shOb h.length)) (β.join β' h.length) w') (β.join β' h.length) u x := fun u x hr =>
    hr.mono (fun b hs => ⟨Nat.lt_of_lt_of_le hs.1 hb.size, hs.2.1, fun ho => by
      rcases hown b ho with h1 | ⟨h1, _⟩
      · exact hs.2.2 h1
      · have := hs.1; omega⟩) (fun b hs => hb.block b hs.1) hle
  have hst : (∀ b, S b → Stab c.w0 c.S0 h β w b) → ∀ b, Stab w S obs β' w' b → Stab c.w0 c.S0 (h ++ obs.map (shOb h.length)) (β.join β' h.length) w' b := by
    intro hS b ⟨h1, h2, h3⟩
    refine ⟨h1, ?_, fun ho => ?_⟩
    · rcases h2 with h2 | h2
      · exact (hS b h2).2.1
      · exact .inr (Nat.le_trans H.frm.size h2)
    · rcases hown b ho with h4 | ⟨_, h4⟩
      · rcases h2 with h2 | h2
        · exact (hS b h2).2.2 h4
        · have := (H.own b h4).1
          have h2' : w.heap.size ≤ b := h2
          omega
      · exact h3 h4
  refine ⟨⟨fun k ob hk => ?_, ?_, ?_, ?_, H.frm.below hb, ?_, H.st0, H.amb⟩, tr, hst⟩
  · rcases hget hk with ⟨hlt, hk'⟩ | ⟨ob', hge, hk', rfl⟩
    · obtain ⟨h1, h2, u', hu', hs, hc⟩ := H.objs k ob hk'
      refine ⟨by simp [Pl.join, hlt, h1], h2, u', by rw [hvl k _ hlt]; exact hu', hs.keep fun b hbu => hb.block b (hs.blk_lt hbu), fun i j x hx => ?_⟩
      obtain ⟨g, cc, hg, hcell, h1c, hr⟩ := hc i j x hx
      exact ⟨g, cc, hg, by rw [World.cell?_of_block (w := w) (hb.block g (hs.blk_lt hg))]; exact hcell, h1c, tr _ _ hr⟩
    · obtain ⟨h1, h2, u', hu', hs, hc⟩ := H'.objs _ ob' hk'
      refine ⟨by simp [Pl.join, Nat.not_lt.2 hge, h1, shOb], ?_, u', by rw [hvr k _ hge]; exact hu', ?_, fun i j x hx => ?_⟩
      · intro r hr
        simp only [shOb, List.mem_map] at hr
        obtain ⟨r', hr', rfl⟩ := hr
        simpa [shOb] using h2 r' hr'
      · rcases hs with ⟨e1, e2, e3⟩ | ⟨g, es, ck, l, e0, e1, e2, e3, e4, e5⟩ | ⟨g, cap, cur, a1, a2, a3, a4, a5⟩
        · exact .inl ⟨e1, by simp [shOb, e2], e3⟩
        · exact .inr (.inl ⟨g, es, ck, l, e0, e1, by simp [shOb, e2], e3, e4, e5⟩)
        · exact .inr (.inr ⟨g, cap, cur, a1, a2, by simpa [shOb] using a3, a4, by simpa [shOb] using a5⟩)
      · have hat : ∃ y, at2 ob'.rows i j = some y ∧ x = sh0 h.length y := by
          simp only [at2, shOb, List.getElem?_map] at hx ⊢
          cases hri : ob'.rows[i]? with
          | none => rw [hri] at hx; cases hx
          | some r =>
            rw [hri] at hx
            simp only [Option.map_some, Option.bind_some, List.getElem?_map] at hx ⊢
            cases hrj : r[j]? with
            | none => rw [hrj] at hx; cases hx
            | some y => rw [hrj] at hx; injection hx with hx; exact ⟨y, rfl, hx.symm⟩
        obtain ⟨y, hy, rfl⟩ := hat
        obtain ⟨g, cc, hg, hcell, h1c, hr⟩ := hc i j y hy
        refine ⟨g, cc, hg, hcell, h1c, rep_sh0 ?_⟩
        rcases hS with hS | hS
        · exact hr.mono (hst hS) (fun _ _ => rfl) (Pl.le_refl _)
        · refine rep_mf0 hr ?_
          simp only [mfObs, List.all_eq_true] at hS
          unfold at2 at hy
          cases hri : ob'.rows[i]? with
          | none => rw [hri] at hy; cases hy
          | some r =>
            rw [hri] at hy
            exact hS ob' (List.mem_of_getElem? hk') r (List.mem_of_getElem? hri) y (List.mem_of_getElem? hy)
  · intro k k' ob1 ob2 u1 u2 b hk hk' hu1 hu2 hb1 hb2
    rcases hget hk with ⟨hlt, hk1⟩ | ⟨o1, hge, hk1, rfl⟩ <;> rcases hget hk' with ⟨hlt', hk2⟩ | ⟨o2, hge', hk2, rfl⟩
    · rw [hvl _ _ hlt] at hu1; rw [hvl _ _ hlt'] at hu2
      exact H.inj k k' ob1 ob2 u1 u2 b hk1 hk2 hu1 hu2 hb1 hb2
    · exfalso
      rw [hvl _ _ hlt] at hu1; rw [hvr _ _ hge'] at hu2
      have := H.blk_lt hk1 hu1 hb1
      have := hnew _ o2 u2 b hk2 hu2 hb2
      omega
    · exfalso
      rw [hvl _ _ hlt'] at hu2; rw [hvr _ _ hge] at hu1
      have := H.blk_lt hk2 hu2 hb2
      have := hnew _ o1 u1 b hk1 hu1 hb1
      omega
    · rw [hvr _ _ hge] at hu1; rw [hvr _ _ hge'] at hu2
      have := H'.inj _ _ o1 o2 u1 u2 b hk1 hk2 hu1 hu2 hb1 hb2
      omega
  · intro k ob ver hk hlt
    rcases hget hk with ⟨hl, hk'⟩ | ⟨ob', hge, hk', rfl⟩
    · rw [hvl k _ hl]; exact H.cur k ob ver hk' hlt
    · rw [hvr k _ hge]; exact H'.cur _ ob' ver hk' hlt
  · intro k ver hk
    simp at hk
    rw [hvr k _ (by omega)]; exact H'.dom _ _ (by omega)
  · intro b ho
    rcases hown b ho with h1 | ⟨h1, h2⟩
    · exact ⟨Nat.lt_of_lt_of_le (H.own b h1).1 hb.size, (H.own b h1).2⟩
    · exact ⟨(H'.own b h2).1, .inl (Nat.le_trans H.frm.size h1)⟩

/-! ### the effect of a call -/
def eCall (s : St) (F : Fun) (args : List X) : Eff :=
  ⟨F.pre (args.map (purN s.h 3)) ∧ (args.all isPure = true ∨ (mf2 (F.res (args.map (purN s.h 3))).1 = true ∧ mfObs (F.res (args.map (purN s.h 3))).2 = true)),
    sh2 s.h.length (F.res (args.map (purN s.h 3))).1, s.h ++ (F.res (args.map (purN s.h 3))).2.map (shOb s.h.length)⟩

/-- a pure value lies on stable blocks alone -/
theorem pure_rep {c : Cx} {h : List Ob} {β : Pl} {w : World} {n : Nat} {u : Value} {x : X} (hr : Rep w (Stab c.w0 c.S0 h β w) β u x) (hp : isPure x = true) : Rep w (Stab c.w0 c.S0 h β w) Pl.none u (purN h (n + 1) x) := by
  have p0 : ∀ {u x} (m : Nat), Rep w (Stab c.w0 c.S0 h β w) β u x → isP0 x = true → Rep w (Stab c.w0 c.S0 h β w) Pl.none u (purN h m x) := by
    intro u x m hr hp
    cases x with
    | v y =>
      obtain ⟨rfl, hpl⟩ := hr.inv_v
      cases m <;> exact purV_rep hpl
    | top => cases m <;> exact .top _
    | sl r => cases m <;> exact hr.cut0 (fun _ h => h) (n := 0) rfl |>.mono (fun _ h => h) (fun _ _ => rfl) (fun _ _ _ h => by simp [Pl.cut] at h)
    | pt r => cases m <;> exact hr.cut0 (fun _ h => h) (n := 0) rfl |>.mono (fun _ h => h) (fun _ _ => rfl) (fun _ _ _ h => by simp [Pl.cut] at h)
    | _ => simp [isP0] at hp
  cases x with
  | agg cells =>
    obtain ⟨cs, rfl, hl, h1, hrep⟩ := hr.inv_agg
    simp only [isPure, List.all_eq_true] at hp
    refine .agg cs _ (by simpa using hl) h1 fun j x c hx hc => ?_
    rw [List.getElem?_map] at hx
    cases hj : cells[j]? with
    | none => rw [hj] at hx; cases hx
    | some y =>
      rw [hj] at hx
      injection hx with hx
      subst hx
      exact p0 n (hrep j y c hj hc) (hp y (List.mem_of_getElem? hj))
  | fn f cap =>
    obtain ⟨cs, rfl, hl, hrep⟩ := hr.inv_fn
    simp only [isPure, List.all_eq_true] at hp
    refine .fn f cs _ (by simpa using hl) fun j x c hx hc => ?_
    rw [List.getElem?_map] at hx
    cases hj : cap[j]? with
    | none => rw [hj] at hx; cases hx
    | some y =>
      rw [hj] at hx
      injection hx with hx
      subst hx
      exact p0 n (hrep j y c hj hc) (hp y (List.mem_of_getElem? hj))
  | _ => exact p0 (n + 1) hr hp

theorem call_does {P : Program} {c : Cx} {s : St} {β : Pl} {w : World} {f : Nat} {F : Fun} (hF : GenCA c.A P f F) {vs : Array Value} {xs : List X} (H : HRel c s.h β w) (hl : vs.size = xs.length)
    (hr : ∀ (j : Nat) x v, xs[j]? = some x → vs[j]? = some v → Rep w (Stab c.w0 c.S0 s.h β w) β v x) (hc : (eCall s F xs).cond) :
    Calls P f vs w fun e w' => ∃ v β', e = .returned v ∧ HRel c (eCall s F xs).h β' w' ∧ (∀ u x, Rep w (Stab c.w0 c.S0 s.h β w) β u x → Rep w' (Stab c.w0 c.S0 (eCall s F xs).h β' w') β' u x) ∧
      Rep w' (Stab c.w0 c.S0 (eCall s F xs).h β' w') β' v (eCall s F xs).val := by
  obtain ⟨hpre, hmode⟩ := hc
  by_cases hp : xs.all isPure = true
  · rw [List.all_eq_true] at hp
    refine (hF.2 w (Stab c.w0 c.S0 s.h β w) vs _ hpre (by simpa using hl) (fun j x v hx hv => ?_) (fun b hb => hb.1) H.ambNow).mono ?_
    · rw [List.getElem?_map] at hx
      cases hj : xs[j]? with
      | none => rw [hj] at hx; cases hx
      | some y =>
        rw [hj] at hx
        injection hx with hx
        subst hx
        exact pure_rep (hr j y v hj hv) (hp y (List.mem_of_getElem? hj))
    · rintro e w' ⟨v, β', rfl, h1, h2, h3⟩
      obtain ⟨g1, g2, g3⟩ := H.join h1 h2 (.inl fun _ h => h)
      exact ⟨v, _, rfl, g1, g2, rep_sh2 (h3.mono (g3 fun _ h => h) (fun _ _ => rfl) (Pl.le_refl _))⟩
  · obtain ⟨m1, m2⟩ := hmode.resolve_left hp
    refine (hF.2 w (SPlus c s.h β w) vs _ hpre (by simpa using hl) (fun j x v hx hv => ?_) (fun b hb => hb.1) (fun p hp => ⟨(H.ambNow p hp).1.mono (fun b hb => ⟨hb.1, .inl hb⟩) (fun _ _ => rfl) (Pl.le_refl _), (H.ambNow p hp).2⟩)).mono ?_
    · rw [List.getElem?_map] at hx
      cases hj : xs[j]? with
      | none => rw [hj] at hx; cases hx
      | some y =>
        rw [hj] at hx
        injection hx with hx
        subst hx
        exact pur_rep H 3 (hr j y v hj hv)
    · rintro e w' ⟨v, β', rfl, h1, h2, h3⟩
      obtain ⟨g1, g2, _⟩ := H.join h1 h2 (.inr m2)
      exact ⟨v, _, rfl, g1, g2, rep_sh2 (rep_mf2 h3 m1)⟩

end Go.Abs
