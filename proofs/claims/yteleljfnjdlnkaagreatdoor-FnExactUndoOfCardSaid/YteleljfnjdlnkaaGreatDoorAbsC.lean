/-
  What is proved here: a run of operations one behind the other, in every related world. Condition: the contracts of the callees.
  What is proved here: a region that draws its order gives, in whatever order, what it gives in the order of its text. Condition: a check of the region's text.
  What is proved here: a region that draws its order and makes or changes memory in a chain of operations gives, in whatever order, what it gives in one order. Condition: a check of the region's text.
  What is proved here: the predicate 'awp' on abstract states is sound for whole bodies of functions, and gives contracts. Condition: the contracts of the callees.
  What is proved here: contracts of functions out of 'awp'. Condition: the contracts of the callees.
-/
import Derived.Test.YteleljfnjdlnkaaGreatDoorAbsB
set_option linter.unusedVariables false
set_option linter.unnecessarySimpa false
namespace Go.Abs
open Go.RowKit

def upd (f : Nat → X) (d : Nat) (x : X) : Nat → X := fun t => if t = d then x else f t
def St.put (s : St) (d : Option Nat) (x : X) (h : List Ob) : St :=
  match d with
  | some d => ⟨s.n, upd s.t d x, h⟩
  | none => ⟨s.n, s.t, h⟩
def dok (s : St) : Option Nat → Prop
  | some d => d < s.n
  | none => True
def gval (ops : Array Oper) (s : St) (j : Nat) : X :=
  match (ops[j]?).bind (·.dst) with
  | some d => s.t d
  | none => .top

def Eff.use (e : Eff) (k : X → List Ob → Prop) : Prop := e.cond ∧ k e.val e.h
theorem Eff.use_mk (c : Prop) (v : X) (h : List Ob) (k : X → List Ob → Prop) : Eff.use ⟨c, v, h⟩ k = (c ∧ k v h) := rfl
def Eff.useG (e : Eff) (es : List (Bool × Bool)) (h0 : List Ob) (k : X → Prop) : Prop := (allT es → e.cond ∧ e.h = h0) ∧ k (.gd es e.val)
theorem Eff.useG_mk (c : Prop) (v : X) (h : List Ob) (es : List (Bool × Bool)) (h0 : List Ob) (k : X → Prop) : Eff.useG ⟨c, v, h⟩ es h0 k = ((allT es → c ∧ h = h0) ∧ k (.gd es v)) := rfl

/-- the tests on which an operation hangs that is guarded by this value -/
def gl (want : Bool) : X → Option (List (Bool × Bool))
  | .v (.bool p) => some [(p, want)]
  | .gd es (.v (.bool p)) => some (es ++ [(p, want)])
  | _ => none
def guardP (x : X) (want : Bool) (k : List (Bool × Bool) → Prop) : Prop :=
  match gl want x with
  | some es => k es
  | none => False
theorem allT_append (es fs : List (Bool × Bool)) : allT (es ++ fs) ↔ allT es ∧ allT fs := by
  induction es with
  | nil => simp [allT]
  | cons e es ih => simp [allT, ih, and_assoc]

def rgW (P : Program) (E : Env) (ops : Array Oper) : List Oper → St → (St → Prop) → Prop
  | [], s, K => K s
  | o :: rest, s, K =>
    match o.guard with
    | none => dok s o.dst ∧ (aop P E s o.op).use fun v h => rgW P E ops rest (s.put o.dst v h) K
    | some (j, want) => guardP (gval ops s j) want fun es => dok s o.dst ∧ (aop P E (s.un es) o.op).useG es s.h fun v => rgW P E ops rest (s.put o.dst v s.h) K

theorem Rel.put {c : Cx} {s : St} {β β' : Pl} {a : Act} {w w' : World} {h' : List Ob} {x : X} {v : Value} (d : Option Nat) (H : Rel c s β a w) (hd : dok s d) (h1 : HRel c h' β' w')
    (h2 : ∀ u x, Rep w (Stab c.w0 c.S0 s.h β w) β u x → Rep w' (Stab c.w0 c.S0 h' β' w') β' u x) (h3 : Rep w' (Stab c.w0 c.S0 h' β' w') β' v x) : Rel c (s.put d x h') β' (a.put d v) w' := by
  obtain ⟨r1, r2, _, r4⟩ := H
  cases d with
  | none => exact ⟨r1, r2, h1, fun t => h2 _ _ (r4 t)⟩
  | some d =>
    refine ⟨r1, by show (a.tmps.setIfInBounds d v).size = s.n; simpa using r2, h1, fun t => ?_⟩
    have hd' : d < a.tmps.size := by rw [r2]; exact hd
    show Rep _ _ _ ((a.tmps.setIfInBounds d v).getD t undef) (upd s.t d x t)
    unfold upd
    by_cases ht : t = d
    · subst ht
      rw [if_pos rfl]
      have : (a.tmps.setIfInBounds t v).getD t undef = v := by simp [Array.getD_eq_getD_getElem?, hd']
      rw [this]; exact h3
    · rw [if_neg ht]
      have : (a.tmps.setIfInBounds d v).getD t undef = a.tmps.getD t undef := by
        simp only [Array.getD_eq_getD_getElem?]
        rw [Array.getElem?_setIfInBounds_ne (Ne.symm ht)]
      rw [this]; exact h2 _ _ (r4 t)

theorem Rep.inv_gd {w : World} {S : Nat → Prop} {β : Pl} {u : Value} {es : List (Bool × Bool)} {x : X} (h : Rep w S β u (.gd es x)) : (allT es → Rep w S β u x) ∧ (¬ allT es → u = undef) := by
  cases h with
  | gd _ _ _ h1 h2 => exact ⟨h1, h2⟩
theorem yielded_of {c : Cx} {s : St} {β : Pl} {a : Act} {w : World} (H : Rel c s β a w) {ops : Array Oper} {j : Nat} {want : Bool} {es : List (Bool × Bool)} (hg : gl want (gval ops s j) = some es) : (allT es → yielded ops a.tmps j = some want) ∧ (¬ allT es → yielded ops a.tmps j ≠ some want) := by
  unfold gval at hg
  unfold yielded
  cases hd : (ops[j]?).bind (·.dst) with
  | none => rw [hd] at hg; cases hg
  | some d =>
    rw [hd] at hg
    have hr := H.2.2.2 d
    dsimp only at hg
    have bool : ∀ p, a.tmps.getD d undef = .bool p → a.tmps[d]? = some (.bool p) := by
      intro p hv
      rw [Array.getD_eq_getD_getElem?] at hv
      cases h : a.tmps[d]? with
      | none => rw [h] at hv; simp [undef] at hv
      | some y => rw [h] at hv; simpa using hv
    generalize hx : s.t d = x at hg hr
    unfold gl at hg
    split at hg
    · rename_i p
      injection hg with hg
      subst hg
      obtain ⟨hv, _⟩ := hr.inv_v
      have hget := bool p hv
      refine ⟨fun h => ?_, fun h => ?_⟩
      · simp [hget]; exact h.1
      · simp [hget]; exact fun e => h ⟨e, trivial⟩
    · rename_i es' p
      injection hg with hg
      subst hg
      obtain ⟨h1, h2⟩ := Rep.inv_gd hr
      · by_cases ha : allT es'
        · obtain ⟨hv, _⟩ := (h1 ha).inv_v
          have hget := bool p hv
          refine ⟨fun h => ?_, fun h => ?_⟩
          · simp [hget]; exact ((allT_append _ _).1 h).2.1
          · simp [hget]; exact fun e => h ((allT_append _ _).2 ⟨ha, e, trivial⟩)
        · refine ⟨fun h => absurd ((allT_append _ _).1 h).1 ha, fun _ => ?_⟩
          have hu := h2 ha
          rw [Array.getD_eq_getD_getElem?] at hu
          cases h : a.tmps[d]? with
          | none => simp [h]
          | some y =>
            rw [h] at hu
            simp only [Option.getD_some] at hu
            simp [h, hu, undef]
    · cases hg

theorem rgW_sound {P : Program} {E : Env} {c : Cx} (hE : E.ok P c)  {ops : Array Oper} {Q : Exit → Act → World → Prop} : ∀ (l : List Oper) (s : St) (K : St → Prop) (β : Pl) (a : Act) (w : World), Rel c s β a w → rgW P E ops l s K →
    (∀ s' β' a' w', K s' → Rel c s' β' a' w' → Q .normal a' w') → wpList P ops Q l a w
  | [], s, K, β, a, w, H, hk, hQ => hQ s β a w hk H
  | o :: rest, s, K, β, a, w, H, hk, hQ => by
    unfold rgW at hk
    unfold wpList
    split at hk
    · rename_i hg
      obtain ⟨hd, hc, hk⟩ := hk
      rw [if_pos (by simp [Region.wanted, hg])]
      refine .inl (aop_sound hE H o hc _ Q fun v β' w' h1 h2 h3 => ?_)
      exact rgW_sound hE rest _ K β' _ w' (Rel.put o.dst H hd h1 h2 h3) hk hQ
    · rename_i j want hg
      unfold guardP at hk
      split at hk
      · rename_i es hp
        obtain ⟨hd, hc, hk⟩ := hk
        have hy := yielded_of H hp
        by_cases hpw : allT es
        · obtain ⟨hc1, hc2⟩ := hc hpw
          rw [if_pos (by simp [Region.wanted, hg, hy.1 hpw])]
          refine .inl (aop_sound hE (H.un hpw) o hc1 _ Q fun v β' w' h1 h2 h3 => ?_)
          rw [hc2] at h1 h2 h3
          exact rgW_sound hE rest _ K β' _ w' (Rel.put o.dst H hd h1 h2 (.gd es _ _ (fun _ => h3) fun e => absurd hpw e)) hk hQ
        · rw [if_neg (by simp [Region.wanted, hg, hy.2 hpw])]
          exact rgW_sound hE rest _ K β _ w (Rel.put o.dst H hd H.2.2.1 (fun _ _ h => h) (.gd es _ _ (fun e => absurd e hpw) fun _ => rfl)) hk hQ
      · exact hk.elim

end Go.Abs

namespace Go.Abs
open Go.RowKit

def rgD (P : Program) (E : Env) (ops : Array Oper) : List Oper → St → (St → Prop) → Prop
  | [], s, K => K s
  | o :: rest, s, K =>
    match o.guard with
    | none => dok s o.dst ∧ (aopD P E s o.op).use fun v _ => rgD P E ops rest (s.put o.dst v s.h) K
    | some (j, want) => guardP (gval ops s j) want fun es => dok s o.dst ∧ (aopD P E (s.un es) o.op).useG es s.h fun v => rgD P E ops rest (s.put o.dst v s.h) K

def dstOf (ops : Array Oper) (i : Nat) : Option Nat := (ops[i]?).bind (·.dst)
def looks (ops : Array Oper) (i : Nat) : List Nat := ((ops[i]?).map fun o => o.looksAt ops).getD []

def drawOk (ops : Array Oper) (m : Nat) : Bool :=
  decide (m ≤ ops.size) &&
  ((List.range ops.size).all fun i => (edgesOf ops i).all fun j => j < i) &&
  ((List.range m).all fun i => (looks ops i).all fun t => (List.range m).all fun j => i == j || dstOf ops j != some t || (if j < i then ((ancs ops ops.size).getD i []).contains j else ((ancs ops ops.size).getD j []).contains i)) &&
  ((List.range m).all fun i => (List.range m).all fun j => i == j || (dstOf ops i).isNone || dstOf ops i != dstOf ops j) &&
  ((List.range ops.size).all fun i => i < m || (List.range i).all fun j => ((ancs ops ops.size).getD i []).contains j)

def drawP0 (P : Program) (E : Env) (ops : Array Oper) (s : St) (K : St → Prop) : Prop :=
  ∃ m, drawOk ops m = true ∧ rgD P E ops (ops.toList.take m) s fun s' => rgW P E ops (ops.toList.drop m) s' K

structure DrawOk (ops : Array Oper) (m : Nat) : Prop where
  le : m ≤ ops.size
  lt : ∀ i, i < ops.size → ∀ j ∈ edgesOf ops i, j < i
  look : ∀ i, i < m → ∀ t ∈ looks ops i, ∀ j, j < m → i ≠ j → dstOf ops j = some t → (j < i ∧ j ∈ (ancs ops ops.size).getD i []) ∨ (i < j ∧ i ∈ (ancs ops ops.size).getD j [])
  dist : ∀ i, i < m → ∀ j, j < m → i ≠ j → ∀ d, dstOf ops i = some d → dstOf ops j ≠ some d
  suf : ∀ i, i < ops.size → m ≤ i → ∀ j, j < i → j ∈ (ancs ops ops.size).getD i []

theorem drawOk_iff {ops : Array Oper} {m : Nat} (h : drawOk ops m = true) : DrawOk ops m := by
  unfold drawOk at h
  simp only [Bool.and_eq_true, List.all_eq_true, List.mem_range, decide_eq_true_eq, Bool.or_eq_true, beq_iff_eq, bne_iff_ne, Option.isNone_iff_eq_none] at h
  obtain ⟨⟨⟨⟨h1, h2⟩, h3⟩, h4⟩, h5⟩ := h
  refine ⟨h1, h2, fun i hi t ht j hj hne hd => ?_, fun i hi j hj hne d hd hd' => ?_, fun i hi hm j hj => ?_⟩
  · rcases h3 i hi t ht j hj with (h | h) | h
    · exact absurd h hne
    · exact absurd hd h
    · split at h
      · rename_i hlt; exact .inl ⟨hlt, by simpa using h⟩
      · rename_i hlt; exact .inr ⟨by omega, by simpa using h⟩
  · rcases h4 i hi j hj with (h | h) | h
    · exact hne h
    · rw [h] at hd; cases hd
    · exact h (hd.trans hd'.symm)
  · rcases h5 i hi with h | h
    · omega
    · simpa using h j hj

/-- what a slot holds when just the operations of L have run -/
def Desc (ops : Array Oper) (m : Nat) (vals : Nat → X) (t0 : Nat → X) (L : Nat → Prop) (X' : Nat → X) : Prop :=
  ∀ t, (∀ i, i < m → L i → dstOf ops i = some t → X' t = vals i) ∧ ((∀ i, i < m → L i → dstOf ops i ≠ some t) → X' t = t0 t)

theorem Desc.add {ops : Array Oper} {m : Nat} {vals t0 : Nat → X} {L : Nat → Prop} {X' : Nat → X} (hd : DrawOk ops m) (h : Desc ops m vals t0 L X') {i : Nat} (hi : i < m) (n : Nat) (hh hh' : List Ob) :
    Desc ops m vals t0 (fun j => L j ∨ j = i) (St.put ⟨n, X', hh⟩ (dstOf ops i) (vals i) hh').t := by
  intro t
  cases hdi : dstOf ops i with
  | none =>
    refine ⟨fun j hj hL ht => ?_, fun hn => ?_⟩
    · rcases hL with hL | rfl
      · exact (h t).1 j hj hL ht
      · rw [hdi] at ht; cases ht
    · exact (h t).2 fun j hj hL => hn j hj (.inl hL)
  | some d =>
    show (∀ j, j < m → (L j ∨ j = i) → dstOf ops j = some t → upd X' d (vals i) t = vals j) ∧ ((∀ j, j < m → (L j ∨ j = i) → dstOf ops j ≠ some t) → upd X' d (vals i) t = t0 t)
    unfold upd
    by_cases e : t = d
    · subst e
      rw [if_pos rfl]
      refine ⟨fun j hj _ ht => ?_, fun hn => absurd hdi (hn i hi (.inr rfl))⟩
      by_cases hji : j = i
      · rw [hji]
      · exact absurd hdi (hd.dist j hj i hi hji t ht)
    · rw [if_neg e]
      refine ⟨fun j hj hL ht => ?_, fun hn => (h t).2 fun j hj hL => hn j hj (.inl hL)⟩
      rcases hL with hL | rfl
      · exact (h t).1 j hj hL ht
      · rw [hdi] at ht; injection ht with ht; exact absurd ht.symm e

/-- what one operation gives, in the order of the text -/
def OpOk (P : Program) (E : Env) (ops : Array Oper) (s : St) (o : Oper) (x : X) : Prop :=
  dok s o.dst ∧ match o.guard with
  | none => (aopD P E s o.op).cond ∧ x = (aopD P E s o.op).val
  | some (j, want) => ∃ es y, gl want (gval ops s j) = some es ∧ x = .gd es y ∧ (allT es → (aopD P E (s.un es) o.op).cond ∧ y = (aopD P E (s.un es) o.op).val)

theorem rgD_vals {P : Program} {E : Env} {ops : Array Oper} {m : Nat} (hd : DrawOk ops m) {n0 : Nat} {t0 : Nat → X} {h0 : List Ob} {K : St → Prop} : ∀ (k i : Nat) (s : St) (vals : Nat → X), i + k = m → s.n = n0 → s.h = h0 → Desc ops m vals t0 (· < i) s.t →
    rgD P E ops ((ops.toList.take m).drop i) s K →
    ∃ vals' : Nat → X, (∀ j, j < i → vals' j = vals j) ∧ (∀ j o, i ≤ j → j < m → ops[j]? = some o → ∃ sj : St, sj.n = n0 ∧ sj.h = h0 ∧ Desc ops m vals' t0 (· < j) sj.t ∧ OpOk P E ops sj o (vals' j)) ∧ ∃ sm : St, sm.n = n0 ∧ sm.h = h0 ∧ Desc ops m vals' t0 (· < m) sm.t ∧ K sm
  | 0, i, s, vals, hik, hn, hh, hD, h => by
    have him : i = m := by omega
    subst him
    refine ⟨vals, fun _ _ => rfl, fun j o h1 h2 => by omega, s, hn, hh, hD, ?_⟩
    have hle := hd.le
    rw [List.drop_of_length_le (by simp; omega)] at h
    exact h
  | k + 1, i, s, vals, hik, hn, hh, hD, h => by
    have hle := hd.le
    have hi : i < (ops.toList.take m).length := by simp; omega
    have hio : i < ops.size := by omega
    rw [List.drop_eq_getElem_cons hi] at h
    have hoi : (ops.toList.take m)[i] = ops[i] := by simp
    have hget : ops[i]? = some ops[i] := Array.getElem?_eq_getElem hio
    have hdst : dstOf ops i = ops[i].dst := by simp [dstOf, hget]
    rw [hoi] at h
    -- the value
    have step : ∃ x, OpOk P E ops s ops[i] x ∧ rgD P E ops ((ops.toList.take m).drop (i + 1)) (s.put ops[i].dst x s.h) K := by
      unfold rgD at h
      unfold OpOk
      split at h
      · rename_i hg
        obtain ⟨h1, h2, h3⟩ := h
        exact ⟨_, ⟨h1, ⟨h2, rfl⟩⟩, h3⟩
      · rename_i j want hg
        unfold guardP at h
        split at h
        · rename_i p hp
          obtain ⟨h1, h2, h3⟩ := h
          refine ⟨_, ⟨h1, ?_⟩, h3⟩
          exact ⟨p, _, hp, rfl, fun e => ⟨(h2 e).1, rfl⟩⟩
        · exact h.elim
    obtain ⟨x, hok, hrest⟩ := step
    -- the values so far, and this one
    let vals1 : Nat → X := fun j => if j = i then x else vals j
    have hD1 : Desc ops m vals1 t0 (· < i) s.t := by
      intro t
      refine ⟨fun j hj hL ht => ?_, (hD t).2⟩
      have : vals1 j = vals j := by simp [vals1, Nat.ne_of_lt hL]
      rw [this]; exact (hD t).1 j hj hL ht
    have hv1 : vals1 i = x := by simp [vals1]
    obtain ⟨sn, st, sh⟩ := s
    dsimp only at hn hh hD1
    have hD2 := hD1.add hd (i := i) (by omega) sn sh sh
    rw [hv1, hdst] at hD2
    have hput : St.put ⟨sn, st, sh⟩ ops[i].dst x sh = ⟨sn, (St.put ⟨sn, st, sh⟩ ops[i].dst x sh).t, sh⟩ := by cases ops[i].dst <;> rfl
    have hD3 : Desc ops m vals1 t0 (· < i + 1) (St.put ⟨sn, st, sh⟩ ops[i].dst x sh).t := by
      intro t
      refine ⟨fun j hj hL ht => (hD2 t).1 j hj (by omega) ht, fun hne => (hD2 t).2 fun j hj hL => hne j hj (by omega)⟩
    obtain ⟨vals', g1, g2, g3⟩ := rgD_vals hd k (i + 1) (St.put ⟨sn, st, sh⟩ ops[i].dst x sh) vals1 (by omega) (by cases ops[i].dst <;> exact hn) (by cases ops[i].dst <;> exact hh) hD3 hrest
    have gi : vals' i = x := by rw [g1 i (by omega)]; exact hv1
    refine ⟨vals', fun j hj => ?_, fun j o h1 h2 ho => ?_, g3⟩
    · rw [g1 j (by omega)]; simp [vals1, Nat.ne_of_lt hj]
    · rcases Nat.eq_or_lt_of_le h1 with rfl | hlt
      · rw [hget] at ho
        injection ho with ho
        subst ho
        refine ⟨⟨sn, st, sh⟩, hn, hh, fun t => ⟨fun j hj hL ht => ?_, (hD1 t).2⟩, by rw [gi]; exact hok⟩
        rw [g1 j (by omega)]; exact (hD1 t).1 j hj hL ht
      · exact g2 j o hlt h2 ho

theorem wpOp_of {P : Program} {E : Env} {c : Cx} (hE : E.ok P c)  {ops : Array Oper} {Q : Exit → Act → World → Prop} {s : St} {β : Pl} {a : Act} {w : World} {i : Nat} {o : Oper} {x : X} (ho : ops[i]? = some o) (H : Rel c s β a w) (hok : OpOk P E ops s o x)
    {K : Act → World → Prop} (hK : ∀ β' a' w', Rel c (s.put o.dst x s.h) β' a' w' → K a' w') : wpOp P ops Q i K a w := by
  unfold wpOp
  rw [ho]
  dsimp only
  obtain ⟨hd, h⟩ := hok
  have run : (aopD P E s o.op).cond → x = (aopD P E s o.op).val → o.wp P a w K Q := by
    intro h1 h2
    obtain ⟨g1, g2⟩ := aopD_sound hE H o h1
    refine g2 K Q fun v β' w' k1 k2 k3 => hK β' _ w' ?_
    rw [g1] at k1 k2 k3
    rw [← h2] at k3
    exact Rel.put o.dst H hd k1 k2 k3
  split at h
  · rename_i hg
    rw [if_pos (by simp [Region.wanted, hg])]
    exact .inl (run h.1 h.2)
  · rename_i j want hg
    obtain ⟨es, y, hp, hx, h1⟩ := h
    have hy := yielded_of H hp
    by_cases hpw : allT es
    · rw [if_pos (by simp [Region.wanted, hg, hy.1 hpw])]
      obtain ⟨q1, q2⟩ := h1 hpw
      obtain ⟨g1, g2⟩ := aopD_sound hE (H.un hpw) o q1
      refine .inl (g2 K Q fun v β' w' k1 k2 k3 => hK β' _ w' ?_)
      rw [g1] at k1 k2 k3
      rw [← q2] at k3
      rw [hx]
      exact Rel.put o.dst H hd k1 k2 (.gd es _ _ (fun _ => k3) fun e => absurd hpw e)
    · rw [if_neg (by simp [Region.wanted, hg, hy.2 hpw])]
      rw [hx] at hK
      exact hK β _ w (Rel.put o.dst H hd H.2.2.1 (fun _ _ h => h) (.gd es _ _ (fun e => absurd e hpw) fun _ => rfl))

/-- the same, for the operations behind: whatever their effect -/
theorem wpOp_of_rgW {P : Program} {E : Env} {c : Cx} (hE : E.ok P c)  {ops : Array Oper} {Q : Exit → Act → World → Prop} {s : St} {β : Pl} {a : Act} {w : World} {i : Nat} {o : Oper} {rest : List Oper} {K : St → Prop} (ho : ops[i]? = some o) (H : Rel c s β a w)
    (hk : rgW P E ops (o :: rest) s K) {K' : Act → World → Prop} (hK : ∀ s' β' a' w', Rel c s' β' a' w' → rgW P E ops rest s' K → K' a' w') : wpOp P ops Q i K' a w := by
  unfold wpOp
  rw [ho]
  dsimp only
  unfold rgW at hk
  split at hk
  · rename_i hg
    obtain ⟨hd, hc, hk⟩ := hk
    rw [if_pos (by simp [Region.wanted, hg])]
    exact .inl (aop_sound hE H o hc _ Q fun v β' w' h1 h2 h3 => hK _ β' _ w' (Rel.put o.dst H hd h1 h2 h3) hk)
  · rename_i j want hg
    unfold guardP at hk
    split at hk
    · rename_i es hp
      obtain ⟨hd, hc, hk⟩ := hk
      have hy := yielded_of H hp
      by_cases hpw : allT es
      · obtain ⟨hc1, hc2⟩ := hc hpw
        rw [if_pos (by simp [Region.wanted, hg, hy.1 hpw])]
        refine .inl (aop_sound hE (H.un hpw) o hc1 _ Q fun v β' w' h1 h2 h3 => ?_)
        rw [hc2] at h1 h2 h3
        exact hK _ β' _ w' (Rel.put o.dst H hd h1 h2 (.gd es _ _ (fun _ => h3) fun e => absurd hpw e)) hk
      · rw [if_neg (by simp [Region.wanted, hg, hy.2 hpw])]
        exact hK _ β _ w (Rel.put o.dst H hd H.2.2.1 (fun _ _ h => h) (.gd es _ _ (fun e => absurd e hpw) fun _ => rfl)) hk
    · exact hk.elim

theorem ready_iff {ops : Array Oper} {listed : Array Bool} (hs : listed.size = ops.size) {i : Nat} : i ∈ Region.ready .any ops listed ↔ i < ops.size ∧ listed.getD i false = false ∧ ∀ j ∈ edgesOf ops i, listed.getD j false = true := by
  unfold Region.ready
  rw [List.mem_filter, List.mem_range]
  constructor
  · rintro ⟨h1, h2⟩
    simp only [Bool.and_eq_true, Bool.not_eq_true'] at h2
    obtain ⟨h3, h4⟩ := h2
    refine ⟨h1, ?_, fun j hj => ?_⟩
    · have hl : i < listed.size := by omega
      simp [Array.getD_eq_getD_getElem?, hl] at h3 ⊢
      exact h3
    · have hget : ops[i]? = some ops[i] := Array.getElem?_eq_getElem h1
      rw [hget] at h4
      simp only [Option.map_some, Option.getD_some, Array.all_eq_true', Bool.or_eq_true, Bool.not_eq_true'] at h4
      simp only [edgesOf, hget, Option.map_some, Option.getD_some, List.mem_map, List.mem_filter] at hj
      obtain ⟨e, ⟨he, hb⟩, rfl⟩ := hj
      rcases h4 e (by simpa using he) with h | h
      · rw [hb] at h; cases h
      · exact h
  · rintro ⟨h1, h2, h3⟩
    refine ⟨h1, ?_⟩
    have hl : i < listed.size := by omega
    have hget : ops[i]? = some ops[i] := Array.getElem?_eq_getElem h1
    simp only [Bool.and_eq_true, Bool.not_eq_true', hget, Option.map_some, Option.getD_some, Array.all_eq_true', Bool.or_eq_true]
    refine ⟨by simp [Array.getD_eq_getD_getElem?, hl] at h2 ⊢; exact h2, fun e he => ?_⟩
    by_cases hb : Region.binds .any e = true
    · refine .inr (h3 e.on ?_)
      simp only [edgesOf, hget, Option.map_some, Option.getD_some, List.mem_map, List.mem_filter]
      exact ⟨e, ⟨by simpa using he, hb⟩, rfl⟩
    · exact .inl (by simpa using hb)

theorem Rel.drawn {c : Cx} {s : St} {β : Pl} {a : Act} {w : World} (H : Rel c s β a w) : Rel c s β a { w with drawn := w.drawn + 1 } := by
  obtain ⟨h1, h2⟩ := H.2.2.1.ext (w' := w.drew) ((Below.refl _ _).drew)
  exact ⟨H.1, H.2.1, h1, fun t => h2 _ _ (H.2.2.2 t)⟩

theorem setL {listed : Array Bool} {i j : Nat} (hi : i < listed.size) : (listed.setIfInBounds i true).getD j false = true ↔ listed.getD j false = true ∨ j = i := by
  simp only [Array.getD_eq_getD_getElem?]
  by_cases h : i = j
  · subst h; simp [hi]
  · rw [Array.getElem?_setIfInBounds_ne h]
    constructor
    · exact fun h => .inl h
    · rintro (h' | rfl)
      · exact h'
      · exact absurd rfl h

theorem nodup_len : ∀ {l1 l2 : List Nat}, l1.Nodup → l1 ⊆ l2 → l1.length ≤ l2.length
  | [], _, _, _ => by simp
  | x :: l1, l2, h, hs => by
    have hx : x ∈ l2 := hs List.mem_cons_self
    have h1 := List.nodup_cons.1 h
    have := nodup_len (l1 := l1) (l2 := l2.erase x) h1.2 fun y hy => by
      have hy2 := hs (List.mem_cons_of_mem _ hy)
      have hne : y ≠ x := fun e => h1.1 (e ▸ hy)
      exact (List.mem_erase_of_ne hne).2 hy2
    rw [List.length_erase_of_mem hx] at this
    have hpos : 0 < l2.length := List.length_pos_of_mem hx
    simp only [List.length_cons]
    omega

/-- the operations behind: one after the other -/
theorem drawB {P : Program} {E : Env} {c : Cx} (hE : E.ok P c)  {ops : Array Oper} {m : Nat} (hd : DrawOk ops m) {Q : Exit → Act → World → Prop} {K : St → Prop} (hQ : ∀ s' β' a' w', K s' → Rel c s' β' a' w' → Q .normal a' w') :
    ∀ (fuel p : Nat) (listed : Array Bool) (s : St) (β : Pl) (a : Act) (w : World), listed.size = ops.size → m ≤ p → p ≤ ops.size → ops.size - p ≤ fuel → (∀ i, listed.getD i false = true ↔ i < p) → Rel c s β a w → rgW P E ops (ops.toList.drop p) s K → wpAny P .any ops Q fuel listed a w := by
  intro fuel
  have rdy : ∀ p (listed : Array Bool), listed.size = ops.size → m ≤ p → p ≤ ops.size → (∀ i, listed.getD i false = true ↔ i < p) → ∀ i, i ∈ Region.ready .any ops listed ↔ i = p ∧ p < ops.size := by
    intro p listed hs hmp hp hL i
    rw [ready_iff hs]
    constructor
    · rintro ⟨h1, h2, h3⟩
      have hge : p ≤ i := by
        rcases Nat.lt_or_ge i p with h | h
        · rw [(hL i).2 h] at h2; cases h2
        · exact h
      rcases Nat.eq_or_lt_of_le hge with e | hlt
      · exact ⟨e.symm, by omega⟩
      · exfalso
        have := anc_mem (ops := ops) (L := fun j => listed.getD j false = true) (fun k hk j hj => by
          rw [hL] at hk ⊢
          have := hd.lt k (by omega) j hj
          omega) ops.size i h1 h3 p (hd.suf i h1 (by omega) p hlt)
        rw [hL] at this
        omega
    · rintro ⟨rfl, h⟩
      refine ⟨h, ?_, fun j hj => (hL j).2 (hd.lt i h j hj)⟩
      cases hb : listed.getD i false with
      | false => rfl
      | true => have := (hL i).1 hb; omega
  induction fuel with
  | zero =>
    intro p listed s β a w hs hmp hp hf hL H hk
    have hpe : p = ops.size := by omega
    refine ⟨?_, ?_⟩
    · rw [List.eq_nil_iff_forall_not_mem]
      intro i hi
      rw [rdy p listed hs hmp hp hL] at hi
      omega
    · subst hpe
      rw [List.drop_of_length_le (by simp)] at hk
      exact hQ s β a w hk H
  | succ fuel ih =>
    intro p listed s β a w hs hmp hp hf hL H hk
    refine ⟨fun hnil => ?_, fun i hi => ?_⟩
    · rcases Nat.eq_or_lt_of_le hp with hpe | hlt
      · subst hpe
        rw [List.drop_of_length_le (by simp)] at hk
        exact hQ s β a w hk H
      · have := (rdy p listed hs hmp hp hL p).2 ⟨rfl, hlt⟩
        rw [hnil] at this
        simp at this
    · obtain ⟨rfl, hlt⟩ := (rdy p listed hs hmp hp hL i).1 hi
      rw [List.drop_eq_getElem_cons (by simpa using hlt)] at hk
      simp only [Array.getElem_toList] at hk
      refine wpOp_of_rgW hE (Array.getElem?_eq_getElem hlt) H hk fun s' β' a' w' H' hk' => ?_
      refine ih (i + 1) _ s' β' a' w' (by simpa using hs) (by omega) (by omega) (by omega) (fun j => ?_) H' hk'
      rw [setL (by omega), hL]
      omega

theorem drawA {P : Program} {E : Env} {c : Cx} (hE : E.ok P c)  {ops : Array Oper} {m : Nat} (hd : DrawOk ops m) {Q : Exit → Act → World → Prop} {K : St → Prop} (hQ : ∀ s' β' a' w', K s' → Rel c s' β' a' w' → Q .normal a' w')
    {n0 : Nat} {t0 : Nat → X} {h0 : List Ob} {vals : Nat → X} (hv : ∀ j o, j < m → ops[j]? = some o → ∃ sj : St, sj.n = n0 ∧ sj.h = h0 ∧ Desc ops m vals t0 (· < j) sj.t ∧ OpOk P E ops sj o (vals j))
    (hK : ∃ sm : St, sm.n = n0 ∧ sm.h = h0 ∧ Desc ops m vals t0 (· < m) sm.t ∧ rgW P E ops (ops.toList.drop m) sm K) :
    ∀ (fuel : Nat) (listed : Array Bool) (rem : List Nat) (X' : Nat → X) (β : Pl) (a : Act) (w : World), listed.size = ops.size → rem.Nodup → (∀ i, i ∈ rem ↔ i < ops.size ∧ listed.getD i false = false) → rem.length ≤ fuel →
      (∀ i, listed.getD i false = true → i < m) → (∀ i, listed.getD i false = true → ∀ j ∈ edgesOf ops i, listed.getD j false = true) → Desc ops m vals t0 (fun i => listed.getD i false = true) X' → Rel c ⟨n0, X', h0⟩ β a w → wpAny P .any ops Q fuel listed a w := by
  intro fuel
  induction fuel with
  | zero =>
    intro listed rem X' β a w hs hnd hrem hf hlm hcl hD H
    -- nothing is left
    have hr0 : rem = [] := List.eq_nil_of_length_eq_zero (by omega)
    have hall : ∀ i, i < ops.size → listed.getD i false = true := by
      intro i hi
      cases hb : listed.getD i false with
      | true => rfl
      | false => have := (hrem i).2 ⟨hi, hb⟩; rw [hr0] at this; simp at this
    have hle := hd.le
    have hmm : ops.size = m := by
      rcases Nat.lt_or_ge m ops.size with h | h
      · have := hlm m (hall m h); omega
      · omega
    obtain ⟨sm, k1, k2, k3, k4⟩ := hK
    have hX : (⟨n0, X', h0⟩ : St) = sm := by
      obtain ⟨sn, st, sh⟩ := sm
      dsimp only at k1 k2 k3
      subst k1 k2
      congr 1
      funext t
      by_cases hw : ∃ i, i < m ∧ dstOf ops i = some t
      · obtain ⟨i, hi, hdi⟩ := hw
        rw [(hD t).1 i hi (hall i (by omega)) hdi, (k3 t).1 i hi hi hdi]
      · rw [(hD t).2 fun i hi _ hdi => hw ⟨i, hi, hdi⟩, (k3 t).2 fun i hi _ hdi => hw ⟨i, hi, hdi⟩]
    rw [hX] at H
    exact drawB hE hd hQ 0 m listed sm β a w hs (Nat.le_refl _) hle (by omega) (fun i => ⟨hlm i, fun h => hall i (by omega)⟩) H k4
  | succ fuel ih =>
    intro listed rem X' β a w hs hnd hrem hf hlm hcl hD H
    have hle := hd.le
    by_cases hall : ∀ i, i < m → listed.getD i false = true
    · obtain ⟨sm, k1, k2, k3, k4⟩ := hK
      have hX : (⟨n0, X', h0⟩ : St) = sm := by
        obtain ⟨sn, st, sh⟩ := sm
        dsimp only at k1 k2 k3
        subst k1 k2
        congr 1
        funext t
        by_cases hw : ∃ i, i < m ∧ dstOf ops i = some t
        · obtain ⟨i, hi, hdi⟩ := hw
          rw [(hD t).1 i hi (hall i hi) hdi, (k3 t).1 i hi hi hdi]
        · rw [(hD t).2 fun i hi _ hdi => hw ⟨i, hi, hdi⟩, (k3 t).2 fun i hi _ hdi => hw ⟨i, hi, hdi⟩]
      rw [hX] at H
      refine drawB hE hd hQ (fuel + 1) m listed sm β a w hs (Nat.le_refl _) hle ?_ (fun i => ⟨hlm i, fun h => hall i h⟩) H k4
      -- what is left are just those from m on
      have hsub : (List.range (ops.size - m)).map (· + m) ⊆ rem := by
        intro j hj
        simp only [List.mem_map, List.mem_range] at hj
        obtain ⟨k, hk, rfl⟩ := hj
        refine (hrem _).2 ⟨by omega, ?_⟩
        cases hb : listed.getD (k + m) false with
        | false => rfl
        | true => have := hlm _ hb; omega
      have hnd' : ((List.range (ops.size - m)).map (· + m)).Nodup := by
        refine List.Pairwise.map _ ?_ List.nodup_range
        intro x y hxy; omega
      have := nodup_len hnd' hsub
      simp at this
      omega
    · -- the least that has not run is ready
      have hex : ∃ i, i < m ∧ listed.getD i false = false := by
        refine Classical.byContradiction fun hno => hall fun i hi => ?_
        cases hb : listed.getD i false with
        | true => rfl
        | false => exact absurd ⟨i, hi, hb⟩ hno
      refine ⟨fun hnil => ?_, fun i hi => ?_⟩
      · exfalso
        obtain ⟨j, hj⟩ : ∃ j, (j < m ∧ listed.getD j false = false) ∧ ∀ k, k < j → ¬ (k < m ∧ listed.getD k false = false) := by
          obtain ⟨j, h1, h2⟩ := exists_least hex
          exact ⟨j, h1, fun k hk hh => by have := h2 k hh; omega⟩
        have : j ∈ Region.ready .any ops listed := by
          rw [ready_iff hs]
          refine ⟨by omega, hj.1.2, fun k hk => ?_⟩
          have hkj := hd.lt j (by omega) k hk
          cases hb : listed.getD k false with
          | true => rfl
          | false => exact absurd ⟨by omega, hb⟩ (hj.2 k hkj)
        rw [hnil] at this
        simp at this
      · rw [ready_iff hs] at hi
        obtain ⟨h1, h2, h3⟩ := hi
        have hanc : ∀ k, k < ops.size → (∀ j ∈ edgesOf ops k, listed.getD j false = true) → ∀ j ∈ (ancs ops ops.size).getD k [], listed.getD j false = true := fun k hk he =>
          anc_mem (ops := ops) (L := fun j => listed.getD j false = true) hcl ops.size k hk he
        have him : i < m := by
          rcases Nat.lt_or_ge i m with h | h
          · exact h
          · exfalso
            obtain ⟨j, hj, hb⟩ := hex
            have := hanc i h1 h3 j (hd.suf i h1 h j (by omega))
            rw [hb] at this; cases this
        have hget : ops[i]? = some ops[i] := Array.getElem?_eq_getElem h1
        obtain ⟨sj, j1, j2, j3, j4⟩ := hv i ops[i] him hget
        -- its operands hold what they hold in the order of the text
        have hag : ∀ t ∈ looks ops i, X' t = sj.t t := by
          intro t ht
          by_cases hw : ∃ k, k < m ∧ i ≠ k ∧ dstOf ops k = some t
          · obtain ⟨k, hk, hne, hdk⟩ := hw
            rcases hd.look i him t ht k hk hne hdk with ⟨hlt, hmem⟩ | ⟨hlt, hmem⟩
            · have hLk := hanc i h1 h3 k hmem
              rw [(hD t).1 k hk hLk hdk, (j3 t).1 k hk hlt hdk]
            · have hnk : listed.getD k false = false := by
                cases hb : listed.getD k false with
                | false => rfl
                | true =>
                  have := hanc k (by omega) (hcl k hb) i hmem
                  rw [h2] at this; cases this
              have uniq : ∀ l, l < m → dstOf ops l = some t → l = k := fun l hl hdl => by
                by_cases e : l = k
                · exact e
                · exact absurd hdk (hd.dist l hl k hk e t hdl)
              rw [(hD t).2 (fun l hl hL hdl => by rw [uniq l hl hdl, hnk] at hL; cases hL), (j3 t).2 (fun l hl hL hdl => by have := uniq l hl hdl; omega)]
          · have only : ∀ l, l < m → dstOf ops l = some t → l = i := fun l hl hdl => by
              by_cases e : i = l
              · exact e.symm
              · exact absurd ⟨l, hl, e, hdl⟩ hw
            rw [(hD t).2 (fun l hl hL hdl => by rw [only l hl hdl, h2] at hL; cases hL), (j3 t).2 (fun l hl hL hdl => by have := only l hl hdl; omega)]
        have hlk : looks ops i = ops[i].looksAt ops := by simp [looks, hget]
        have hops : ∀ x ∈ ops[i].op.operands, ev (⟨n0, X', h0⟩ : St) x = ev sj x := by
          intro x hx
          refine ev_congr fun t ht => hag t ?_
          rw [hlk]
          unfold Oper.looksAt
          refine List.mem_append.2 (.inl (List.mem_filterMap.2 ⟨x, by simpa using hx, by rw [ht]⟩))
        have hcg : aopD P E (⟨n0, X', h0⟩ : St) ops[i].op = aopD P E sj ops[i].op := aopD_congr _ j2.symm hops
        have hok : OpOk P E ops ⟨n0, X', h0⟩ ops[i] (vals i) := by
          obtain ⟨q1, q2⟩ := j4
          refine ⟨?_, ?_⟩
          · cases hdd : ops[i].dst with
            | none => trivial
            | some d => rw [hdd] at q1; show d < n0; rw [← j1]; exact q1
          · cases hg : ops[i].guard with
            | none => rw [hg] at q2; dsimp only at q2 ⊢; rw [hcg]; exact q2
            | some jw =>
              obtain ⟨j, want⟩ := jw
              rw [hg] at q2
              dsimp only at q2 ⊢
              obtain ⟨p, y, p1, p2, p3⟩ := q2
              have hcg' : aopD P E ((⟨n0, X', h0⟩ : St).un p) ops[i].op = aopD P E (sj.un p) ops[i].op := by
                refine aopD_congr _ j2.symm fun x hx => ?_
                have := hops x hx
                cases x with
                | tmp t => show unL p (X' t) = unL p (sj.t t); rw [show X' t = sj.t t from this]
                | _ => rfl
              refine ⟨p, y, ?_, p2, by rw [hcg']; exact p3⟩
              rw [← p1]
              refine congrArg (gl want) ?_
              unfold gval
              cases hdj : (ops[j]?).bind (·.dst) with
              | none => rfl
              | some d =>
                refine hag d ?_
                rw [hlk]
                unfold Oper.looksAt
                refine List.mem_append.2 (.inr ?_)
                rw [hg]
                simp [hdj]
        refine wpOp_of hE hget H hok fun β' a' w' H' => ?_
        have hdst : dstOf ops i = ops[i].dst := by simp [dstOf, hget]
        have hD' := hD.add hd him n0 h0 h0
        rw [hdst] at hD'
        have hput : St.put ⟨n0, X', h0⟩ ops[i].dst (vals i) h0 = ⟨n0, (St.put ⟨n0, X', h0⟩ ops[i].dst (vals i) h0).t, h0⟩ := by cases ops[i].dst <;> rfl
        have H2 : Rel c ⟨n0, (St.put ⟨n0, X', h0⟩ ops[i].dst (vals i) h0).t, h0⟩ β' a' w' := by rw [← hput]; exact H'
        have hil : i < listed.size := by omega
        refine ih _ (rem.erase i) _ β' a' w' (by simpa using hs) (hnd.erase i) (fun k => ?_) ?_ (fun k hk => ?_) (fun k hk j hj => ?_) ?_ H2
        · rw [hnd.mem_erase_iff, hrem]
          constructor
          · rintro ⟨hne, hk1, hk2⟩
            refine ⟨hk1, ?_⟩
            cases hb : (listed.setIfInBounds i true).getD k false with
            | false => rfl
            | true =>
              rcases (setL hil).1 hb with h | h
              · rw [hk2] at h; cases h
              · exact absurd h hne
          · rintro ⟨hk1, hk2⟩
            refine ⟨fun e => ?_, hk1, ?_⟩
            · rw [(setL hil).2 (.inr e)] at hk2; cases hk2
            · cases hb : listed.getD k false with
              | false => rfl
              | true => rw [(setL hil).2 (.inl hb)] at hk2; cases hk2
        · rw [List.length_erase_of_mem ((hrem i).2 ⟨h1, h2⟩)]; omega
        · rcases (setL hil).1 hk with h | h
          · exact hlm k h
          · omega
        · rcases (setL hil).1 hk with h | h
          · exact (setL hil).2 (.inl (hcl k h j hj))
          · subst h; exact (setL hil).2 (.inl (h3 j hj))
        · intro t
          refine ⟨fun k hk hL hdk => (hD' t).1 k hk ((setL hil).1 hL) hdk, fun hne => (hD' t).2 fun k hk hL => hne k hk ((setL hil).2 hL)⟩

theorem drawP0_sound {P : Program} {E : Env} {c : Cx} (hE : E.ok P c) (hm : P.follows .mixedOrders = true)  {id : Nat} {ops : Array Oper} {Q : Exit → Act → World → Prop} {s : St} {K : St → Prop} {β : Pl} {a : Act} {w : World} (H : Rel c s β a w)
    (h : drawP0 P E ops s K) (hQ : ∀ s' β' a' w', K s' → Rel c s' β' a' w' → Q .normal a' w') : (Code.region id ops true).wp P Q a w := by
  obtain ⟨m, hok, hrg⟩ := h
  have hd := drawOk_iff hok
  have hD0 : Desc ops m (fun _ => .top) s.t (· < 0) s.t := fun t => ⟨fun i _ hL => by omega, fun _ => rfl⟩
  obtain ⟨vals, _, g2, g3⟩ := rgD_vals hd (n0 := s.n) (t0 := s.t) (h0 := s.h) m 0 s (fun _ => .top) (by omega) rfl rfl hD0 (by simpa using hrg)
  refine wp_region_any hm ?_
  have hL0 : ∀ i, (Array.replicate ops.size false).getD i false = false := fun i => by
    simp only [Array.getD_eq_getD_getElem?, Array.getElem?_replicate]
    split <;> rfl
  refine drawA hE hd hQ (fun j o hj ho => g2 j o (Nat.zero_le _) hj ho) g3 ops.size _ (List.range ops.size) s.t β a _ (by simp) List.nodup_range (fun i => ?_) (by simp) (fun i hi => ?_) (fun i hi => ?_) ?_ H.drawn
  · rw [List.mem_range, hL0]; simp
  · rw [hL0] at hi; cases hi
  · rw [hL0] at hi; cases hi
  · exact fun t => ⟨fun i _ hL => (by have h' : (Array.replicate ops.size false).getD i false = true := hL; rw [hL0] at h'; cases h'), fun _ => rfl⟩

theorem rgW_mono {P : Program} {E : Env} {ops : Array Oper} {K K' : St → Prop} (hk : ∀ s, K s → K' s) : ∀ (l : List Oper) (s : St), rgW P E ops l s K → rgW P E ops l s K'
  | [], s, h => hk s h
  | o :: rest, s, h => by
    unfold rgW at h ⊢
    split at h
    · exact ⟨h.1, h.2.1, rgW_mono hk rest _ h.2.2⟩
    · unfold guardP at h ⊢
      split at h
      · exact ⟨h.1, h.2.1, rgW_mono hk rest _ h.2.2⟩
      · exact h.elim
theorem rgD_mono {P : Program} {E : Env} {ops : Array Oper} {K K' : St → Prop} (hk : ∀ s, K s → K' s) : ∀ (l : List Oper) (s : St), rgD P E ops l s K → rgD P E ops l s K'
  | [], s, h => hk s h
  | o :: rest, s, h => by
    unfold rgD at h ⊢
    split at h
    · exact ⟨h.1, h.2.1, rgD_mono hk rest _ h.2.2⟩
    · unfold guardP at h ⊢
      split at h
      · exact ⟨h.1, h.2.1, rgD_mono hk rest _ h.2.2⟩
      · exact h.elim

theorem drawP0_mono {P : Program} {E : Env} {ops : Array Oper} {s : St} {K K' : St → Prop} (hk : ∀ s, K s → K' s) (h : drawP0 P E ops s K) : drawP0 P E ops s K' := by
  obtain ⟨m, h1, h2⟩ := h
  exact ⟨m, h1, rgD_mono (fun s h => rgW_mono hk _ s h) _ _ h2⟩

end Go.Abs

namespace Go.Abs
open Go.RowKit
set_option linter.unusedSimpArgs false

theorem aop_congr {P : Program} {E : Env} {s s' : St} (op : Op) (hh : s.h = s'.h) (h : ∀ x ∈ op.operands, ev s x = ev s' x) : aop P E s op = aop P E s' op := by
  have pairs : ∀ ps : Array (Nat × Operand), (∀ x ∈ (ps.toList.map (·.2)).toArray, ev s x = ev s' x) → (ps.toList.map fun p => (p.1, ev s p.2)) = (ps.toList.map fun p => (p.1, ev s' p.2)) := fun ps hp => by
    refine List.map_congr_left fun p hm => ?_
    rw [hp p.2 (by rw [List.mem_toArray]; exact List.mem_map.2 ⟨p, hm, rfl⟩)]
  have lst : ∀ xs : Array Operand, (∀ x ∈ xs, ev s x = ev s' x) → xs.toList.map (ev s) = xs.toList.map (ev s') := fun xs hx => List.map_congr_left fun x hm => hx x (by simpa using hm)
  cases op with
  | call cl =>
    obtain ⟨callee, args, ts⟩ := cl
    have ha := lst args fun x hx => h x (by cases callee <;> simp [Op.operands, Call.operands, hx])
    cases callee with
    | value f =>
      have hf := h f (by simp [Op.operands, Call.operands])
      simp only [aop, hf, ha]
      simp only [eFn, eCall, eCallM, eCallN, hh, bad]
    | invoke r m => simp [aop, bad, hh]
    | builtin b =>
      simp only [aop, ha]
      simp only [eBuiltin, bad, hh, eLen, eAppend, eMin, eMax, eClear]
  | makeFunc fn first cap =>
    have hc := lst cap fun x hx => h x (by simp [Op.operands, hx])
    cases fn <;> simp only [aop, bad, hc, hh]
  | build T ps =>
    have hp := pairs ps (fun x hx => h x hx)
    simp only [aop, hp]
    simp only [eBuild, hh, bad]
  | buildSlice T n ps =>
    have hp := pairs ps (fun x hx => h x hx)
    simp only [aop, hp]
    simp only [eBuildSlice, hh, bad]
  | alloc T => simp only [aop, eAlloc, bad, hh]
  | box T x => simp only [aop, eBox, bad, h x (by simp [Op.operands]), hh]
  | store T a x => simp only [aop, eStore, bad, h a (by simp [Op.operands]), h x (by simp [Op.operands]), hh]
  | makeSlice T l c => simp only [aop, eMake, bad, h l (by simp [Op.operands]), h c (by simp [Op.operands]), hh]
  | move x => simp only [aop, bad, h x (by simp [Op.operands]), hh]
  | assign x => simp only [aop, bad, h x (by simp [Op.operands]), hh]
  | pick x y z => simp only [aop, bad, ePick, h x (by simp [Op.operands]), h y (by simp [Op.operands]), h z (by simp [Op.operands]), hh]
  | load T x => simp only [aop, bad, eLoad, evG_congr (E := E) (h x (by simp [Op.operands])), hh]
  | nilCheck x => simp only [aop, bad, eNil, h x (by simp [Op.operands]), hh]
  | binOp op T x y T' => simp only [aop, bad, eBin, h x (by simp [Op.operands]), h y (by simp [Op.operands]), hh]
  | unOp op T x => simp only [aop, bad, eUn, h x (by simp [Op.operands]), hh]
  | convert x y z => simp only [aop, bad, eConv, h z (by simp [Op.operands]), hh]
  | slice T x lo hi mx =>
    have e1 : lo.map (ev s) = lo.map (ev s') := by cases lo with | none => rfl | some y => simp [h y (by simp [Op.operands])]
    have e2 : hi.map (ev s) = hi.map (ev s') := by cases hi with | none => rfl | some y => simp [h y (by simp [Op.operands])]
    have e3 : mx.map (ev s) = mx.map (ev s') := by cases mx with | none => rfl | some y => simp [h y (by simp [Op.operands])]
    simp only [aop, bad, eSlice, e1, e2, e3, h x (by simp [Op.operands]), hh]
  | fieldAddr T x f => simp only [aop, bad, eFieldAddr, evG_congr (E := E) (h x (by simp [Op.operands])), hh]
  | field T x f => simp only [aop, bad, eField, h x (by simp [Op.operands]), hh]
  | indexAddr T x i => simp only [aop, bad, eIndexAddr, evG_congr (E := E) (h x (by simp [Op.operands])), h i (by simp [Op.operands]), hh]
  | index T x i => simp only [aop, bad, eIndex, h x (by simp [Op.operands]), h i (by simp [Op.operands]), hh]
  | extract t i => simp only [aop, bad, eExtract, h t (by simp [Op.operands]), hh]
  | makeMap T r =>
    have e1 : r.map (ev s) = r.map (ev s') := by cases r with | none => rfl | some y => simp [h y (by simp [Op.operands])]
    simp only [aop, bad, eMakeMap, e1, hh]
  | lookup T x i ok => simp only [aop, bad, eLookup, h x (by simp [Op.operands]), h i (by simp [Op.operands]), hh]
  | mapUpdate T x i y => simp only [aop, bad, eMapSet, h x (by simp [Op.operands]), h i (by simp [Op.operands]), h y (by simp [Op.operands]), hh]
  | _ => simp [aop, bad, hh]

/-- operations that don't look at the objects -/
def free : Op → Bool
  | .move _ | .assign _ | .pick .. | .unOp .. | .extract .. | .binOp .. => true
  | _ => false
theorem free_congr {P : Program} {E : Env} {n : Nat} {t : Nat → X} {h h' : List Ob} {op : Op} (hf : free op = true) : (aopD P E ⟨n, t, h⟩ op).cond = (aopD P E ⟨n, t, h'⟩ op).cond ∧ (aopD P E ⟨n, t, h⟩ op).val = (aopD P E ⟨n, t, h'⟩ op).val := by
  have hev : ∀ x, ev (⟨n, t, h⟩ : St) x = ev (⟨n, t, h'⟩ : St) x := fun x => by cases x <;> rfl
  cases op with
  | move x => exact ⟨rfl, hev x⟩
  | assign x => exact ⟨rfl, hev x⟩
  | pick x y z => simp only [aopD, still, aop, hev, if_true, ePick, bad]; split <;> exact ⟨rfl, rfl⟩
  | unOp o T x => simp only [aopD, still, aop, hev, if_true, eUn, bad]; split <;> exact ⟨rfl, rfl⟩
  | extract x i => simp only [aopD, still, aop, hev, if_true, eExtract, bad]; split <;> exact ⟨rfl, rfl⟩
  | binOp o T x y T' => simp only [aopD, still, aop, hev, if_true, eBin, bad]; (repeat' split) <;> exact ⟨rfl, rfl⟩
  | _ => cases hf

theorem Desc.add' {ops : Array Oper} {m : Nat} {vals t0 : Nat → X} {L : Nat → Prop} {X' : Nat → X} (dist : ∀ i, i < m → ∀ j, j < m → i ≠ j → ∀ d, dstOf ops i = some d → dstOf ops j ≠ some d) (h : Desc ops m vals t0 L X') {i : Nat} (hi : i < m) (n : Nat) (hh hh' : List Ob) :
    Desc ops m vals t0 (fun j => L j ∨ j = i) (St.put ⟨n, X', hh⟩ (dstOf ops i) (vals i) hh').t := by
  intro t
  cases hdi : dstOf ops i with
  | none =>
    refine ⟨fun j hj hL ht => ?_, fun hn => ?_⟩
    · rcases hL with hL | rfl
      · exact (h t).1 j hj hL ht
      · rw [hdi] at ht; cases ht
    · exact (h t).2 fun j hj hL => hn j hj (.inl hL)
  | some d =>
    show (∀ j, j < m → (L j ∨ j = i) → dstOf ops j = some t → upd X' d (vals i) t = vals j) ∧ ((∀ j, j < m → (L j ∨ j = i) → dstOf ops j ≠ some t) → upd X' d (vals i) t = t0 t)
    unfold upd
    by_cases e : t = d
    · subst e
      rw [if_pos rfl]
      refine ⟨fun j hj _ ht => ?_, fun hn => absurd hdi (hn i hi (.inr rfl))⟩
      by_cases hji : j = i
      · rw [hji]
      · exact absurd hdi (dist j hj i hi hji t ht)
    · rw [if_neg e]
      refine ⟨fun j hj hL ht => ?_, fun hn => (h t).2 fun j hj hL => hn j hj (.inl hL)⟩
      rcases hL with hL | rfl
      · exact (h t).1 j hj hL ht
      · rw [hdi] at ht; injection ht with ht; exact absurd ht.symm e

def ancOf (ops : Array Oper) (i : Nat) : List Nat := (ancs ops ops.size).getD i []
/-- how many of the chain's operations have run in any case when i runs -/
def lev (ops : Array Oper) (ch : List Nat) (i : Nat) : Nat := ch.countP fun c => (ancOf ops i).contains c
/-- how many of the chain's operations stand ahead of i -/
def cur (ord ch : List Nat) (i : Nat) : Nat := ch.countP fun c => ord.idxOf c < ord.idxOf i

def drawOkX (ops : Array Oper) (ord ch : List Nat) : Bool :=
  decide (ord.length = ops.size) && decide ord.Nodup && (ord.all fun i => decide (i < ops.size)) &&
  ((List.range ops.size).all fun i => (edgesOf ops i).all fun j => decide (j < ops.size) && decide (ord.idxOf j < ord.idxOf i)) &&
  ((List.range ops.size).all fun i => (looks ops i).all fun t => (List.range ops.size).all fun j => i == j || dstOf ops j != some t || (if ord.idxOf j < ord.idxOf i then (ancOf ops i).contains j else (ancOf ops j).contains i)) &&
  ((List.range ops.size).all fun i => (List.range ops.size).all fun j => i == j || (dstOf ops i).isNone || dstOf ops i != dstOf ops j) &&
  (ch.all fun c => decide (c < ops.size)) && decide ch.Nodup &&
  ((List.range ch.length).all fun q => (List.range q).all fun q' => (ancOf ops (ch.getD q 0)).contains (ch.getD q' 0)) &&
  ((List.range ch.length).all fun q => cur ord ch (ch.getD q 0) == q) &&
  ((List.range ops.size).all fun i => ch.contains i || (((List.range (lev ops ch i)).all fun q => (ancOf ops i).contains (ch.getD q 0)) && ((List.range ch.length).all fun q => decide (q < cur ord ch i) || (ancOf ops (ch.getD q 0)).contains i)))

structure DX (ops : Array Oper) (ord ch : List Nat) : Prop where
  len : ord.length = ops.size
  nd : ord.Nodup
  mem : ∀ i ∈ ord, i < ops.size
  edge : ∀ i, i < ops.size → ∀ j ∈ edgesOf ops i, j < ops.size ∧ ord.idxOf j < ord.idxOf i
  look : ∀ i, i < ops.size → ∀ t ∈ looks ops i, ∀ j, j < ops.size → i ≠ j → dstOf ops j = some t → (ord.idxOf j < ord.idxOf i ∧ j ∈ ancOf ops i) ∨ (¬ ord.idxOf j < ord.idxOf i ∧ i ∈ ancOf ops j)
  dist : ∀ i, i < ops.size → ∀ j, j < ops.size → i ≠ j → ∀ d, dstOf ops i = some d → dstOf ops j ≠ some d
  chm : ∀ c ∈ ch, c < ops.size
  chn : ch.Nodup
  cha : ∀ q, q < ch.length → ∀ q', q' < q → ch.getD q' 0 ∈ ancOf ops (ch.getD q 0)
  chc : ∀ q, q < ch.length → cur ord ch (ch.getD q 0) = q
  fl : ∀ i, i < ops.size → i ∉ ch → (∀ q, q < lev ops ch i → ch.getD q 0 ∈ ancOf ops i) ∧ ∀ q, q < ch.length → q < cur ord ch i ∨ i ∈ ancOf ops (ch.getD q 0)

theorem drawOkX_iff {ops : Array Oper} {ord ch : List Nat} (h : drawOkX ops ord ch = true) : DX ops ord ch := by
  unfold drawOkX at h
  simp only [Bool.and_eq_true, List.all_eq_true, List.mem_range, decide_eq_true_eq, Bool.or_eq_true, beq_iff_eq, bne_iff_ne, Option.isNone_iff_eq_none, List.contains_iff_mem] at h
  obtain ⟨⟨⟨⟨⟨⟨⟨⟨⟨⟨h1, h2⟩, h3⟩, h4⟩, h5⟩, h6⟩, h7⟩, h8⟩, h9⟩, h10⟩, h11⟩ := h
  refine ⟨h1, h2, h3, h4, fun i hi t ht j hj hne hd => ?_, fun i hi j hj hne d hd hd' => ?_, h7, h8, h9, h10, fun i hi hn => ?_⟩
  · rcases h5 i hi t ht j hj with (h | h) | h
    · exact absurd h hne
    · exact absurd hd h
    · split at h
      · rename_i hlt; exact .inl ⟨hlt, by simpa using h⟩
      · rename_i hlt; exact .inr ⟨hlt, by simpa using h⟩
  · rcases h6 i hi j hj with (h | h) | h
    · exact hne h
    · rw [h] at hd; cases hd
    · exact h (hd.trans hd'.symm)
  · rcases h11 i hi with h | h
    · exact absurd h hn
    · exact h

/-- one still operation -/
def opX (P : Program) (E : Env) (ops : Array Oper) (s : St) (o : Oper) (k : X → Prop) : Prop :=
  match o.guard with
  | none => dok s o.dst ∧ (aopD P E s o.op).use fun v _ => k v
  | some (j, want) => guardP (gval ops s j) want fun es => dok s o.dst ∧ (aopD P E (s.un es) o.op).useG es s.h fun v => k v
theorem opX_ok {P : Program} {E : Env} {ops : Array Oper} {s : St} {o : Oper} {k : X → Prop} (h : opX P E ops s o k) : ∃ x, OpOk P E ops s o x ∧ k x := by
  unfold opX at h
  unfold OpOk
  cases hg : o.guard with
  | none =>
    rw [hg] at h
    exact ⟨_, ⟨h.1, ⟨h.2.1, rfl⟩⟩, h.2.2⟩
  | some jw =>
    obtain ⟨j, want⟩ := jw
    rw [hg] at h
    dsimp only at h ⊢
    unfold guardP at h
    split at h
    · rename_i es hp
      obtain ⟨h1, h2, h3⟩ := h
      exact ⟨_, ⟨h1, es, _, hp, rfl, fun e => ⟨(h2 e).1, rfl⟩⟩, h3⟩
    · exact h.elim
theorem OpOk.free {P : Program} {E : Env} {ops : Array Oper} {n : Nat} {t : Nat → X} {h h' : List Ob} {o : Oper} {v : X} (hf : free o.op = true) (hk : OpOk P E ops ⟨n, t, h⟩ o v) : OpOk P E ops ⟨n, t, h'⟩ o v := by
  unfold OpOk at hk ⊢
  obtain ⟨h1, h2⟩ := hk
  refine ⟨by cases hd : o.dst <;> rw [hd] at h1 <;> exact h1, ?_⟩
  split at h2
  · have := free_congr (P := P) (E := E) (n := n) (t := t) (h := h) (h' := h') hf
    rw [← this.1, ← this.2]; exact h2
  · obtain ⟨es, y, g1, g2, g3⟩ := h2
    refine ⟨es, y, g1, g2, fun e => ?_⟩
    have := free_congr (P := P) (E := E) (n := n) (t := unT es t) (h := h) (h' := h') hf
    have g4 := g3 e
    show (aopD P E ⟨n, unT es t, h'⟩ o.op).cond ∧ y = (aopD P E ⟨n, unT es t, h'⟩ o.op).val
    rw [← this.1, ← this.2]; exact g4

def rgX (P : Program) (E : Env) (ops : Array Oper) (ch : List Nat) : List Nat → St → List (List Ob) → (St → Prop) → Prop
  | [], s, _, K => K s
  | i :: rest, s, past, K =>
    match ops[i]? with
    | none => False
    | some o =>
      if ch.contains i = true then o.guard = none ∧ dok s o.dst ∧ (aop P E s o.op).use fun v h => rgX P E ops ch rest (s.put o.dst v h) (s.h :: past) K
      else opX P E ops s o fun v => (free o.op = true ∨ ∀ h ∈ past.take (past.length - lev ops ch i), OpOk P E ops ⟨s.n, s.t, h⟩ o v) ∧ rgX P E ops ch rest (s.put o.dst v s.h) past K

theorem countP_step {f g : Nat → Bool} {i : Nat} (hi : f i = false) (h : ∀ c, g c = (f c || c == i)) : ∀ ch : List Nat, ch.Nodup → ch.countP g = ch.countP f + if i ∈ ch then 1 else 0
  | [], _ => rfl
  | c :: ch, hn => by
    have hn' := List.nodup_cons.1 hn
    have ih := countP_step hi h ch hn'.2
    rw [List.countP_cons, List.countP_cons, ih, h c]
    by_cases e : c = i
    · subst e
      simp [hi, hn'.1]
    · have e' : ¬ i = c := fun h => e h.symm
      simp [e, e']
      omega

/-- what the operation gives, in whatever of the states in which it may run -/
def GoodX (P : Program) (E : Env) (ops : Array Oper) (ord ch : List Nat) (n0 : Nat) (t0 : Nat → X) (vals : Nat → X) (hs : Nat → List Ob) (i : Nat) : Prop :=
  ∀ o, ops[i]? = some o → ∃ tj : Nat → X, Desc ops ops.size vals t0 (fun j => ord.idxOf j < ord.idxOf i) tj ∧
    (i ∈ ch → o.guard = none ∧ dok ⟨n0, tj, hs (cur ord ch i)⟩ o.dst ∧ (aop P E ⟨n0, tj, hs (cur ord ch i)⟩ o.op).cond ∧ vals i = (aop P E ⟨n0, tj, hs (cur ord ch i)⟩ o.op).val ∧ hs (cur ord ch i + 1) = (aop P E ⟨n0, tj, hs (cur ord ch i)⟩ o.op).h) ∧
    (i ∉ ch → ∀ q, lev ops ch i ≤ q → q ≤ cur ord ch i → OpOk P E ops ⟨n0, tj, hs q⟩ o (vals i))

theorem rgX_vals {P : Program} {E : Env} {ops : Array Oper} {ord ch : List Nat} (hd : DX ops ord ch) {n0 : Nat} {t0 : Nat → X} {K : St → Prop} : ∀ (k p : Nat) (s : St) (past : List (List Ob)) (vals : Nat → X), p + k = ops.size → s.n = n0 →
    Desc ops ops.size vals t0 (fun j => ord.idxOf j < p) s.t → past.length = ch.countP (fun c => ord.idxOf c < p) → rgX P E ops ch (ord.drop p) s past K →
    ∃ (vals' : Nat → X) (hs : Nat → List Ob), (∀ j, ord.idxOf j < p → vals' j = vals j) ∧ (∀ r, r ≤ past.length → hs r = (s.h :: past).reverse.getD r []) ∧ (∀ i, p ≤ ord.idxOf i → i < ops.size → GoodX P E ops ord ch n0 t0 vals' hs i) ∧
      ∃ tm, Desc ops ops.size vals' t0 (fun j => ord.idxOf j < ops.size) tm ∧ K ⟨n0, tm, hs (ch.countP fun c => ord.idxOf c < ops.size)⟩
  | 0, p, s, past, vals, hk, hn, hD, hp, h => by
    have hpe : p = ops.size := by omega
    subst hpe
    rw [List.drop_of_length_le (by rw [hd.len]; exact Nat.le_refl _)] at h
    have mem : ∀ i, i < ops.size → ord.idxOf i < ops.size := by
      intro i hi
      rw [← hd.len]
      refine List.idxOf_lt_length_of_mem ?_
      -- all places are taken
      have hsub : ord ⊆ List.range ops.size := fun x hx => List.mem_range.2 (hd.mem x hx)
      refine Classical.byContradiction fun hno => ?_
      have h2 : ord ⊆ (List.range ops.size).erase i := fun x hx => (List.mem_erase_of_ne (fun e => hno (by rw [← e]; exact hx))).2 (hsub hx)
      have h3 := nodup_len hd.nd h2
      rw [List.length_erase_of_mem (List.mem_range.2 hi), List.length_range, hd.len] at h3
      omega
    refine ⟨vals, fun r => (s.h :: past).reverse.getD r [], fun _ _ => rfl, fun _ _ => rfl, fun i hi hi2 => ?_, s.t, hD, ?_⟩
    · have := mem i hi2; omega
    · rw [← hp]
      have : (s.h :: past).reverse.getD past.length [] = s.h := by simp [List.getD]
      show K ⟨n0, s.t, (s.h :: past).reverse.getD past.length []⟩
      rw [this, ← hn]; exact h
  | k + 1, p, s, past, vals, hk, hn, hD, hp, h => by
    have hlt : p < ord.length := by rw [hd.len]; omega
    rw [List.drop_eq_getElem_cons hlt] at h
    generalize hi : ord[p] = i at h
    have hidx : ord.idxOf i = p := by rw [← hi]; exact hd.nd.idxOf_getElem p hlt
    have hio : i < ops.size := hd.mem i (by rw [← hi]; exact List.getElem_mem hlt)
    have hget : ops[i]? = some ops[i] := Array.getElem?_eq_getElem hio
    have hdst : dstOf ops i = ops[i].dst := by simp [dstOf, hget]
    have uniq : ∀ c, ord.idxOf c = p → c = i := by
      intro c hc
      have h1 : ord.idxOf c < ord.length := by omega
      have h2 := List.getElem_idxOf h1
      simp only [hc] at h2
      rw [← h2]; exact hi
    have hstep := countP_step (f := fun c => decide (ord.idxOf c < p)) (g := fun c => decide (ord.idxOf c < p + 1)) (i := i) (by simp [hidx]) (fun c => by
      by_cases e : c = i
      · subst e; simp [hidx]
      · have hne : ord.idxOf c ≠ p := fun h => e (uniq c h)
        rw [Bool.eq_iff_iff]
        simp [e]; omega) ch hd.chn
    have hcur : cur ord ch i = past.length := by unfold cur; rw [hidx, hp]
    unfold rgX at h
    rw [hget] at h
    dsimp only at h
    -- the step, whichever it is
    have step : ∃ (x : X) (h' : List Ob) (past' : List (List Ob)), rgX P E ops ch (ord.drop (p + 1)) (s.put ops[i].dst x h') past' K ∧ past'.length = ch.countP (fun c => ord.idxOf c < p + 1) ∧
        (∀ r, r ≤ past.length → (h' :: past').reverse.getD r [] = (s.h :: past).reverse.getD r []) ∧ past.length ≤ past'.length ∧
        (i ∈ ch → ops[i].guard = none ∧ dok s ops[i].dst ∧ (aop P E s ops[i].op).cond ∧ x = (aop P E s ops[i].op).val ∧ (h' :: past').reverse.getD (past.length + 1) [] = (aop P E s ops[i].op).h ∧ past.length + 1 ≤ past'.length) ∧
        (i ∉ ch → OpOk P E ops s ops[i] x ∧ (Go.Abs.free ops[i].op = true ∨ ∀ h ∈ past.take (past.length - lev ops ch i), OpOk P E ops ⟨s.n, s.t, h⟩ ops[i] x)) := by
      by_cases hc : i ∈ ch
      · rw [if_pos (by simpa using hc)] at h
        obtain ⟨h1, h2, h3, h4⟩ := h
        refine ⟨_, _, s.h :: past, h4, ?_, fun r hr => ?_, by simp, fun _ => ⟨h1, h2, h3, rfl, ?_, by simp⟩, fun hn => absurd hc hn⟩
        · rw [hstep, if_pos hc, List.length_cons, hp]
        · rw [List.reverse_cons (a := (aop P E s ops[i].op).h)]
          simp only [List.getD]
          rw [List.getElem?_append_left (by simp; omega)]
        · simp [List.getD]
      · rw [if_neg (by simpa using hc)] at h
        obtain ⟨x, h1, h2, h3⟩ := opX_ok h
        refine ⟨x, s.h, past, h3, ?_, fun _ _ => rfl, Nat.le_refl _, fun hm => absurd hm hc, fun _ => ⟨h1, h2⟩⟩
        rw [hstep, if_neg hc, hp]
        rfl
    obtain ⟨x, h', past', hrest, hplen, hhist, hple, hch, hfl⟩ := step
    let vals1 : Nat → X := fun j => if j = i then x else vals j
    have hD1 : Desc ops ops.size vals1 t0 (fun j => ord.idxOf j < p) s.t := by
      intro t
      refine ⟨fun j hj hL ht => ?_, (hD t).2⟩
      have : vals1 j = vals j := if_neg fun e => by subst e; omega
      rw [this]; exact (hD t).1 j hj hL ht
    have hv1 : vals1 i = x := if_pos rfl
    obtain ⟨sn, st, sh⟩ := s
    dsimp only at hn hD1 hhist hch hfl hrest
    have hD2 := hD1.add' hd.dist (i := i) hio sn sh h'
    rw [hv1, hdst] at hD2
    have hput : (St.put ⟨sn, st, sh⟩ ops[i].dst x h').n = sn ∧ (St.put ⟨sn, st, sh⟩ ops[i].dst x h').h = h' := by cases ops[i].dst <;> exact ⟨rfl, rfl⟩
    have hD3 : Desc ops ops.size vals1 t0 (fun j => ord.idxOf j < p + 1) (St.put ⟨sn, st, sh⟩ ops[i].dst x h').t := by
      intro t
      refine ⟨fun j hj hL ht => (hD2 t).1 j hj ?_ ht, fun hne => (hD2 t).2 fun j hj hL => hne j hj ?_⟩
      · rcases Nat.lt_or_ge (ord.idxOf j) p with h | h
        · exact .inl h
        · exact .inr (uniq j (by omega))
      · rcases hL with h | rfl
        · omega
        · omega
    obtain ⟨vals', hs, g1, g2, g3, g4⟩ := rgX_vals hd (n0 := n0) k (p + 1) (St.put ⟨sn, st, sh⟩ ops[i].dst x h') past' vals1 (by omega) (by rw [hput.1]; exact hn) hD3 hplen hrest
    rw [hput.2] at g2
    have gi : vals' i = x := by rw [g1 i (by omega)]; exact hv1
    refine ⟨vals', hs, fun j hj => ?_, fun r hr => ?_, fun j hj hj2 => ?_, g4⟩
    · rw [g1 j (by omega)]; exact if_neg fun e => by subst e; omega
    · rw [g2 r (by omega), hhist r hr]
    · rcases Nat.lt_or_ge p (ord.idxOf j) with hlt2 | hge
      · exact g3 j (by omega) hj2
      · have hj3 : j = i := uniq j (by omega)
        subst hj3
        intro o ho
        rw [hget] at ho
        injection ho with ho
        subst ho
        have hsq : ∀ r, r ≤ past.length → hs r = (sh :: past).reverse.getD r [] := fun r hr => by rw [g2 r (by omega), hhist r hr]
        have hsc : hs past.length = sh := by rw [hsq _ (Nat.le_refl _)]; simp [List.getD]
        refine ⟨st, fun t => ⟨fun l hl hL ht => ?_, fun hne => (hD1 t).2 fun l hl hL => hne l hl (by omega)⟩, fun hc => ?_, fun hc q hq1 hq2 => ?_⟩
        · rw [g1 l (by omega)]; exact (hD1 t).1 l hl (by omega) ht
        · obtain ⟨a1, a2, a3, a4, a5, a6⟩ := hch hc
          rw [hcur, hsc, gi, g2 (past.length + 1) a6, a5, ← hn]
          exact ⟨a1, a2, a3, a4, rfl⟩
        · obtain ⟨a1, a2⟩ := hfl hc
          rw [hcur] at hq2
          rw [gi, ← hn]
          rcases Nat.eq_or_lt_of_le hq2 with e | hq3
          · rw [e, hsc]; exact a1
          · rcases a2 with a2 | a2
            · exact a1.free a2
            · refine a2 (hs q) ?_
              rw [hsq q hq2]
              -- the q-th of the past, seen from its head
              rw [List.reverse_cons]
              simp only [List.getD]
              rw [List.getElem?_append_left (by simpa using hq3), List.getElem?_reverse hq3, List.getElem?_eq_getElem (by omega), Option.getD_some]
              rw [List.mem_take_iff_getElem]
              exact ⟨past.length - 1 - q, by omega, rfl⟩

/-- an operation of the chain -/
theorem wpOp_of_ch {P : Program} {E : Env} {c : Cx} (hE : E.ok P c)  {ops : Array Oper} {Q : Exit → Act → World → Prop} {s : St} {β : Pl} {a : Act} {w : World} {i : Nat} {o : Oper} (ho : ops[i]? = some o) (H : Rel c s β a w) (hg : o.guard = none) (hd : dok s o.dst) (hc : (aop P E s o.op).cond)
    {K : Act → World → Prop} (hK : ∀ β' a' w', Rel c (s.put o.dst (aop P E s o.op).val (aop P E s o.op).h) β' a' w' → K a' w') : wpOp P ops Q i K a w := by
  unfold wpOp
  rw [ho]
  dsimp only
  rw [if_pos (by simp [Region.wanted, hg])]
  exact .inl (aop_sound hE H o hc _ Q fun v β' w' h1 h2 h3 => hK β' _ w' (Rel.put o.dst H hd h1 h2 h3))

theorem drawXA {P : Program} {E : Env} {c : Cx} (hE : E.ok P c)  {ops : Array Oper} {ord ch : List Nat} (hd : DX ops ord ch) {Q : Exit → Act → World → Prop} {K : St → Prop} (hQ : ∀ s' β' a' w', K s' → Rel c s' β' a' w' → Q .normal a' w')
    {n0 : Nat} {t0 : Nat → X} {vals : Nat → X} {hs : Nat → List Ob} (hv : ∀ i, i < ops.size → GoodX P E ops ord ch n0 t0 vals hs i)
    (hK : ∃ tm, Desc ops ops.size vals t0 (fun j => j < ops.size) tm ∧ K ⟨n0, tm, hs ch.length⟩) :
    ∀ (fuel : Nat) (listed : Array Bool) (rem : List Nat) (X' : Nat → X) (q : Nat) (β : Pl) (a : Act) (w : World), listed.size = ops.size → rem.Nodup → (∀ i, i ∈ rem ↔ i < ops.size ∧ listed.getD i false = false) → rem.length ≤ fuel →
      (∀ i, listed.getD i false = true → ∀ j ∈ edgesOf ops i, listed.getD j false = true) → q ≤ ch.length → (∀ r, r < ch.length → (listed.getD (ch.getD r 0) false = true ↔ r < q)) →
      Desc ops ops.size vals t0 (fun i => listed.getD i false = true) X' → Rel c ⟨n0, X', hs q⟩ β a w → wpAny P .any ops Q fuel listed a w := by
  -- when all have run
  have fin : ∀ (listed : Array Bool) (X' : Nat → X) (q : Nat) (β : Pl) (a : Act) (w : World), (∀ i, i < ops.size → listed.getD i false = true) → q ≤ ch.length → (∀ r, r < ch.length → (listed.getD (ch.getD r 0) false = true ↔ r < q)) →
      Desc ops ops.size vals t0 (fun i => listed.getD i false = true) X' → Rel c ⟨n0, X', hs q⟩ β a w → Q .normal a w := by
    intro listed X' q β a w hall hq hqc hD H
    have hqe : q = ch.length := by
      rcases Nat.eq_or_lt_of_le hq with h | h
      · exact h
      · have hm : ch.getD q 0 < ops.size := by
          have : ch.getD q 0 = ch[q] := by simp [List.getD, h]
          rw [this]; exact hd.chm _ (List.getElem_mem h)
        have := (hqc q h).1 (hall _ hm)
        omega
    obtain ⟨tm, k3, k4⟩ := hK
    have hX : X' = tm := by
      funext t
      by_cases hw : ∃ i, i < ops.size ∧ dstOf ops i = some t
      · obtain ⟨i, hi, hdi⟩ := hw
        rw [(hD t).1 i hi (hall i hi) hdi, (k3 t).1 i hi hi hdi]
      · rw [(hD t).2 fun i hi _ hdi => hw ⟨i, hi, hdi⟩, (k3 t).2 fun i hi _ hdi => hw ⟨i, hi, hdi⟩]
    rw [hX, hqe] at H
    exact hQ _ β a w k4 H
  intro fuel
  induction fuel with
  | zero =>
    intro listed rem X' q β a w hls hnd hrem hf hcl hq hqc hD H
    have hr0 : rem = [] := List.eq_nil_of_length_eq_zero (by omega)
    have hall : ∀ i, i < ops.size → listed.getD i false = true := by
      intro i hi
      cases hb : listed.getD i false with
      | true => rfl
      | false => have := (hrem i).2 ⟨hi, hb⟩; rw [hr0] at this; simp at this
    refine ⟨?_, fin listed X' q β a w hall hq hqc hD H⟩
    rw [List.eq_nil_iff_forall_not_mem]
    intro i hi
    rw [ready_iff hls] at hi
    have := hall i hi.1
    rw [hi.2.1] at this; cases this
  | succ fuel ih =>
    intro listed rem X' q β a w hls hnd hrem hf hcl hq hqc hD H
    refine ⟨fun hnil => ?_, fun i hi => ?_⟩
    · -- the first that has not run is ready
      by_cases hall : ∀ i, i < ops.size → listed.getD i false = true
      · exact fin listed X' q β a w hall hq hqc hD H
      · exfalso
        have hex : ∃ p, ∃ i, i < ops.size ∧ listed.getD i false = false ∧ ord.idxOf i = p := by
          refine Classical.byContradiction fun hno => hall fun i hi => ?_
          cases hb : listed.getD i false with
          | true => rfl
          | false => exact absurd ⟨_, i, hi, hb, rfl⟩ hno
        obtain ⟨p, ⟨i, h1, h2, h3⟩, h4⟩ := exists_least hex
        have : i ∈ Region.ready .any ops listed := by
          rw [ready_iff hls]
          refine ⟨h1, h2, fun k hk => ?_⟩
          obtain ⟨e1, e2⟩ := hd.edge i h1 k hk
          cases hb : listed.getD k false with
          | true => rfl
          | false => have := h4 _ ⟨k, e1, hb, rfl⟩; omega
        rw [hnil] at this
        simp at this
    · rw [ready_iff hls] at hi
      obtain ⟨h1, h2, h3⟩ := hi
      have hanc : ∀ k, k < ops.size → (∀ j ∈ edgesOf ops k, listed.getD j false = true) → ∀ j ∈ ancOf ops k, listed.getD j false = true := fun k hk he =>
        anc_mem (ops := ops) (L := fun j => listed.getD j false = true) hcl ops.size k hk he
      have hget : ops[i]? = some ops[i] := Array.getElem?_eq_getElem h1
      obtain ⟨tj, j3, jc, jf⟩ := hv i h1 ops[i] hget
      have hag : ∀ t ∈ looks ops i, X' t = tj t := by
        intro t ht
        by_cases hw : ∃ k, k < ops.size ∧ i ≠ k ∧ dstOf ops k = some t
        · obtain ⟨k, hk, hne, hdk⟩ := hw
          rcases hd.look i h1 t ht k hk hne hdk with ⟨hlt, hmem⟩ | ⟨hlt, hmem⟩
          · have hLk := hanc i h1 h3 k hmem
            rw [(hD t).1 k hk hLk hdk, (j3 t).1 k hk hlt hdk]
          · have hnk : listed.getD k false = false := by
              cases hb : listed.getD k false with
              | false => rfl
              | true =>
                have := hanc k hk (hcl k hb) i hmem
                rw [h2] at this; cases this
            have uniq : ∀ l, l < ops.size → dstOf ops l = some t → l = k := fun l hl hdl => by
              by_cases e : l = k
              · exact e
              · exact absurd hdk (hd.dist l hl k hk e t hdl)
            rw [(hD t).2 (fun l hl hL hdl => by rw [uniq l hl hdl, hnk] at hL; cases hL), (j3 t).2 (fun l hl hL hdl => by have := uniq l hl hdl; subst this; exact hlt hL)]
        · have only : ∀ l, l < ops.size → dstOf ops l = some t → l = i := fun l hl hdl => by
            by_cases e : i = l
            · exact e.symm
            · exact absurd ⟨l, hl, e, hdl⟩ hw
          rw [(hD t).2 (fun l hl hL hdl => by rw [only l hl hdl, h2] at hL; cases hL), (j3 t).2 (fun l hl hL hdl => by have := only l hl hdl; subst this; omega)]
      have hlk : looks ops i = ops[i].looksAt ops := by simp [looks, hget]
      have hops : ∀ hh x, x ∈ ops[i].op.operands → ev (⟨n0, X', hh⟩ : St) x = ev (⟨n0, tj, hh⟩ : St) x := by
        intro hh x hx
        refine ev_congr fun t ht => hag t ?_
        rw [hlk]
        unfold Oper.looksAt
        refine List.mem_append.2 (.inl (List.mem_filterMap.2 ⟨x, by simpa using hx, by rw [ht]⟩))
      have hdst : dstOf ops i = ops[i].dst := by simp [dstOf, hget]
      have hil : i < listed.size := by omega
      -- what holds of the others behind this one
      have next : ∀ (q' : Nat) (β' : Pl) (a' : Act) (w' : World), q' ≤ ch.length → (∀ r, r < ch.length → ((listed.setIfInBounds i true).getD (ch.getD r 0) false = true ↔ r < q')) →
          Rel c (St.put ⟨n0, X', hs q⟩ ops[i].dst (vals i) (hs q')) β' a' w' → wpAny P .any ops Q fuel (listed.setIfInBounds i true) a' w' := by
        intro q' β' a' w' hq' hqc' H'
        have hD' := hD.add' hd.dist h1 n0 (hs q) (hs q')
        rw [hdst] at hD'
        have hput : St.put ⟨n0, X', hs q⟩ ops[i].dst (vals i) (hs q') = ⟨n0, (St.put ⟨n0, X', hs q⟩ ops[i].dst (vals i) (hs q')).t, hs q'⟩ := by cases ops[i].dst <;> rfl
        have H2 : Rel c ⟨n0, (St.put ⟨n0, X', hs q⟩ ops[i].dst (vals i) (hs q')).t, hs q'⟩ β' a' w' := by rw [← hput]; exact H'
        refine ih _ (rem.erase i) _ q' β' a' w' (by simpa using hls) (hnd.erase i) (fun k => ?_) ?_ (fun k hk j hj => ?_) hq' hqc' ?_ H2
        · rw [hnd.mem_erase_iff, hrem]
          constructor
          · rintro ⟨hne, hk1, hk2⟩
            refine ⟨hk1, ?_⟩
            cases hb : (listed.setIfInBounds i true).getD k false with
            | false => rfl
            | true =>
              rcases (setL hil).1 hb with h | h
              · rw [hk2] at h; cases h
              · exact absurd h hne
          · rintro ⟨hk1, hk2⟩
            refine ⟨fun e => ?_, hk1, ?_⟩
            · rw [(setL hil).2 (.inr e)] at hk2; cases hk2
            · cases hb : listed.getD k false with
              | false => rfl
              | true => rw [(setL hil).2 (.inl hb)] at hk2; cases hk2
        · rw [List.length_erase_of_mem ((hrem i).2 ⟨h1, h2⟩)]; omega
        · rcases (setL hil).1 hk with h | h
          · exact (setL hil).2 (.inl (hcl k h j hj))
          · subst h; exact (setL hil).2 (.inl (h3 j hj))
        · intro t
          refine ⟨fun k hk hL hdk => (hD' t).1 k hk ((setL hil).1 hL) hdk, fun hne => (hD' t).2 fun k hk hL => hne k hk ((setL hil).2 hL)⟩
      by_cases hc : i ∈ ch
      · -- the chain's next
        obtain ⟨r, hr, hri⟩ := List.getElem_of_mem hc
        have hri' : ch.getD r 0 = i := by simp [List.getD, hr, hri]
        have hrq : r = q := by
          rcases Nat.lt_trichotomy r q with h | h | h
          · have := (hqc r hr).2 h
            rw [hri', h2] at this; cases this
          · exact h
          · have := hanc i h1 h3 (ch.getD q 0) (by rw [← hri']; exact hd.cha r hr q h)
            have := (hqc q (by omega)).1 this
            omega
        subst hrq
        have hcu : cur ord ch i = r := by rw [← hri']; exact hd.chc r hr
        obtain ⟨g1, g2, g3, g4, g5⟩ := jc hc
        rw [hcu] at g2 g3 g4 g5
        have hcg : aop P E (⟨n0, X', hs r⟩ : St) ops[i].op = aop P E ⟨n0, tj, hs r⟩ ops[i].op := aop_congr _ rfl (hops (hs r))
        refine wpOp_of_ch hE hget H g1 (by cases hdd : ops[i].dst <;> rw [hdd] at g2 <;> exact g2) (by rw [hcg]; exact g3) fun β' a' w' H' => ?_
        rw [hcg, ← g4, ← g5] at H'
        refine next (r + 1) β' a' w' (by omega) (fun r' hr' => ?_) H'
        rw [setL hil, hqc r' hr']
        constructor
        · rintro (h | h)
          · omega
          · have e1 : ch[r'] = i := by rw [← h]; simp [List.getD, hr']
            have i1 := hd.chn.idxOf_getElem r' hr'
            have i2 := hd.chn.idxOf_getElem r hr
            rw [e1] at i1
            rw [hri] at i2
            omega
        · intro h
          rcases Nat.lt_or_ge r' r with h' | h'
          · exact .inl h'
          · have : r' = r := by omega
            subst this; exact .inr hri'
      · -- one that floats
        obtain ⟨f1, f2⟩ := hd.fl i h1 hc
        have hl1 : lev ops ch i ≤ q := by
          rcases Nat.lt_or_ge q (lev ops ch i) with h | h
          · have := hanc i h1 h3 (ch.getD q 0) (f1 q h)
            have hlc : lev ops ch i ≤ ch.length := List.countP_le_length
            have := (hqc q (by omega)).1 this
            omega
          · exact h
        have hl2 : q ≤ cur ord ch i := by
          rcases Nat.lt_or_ge (cur ord ch i) q with h | h
          · exfalso
            rcases f2 (cur ord ch i) (by omega) with h' | h'
            · omega
            · have hli := (hqc (cur ord ch i) (by omega)).2 h
              have hm : ch.getD (cur ord ch i) 0 < ops.size := by
                have hlt : cur ord ch i < ch.length := by omega
                have : ch.getD (cur ord ch i) 0 = ch[cur ord ch i] := by simp [List.getD, hlt]
                rw [this]; exact hd.chm _ (List.getElem_mem hlt)
              have := hanc _ hm (hcl _ hli) i h'
              rw [h2] at this; cases this
          · exact h
        have j4 := jf hc q hl1 hl2
        have hcg : aopD P E (⟨n0, X', hs q⟩ : St) ops[i].op = aopD P E ⟨n0, tj, hs q⟩ ops[i].op := aopD_congr _ rfl (hops (hs q))
        have hok : OpOk P E ops ⟨n0, X', hs q⟩ ops[i] (vals i) := by
          obtain ⟨q1, q2⟩ := j4
          refine ⟨by cases hdd : ops[i].dst <;> rw [hdd] at q1 <;> exact q1, ?_⟩
          cases hg : ops[i].guard with
          | none => rw [hg] at q2; dsimp only at q2 ⊢; rw [hcg]; exact q2
          | some jw =>
            obtain ⟨j, want⟩ := jw
            rw [hg] at q2
            dsimp only at q2 ⊢
            obtain ⟨p, y, p1, p2, p3⟩ := q2
            have hcg' : aopD P E ((⟨n0, X', hs q⟩ : St).un p) ops[i].op = aopD P E ((⟨n0, tj, hs q⟩ : St).un p) ops[i].op := by
              refine aopD_congr _ rfl fun x hx => ?_
              have := hops (hs q) x hx
              cases x with
              | tmp t => show unL p (X' t) = unL p (tj t); rw [show X' t = tj t from this]
              | _ => rfl
            refine ⟨p, y, ?_, p2, by rw [hcg']; exact p3⟩
            rw [← p1]
            refine congrArg (gl want) ?_
            unfold gval
            cases hdj : (ops[j]?).bind (·.dst) with
            | none => rfl
            | some d =>
              refine hag d ?_
              rw [hlk]
              unfold Oper.looksAt
              refine List.mem_append.2 (.inr ?_)
              rw [hg]
              simp [hdj]
        refine wpOp_of hE hget H hok fun β' a' w' H' => ?_
        refine next q β' a' w' hq (fun r hr => ?_) H'
        rw [setL hil, hqc r hr]
        constructor
        · rintro (h | h)
          · exact h
          · exfalso
            refine hc ?_
            have : ch.getD r 0 = ch[r] := by simp [List.getD, hr]
            rw [← h, this]; exact List.getElem_mem hr
        · exact fun h => .inl h

/-- a region that draws its order: still operations that float about a chain -/
def drawX (P : Program) (E : Env) (ops : Array Oper) (s : St) (K : St → Prop) : Prop :=
  ∃ ord ch, drawOkX ops ord ch = true ∧ rgX P E ops ch ord s [] K

theorem drawX_sound {P : Program} {E : Env} {c : Cx} (hE : E.ok P c) (hm : P.follows .mixedOrders = true)  {id : Nat} {ops : Array Oper} {Q : Exit → Act → World → Prop} {s : St} {K : St → Prop} {β : Pl} {a : Act} {w : World} (H : Rel c s β a w)
    (h : drawX P E ops s K) (hQ : ∀ s' β' a' w', K s' → Rel c s' β' a' w' → Q .normal a' w') : (Code.region id ops true).wp P Q a w := by
  obtain ⟨ord, ch, hok, hrg⟩ := h
  have hd := drawOkX_iff hok
  have hD0 : Desc ops ops.size (fun _ => .top) s.t (fun j => ord.idxOf j < 0) s.t := fun t => ⟨fun i _ hL => by omega, fun _ => rfl⟩
  obtain ⟨vals, hs, _, g2, g3, tm, g4, g5⟩ := rgX_vals hd (n0 := s.n) (t0 := s.t) ops.size 0 s [] (fun _ => .top) (by omega) rfl hD0 (by simp) (by simpa using hrg)
  have mem : ∀ i, i < ops.size → ord.idxOf i < ops.size := by
    intro i hi
    rw [← hd.len]
    refine List.idxOf_lt_length_of_mem ?_
    have hsub : ord ⊆ List.range ops.size := fun x hx => List.mem_range.2 (hd.mem x hx)
    refine Classical.byContradiction fun hno => ?_
    have h2 : ord ⊆ (List.range ops.size).erase i := fun x hx => (List.mem_erase_of_ne (fun e => hno (by rw [← e]; exact hx))).2 (hsub hx)
    have h3 := nodup_len hd.nd h2
    rw [List.length_erase_of_mem (List.mem_range.2 hi), List.length_range, hd.len] at h3
    omega
  have hcl : (ch.countP fun c => ord.idxOf c < ops.size) = ch.length := List.countP_eq_length.2 fun c hc => by simpa using mem c (hd.chm c hc)
  rw [hcl] at g5
  have hs0 : hs 0 = s.h := g2 0 (Nat.zero_le _)
  refine wp_region_any hm ?_
  have hL0 : ∀ i, (Array.replicate ops.size false).getD i false = false := fun i => by
    simp only [Array.getD_eq_getD_getElem?, Array.getElem?_replicate]
    split <;> rfl
  have H0 : Rel c ⟨s.n, s.t, hs 0⟩ β a { w with drawn := w.drawn + 1 } := by rw [hs0]; exact H.drawn
  refine drawXA hE hd hQ (fun i hi => g3 i (Nat.zero_le _) hi) ⟨tm, fun t => ⟨fun i hi _ ht => (g4 t).1 i hi (mem i hi) ht, fun hne => (g4 t).2 fun i hi _ => hne i hi hi⟩, g5⟩ ops.size _ (List.range ops.size) s.t 0 β a _ (by simp) List.nodup_range (fun i => ?_) (by simp) (fun i hi => ?_) (Nat.zero_le _) (fun r hr => ?_) ?_ H0
  · rw [List.mem_range, hL0]; simp
  · rw [hL0] at hi; cases hi
  · rw [hL0]; simp
  · exact fun t => ⟨fun i _ hL => (by have h' : (Array.replicate ops.size false).getD i false = true := hL; rw [hL0] at h'; cases h'), fun _ => rfl⟩

theorem opX_mono {P : Program} {E : Env} {ops : Array Oper} {s : St} {o : Oper} {k k' : X → Prop} (hk : ∀ x, k x → k' x) (h : opX P E ops s o k) : opX P E ops s o k' := by
  unfold opX at h ⊢
  split at h
  · exact ⟨h.1, h.2.1, hk _ h.2.2⟩
  · unfold guardP at h ⊢
    split at h
    · exact ⟨h.1, h.2.1, hk _ h.2.2⟩
    · exact h.elim
theorem rgX_mono {P : Program} {E : Env} {ops : Array Oper} {ch : List Nat} {K K' : St → Prop} (hk : ∀ s, K s → K' s) : ∀ (l : List Nat) (s : St) (past : List (List Ob)), rgX P E ops ch l s past K → rgX P E ops ch l s past K'
  | [], s, _, h => hk s h
  | i :: rest, s, past, h => by
    unfold rgX at h ⊢
    split at h
    · exact h
    · split at h
      · rename_i hc
        rw [if_pos hc]
        exact ⟨h.1, h.2.1, h.2.2.1, rgX_mono hk rest _ _ h.2.2.2⟩
      · rename_i hc
        rw [if_neg hc]
        exact opX_mono (fun x hx => ⟨hx.1, rgX_mono hk rest _ _ hx.2⟩) h

theorem drawX_mono {P : Program} {E : Env} {ops : Array Oper} {s : St} {K K' : St → Prop} (hk : ∀ s, K s → K' s) (h : drawX P E ops s K) : drawX P E ops s K' := by
  obtain ⟨ord, ch, h1, h2⟩ := h
  exact ⟨ord, ch, h1, rgX_mono hk _ _ _ h2⟩

/-! ### one edge more: two operations of which either may come first -/
def aft (i j k : Nat) (o : Oper) : Oper := if k = j then { o with after := o.after.push ⟨i, .chain⟩ } else o
theorem aft_op (i j k : Nat) (o : Oper) : (aft i j k o).op = o.op := by unfold aft; split <;> rfl
theorem aft_dst (i j k : Nat) (o : Oper) : (aft i j k o).dst = o.dst := by unfold aft; split <;> rfl
theorem aft_guard (i j k : Nat) (o : Oper) : (aft i j k o).guard = o.guard := by unfold aft; split <;> rfl
theorem aft_wp {P : Program} (i j k : Nat) (o : Oper) {a : Act} {w : World} {K : Act → World → Prop} {Q : Exit → Act → World → Prop} : (aft i j k o).wp P a w K Q = o.wp P a w K Q := by unfold aft; split <;> rfl
theorem aft_asks {P : Program} (i j k : Nat) (o : Oper) {a : Act} {w : World} : (aft i j k o).asks P a w = o.asks P a w := by unfold aft; split <;> rfl
def adL (i j : Nat) : Nat → List Oper → List Oper
  | _, [] => []
  | k, o :: l => aft i j k o :: adL i j (k + 1) l
def addE (ops : Array Oper) (i j : Nat) : Array Oper := (adL i j 0 ops.toList).toArray
theorem adL_get (i j : Nat) : ∀ (l : List Oper) (n k : Nat), (adL i j n l)[k]? = (l[k]?).map (aft i j (n + k))
  | [], n, k => by simp [adL]
  | o :: l, n, 0 => by simp [adL]
  | o :: l, n, k + 1 => by
    simp only [adL, List.getElem?_cons_succ]
    rw [adL_get i j l (n + 1) k, show n + 1 + k = n + (k + 1) by omega]
theorem adL_len (i j : Nat) : ∀ (l : List Oper) (n : Nat), (adL i j n l).length = l.length
  | [], n => rfl
  | o :: l, n => by simp [adL, adL_len i j l]
theorem addE_get (ops : Array Oper) (i j k : Nat) : (addE ops i j)[k]? = (ops[k]?).map (aft i j k) := by
  simp [addE, adL_get]
theorem addE_size (ops : Array Oper) (i j : Nat) : (addE ops i j).size = ops.size := by simp [addE, adL_len]
theorem addE_dst (ops : Array Oper) (i j k : Nat) : ((addE ops i j)[k]?).bind (·.dst) = (ops[k]?).bind (·.dst) := by
  rw [addE_get]
  cases ops[k]? with
  | none => rfl
  | some o => simp [aft_dst]
theorem addE_yielded (ops : Array Oper) (i j : Nat) (tmps : Array Value) : yielded (addE ops i j) tmps = yielded ops tmps := by
  funext k
  unfold yielded
  rw [addE_dst]
theorem addE_wpOp {P : Program} {ops : Array Oper} (i j k : Nat) {Q : Exit → Act → World → Prop} {K : Act → World → Prop} {a : Act} {w : World} (h : wpOp P (addE ops i j) Q k K a w) : wpOp P ops Q k K a w := by
  unfold wpOp at h ⊢
  rw [addE_get, addE_yielded] at h
  cases ho : ops[k]? with
  | none => rw [ho] at h; exact h
  | some o =>
    rw [ho] at h
    simp only [Option.map_some, aft_wp, aft_asks, aft_dst] at h
    have e : Region.wanted (aft i j k o) (yielded ops a.tmps) = Region.wanted o (yielded ops a.tmps) := by unfold Region.wanted; rw [aft_guard]
    rw [e] at h
    exact h
theorem addE_edges (ops : Array Oper) (i j k : Nat) (hj : j < ops.size) : ∀ q, q ∈ edgesOf (addE ops i j) k ↔ q ∈ edgesOf ops k ∨ (k = j ∧ q = i) := by
  intro q
  unfold edgesOf
  rw [addE_get]
  cases ho : ops[k]? with
  | none =>
    have hk : ¬ k = j := fun e => by subst e; simp [Array.getElem?_eq_getElem hj] at ho
    simp [hk]
  | some o =>
    unfold aft
    by_cases hk : k = j
    · have hb : Region.binds .any ⟨i, .chain⟩ = true := rfl
      simp only [hk, if_true, Option.map_some, Option.getD_some, Array.toList_push, List.filter_append, List.map_append, List.mem_append, List.filter_cons, hb, List.filter_nil, List.map_cons, List.map_nil, List.mem_singleton, true_and]
    · simp only [hk, if_false, Option.map_some, Option.getD_some, false_and, or_false]
/-- once the first of the two has run, the edge is of no matter -/
theorem wpAny_gone {P : Program} {ops : Array Oper} {i j : Nat} (hj : j < ops.size) {Q : Exit → Act → World → Prop} : ∀ (fuel : Nat) (listed : Array Bool) (a : Act) (w : World), listed.size = ops.size → listed.getD i false = true →
    wpAny P .any (addE ops i j) Q fuel listed a w → wpAny P .any ops Q fuel listed a w := by
  have hr : ∀ (listed : Array Bool), listed.size = ops.size → listed.getD i false = true → ∀ k, k ∈ Region.ready .any ops listed ↔ k ∈ Region.ready .any (addE ops i j) listed := by
    intro listed hs hi k
    rw [ready_iff hs, ready_iff (by rw [addE_size]; exact hs), addE_size]
    constructor
    · rintro ⟨h1, h2, h3⟩
      refine ⟨h1, h2, fun q hq => ?_⟩
      rcases (addE_edges ops i j k hj q).1 hq with h | ⟨_, rfl⟩
      · exact h3 q h
      · exact hi
    · rintro ⟨h1, h2, h3⟩
      exact ⟨h1, h2, fun q hq => h3 q ((addE_edges ops i j k hj q).2 (.inl hq))⟩
  have hn : ∀ (listed : Array Bool), listed.size = ops.size → listed.getD i false = true → (Region.ready .any ops listed = [] → Region.ready .any (addE ops i j) listed = []) := by
    intro listed hs hi h
    rw [List.eq_nil_iff_forall_not_mem]
    intro k hk
    rw [← hr listed hs hi] at hk
    rw [h] at hk; simp at hk
  intro fuel
  induction fuel with
  | zero =>
    intro listed a w hs hi h
    refine ⟨?_, h.2⟩
    rw [List.eq_nil_iff_forall_not_mem]
    intro k hk
    rw [hr listed hs hi, h.1] at hk; simp at hk
  | succ fuel ih =>
    intro listed a w hs hi h
    refine ⟨fun hnil => h.1 (hn listed hs hi hnil), fun k hk => ?_⟩
    have h2 := h.2 k ((hr listed hs hi k).1 hk)
    refine wpOp_mono (fun a w hh => ih _ a w (by simpa using hs) ?_ hh) (addE_wpOp i j k h2)
    simp only [Array.getD_eq_getD_getElem?, Array.getElem?_setIfInBounds] at hi ⊢
    split
    · split <;> simp_all
    · exact hi
/-- an operation that floats, where it may run -/
theorem floatX {P : Program} {E : Env} {ops : Array Oper} {ord ch : List Nat} (hd : DX ops ord ch) {n0 : Nat} {t0 : Nat → X} {vals : Nat → X} {hs : Nat → List Ob} (hv : ∀ i, i < ops.size → GoodX P E ops ord ch n0 t0 vals hs i)
    {listed : Array Bool} {X' : Nat → X} {q : Nat} (hcl : ∀ i, listed.getD i false = true → ∀ j ∈ edgesOf ops i, listed.getD j false = true) (hq : q ≤ ch.length) (hqc : ∀ r, r < ch.length → (listed.getD (ch.getD r 0) false = true ↔ r < q))
    (hD : Desc ops ops.size vals t0 (fun i => listed.getD i false = true) X') {i : Nat} (h1 : i < ops.size) (h2 : listed.getD i false = false) (h3 : ∀ j ∈ edgesOf ops i, listed.getD j false = true) (hc : i ∉ ch) : OpOk P E ops ⟨n0, X', hs q⟩ ops[i] (vals i) := by
  have hanc : ∀ k, k < ops.size → (∀ j ∈ edgesOf ops k, listed.getD j false = true) → ∀ j ∈ ancOf ops k, listed.getD j false = true := fun k hk he =>
    anc_mem (ops := ops) (L := fun j => listed.getD j false = true) hcl ops.size k hk he
  have hget : ops[i]? = some ops[i] := Array.getElem?_eq_getElem h1
  obtain ⟨tj, j3, jc, jf⟩ := hv i h1 ops[i] hget
  have hag : ∀ t ∈ looks ops i, X' t = tj t := by
    intro t ht
    by_cases hw : ∃ k, k < ops.size ∧ i ≠ k ∧ dstOf ops k = some t
    · obtain ⟨k, hk, hne, hdk⟩ := hw
      rcases hd.look i h1 t ht k hk hne hdk with ⟨hlt, hmem⟩ | ⟨hlt, hmem⟩
      · have hLk := hanc i h1 h3 k hmem
        rw [(hD t).1 k hk hLk hdk, (j3 t).1 k hk hlt hdk]
      · have hnk : listed.getD k false = false := by
          cases hb : listed.getD k false with
          | false => rfl
          | true =>
            have := hanc k hk (hcl k hb) i hmem
            rw [h2] at this; cases this
        have uniq : ∀ l, l < ops.size → dstOf ops l = some t → l = k := fun l hl hdl => by
          by_cases e : l = k
          · exact e
          · exact absurd hdk (hd.dist l hl k hk e t hdl)
        rw [(hD t).2 (fun l hl hL hdl => by rw [uniq l hl hdl, hnk] at hL; cases hL), (j3 t).2 (fun l hl hL hdl => by have := uniq l hl hdl; subst this; exact hlt hL)]
    · have only : ∀ l, l < ops.size → dstOf ops l = some t → l = i := fun l hl hdl => by
        by_cases e : i = l
        · exact e.symm
        · exact absurd ⟨l, hl, e, hdl⟩ hw
      rw [(hD t).2 (fun l hl hL hdl => by rw [only l hl hdl, h2] at hL; cases hL), (j3 t).2 (fun l hl hL hdl => by have := only l hl hdl; subst this; omega)]
  have hlk : looks ops i = ops[i].looksAt ops := by simp [looks, hget]
  have hops : ∀ hh x, x ∈ ops[i].op.operands → ev (⟨n0, X', hh⟩ : St) x = ev (⟨n0, tj, hh⟩ : St) x := by
    intro hh x hx
    refine ev_congr fun t ht => hag t ?_
    rw [hlk]
    unfold Oper.looksAt
    refine List.mem_append.2 (.inl (List.mem_filterMap.2 ⟨x, by simpa using hx, by rw [ht]⟩))
  have hdst : dstOf ops i = ops[i].dst := by simp [dstOf, hget]
  obtain ⟨f1, f2⟩ := hd.fl i h1 hc
  have hl1 : lev ops ch i ≤ q := by
    rcases Nat.lt_or_ge q (lev ops ch i) with h | h
    · have := hanc i h1 h3 (ch.getD q 0) (f1 q h)
      have hlc : lev ops ch i ≤ ch.length := List.countP_le_length
      have := (hqc q (by omega)).1 this
      omega
    · exact h
  have hl2 : q ≤ cur ord ch i := by
    rcases Nat.lt_or_ge (cur ord ch i) q with h | h
    · exfalso
      rcases f2 (cur ord ch i) (by omega) with h' | h'
      · omega
      · have hli := (hqc (cur ord ch i) (by omega)).2 h
        have hm : ch.getD (cur ord ch i) 0 < ops.size := by
          have hlt : cur ord ch i < ch.length := by omega
          have : ch.getD (cur ord ch i) 0 = ch[cur ord ch i] := by simp [List.getD, hlt]
          rw [this]; exact hd.chm _ (List.getElem_mem hlt)
        have := hanc _ hm (hcl _ hli) i h'
        rw [h2] at this; cases this
    · exact h
  have j4 := jf hc q hl1 hl2
  have hcg : aopD P E (⟨n0, X', hs q⟩ : St) ops[i].op = aopD P E ⟨n0, tj, hs q⟩ ops[i].op := aopD_congr _ rfl (hops (hs q))
  have hok : OpOk P E ops ⟨n0, X', hs q⟩ ops[i] (vals i) := by
    obtain ⟨q1, q2⟩ := j4
    refine ⟨by cases hdd : ops[i].dst <;> rw [hdd] at q1 <;> exact q1, ?_⟩
    cases hg : ops[i].guard with
    | none => rw [hg] at q2; dsimp only at q2 ⊢; rw [hcg]; exact q2
    | some jw =>
      obtain ⟨j, want⟩ := jw
      rw [hg] at q2
      dsimp only at q2 ⊢
      obtain ⟨p, y, p1, p2, p3⟩ := q2
      have hcg' : aopD P E ((⟨n0, X', hs q⟩ : St).un p) ops[i].op = aopD P E ((⟨n0, tj, hs q⟩ : St).un p) ops[i].op := by
        refine aopD_congr _ rfl fun x hx => ?_
        have := hops (hs q) x hx
        cases x with
        | tmp t => show unL p (X' t) = unL p (tj t); rw [show X' t = tj t from this]
        | _ => rfl
      refine ⟨p, y, ?_, p2, by rw [hcg']; exact p3⟩
      rw [← p1]
      refine congrArg (gl want) ?_
      unfold gval
      cases hdj : (ops[j]?).bind (·.dst) with
      | none => rfl
      | some d =>
        refine hag d ?_
        rw [hlk]
        unfold Oper.looksAt
        refine List.mem_append.2 (.inr ?_)
        rw [hg]
        simp [hdj]
  exact hok
theorem opOk_aft {P : Program} {E : Env} {ops : Array Oper} {s : St} {a b k : Nat} {o : Oper} {x : X} (hg : o.guard = none) : OpOk P E (addE ops a b) s (aft a b k o) x ↔ OpOk P E ops s o x := by
  unfold OpOk
  rw [aft_guard, aft_dst, aft_op, hg]
theorem addE_dstOf (ops : Array Oper) (a b k : Nat) : dstOf (addE ops a b) k = dstOf ops k := addE_dst ops a b k
/-- two operations of which either may come first, at the head of the chain: both ways are shown -/
theorem drawXV {P : Program} {E : Env} {c : Cx} (hE : E.ok P c) {ops : Array Oper} {A C : Nat} (hAC : A ≠ C) (hA : A < ops.size) (hC : C < ops.size) (hg : ∀ (i : Nat) o, ops[i]? = some o → o.guard = none)
    {ord1 ch1 ord2 ch2 : List Nat} (hd1 : DX (addE ops A C) ord1 ch1) (hd2 : DX (addE ops C A) ord2 ch2) (hf1 : ch1.getD 0 0 = A) (hl1 : 0 < ch1.length) (hf2 : ch2.getD 0 0 = C) (hl2 : 0 < ch2.length)
    {Q : Exit → Act → World → Prop} {K : St → Prop} (hQ : ∀ s' β' a' w', K s' → Rel c s' β' a' w' → Q .normal a' w') {n0 : Nat} {t0 : Nat → X} {vals1 vals2 : Nat → X} {hs1 hs2 : Nat → List Ob}
    (hv1 : ∀ i, i < (addE ops A C).size → GoodX P E (addE ops A C) ord1 ch1 n0 t0 vals1 hs1 i) (hv2 : ∀ i, i < (addE ops C A).size → GoodX P E (addE ops C A) ord2 ch2 n0 t0 vals2 hs2 i)
    (hK1 : ∃ tm, Desc (addE ops A C) (addE ops A C).size vals1 t0 (fun j => j < (addE ops A C).size) tm ∧ K ⟨n0, tm, hs1 ch1.length⟩)
    (hK2 : ∃ tm, Desc (addE ops C A) (addE ops C A).size vals2 t0 (fun j => j < (addE ops C A).size) tm ∧ K ⟨n0, tm, hs2 ch2.length⟩) (h0 : hs1 0 = hs2 0) :
    ∀ (fuel : Nat) (listed : Array Bool) (rem : List Nat) (X' : Nat → X) (β : Pl) (a : Act) (w : World), listed.size = ops.size → rem.Nodup → (∀ i, i ∈ rem ↔ i < ops.size ∧ listed.getD i false = false) → rem.length ≤ fuel →
      (∀ i, listed.getD i false = true → ∀ j ∈ edgesOf ops i, listed.getD j false = true) → listed.getD A false = false → listed.getD C false = false →
      Desc (addE ops A C) (addE ops A C).size vals1 t0 (fun i => listed.getD i false = true) X' → Desc (addE ops C A) (addE ops C A).size vals2 t0 (fun i => listed.getD i false = true) X' → Rel c ⟨n0, X', hs1 0⟩ β a w → wpAny P .any ops Q fuel listed a w := by
  have key : ∀ {i j : Nat} (hj : j < ops.size) (listed : Array Bool), listed.size = ops.size → ∀ k, k ≠ j → (k ∈ Region.ready .any ops listed ↔ k ∈ Region.ready .any (addE ops i j) listed) := by
    intro i j hj listed hs k hk
    rw [ready_iff hs, ready_iff (by rw [addE_size]; exact hs), addE_size]
    constructor
    · rintro ⟨h1, h2, h3⟩
      refine ⟨h1, h2, fun q hq => ?_⟩
      rcases (addE_edges ops i j k hj q).1 hq with h | ⟨h, _⟩
      · exact h3 q h
      · exact absurd h hk
    · rintro ⟨h1, h2, h3⟩
      exact ⟨h1, h2, fun q hq => h3 q ((addE_edges ops i j k hj q).2 (.inl hq))⟩
  have nil : ∀ {i j : Nat} (hj : j < ops.size) (listed : Array Bool), listed.size = ops.size → Region.ready .any ops listed = [] → Region.ready .any (addE ops i j) listed = [] := by
    intro i j hj listed hs h
    rw [List.eq_nil_iff_forall_not_mem]
    intro k hk
    rw [ready_iff (by rw [addE_size]; exact hs), addE_size] at hk
    have : k ∈ Region.ready .any ops listed := by
      rw [ready_iff hs]
      exact ⟨hk.1, hk.2.1, fun q hq => hk.2.2 q ((addE_edges ops i j k hj q).2 (.inl hq))⟩
    rw [h] at this; simp at this
  -- with one edge more what has run is closed, and nothing of the chain has run
  have clo : ∀ {i j : Nat} (hj : j < ops.size) (listed : Array Bool), listed.getD j false = false → (∀ i, listed.getD i false = true → ∀ q ∈ edgesOf ops i, listed.getD q false = true) → ∀ k, listed.getD k false = true → ∀ q ∈ edgesOf (addE ops i j) k, listed.getD q false = true := by
    intro i j hj listed hjl hcl k hk q hq
    rcases (addE_edges ops i j k hj q).1 hq with h | ⟨h, _⟩
    · exact hcl k hk q h
    · rw [h, hjl] at hk; cases hk
  have ch0 : ∀ {i j : Nat} {ord ch : List Nat} (hd : DX (addE ops i j) ord ch) (hj : j < ops.size) (hf : ch.getD 0 0 = i) (listed : Array Bool), listed.getD i false = false → listed.getD j false = false → (∀ i, listed.getD i false = true → ∀ q ∈ edgesOf ops i, listed.getD q false = true) → ∀ r, r < ch.length → (listed.getD (ch.getD r 0) false = true ↔ r < 0) := by
    intro i j ord ch hd hj hf listed hil hjl hcl r hr
    refine ⟨fun h => ?_, fun h => by omega⟩
    exfalso
    rcases Nat.eq_zero_or_pos r with rfl | hpos
    · rw [hf, hil] at h; cases h
    · have hm : ch.getD r 0 < (addE ops i j).size := by
        have : ch.getD r 0 = ch[r] := by simp [List.getD, hr]
        rw [this]; exact hd.chm _ (List.getElem_mem hr)
      have hc := clo (i := i) hj listed hjl hcl
      have := anc_mem (ops := addE ops i j) (L := fun j => listed.getD j false = true) hc (addE ops i j).size (ch.getD r 0) hm (hc _ h) _ (hd.cha r hr 0 hpos)
      rw [hf, hil] at this; cases this
  have notch : ∀ {i j : Nat} {ord ch : List Nat} (hd : DX (addE ops i j) ord ch) (hj : j < ops.size) (hf : ch.getD 0 0 = i) (listed : Array Bool), listed.getD i false = false → listed.getD j false = false → (∀ i, listed.getD i false = true → ∀ q ∈ edgesOf ops i, listed.getD q false = true) → ∀ k, k ≠ i → k < (addE ops i j).size → (∀ q ∈ edgesOf (addE ops i j) k, listed.getD q false = true) → k ∉ ch := by
    intro i j ord ch hd hj hf listed hil hjl hcl k hk hks he hm
    obtain ⟨r, hr, hri⟩ := List.getElem_of_mem hm
    have hri' : ch.getD r 0 = k := by simp [List.getD, hr, hri]
    rcases Nat.eq_zero_or_pos r with rfl | hpos
    · exact hk (by rw [← hri', hf])
    · have := anc_mem (ops := addE ops i j) (L := fun j => listed.getD j false = true) (clo (i := i) hj listed hjl hcl) (addE ops i j).size k hks he _ (by rw [← hri']; exact hd.cha r hr 0 hpos)
      rw [hf, hil] at this; cases this
  intro fuel
  induction fuel with
  | zero =>
    intro listed rem X' β a w hls hnd hrem hf hcl hAl hCl hD1 hD2 H
    have : A ∈ rem := (hrem A).2 ⟨hA, hAl⟩
    have : rem = [] := List.eq_nil_of_length_eq_zero (by omega)
    simp_all
  | succ fuel ih =>
    intro listed rem X' β a w hls hnd hrem hf hcl hAl hCl hD1 hD2 H
    have W1 : wpAny P .any (addE ops A C) Q (fuel + 1) listed a w := drawXA hE hd1 hQ hv1 hK1 (fuel + 1) listed rem X' 0 β a w (by rw [addE_size]; exact hls) hnd (fun i => by rw [addE_size]; exact hrem i) hf (clo hC listed hCl hcl) (Nat.zero_le _) (ch0 hd1 hC hf1 listed hAl hCl hcl) hD1 H
    have W2 : wpAny P .any (addE ops C A) Q (fuel + 1) listed a w := drawXA hE hd2 hQ hv2 hK2 (fuel + 1) listed rem X' 0 β a w (by rw [addE_size]; exact hls) hnd (fun i => by rw [addE_size]; exact hrem i) hf (clo hA listed hAl hcl) (Nat.zero_le _) (ch0 hd2 hA hf2 listed hCl hAl hcl) hD2 (by rw [← h0]; exact H)
    refine ⟨fun hnil => W1.1 (nil hC listed hls hnil), fun i hi => ?_⟩
    have hks : (listed.setIfInBounds i true).size = ops.size := by simpa using hls
    by_cases e1 : i = A
    · subst e1
      have hi' := (key (i := i) hC listed hls i hAC).1 hi
      exact wpOp_mono (fun a w hh => wpAny_gone hC _ _ a w hks ((setL (by omega)).2 (.inr rfl)) hh) (addE_wpOp i C i (W1.2 i hi'))
    · by_cases e2 : i = C
      · subst e2
        have hi' := (key (i := i) hA listed hls i (Ne.symm hAC)).1 hi
        exact wpOp_mono (fun a w hh => wpAny_gone hA _ _ a w hks ((setL (by omega)).2 (.inr rfl)) hh) (addE_wpOp i A i (W2.2 i hi'))
      · have hi1 := (ready_iff (by rw [addE_size]; exact hls)).1 ((key (i := A) hC listed hls i e2).1 hi)
        have hi2 := (ready_iff (by rw [addE_size]; exact hls)).1 ((key (i := C) hA listed hls i e1).1 hi)
        rw [ready_iff hls] at hi
        obtain ⟨h1, h2, h3⟩ := hi
        have hget : ops[i]? = some ops[i] := Array.getElem?_eq_getElem h1
        have hgi := hg i _ hget
        have c1 := clo (i := A) hC listed hCl hcl
        have c2 := clo (i := C) hA listed hAl hcl
        have n1 := notch hd1 hC hf1 listed hAl hCl hcl i e1 hi1.1 hi1.2.2
        have n2 := notch hd2 hA hf2 listed hCl hAl hcl i e2 hi2.1 hi2.2.2
        have o1 := floatX hd1 hv1 c1 (Nat.zero_le _) (ch0 hd1 hC hf1 listed hAl hCl hcl) hD1 hi1.1 h2 hi1.2.2 n1
        have o2 := floatX hd2 hv2 c2 (Nat.zero_le _) (ch0 hd2 hA hf2 listed hCl hAl hcl) hD2 hi2.1 h2 hi2.2.2 n2
        have g1 : (addE ops A C)[i]'hi1.1 = aft A C i ops[i] := by
          have := addE_get ops A C i
          rw [Array.getElem?_eq_getElem hi1.1, hget] at this
          simpa using this
        have g2 : (addE ops C A)[i]'hi2.1 = aft C A i ops[i] := by
          have := addE_get ops C A i
          rw [Array.getElem?_eq_getElem hi2.1, hget] at this
          simpa using this
        rw [g1, opOk_aft hgi] at o1
        rw [g2, opOk_aft hgi, ← h0] at o2
        have hvv : vals1 i = vals2 i := by
          have x1 := o1.2
          have x2 := o2.2
          rw [hgi] at x1 x2
          rw [x1.2, x2.2]
        have hil : i < listed.size := by omega
        refine wpOp_of hE hget H o1 fun β' a' w' H' => ?_
        have q1 := hD1.add' hd1.dist hi1.1 n0 (hs1 0) (hs1 0)
        have q2 := hD2.add' hd2.dist hi2.1 n0 (hs1 0) (hs1 0)
        rw [addE_dstOf, show dstOf ops i = ops[i].dst by simp [dstOf, hget]] at q1 q2
        rw [← hvv] at q2
        have hput : St.put ⟨n0, X', hs1 0⟩ ops[i].dst (vals1 i) (hs1 0) = ⟨n0, (St.put ⟨n0, X', hs1 0⟩ ops[i].dst (vals1 i) (hs1 0)).t, hs1 0⟩ := by cases ops[i].dst <;> rfl
        have H2 : Rel c ⟨n0, (St.put ⟨n0, X', hs1 0⟩ ops[i].dst (vals1 i) (hs1 0)).t, hs1 0⟩ β' a' w' := by rw [← hput]; exact H'
        have ne : ∀ k, k ≠ i → (listed.setIfInBounds i true).getD k false = listed.getD k false := fun k hk => by
          cases hb : listed.getD k false with
          | true => exact (setL hil).2 (.inl hb)
          | false =>
            cases hb2 : (listed.setIfInBounds i true).getD k false with
            | false => rfl
            | true =>
              rcases (setL hil).1 hb2 with h | h
              · rw [hb] at h; cases h
              · exact absurd h hk
        refine ih _ (rem.erase i) _ β' a' w' hks (hnd.erase i) (fun k => ?_) ?_ (fun k hk j hj => ?_) (by rw [ne A (Ne.symm e1)]; exact hAl) (by rw [ne C (Ne.symm e2)]; exact hCl) ?_ ?_ H2
        · rw [hnd.mem_erase_iff, hrem]
          constructor
          · rintro ⟨hne, hk1, hk2⟩
            exact ⟨hk1, by rw [ne k hne]; exact hk2⟩
          · rintro ⟨hk1, hk2⟩
            by_cases e : k = i
            · subst e; rw [(setL hil).2 (.inr rfl)] at hk2; cases hk2
            · rw [ne k e] at hk2; exact ⟨e, hk1, hk2⟩
        · rw [List.length_erase_of_mem ((hrem i).2 ⟨h1, h2⟩)]; omega
        · rcases (setL hil).1 hk with h | h
          · exact (setL hil).2 (.inl (hcl k h j hj))
          · subst h; exact (setL hil).2 (.inl (h3 j hj))
        · intro t
          exact ⟨fun k hk hL hdk => (q1 t).1 k hk ((setL hil).1 hL) hdk, fun hne => (q1 t).2 fun k hk hL => hne k hk ((setL hil).2 hL)⟩
        · intro t
          exact ⟨fun k hk hL hdk => (q2 t).1 k hk ((setL hil).1 hL) hdk, fun hne => (q2 t).2 fun k hk hL => hne k hk ((setL hil).2 hL)⟩
def drawV (P : Program) (E : Env) (ops : Array Oper) (s : St) (K : St → Prop) : Prop :=
  ∃ A C ord1 ch1 ord2 ch2, A ≠ C ∧ A < ops.size ∧ C < ops.size ∧ (ops.all fun o => o.guard.isNone) = true ∧ ch1.getD 0 0 = A ∧ 0 < ch1.length ∧ ch2.getD 0 0 = C ∧ 0 < ch2.length ∧
    drawOkX (addE ops A C) ord1 ch1 = true ∧ drawOkX (addE ops C A) ord2 ch2 = true ∧ rgX P E (addE ops A C) ch1 ord1 s [] K ∧ rgX P E (addE ops C A) ch2 ord2 s [] K
theorem rgX_any {P : Program} {E : Env} {ops : Array Oper} {s : St} {K : St → Prop} {ord ch : List Nat} (hok : drawOkX ops ord ch = true) (hrg : rgX P E ops ch ord s [] K) :
    DX ops ord ch ∧ ∃ (vals : Nat → X) (hs : Nat → List Ob), hs 0 = s.h ∧ (∀ i, i < ops.size → GoodX P E ops ord ch s.n s.t vals hs i) ∧ ∃ tm, Desc ops ops.size vals s.t (fun j => j < ops.size) tm ∧ K ⟨s.n, tm, hs ch.length⟩ := by
  have hd := drawOkX_iff hok
  have hD0 : Desc ops ops.size (fun _ => .top) s.t (fun j => ord.idxOf j < 0) s.t := fun t => ⟨fun i _ hL => by omega, fun _ => rfl⟩
  obtain ⟨vals, hs, _, g2, g3, tm, g4, g5⟩ := rgX_vals hd (n0 := s.n) (t0 := s.t) ops.size 0 s [] (fun _ => .top) (by omega) rfl hD0 (by simp) (by simpa using hrg)
  have mem : ∀ i, i < ops.size → ord.idxOf i < ops.size := by
    intro i hi
    rw [← hd.len]
    refine List.idxOf_lt_length_of_mem ?_
    have hsub : ord ⊆ List.range ops.size := fun x hx => List.mem_range.2 (hd.mem x hx)
    refine Classical.byContradiction fun hno => ?_
    have h2 : ord ⊆ (List.range ops.size).erase i := fun x hx => (List.mem_erase_of_ne (fun e => hno (by rw [← e]; exact hx))).2 (hsub hx)
    have h3 := nodup_len hd.nd h2
    rw [List.length_erase_of_mem (List.mem_range.2 hi), List.length_range, hd.len] at h3
    omega
  have hcl : (ch.countP fun c => ord.idxOf c < ops.size) = ch.length := List.countP_eq_length.2 fun c hc => by simpa using mem c (hd.chm c hc)
  rw [hcl] at g5
  exact ⟨hd, vals, hs, g2 0 (Nat.zero_le _), fun i hi => g3 i (Nat.zero_le _) hi, tm, fun t => ⟨fun i hi _ ht => (g4 t).1 i hi (mem i hi) ht, fun hne => (g4 t).2 fun i hi _ => hne i hi hi⟩, g5⟩
theorem drawV_sound {P : Program} {E : Env} {c : Cx} (hE : E.ok P c) (hm : P.follows .mixedOrders = true)  {id : Nat} {ops : Array Oper} {Q : Exit → Act → World → Prop} {s : St} {K : St → Prop} {β : Pl} {a : Act} {w : World} (H : Rel c s β a w)
    (h : drawV P E ops s K) (hQ : ∀ s' β' a' w', K s' → Rel c s' β' a' w' → Q .normal a' w') : (Code.region id ops true).wp P Q a w := by
  obtain ⟨A, C, ord1, ch1, ord2, ch2, hAC, hA, hC, hg, f1, l1, f2, l2, k1, k2, r1, r2⟩ := h
  obtain ⟨d1, vals1, hs1, z1, v1, K1⟩ := rgX_any k1 r1
  obtain ⟨d2, vals2, hs2, z2, v2, K2⟩ := rgX_any k2 r2
  refine wp_region_any hm ?_
  have hL0 : ∀ i, (Array.replicate ops.size false).getD i false = false := fun i => by
    simp only [Array.getD_eq_getD_getElem?, Array.getElem?_replicate]
    split <;> rfl
  have H0 : Rel c ⟨s.n, s.t, hs1 0⟩ β a { w with drawn := w.drawn + 1 } := by rw [z1]; exact H.drawn
  have hg' : ∀ (i : Nat) o, ops[i]? = some o → o.guard = none := fun i o ho => by
    rw [Array.all_eq_true'] at hg
    have := hg o (Array.mem_of_getElem? ho)
    simpa using this
  refine drawXV hE hAC hA hC hg' d1 d2 f1 l1 f2 l2 hQ v1 v2 K1 K2 (by rw [z1, z2]) ops.size _ (List.range ops.size) s.t β a _ (by simp) List.nodup_range (fun i => ?_) (by simp) (fun i hi => ?_) (hL0 A) (hL0 C) ?_ ?_ H0
  · rw [List.mem_range, hL0]; simp
  · rw [hL0] at hi; cases hi
  · exact fun t => ⟨fun i _ hL => (by have h' : (Array.replicate ops.size false).getD i false = true := hL; rw [hL0] at h'; cases h'), fun _ => rfl⟩
  · exact fun t => ⟨fun i _ hL => (by have h' : (Array.replicate ops.size false).getD i false = true := hL; rw [hL0] at h'; cases h'), fun _ => rfl⟩
theorem drawV_mono {P : Program} {E : Env} {ops : Array Oper} {s : St} {K K' : St → Prop} (hk : ∀ s, K s → K' s) (h : drawV P E ops s K) : drawV P E ops s K' := by
  obtain ⟨A, C, ord1, ch1, ord2, ch2, h1, h2, h3, h4, h5, h6, h7, h8, h9, h10, r1, r2⟩ := h
  exact ⟨A, C, ord1, ch1, ord2, ch2, h1, h2, h3, h4, h5, h6, h7, h8, h9, h10, rgX_mono hk _ _ _ r1, rgX_mono hk _ _ _ r2⟩
/-- as rgX, the chain's counts reckoned elsewhere -/
def rgY (P : Program) (E : Env) (ops ops' : Array Oper) (ch : List Nat) : List Nat → St → List (List Ob) → (St → Prop) → Prop
  | [], s, _, K => K s
  | i :: rest, s, past, K =>
    match ops[i]? with
    | none => False
    | some o =>
      if ch.contains i = true then o.guard = none ∧ dok s o.dst ∧ (aop P E s o.op).use fun v h => rgY P E ops ops' ch rest (s.put o.dst v h) (s.h :: past) K
      else opX P E ops s o fun v => (free o.op = true ∨ ∀ h ∈ past.take (past.length - lev ops' ch i), OpOk P E ops ⟨s.n, s.t, h⟩ o v) ∧ rgY P E ops ops' ch rest (s.put o.dst v s.h) past K
/-- the same, the operations read where the edge is not -/
theorem rgX_add {P : Program} {E : Env} {ops : Array Oper} {a b : Nat} (hg : (ops.all fun o => o.guard.isNone) = true) {ch : List Nat} {K : St → Prop} : ∀ (l : List Nat) (s : St) (past : List (List Ob)),
    (∀ i ∈ l, True) → rgY P E ops (addE ops a b) ch l s past K → rgX P E (addE ops a b) ch l s past K
  | [], s, past, _, h => h
  | i :: rest, s, past, _, h => by
    unfold rgY at h
    unfold rgX
    rw [addE_get]
    cases ho : ops[i]? with
    | none => rw [ho] at h; exact h
    | some o =>
      rw [ho] at h
      have hgo : o.guard = none := by
        rw [Array.all_eq_true'] at hg
        have := hg o (Array.mem_of_getElem? ho)
        simpa using this
      simp only [Option.map_some, aft_dst, aft_op, aft_guard, opX, hgo] at h ⊢
      split
      · rename_i hc
        rw [if_pos hc] at h
        exact ⟨trivial, h.2.1, h.2.2.1, rgX_add hg rest _ _ (fun _ _ => trivial) h.2.2.2⟩
      · rename_i hc
        rw [if_neg hc] at h
        refine ⟨h.1, h.2.1, ?_, rgX_add hg rest _ _ (fun _ _ => trivial) h.2.2.2⟩
        refine h.2.2.1.imp id fun hh g hgm => (opOk_aft hgo).2 (hh g hgm)

/-- in one of three ways; in the third with other contracts of the same functions -/
def drawP (P : Program) (E : Env) (ops : Array Oper) (s : St) (K : St → Prop) : Prop :=
  drawP0 P E ops s K ∨ drawX P E ops s K ∨ ∃ E' : Env, (∀ c, E.ok P c → E'.ok P c) ∧ (drawP0 P E' ops s K ∨ drawX P E' ops s K ∨ drawV P E' ops s K)
theorem drawP_sound {P : Program} {E : Env} {c : Cx} (hE : E.ok P c) (hm : P.follows .mixedOrders = true)  {id : Nat} {ops : Array Oper} {Q : Exit → Act → World → Prop} {s : St} {K : St → Prop} {β : Pl} {a : Act} {w : World} (H : Rel c s β a w)
    (h : drawP P E ops s K) (hQ : ∀ s' β' a' w', K s' → Rel c s' β' a' w' → Q .normal a' w') : (Code.region id ops true).wp P Q a w :=
  h.elim (fun h => drawP0_sound hE hm H h hQ) fun h => h.elim (fun h => drawX_sound hE hm H h hQ) fun ⟨_, h1, h2⟩ => h2.elim (fun h2 => drawP0_sound (h1 c hE) hm H h2 hQ) fun h2 => h2.elim (fun h2 => drawX_sound (h1 c hE) hm H h2 hQ) fun h2 => drawV_sound (h1 c hE) hm H h2 hQ
theorem drawP_mono {P : Program} {E : Env} {ops : Array Oper} {s : St} {K K' : St → Prop} (hk : ∀ s, K s → K' s) (h : drawP P E ops s K) : drawP P E ops s K' :=
  h.imp (drawP0_mono hk) fun h => h.imp (drawX_mono hk) fun ⟨E', h1, h2⟩ => ⟨E', h1, h2.imp (drawP0_mono hk) fun h2 => h2.imp (drawX_mono hk) (drawV_mono hk)⟩

end Go.Abs

namespace Go.Abs
open Go.RowKit

/-! ### code -/
def brP (x : X) (p q : Prop) : Prop :=
  match x with
  | .v (.bool b) => (b = true → p) ∧ (b = false → q)
  | _ => False

def thenP (k : St → Prop) (Q : Exit → St → Prop) : Exit → St → Prop
  | .normal, s => k s
  | e, s => Q e s
def blockP (id : Nat) (Q : Exit → St → Prop) : Exit → St → Prop
  | .exit i, s => if i = id then Q .normal s else Q (.exit i) s
  | e, s => Q e s

def loopP (B : (Exit → St → Prop) → St → Prop) (Q : Exit → St → Prop) (s : St) : Prop :=
  ∃ (ι : Type) (S : ι → St) (μ : ι → Nat), (∃ i, Wk s (S i)) ∧ ∀ i, B (thenP (fun s' => ∃ j, μ j < μ i ∧ Wk s' (S j)) Q) (S i)

def awp (P : Program) (E : Env) : Code → (Exit → St → Prop) → St → Prop
  | .skip, Q, s => Q .normal s
  | .region _ ops draw, Q, s => if draw then drawP P E ops s (Q .normal) else rgW P E ops ops.toList s (Q .normal)
  | .seq x y, Q, s => awp P E x (thenP (awp P E y Q) Q) s
  | .cond c x y, Q, s => brP (ev s c) (awp P E x Q s) (awp P E y Q s)
  | .block id x, Q, s => awp P E x (blockP id Q) s
  | .loop x, Q, s => loopP (awp P E x) Q s
  | .exit id, Q, s => Q (.exit id) s
  | .ret, Q, s => Q .ret s
  | _, _, _ => False

/-- what the run keeps -/
def Post (c : Cx) (Q : Exit → St → Prop) (e : Exit) (a : Act) (w : World) : Prop := ∃ s β, Q e s ∧ Rel c s β a w

theorem awp_sound {P : Program} {E : Env} {c : Cx} (hE : E.ok P c) (hm : P.follows .mixedOrders = true)  : ∀ (x : Code) (Q : Exit → St → Prop) (s : St) (β : Pl) (a : Act) (w : World), awp P E x Q s → Rel c s β a w → x.wp P (Post c Q) a w := by
  intro x
  induction x with
  | skip => intro Q s β a w h H; exact wp_skip ⟨s, β, h, H⟩
  | region id ops draw =>
    intro Q s β a w h H
    unfold awp at h
    cases draw with
    | true => exact drawP_sound hE hm H h fun s' β' a' w' hk H' => ⟨s', β', hk, H'⟩
    | false =>
      refine wp_region_list (rgW_sound hE ops.toList s _ β a w H h fun s' β' a' w' hk H' => ⟨s', β', hk, H'⟩)
  | seq x y ihx ihy =>
    intro Q s β a w h H
    refine wp_seq (wp_mono (ihx _ s β a w h H) ?_)
    rintro e a' w' ⟨s', β', hq, H'⟩
    cases e with
    | normal => exact ihy Q s' β' a' w' hq H'
    | _ => exact ⟨s', β', hq, H'⟩
  | cond cc x y ihx ihy =>
    intro Q s β a w h H
    have hr := rep_ev H cc
    unfold awp brP at h
    split at h
    · rename_i b hb
      rw [hb] at hr
      obtain ⟨hv, _⟩ := hr.inv_v
      cases b with
      | true => exact wp_cond_true hv (ihx Q s β a w (h.1 rfl) H)
      | false => exact wp_cond_false hv (ihy Q s β a w (h.2 rfl) H)
    · exact h.elim
  | block id x ih =>
    intro Q s β a w h H
    refine wp_block (wp_mono (ih _ s β a w h H) ?_)
    rintro e a' w' ⟨s', β', hq, H'⟩
    cases e with
    | exit i =>
      simp only [Exit.inBlock, blockP] at hq ⊢
      split
      · rename_i hi; rw [if_pos hi] at hq; exact ⟨s', β', hq, H'⟩
      · rename_i hi; rw [if_neg hi] at hq; exact ⟨s', β', hq, H'⟩
    | _ => exact ⟨s', β', hq, H'⟩
  | loop x ih =>
    intro Q s β a w h H
    obtain ⟨ι, S, μ, ⟨i, hi⟩, hround⟩ := h
    obtain ⟨β', H'⟩ := hi c β a w H
    refine wp_loop_ghost (fun n a w => ∃ i β, μ i = n ∧ Rel c (S i) β a w) (μ i) ⟨i, β', rfl, H'⟩ ?_
    rintro n a w ⟨i, β, rfl, H⟩
    refine wp_mono (ih _ (S i) β a w (hround i) H) ?_
    rintro e a' w' ⟨s', β', hq, H'⟩
    cases e with
    | normal =>
      obtain ⟨j, hlt, hj⟩ := hq
      obtain ⟨β'', H''⟩ := hj c β' a' w' H'
      exact ⟨μ j, hlt, j, β'', rfl, H''⟩
    | _ => exact ⟨s', β', hq, H'⟩
  | exit id => intro Q s β a w h H; exact wp_exit ⟨s, β, h, H⟩
  | ret => intro Q s β a w h H; exact wp_ret ⟨s, β, h, H⟩
  | _ => intro Q s β a w h H; exact h.elim

/-! ### results -/
def resX (P : Program) (s : St) : ResultVar → Eff
  | .tmp t => ⟨True, s.t t, s.h⟩
  | .cell a T => eLoad P s T (s.t a)

def resL (P : Program) (s : St) : List ResultVar → (List X → Prop) → Prop
  | [], k => k []
  | r :: rs, k => (resX P s r).use fun v _ => resL P s rs fun vs => k (v :: vs)

def one (xs : List X) : X := match xs with | [x] => x | xs => .tup xs

def resOne (tmps : Array Value) : ResultVar → Sem Value
  | .tmp t => pure (tmps.getD t undef)
  | .cell a t => do loadVar t (← asAddr (tmps.getD a undef))

theorem resL_sound {P : Program} {c : Cx} {s : St} {β : Pl} {a : Act} {w : World} (H : Rel c s β a w) : ∀ (rs : List ResultVar) (k : List X → Prop), resL P s rs k → ∃ (vs : List Value) (xs : List X), k xs ∧ vs.length = xs.length ∧
    (rs.mapM (resOne a.tmps)).run P w = .ok vs w ∧ ∀ (j : Nat) x v, xs[j]? = some x → vs[j]? = some v → Rep w (Stab c.w0 c.S0 s.h β w) β v x
  | [], k, h => ⟨[], [], h, rfl, rfl, by simp⟩
  | r :: rs, k, h => by
    obtain ⟨hc, h⟩ := h
    obtain ⟨vs, xs, hk, hl, hrun, hr⟩ := resL_sound H rs _ h
    have step : ∃ v, (resOne a.tmps r).run P w = .ok v w ∧ Rep w (Stab c.w0 c.S0 s.h β w) β v (resX P s r).val := by
      cases r with
      | tmp t => exact ⟨_, rfl, H.2.2.2 t⟩
      | cell x T =>
        have hrep := H.2.2.2 x
        simp only [resX] at hc ⊢
        -- the load leaves the world alone
        unfold eLoad at hc ⊢
        split at hc
        · rename_i cells hx
          rw [hx] at hrep
          obtain ⟨ad, cs, hu, hs, hcell, h1, hr'⟩ := hrep.inv_pt
          obtain ⟨hT, hn⟩ := hc
          have := run_loadAt (P := P) (w := w) (ad := ad) hT cs fun j hj => hcell j (by omega)
          refine ⟨_, ?_, rep_ld (by simpa [need] using hn) (fun j _ => h1 j) fun j x hx => (hr' j x hx).mono (fun _ h => h) (fun _ _ => rfl) (Pl.none_le _)⟩
          simp only [resOne, hu]
          simpa [resOne, Instr.loadAt, Instr.sureAddr, asAddr] using this
        · rename_i k' ver i j hx
          rw [hx] at hrep
          obtain ⟨g, v', hv', hg, hu⟩ := hrep.inv_optr
          obtain ⟨hT, hver, hpos, hn⟩ := hc
          have key : ∀ m, ∃ cc, (m < (rowOf s.h k' i).length - j → w.cell? ⟨g, i * β.sz k' + (j + m), none⟩ = some cc) ∧ (m < (rowOf s.h k' i).length - j → cc.oneCell' = true) ∧ ∀ x, ((rowOf s.h k' i).drop j)[m]? = some x → Rep w (Stab c.w0 c.S0 s.h β w) β cc x := by
            intro m
            by_cases hm : m < (rowOf s.h k' i).length - j
            · have hx : (rowOf s.h k' i)[j + m]? = some ((rowOf s.h k' i)[j + m]'(by omega)) := List.getElem?_eq_getElem (by omega)
              obtain ⟨cc, h1, h2, h3⟩ := H.2.2.1.cell hver hv' hg hx
              refine ⟨cc, fun _ => h1, fun _ => h2, fun x hx' => ?_⟩
              rw [List.getElem?_drop, hx] at hx'
              injection hx' with e
              subst e
              exact h3
            · refine ⟨.nilFunc, fun h => absurd h hm, fun h => absurd h hm, fun x hx => ?_⟩
              rw [List.getElem?_eq_none (by simp; omega)] at hx
              cases hx
          obtain ⟨cs, hcs⟩ := Classical.axiomOfChoice key
          have := run_loadAt (P := P) (w := w) (ad := ⟨g, i * β.sz k' + j, none⟩) hT cs fun m hm => by
            rw [add_none, Nat.add_assoc]; exact (hcs m).1 (by omega)
          refine ⟨_, ?_, rep_ld (by simp only [List.length_drop]; unfold need at hn; omega) (fun m hm => (hcs m).2.1 (by simpa using hm)) fun m x hx => (hcs m).2.2 x hx⟩
          simp only [resOne, hu]
          simpa [resOne, Instr.loadAt, Instr.sureAddr, asAddr] using this
        · exact hc.elim
    obtain ⟨v, hv, hrv⟩ := step
    refine ⟨v :: vs, _ :: xs, hk, by simp [hl], ?_, fun j x v' hx hv' => ?_⟩
    · simp only [List.mapM_cons, Sem.run_bind]
      rw [hv]
      simp only [Result.andThen_ok]
      rw [hrun]
      rfl
    · cases j with
      | zero => simp at hx hv'; subst hx hv'; exact hrv
      | succ j => exact hr j x v' (by simpa using hx) (by simpa using hv')

theorem results_sound {P : Program} {c : Cx} {s : St} {β : Pl} {a : Act} {w : World} (H : Rel c s β a w) (fn : Func) (k : X → Prop) (h : resL P s fn.results.toList fun xs => k (one xs)) :
    ∃ v x, k x ∧ (results fn a.tmps).run P w = .ok v w ∧ Rep w (Stab c.w0 c.S0 s.h β w) β v x := by
  obtain ⟨vs, xs, hk, hl, hrun, hr⟩ := resL_sound H fn.results.toList _ h
  have hrun' : (fn.results.mapM (resOne a.tmps)).run P w = .ok vs.toArray w := by
    rw [Array.mapM_eq_mapM_toList, Sem.run_map, hrun]
    rfl
  have hres : results fn a.tmps = (do let vs ← fn.results.mapM (resOne a.tmps); pure (if h : vs.size = 1 then vs[0] else .tuple vs)) := rfl
  rw [hres]
  simp only [Sem.run_bind]
  rw [hrun']
  simp only [Result.andThen_ok, Sem.run_pure, List.size_toArray]
  clear hrun hrun'
  match vs, xs, hl, hk, hr with
  | [v], [x], _, hk, hr => exact ⟨v, x, hk, rfl, hr 0 x v rfl rfl⟩
  | [], [], _, hk, hr => exact ⟨.tuple #[], .tup [], hk, rfl, .tup _ _ rfl (by simp)⟩
  | v :: v2 :: vs, x :: x2 :: xs, hl, hk, hr => exact ⟨_, .tup (x :: x2 :: xs), hk, by simp; rfl, .tup _ _ (by simpa using hl) fun j y u hy hu => hr j y u hy (by simpa using hu)⟩

end Go.Abs

namespace Go.Abs
open Go.RowKit

/-- what a function hands back of its own state -/
def Fin (h : List Ob) (x : X) (ro : X × List Ob) : Prop :=
  ∀ c β w v, (∀ b, ¬ c.M b) → HRel c h β w → Rep w (Stab c.w0 c.S0 h β w) β v x → ∃ β', HRel c ro.2 β' w ∧ (∀ ob ∈ ro.2, ob.live = true) ∧ Rep w (Stab c.w0 c.S0 ro.2 β' w) β' v ro.1

theorem HRel.none_ {c : Cx} {h : List Ob} {β : Pl} {w : World} (H : HRel c h β w) : HRel c [] Pl.none w :=
  ⟨fun k ob hk => by simp at hk, fun k k' ob ob' u u' b hk => by simp at hk, fun k ob ver hk => by simp at hk, fun _ _ _ => rfl, H.frm, fun b ⟨k, ob, u, hk, _⟩ => by simp at hk, H.st0, H.amb⟩

theorem stab_nil {c : Cx} {w : World} {b : Nat} (h1 : b < w.heap.size) (h2 : c.S0 b ∨ c.w0.heap.size ≤ b) : Stab c.w0 c.S0 [] Pl.none w b :=
  ⟨h1, h2, fun ⟨k, ob, u, hk, _⟩ => by simp at hk⟩

def pur2 (h : List Ob) : X → X
  | .tup xs => .tup (xs.map (purN h 3))
  | x => purN h 3 x

/-- the result, read as data: nothing of it is owned any more -/
theorem Fin.pure {h : List Ob} {x : X} (hl : h.all (·.live) = true) : Fin h x (pur2 h x, []) := by
  intro c β w v hM H hr
  have hS : ∀ b, SPlus c h β w b → Stab c.w0 c.S0 [] Pl.none w b := by
    rintro b ⟨h1, h2⟩
    refine stab_nil h1 ?_
    rcases h2 with h2 | ⟨k, ob, u, hk, hu, hb⟩
    · exact h2.2.1
    · rw [List.all_eq_true] at hl
      rcases (H.own b ⟨k, ob, u, hk, hl ob (List.mem_of_getElem? hk), hu, hb⟩).2 with h3 | h3
      · exact .inr h3
      · exact (hM b h3).elim
  refine ⟨Pl.none, H.none_, by simp, ?_⟩
  cases x with
  | tup xs =>
    obtain ⟨cs, rfl, hlen, hrep⟩ := hr.inv_tup
    refine .tup _ _ (by simpa using hlen) fun j x c' hx hc => ?_
    rw [List.getElem?_map] at hx
    cases hj : xs[j]? with
    | none => rw [hj] at hx; cases hx
    | some y =>
      rw [hj] at hx
      injection hx with hx
      subst hx
      exact (pur_rep H 3 (hrep j y c' hj hc)).mono hS (fun _ _ => rfl) (Pl.le_refl _)
  | _ => exact (pur_rep H 3 hr).mono hS (fun _ _ => rfl) (Pl.le_refl _)

theorem Fin.own {h : List Ob} {x : X} (ks : List Nat) (hp : pickOk h ks) : Fin h x (rn2 h ks x, pickObs h ks) := by
  intro c β w v hM H hr
  obtain ⟨h1, h2, r1⟩ := H.pick ks hp
  refine ⟨_, h1, h2, ?_⟩
  cases x with
  | tup xs =>
      obtain ⟨cs, rfl, hlen, hrep⟩ := hr.inv_tup
      refine .tup _ _ (by simpa using hlen) fun j x c' hx hc => ?_
      rw [List.getElem?_map] at hx
      cases hj : xs[j]? with
      | none => rw [hj] at hx; cases hx
      | some y => rw [hj] at hx; injection hx with hx; subst hx; exact r1 _ _ (hrep j y c' hj hc)
  | _ => exact r1 _ _ hr

theorem Fin.ownN {h : List Ob} {x : X} (ks : List Nat) (hp : pickOkN h ks) : Fin h x (rv2 h ks [] x, pickV h ks []) := by
  intro c β w v hM H hr
  obtain ⟨h1, h2, r1⟩ := H.pickVS ks [] hp
  refine ⟨_, h1, h2, ?_⟩
  cases x with
  | tup xs =>
      obtain ⟨cs, rfl, hlen, hrep⟩ := hr.inv_tup
      refine .tup _ _ (by simpa using hlen) fun j x c' hx hc => ?_
      rw [List.getElem?_map] at hx
      cases hj : xs[j]? with
      | none => rw [hj] at hx; cases hx
      | some y => rw [hj] at hx; injection hx with hx; subst hx; exact r1 _ _ (hrep j y c' hj hc)
  | _ => exact r1 _ _ hr
/-- some objects are kept, with what they hold, under new numbers -/
theorem Wk.pickN {s : St} {t' : Nat → X} (ks : List Nat) (hp : pickOkN s.h ks) (ht : ∀ t, t' t = .top ∨ t' t = rv1 s.h ks [] (s.t t)) : Wk s ⟨s.n, t', pickV s.h ks []⟩ := by
  intro c β a w H
  obtain ⟨h1, _, r1⟩ := H.2.2.1.pickVS ks [] hp
  refine ⟨_, H.1, H.2.1, h1, fun t => ?_⟩
  rcases ht t with e | e
  · show Rep _ _ _ _ (t' t)
    rw [e]; exact .top _
  · show Rep _ _ _ _ (t' t)
    rw [e]; exact r1 _ _ (H.2.2.2 t)
/-- some objects are kept, under new numbers -/
theorem Wk.pick {s : St} {t' : Nat → X} (ks : List Nat) (hp : pickOk s.h ks) (ht : ∀ t, t' t = .top ∨ t' t = rn1 s.h ks (s.t t)) : Wk s ⟨s.n, t', pickObs s.h ks⟩ := by
  intro c β a w H
  obtain ⟨h1, _, r1⟩ := H.2.2.1.pick ks hp
  refine ⟨_, H.1, H.2.1, h1, fun t => ?_⟩
  rcases ht t with e | e
  · show Rep _ _ _ _ (t' t)
    rw [e]; exact .top _
  · show Rep _ _ _ _ (t' t)
    rw [e]; exact r1 _ _ (H.2.2.2 t)

/-- a nil slice, as an object with no rows -/
theorem Wk.nil {s : St} (ty sz i : Nat) (hi : s.t i = .v (.slice none 0 0)) : Wk s ⟨s.n, fun t => if t = i then .osl s.h.length 0 else s.t t, s.h ++ [⟨ty, sz, 0, [], false, true, none⟩]⟩ := by
  intro c β a w H
  obtain ⟨h1, h2⟩ := H.2.2.1.push (Below.refl _ _) ⟨ty, sz, 0, [], false, true, none⟩ (.slice none 0 0) rfl (by simp) (.inl ⟨rfl, rfl, rfl⟩) (fun b hb => by simp [blk] at hb) (fun S' β' _ i j x hx => by simp [at2] at hx)
  refine ⟨_, H.1, H.2.1, h1, fun t => ?_⟩
  show Rep _ _ _ _ (if t = i then .osl s.h.length 0 else s.t t)
  split
  · rename_i e
    subst e
    have := H.2.2.2 t
    rw [hi] at this
    obtain ⟨hv, _⟩ := this.inv_v
    rw [hv]
    exact .osl _ _ _ (Pl.set_same _ _ _ _ _) rfl
  · exact h2 _ _ (H.2.2.2 t)

/-! ### contracts -/
def ent (n : Nat) (args : List X) : St := ⟨n, fun t => args.getD t .top, []⟩

def retP (P : Program) (rs : List ResultVar) (ro : X × List Ob) : Exit → St → Prop
  | .ret, s => resL P s rs fun xs => Fin s.h (one xs) ro
  | .normal, s => resL P s rs fun xs => Fin s.h (one xs) ro
  | _, _ => False

structure Env.okA (P : Program) (E : Env) : Prop where
  f : ∀ f F, E.f f = some F → GenCA E.A P f F
  m : ∀ f F, E.m f = some F → GenMA E.A P f F
  n : ∀ f F, E.n f = some F → GenNA E.A P f F
theorem Env.okA.at {P : Program} {E : Env} (h : E.okA P) {c : Cx} (hc : c.A = E.A) : E.ok P c := ⟨by rw [hc]; exact h.f, by rw [hc]; exact h.m, by rw [hc]; exact h.n, hc⟩

theorem callFunc_enter {P : Program} {f : Nat} {fn : Func} (hf : P.funcs[f]? = some fn) (hn : (fn.name == "runtime.NumGoroutine") = false) (hb : fn.body.isNone = false) (args : Array Value) (w : World) : (callFunc f args).run P w = .ok (.enter f args) w := by
  unfold callFunc
  simp only [Sem.run_bind, run_program, Result.andThen_ok, hf, hn, hb, Bool.false_eq_true, if_false, Sem.run_pure]

theorem rel_ent {A : List (Nat × List X)} {w : World} {S : Nat → Prop} {vs : Array Value} {xs : List X} {n : Nat} (hl : vs.size = xs.length) (hr : ∀ (j : Nat) x v, xs[j]? = some x → vs[j]? = some v → Rep w S Pl.none v x) (hS : ∀ b, S b → b < w.heap.size) (hA : Amb w S A) (hn : xs.length ≤ n) :
    Rel ⟨w, S, fun _ => False, A⟩ (ent n xs) Pl.none { tmps := vs ++ Array.replicate (n - vs.size) undef, defers := [] } w := by
  refine ⟨rfl, by simp [ent]; omega, ⟨fun k ob hk => by simp [ent] at hk, fun k k' ob ob' u u' b hk => by simp [ent] at hk, fun k ob ver hk => by simp [ent] at hk, fun _ _ _ => rfl, Frm.refl _ _, fun b ⟨k, ob, u, hk, _⟩ => by simp [ent] at hk, fun b hb => ⟨hS b hb, fun h => h⟩, hA⟩, fun t => ?_⟩
  show Rep _ _ _ _ (xs.getD t .top)
  rcases Nat.lt_or_ge t xs.length with h | h
  · have h1 : xs[t]? = some xs[t] := List.getElem?_eq_getElem h
    have h2 : vs[t]? = some (vs[t]'(by omega)) := Array.getElem?_eq_getElem (by omega)
    have e1 : xs.getD t .top = xs[t] := by simp [List.getD, h1]
    have e2 : (vs ++ Array.replicate (n - vs.size) undef).getD t undef = vs[t]'(by omega) := by
      rw [Array.getD_eq_getD_getElem?, Array.getElem?_append_left (by omega), h2]; rfl
    rw [e1]
    show Rep _ _ _ ((vs ++ Array.replicate (n - vs.size) undef).getD t undef) _
    rw [e2]
    refine (hr t _ _ h1 h2).mono (fun b hb => ⟨hS b hb, .inl hb, fun ⟨k, ob, u, hk, _⟩ => by simp [ent] at hk⟩) (fun _ _ => rfl) (Pl.le_refl _)
  · have : xs.getD t .top = .top := by simp [List.getD, List.getElem?_eq_none h]
    rw [this]; exact .top _

theorem genC_of {P : Program} {E : Env} {f : Nat} {fn : Func} {body : Code} {F : Fun} (hE : E.okA P) (hm : P.follows .mixedOrders = true) (hf : P.funcs[f]? = some fn) (hb : fn.body = some body) (hn : (fn.name == "runtime.NumGoroutine") = false)
    (h : ∀ xs, F.pre xs → xs.length ≤ fn.ntmps ∧ awp P E body (retP P fn.results.toList (F.res xs)) (ent fn.ntmps xs)) : GenCA E.A P f F := by
  refine ⟨fun args w => callFunc_enter hf hn (by simp [hb]) args w, fun w S vs xs hpre hl hr hS hA => ?_⟩
  obtain ⟨hle, haw⟩ := h xs hpre
  refine calls_of_wp hf hb (wp_mono (awp_sound (hE.at rfl) hm body _ _ Pl.none _ w haw (rel_ent hl hr hS hA hle)) ?_)
  have fin : ∀ (s : St) (β : Pl) (a : Act) (w' : World), Rel ⟨w, S, fun _ => False, E.A⟩ s β a w' → (resL P s fn.results.toList fun xs' => Fin s.h (one xs') (F.res xs)) →
      a.defers = [] ∧ ∃ v, (results fn a.tmps).run P w' = .ok v w' ∧ ∃ v' β', Ending.returned v = .returned v' ∧ HRel ⟨w, S, fun _ => False, E.A⟩ (F.res xs).2 β' w' ∧ (∀ ob ∈ (F.res xs).2, ob.live = true) ∧ Rep w' (Stab w S (F.res xs).2 β' w') β' v' (F.res xs).1 := by
    intro s β a w' H hres
    obtain ⟨v, x, hk, hrun, hrep⟩ := results_sound H fn (fun x => Fin s.h x (F.res xs)) hres
    obtain ⟨β', g1, g2, g3⟩ := hk _ β w' v (fun b h => h) H.2.2.1 hrep
    exact ⟨H.1, v, hrun, v, β', rfl, g1, g2, g3⟩
  rintro e a w' ⟨s, β, hq, H⟩
  cases e with
  | normal => exact fin s β a w' H hq
  | ret => exact fin s β a w' H hq
  | _ => exact hq.elim

/-- what a function that writes hands back: the objects handed in first, at their old places -/
def FinM (s : St) (us : List Value) (x : X) (ro : X × List Ob) : Prop :=
  ∃ ks, pickOk s.h ks ∧ (∀ (i : Nat) u, us[i]? = some u → ∃ k ob, ks[i]? = some k ∧ s.h[k]? = some ob ∧ s.t (1000 + i) = .pin k ob.ver u) ∧ ro = (rn2 s.h ks x, pickObs s.h ks)

def retM (P : Program) (rs : List ResultVar) (us : List Value) (ro : X × List Ob) : Exit → St → Prop
  | .ret, s => resL P s rs fun xs => FinM s us (one xs) ro
  | .normal, s => resL P s rs fun xs => FinM s us (one xs) ro
  | _, _ => False

/-- what a function that writes to what it is handed, and may lay it anew, hands back -/
def FinN (t : Nat → X) (h : List Ob) (us : List Value) (x : X) (ro : X × List Ob) : Prop :=
  ∃ ks fl, pickOkN h ks ∧ (∀ (i : Nat) u, us[i]? = some u → ∃ k ob, ks[i]? = some k ∧ h[k]? = some ob ∧ (vf fl i = 1 ∨ (vf fl i = 0 ∧ t (1000 + i) = .pin k ob.ver u))) ∧ ro = (rv2 h ks fl x, pickV h ks fl)
def FinT (t : Nat → X) (h : List Ob) (us : List Value) (x : X) (ro : X × List Ob) : Prop :=
  FinN t h us x ro ∨ ∃ k m ob, h[k]? = some ob ∧ ob.live = true ∧ ob.bx = false ∧ 0 < ob.rows.length ∧ m ≤ ob.rows.length ∧ x = .osub k ob.ver 0 m ∧ FinN t (h.set k { ob with rows := ob.rows.take m, ver := ob.ver + 1 }) us (.osl k (ob.ver + 1)) ro
def retN (P : Program) (rs : List ResultVar) (us : List Value) (ro : X × List Ob) : Exit → St → Prop
  | .ret, s => resL P s rs fun xs => FinT s.t s.h us (one xs) ro
  | .normal, s => resL P s rs fun xs => FinT s.t s.h us (one xs) ro
  | _, _ => False

def entM (n : Nat) (args : List X) (us : List Value) (obs : List Ob) : St :=
  ⟨n, fun t => if t < 1000 then args.getD t .top else match us[t - 1000]? with | some u => .pin (t - 1000) 0 u | none => .top, obs⟩

theorem genM_of {P : Program} {E : Env} {f : Nat} {fn : Func} {body : Code} {F : MFun} (hE : E.okA P) (hm : P.follows .mixedOrders = true) (hf : P.funcs[f]? = some fn) (hb : fn.body = some body) (hn : (fn.name == "runtime.NumGoroutine") = false)
    (h : ∀ xs obs us, F.pre xs obs → us.length = obs.length → xs.length ≤ fn.ntmps ∧ xs.length ≤ 1000 ∧ (∀ (k : Nat) ob, obs[k]? = some ob → ∃ ob', (F.res xs obs).2[k]? = some ob' ∧ sameOb ob ob') ∧
      awp P E body (retM P fn.results.toList us (F.res xs obs)) (entM fn.ntmps xs us obs)) : GenMA E.A P f F := by
  refine ⟨fun args w => callFunc_enter hf hn (by simp [hb]) args w, fun w S β obs vs xs hpre hl H0 hlv hr => ?_⟩
  -- the values of what is handed in
  have hval : ∀ (k : Nat) ob, obs[k]? = some ob → ∃ u, β.val k 0 = some u := by
    intro k ob hk
    obtain ⟨_, _, u, hu, _⟩ := H0.objs k ob hk
    rw [(hlv ob (List.mem_of_getElem? hk)).2] at hu
    exact ⟨u, hu⟩
  let us : List Value := (List.range obs.length).map fun k => (β.val k 0).getD undef
  have husl : us.length = obs.length := by simp [us]
  have hus : ∀ (k : Nat) u, us[k]? = some u → β.val k 0 = some u := by
    intro k u hu
    have hk : k < obs.length := by rw [← husl]; exact (List.getElem?_eq_some_iff.1 hu).1
    obtain ⟨u', hu'⟩ := hval k obs[k] (List.getElem?_eq_getElem hk)
    have : us[k]? = some ((β.val k 0).getD undef) := by simp [us, hk]
    rw [this, hu'] at hu
    rw [hu']
    simpa using hu
  obtain ⟨hle, hle', hsame, haw⟩ := h xs obs us hpre husl
  have hent : Rel ⟨w, S, fun b => Owned obs β b, E.A⟩ (entM fn.ntmps xs us obs) β { tmps := vs ++ Array.replicate (fn.ntmps - vs.size) undef, defers := [] } w := by
    refine ⟨rfl, by simp [entM]; omega, H0, fun t => ?_⟩
    show Rep _ _ _ _ (if t < 1000 then xs.getD t .top else match us[t - 1000]? with | some u => .pin (t - 1000) 0 u | none => .top)
    split
    · rcases Nat.lt_or_ge t xs.length with h | h
      · have h1 : xs[t]? = some xs[t] := List.getElem?_eq_getElem h
        have h2 : vs[t]? = some (vs[t]'(by omega)) := Array.getElem?_eq_getElem (by omega)
        have e1 : xs.getD t .top = xs[t] := by simp [List.getD, h1]
        have e2 : (vs ++ Array.replicate (fn.ntmps - vs.size) undef).getD t undef = vs[t]'(by omega) := by
          rw [Array.getD_eq_getD_getElem?, Array.getElem?_append_left (by omega), h2]; rfl
        rw [e1]
        show Rep _ _ _ ((vs ++ Array.replicate (fn.ntmps - vs.size) undef).getD t undef) _
        rw [e2]
        exact hr t _ _ h1 h2
      · have : xs.getD t .top = .top := by simp [List.getD, List.getElem?_eq_none h]
        rw [this]; exact .top _
    · split
      · rename_i u hu
        exact .pin _ _ _ u (hus _ u hu)
      · exact .top _
  refine calls_of_wp hf hb (wp_mono (awp_sound (hE.at rfl) hm body _ _ β _ w haw hent) ?_)
  have fin : ∀ (s : St) (β1 : Pl) (a : Act) (w' : World), Rel ⟨w, S, fun b => Owned obs β b, E.A⟩ s β1 a w' → (resL P s fn.results.toList fun xs' => FinM s us (one xs') (F.res xs obs)) →
      a.defers = [] ∧ ∃ v, (results fn a.tmps).run P w' = .ok v w' ∧ ∃ v' β', Ending.returned v = .returned v' ∧ HRel ⟨w, S, fun b => Owned obs β b, E.A⟩ (F.res xs obs).2 β' w' ∧ (∀ ob ∈ (F.res xs obs).2, ob.live = true) ∧
        (∀ (k : Nat) ob, obs[k]? = some ob → ∃ ob', (F.res xs obs).2[k]? = some ob' ∧ sameOb ob ob' ∧ β'.val k 0 = β.val k 0) ∧ Rep w' (Stab w S (F.res xs obs).2 β' w') β' v' (F.res xs obs).1 := by
    intro s β1 a w' H1 hres
    obtain ⟨v, x, ⟨ks, hp, hpin, hro⟩, hrun, hrep⟩ := results_sound H1 fn (fun x => FinM s us x (F.res xs obs)) hres
    obtain ⟨q1, q2, q3⟩ := H1.2.2.1.pick ks hp
    have e1 : (F.res xs obs).1 = rn2 s.h ks x := by rw [hro]
    have e2 : (F.res xs obs).2 = pickObs s.h ks := by rw [hro]
    refine ⟨H1.1, v, hrun, v, β1.pick s.h ks, rfl, by rw [e2]; exact q1, by rw [e2]; exact q2, fun k ob hk => ?_, ?_⟩
    · obtain ⟨ob', h1, h2⟩ := hsame k ob hk
      refine ⟨ob', h1, h2, ?_⟩
      obtain ⟨u, hu⟩ := hval k ob hk
      have hku : us[k]? = some u := by
        have hk' : k < obs.length := (List.getElem?_eq_some_iff.1 hk).1
        simp [us, hk', hu]
      obtain ⟨k', ob1, a1, a2, a3⟩ := hpin k u hku
      rw [Pl.pick_val a1 a2, hu]
      have := H1.2.2.2 (1000 + k)
      rw [a3] at this
      exact this.inv_pin
    · rw [e1, e2]
      cases x with
      | tup xs =>
        obtain ⟨cs, rfl, hlen, hrep⟩ := hrep.inv_tup
        refine .tup _ _ (by simpa using hlen) fun j x c' hx hc => ?_
        rw [List.getElem?_map] at hx
        cases hj : xs[j]? with
        | none => rw [hj] at hx; cases hx
        | some y => rw [hj] at hx; injection hx with hx; subst hx; exact q3 _ _ (hrep j y c' hj hc)
      | _ => exact q3 _ _ hrep
  rintro e a w' ⟨s, β1, hq, H1⟩
  cases e with
  | normal => exact fin s β1 a w' H1 hq
  | ret => exact fin s β1 a w' H1 hq
  | _ => exact hq.elim

theorem genN_of {P : Program} {E : Env} {f : Nat} {fn : Func} {body : Code} {F : MFun} (hE : E.okA P) (hm : P.follows .mixedOrders = true) (hf : P.funcs[f]? = some fn) (hb : fn.body = some body) (hn : (fn.name == "runtime.NumGoroutine") = false)
    (h : ∀ xs obs us, F.pre xs obs → us.length = obs.length → xs.length ≤ fn.ntmps ∧ xs.length ≤ 1000 ∧ (∀ (k : Nat) ob, obs[k]? = some ob → ∃ ob', (F.res xs obs).2[k]? = some ob' ∧ sameObN ob ob') ∧
      awp P E body (retN P fn.results.toList us (F.res xs obs)) (entM fn.ntmps xs us obs)) : GenNA E.A P f F := by
  refine ⟨fun args w => callFunc_enter hf hn (by simp [hb]) args w, fun w S β obs vs xs hpre hl H0 hlv hr => ?_⟩
  -- the values of what is handed in
  have hval : ∀ (k : Nat) ob, obs[k]? = some ob → ∃ u, β.val k 0 = some u := by
    intro k ob hk
    obtain ⟨_, _, u, hu, _⟩ := H0.objs k ob hk
    rw [(hlv ob (List.mem_of_getElem? hk)).2] at hu
    exact ⟨u, hu⟩
  let us : List Value := (List.range obs.length).map fun k => (β.val k 0).getD undef
  have husl : us.length = obs.length := by simp [us]
  have hus : ∀ (k : Nat) u, us[k]? = some u → β.val k 0 = some u := by
    intro k u hu
    have hk : k < obs.length := by rw [← husl]; exact (List.getElem?_eq_some_iff.1 hu).1
    obtain ⟨u', hu'⟩ := hval k obs[k] (List.getElem?_eq_getElem hk)
    have : us[k]? = some ((β.val k 0).getD undef) := by simp [us, hk]
    rw [this, hu'] at hu
    rw [hu']
    simpa using hu
  obtain ⟨hle, hle', hsame, haw⟩ := h xs obs us hpre husl
  have hent : Rel ⟨w, S, fun b => Owned obs β b, E.A⟩ (entM fn.ntmps xs us obs) β { tmps := vs ++ Array.replicate (fn.ntmps - vs.size) undef, defers := [] } w := by
    refine ⟨rfl, by simp [entM]; omega, H0, fun t => ?_⟩
    show Rep _ _ _ _ (if t < 1000 then xs.getD t .top else match us[t - 1000]? with | some u => .pin (t - 1000) 0 u | none => .top)
    split
    · rcases Nat.lt_or_ge t xs.length with h | h
      · have h1 : xs[t]? = some xs[t] := List.getElem?_eq_getElem h
        have h2 : vs[t]? = some (vs[t]'(by omega)) := Array.getElem?_eq_getElem (by omega)
        have e1 : xs.getD t .top = xs[t] := by simp [List.getD, h1]
        have e2 : (vs ++ Array.replicate (fn.ntmps - vs.size) undef).getD t undef = vs[t]'(by omega) := by
          rw [Array.getD_eq_getD_getElem?, Array.getElem?_append_left (by omega), h2]; rfl
        rw [e1]
        show Rep _ _ _ ((vs ++ Array.replicate (fn.ntmps - vs.size) undef).getD t undef) _
        rw [e2]
        exact hr t _ _ h1 h2
      · have : xs.getD t .top = .top := by simp [List.getD, List.getElem?_eq_none h]
        rw [this]; exact .top _
    · split
      · rename_i u hu
        exact .pin _ _ _ u (hus _ u hu)
      · exact .top _
  refine calls_of_wp hf hb (wp_mono (awp_sound (hE.at rfl) hm body _ _ β _ w haw hent) ?_)
  have fin : ∀ (s : St) (β1 : Pl) (a : Act) (w' : World), Rel ⟨w, S, fun b => Owned obs β b, E.A⟩ s β1 a w' → (resL P s fn.results.toList fun xs' => FinT s.t s.h us (one xs') (F.res xs obs)) →
      a.defers = [] ∧ ∃ v, (results fn a.tmps).run P w' = .ok v w' ∧ ∃ v' β', Ending.returned v = .returned v' ∧ HRel ⟨w, S, fun b => Owned obs β b, E.A⟩ (F.res xs obs).2 β' w' ∧ (∀ ob ∈ (F.res xs obs).2, ob.live = true) ∧
        (∀ (k : Nat) ob, obs[k]? = some ob → ∃ ob', (F.res xs obs).2[k]? = some ob' ∧ sameObN ob ob' ∧ ((ob'.ver = 0 ∧ β'.val k 0 = β.val k 0) ∨ ob'.ver = 1)) ∧ Rep w' (Stab w S (F.res xs obs).2 β' w') β' v' (F.res xs obs).1 := by
    intro s β1 a w' H1 hres
    obtain ⟨v, x, hfin, hrun, hrep⟩ := results_sound H1 fn (fun x => FinT s.t s.h us x (F.res xs obs)) hres
    have main : ∀ (h : List Ob) (β2 : Pl) (x : X), HRel ⟨w, S, fun b => Owned obs β b, E.A⟩ h β2 w' → (∀ t, Rep w' (Stab w S h β2 w') β2 (a.tmps.getD t undef) (s.t t)) → Rep w' (Stab w S h β2 w') β2 v x → FinN s.t h us x (F.res xs obs) →
        ∃ v' β', Ending.returned v = .returned v' ∧ HRel ⟨w, S, fun b => Owned obs β b, E.A⟩ (F.res xs obs).2 β' w' ∧ (∀ ob ∈ (F.res xs obs).2, ob.live = true) ∧
        (∀ (k : Nat) ob, obs[k]? = some ob → ∃ ob', (F.res xs obs).2[k]? = some ob' ∧ sameObN ob ob' ∧ ((ob'.ver = 0 ∧ β'.val k 0 = β.val k 0) ∨ ob'.ver = 1)) ∧ Rep w' (Stab w S (F.res xs obs).2 β' w') β' v' (F.res xs obs).1 := by
      rintro h β2 x H2 ht hrep ⟨ks, fl, hp, hpin, hro⟩
      obtain ⟨q1, q2, q3⟩ := H2.pickVS ks fl hp
      have e1 : (F.res xs obs).1 = rv2 h ks fl x := by rw [hro]
      have e2 : (F.res xs obs).2 = pickV h ks fl := by rw [hro]
      refine ⟨v, β2.pickV h ks fl, rfl, by rw [e2]; exact q1, by rw [e2]; exact q2, fun k ob hk => ?_, ?_⟩
      · obtain ⟨ob', h1, h2⟩ := hsame k ob hk
        refine ⟨ob', h1, h2, ?_⟩
        obtain ⟨u, hu⟩ := hval k ob hk
        have hku : us[k]? = some u := by
          have hk' : k < obs.length := (List.getElem?_eq_some_iff.1 hk).1
          simp [us, hk', hu]
        obtain ⟨k', ob1, a1, a2, a3⟩ := hpin k u hku
        have hver : ob'.ver = vf fl k := by
          rw [e2, pickV_at a1 a2] at h1
          injection h1 with h1
          rw [← h1]
        rcases a3 with a3 | ⟨a3, a4⟩
        · exact .inr (by rw [hver, a3])
        · refine .inl ⟨by rw [hver, a3], ?_⟩
          have hpv := Pl.pickV_val (β := β2) (fl := fl) a1 a2
          rw [a3] at hpv
          rw [hpv, hu]
          have := ht (1000 + k)
          rw [a4] at this
          exact this.inv_pin
      · rw [e1, e2]
        cases x with
        | tup xs =>
          obtain ⟨cs, rfl, hlen, hrep⟩ := hrep.inv_tup
          refine .tup _ _ (by simpa using hlen) fun j x c' hx hc => ?_
          rw [List.getElem?_map] at hx
          cases hj : xs[j]? with
          | none => rw [hj] at hx; cases hx
          | some y => rw [hj] at hx; injection hx with hx; subst hx; exact q3 _ _ (hrep j y c' hj hc)
        | _ => exact q3 _ _ hrep
    rcases hfin with hfin | ⟨k, m, ob, hk, hl, hbx, hpos, hm, rfl, hfin⟩
    · obtain ⟨v', β', h1, h2⟩ := main s.h β1 x H1.2.2.1 H1.2.2.2 hrep hfin
      exact ⟨H1.1, v, hrun, v', β', h1, h2⟩
    · obtain ⟨β2, t1, t2, t3⟩ := H1.2.2.1.trunc hk hl hbx hpos hm hrep
      obtain ⟨v', β', h1, h2⟩ := main _ β2 _ t1 (fun t => t2 _ _ (H1.2.2.2 t)) t3 hfin
      exact ⟨H1.1, v, hrun, v', β', h1, h2⟩
  rintro e a w' ⟨s, β1, hq, H1⟩
  cases e with
  | normal => exact fin s β1 a w' H1 hq
  | ret => exact fin s β1 a w' H1 hq
  | _ => exact hq.elim

def envA (A : List (Nat × List X)) (l : List (Nat × Fun)) (m : List (Nat × MFun)) : Env := ⟨fun f => l.lookup f, fun f => m.lookup f, fun _ => none, A⟩
def envN (A : List (Nat × List X)) (l : List (Nat × Fun)) (m n : List (Nat × MFun)) : Env := ⟨fun f => l.lookup f, fun f => m.lookup f, fun f => n.lookup f, A⟩
def envM (l : List (Nat × Fun)) (m : List (Nat × MFun)) : Env := envA [] l m
def envOf (l : List (Nat × Fun)) : Env := envM l []
theorem lookup_all {α : Type} {p : Nat → α → Prop} : ∀ {l : List (Nat × α)}, (∀ q ∈ l, p q.1 q.2) → ∀ f F, l.lookup f = some F → p f F
  | [], _, f, F, hF => by cases hF
  | (k, G) :: l, h, f, F, hF => by
    rw [List.lookup_cons] at hF
    split at hF
    · rename_i hk
      injection hF with hF
      subst hF
      have : f = k := by simpa using hk
      subst this
      exact h (f, G) List.mem_cons_self
    · exact lookup_all (fun q hq => h q (List.mem_cons_of_mem _ hq)) f F hF
theorem envA_ok {P : Program} {A : List (Nat × List X)} {l : List (Nat × Fun)} {m : List (Nat × MFun)} (h : ∀ p ∈ l, GenCA A P p.1 p.2) (hm : ∀ p ∈ m, GenMA A P p.1 p.2) : (envA A l m).okA P :=
  ⟨fun f F hF => lookup_all (p := fun f F => GenCA A P f F) h f F hF, fun f F hF => lookup_all (p := fun f F => GenMA A P f F) hm f F hF, fun f F hF => by cases hF⟩
theorem envN_ok {P : Program} {A : List (Nat × List X)} {l : List (Nat × Fun)} {m n : List (Nat × MFun)} (h : ∀ p ∈ l, GenCA A P p.1 p.2) (hm : ∀ p ∈ m, GenMA A P p.1 p.2) (hn : ∀ p ∈ n, GenNA A P p.1 p.2) : (envN A l m n).okA P :=
  ⟨fun f F hF => lookup_all (p := fun f F => GenCA A P f F) h f F hF, fun f F hF => lookup_all (p := fun f F => GenMA A P f F) hm f F hF, fun f F hF => lookup_all (p := fun f F => GenNA A P f F) hn f F hF⟩
theorem envM_ok {P : Program} {l : List (Nat × Fun)} {m : List (Nat × MFun)} (h : ∀ p ∈ l, GenC P p.1 p.2) (hm : ∀ p ∈ m, GenM P p.1 p.2) : (envM l m).okA P := envA_ok h hm
theorem envOf_ok {P : Program} {l : List (Nat × Fun)} (h : ∀ p ∈ l, GenC P p.1 p.2) : (envOf l).okA P := envM_ok h (by simp)

end Go.Abs
