/-
  What is proved here: a region that draws its order and makes or changes memory in a chain of operations gives, in whatever order, what it gives in one order. Condition: a check of the region's text.
-/
import Derived.Test.YtglbimhhiikkpaaDoorAbs13d
namespace Go.Abs
open Go.RowKit
set_option linter.unusedSimpArgs false

theorem aop_congr {P : Program} {E : Env} {s s' : St} (op : Op) (hh : s.h = s'.h) (h : ∀ x ∈ op.operands, ev s x = ev s' x) : aop P E s op = aop P E s' op := by
  have pairs : ∀ ps : Array (Nat × Operand), (∀ x ∈ (ps.toList.map (·.2)).toArray, ev s x = ev s' x) → (ps.toList.map fun p => (p.1, ev s p.2)) = (ps.toList.map fun p => (p.1, ev s' p.2)) := fun ps hp => by
    refine List.map_congr_left fun p hm => ?_
    rw [hp p.2 (by rw [List.mem_toArray]; exact List.mem_map.2 ⟨p, hm, rfl⟩)]
  have lst : ∀ xs : Array Operand, (∀ x ∈ xs, ev s x = ev s' x) → xs.toList.map (ev s) = xs.toList.map (ev s') := fun xs hx => List.map_congr_left fun x hm => hx x (by simpa using hm)
  cases op with
  | call cl =>
    obtain ⟨callee, args, ts⟩ := cl
    have ha := lst args fun x hx => h x (by cases callee <;> simp [Op.operands, Call.operands, hx])
    cases callee with
    | value f =>
      have hf := h f (by simp [Op.operands, Call.operands])
      simp only [aop, hf, ha]
      simp only [eFn, eCall, eCallM, hh, bad]
    | invoke r m => simp [aop, bad, hh]
    | builtin b =>
      simp only [aop, ha]
      simp only [eBuiltin, bad, hh, eLen, eAppend, eMin, eMax]
  | makeFunc fn first cap =>
    have hc := lst cap fun x hx => h x (by simp [Op.operands, hx])
    cases fn <;> simp only [aop, bad, hc, hh]
  | build T ps =>
    have hp := pairs ps (fun x hx => h x hx)
    simp only [aop, hp]
    simp only [eBuild, hh, bad]
  | buildSlice T n ps =>
    have hp := pairs ps (fun x hx => h x hx)
    simp only [aop, hp]
    simp only [eBuildSlice, hh, bad]
  | alloc T => simp only [aop, eAlloc, bad, hh]
  | box T x => simp only [aop, eBox, bad, h x (by simp [Op.operands]), hh]
  | store T a x => simp only [aop, eStore, bad, h a (by simp [Op.operands]), h x (by simp [Op.operands]), hh]
  | makeSlice T l c => simp only [aop, eMake, bad, h l (by simp [Op.operands]), h c (by simp [Op.operands]), hh]
  | move x => simp only [aop, bad, h x (by simp [Op.operands]), hh]
  | assign x => simp only [aop, bad, h x (by simp [Op.operands]), hh]
  | pick x y z => simp only [aop, bad, ePick, h x (by simp [Op.operands]), h y (by simp [Op.operands]), h z (by simp [Op.operands]), hh]
  | load T x => simp only [aop, bad, eLoad, evG_congr (E := E) (h x (by simp [Op.operands])), hh]
  | nilCheck x => simp only [aop, bad, eNil, h x (by simp [Op.operands]), hh]
  | binOp op T x y T' => simp only [aop, bad, eBin, h x (by simp [Op.operands]), h y (by simp [Op.operands]), hh]
  | unOp op T x => simp only [aop, bad, eUn, h x (by simp [Op.operands]), hh]
  | convert x y z => simp only [aop, bad, eConv, h z (by simp [Op.operands]), hh]
  | slice T x lo hi mx =>
    have e1 : lo.map (ev s) = lo.map (ev s') := by cases lo with | none => rfl | some y => simp [h y (by simp [Op.operands])]
    have e2 : hi.map (ev s) = hi.map (ev s') := by cases hi with | none => rfl | some y => simp [h y (by simp [Op.operands])]
    have e3 : mx.map (ev s) = mx.map (ev s') := by cases mx with | none => rfl | some y => simp [h y (by simp [Op.operands])]
    simp only [aop, bad, eSlice, e1, e2, e3, h x (by simp [Op.operands]), hh]
  | fieldAddr T x f => simp only [aop, bad, eFieldAddr, evG_congr (E := E) (h x (by simp [Op.operands])), hh]
  | field T x f => simp only [aop, bad, eField, h x (by simp [Op.operands]), hh]
  | indexAddr T x i => simp only [aop, bad, eIndexAddr, evG_congr (E := E) (h x (by simp [Op.operands])), h i (by simp [Op.operands]), hh]
  | index T x i => simp only [aop, bad, eIndex, h x (by simp [Op.operands]), h i (by simp [Op.operands]), hh]
  | extract t i => simp only [aop, bad, eExtract, h t (by simp [Op.operands]), hh]
  | makeMap T r =>
    have e1 : r.map (ev s) = r.map (ev s') := by cases r with | none => rfl | some y => simp [h y (by simp [Op.operands])]
    simp only [aop, bad, eMakeMap, e1, hh]
  | lookup T x i ok => simp only [aop, bad, eLookup, h x (by simp [Op.operands]), h i (by simp [Op.operands]), hh]
  | mapUpdate T x i y => simp only [aop, bad, eMapSet, h x (by simp [Op.operands]), h i (by simp [Op.operands]), h y (by simp [Op.operands]), hh]
  | _ => simp [aop, bad, hh]

/-- operations that don't look at the objects -/
def free : Op → Bool
  | .move _ | .assign _ | .pick .. | .unOp .. | .extract .. | .binOp .. => true
  | _ => false
theorem free_congr {P : Program} {E : Env} {n : Nat} {t : Nat → X} {h h' : List Ob} {op : Op} (hf : free op = true) : (aopD P E ⟨n, t, h⟩ op).cond = (aopD P E ⟨n, t, h'⟩ op).cond ∧ (aopD P E ⟨n, t, h⟩ op).val = (aopD P E ⟨n, t, h'⟩ op).val := by
  have hev : ∀ x, ev (⟨n, t, h⟩ : St) x = ev (⟨n, t, h'⟩ : St) x := fun x => by cases x <;> rfl
  cases op with
  | move x => exact ⟨rfl, hev x⟩
  | assign x => exact ⟨rfl, hev x⟩
  | pick x y z => simp only [aopD, still, aop, hev, if_true, ePick, bad]; split <;> exact ⟨rfl, rfl⟩
  | unOp o T x => simp only [aopD, still, aop, hev, if_true, eUn, bad]; split <;> exact ⟨rfl, rfl⟩
  | extract x i => simp only [aopD, still, aop, hev, if_true, eExtract, bad]; split <;> exact ⟨rfl, rfl⟩
  | binOp o T x y T' => simp only [aopD, still, aop, hev, if_true, eBin, bad]; (repeat' split) <;> exact ⟨rfl, rfl⟩
  | _ => cases hf

theorem Desc.add' {ops : Array Oper} {m : Nat} {vals t0 : Nat → X} {L : Nat → Prop} {X' : Nat → X} (dist : ∀ i, i < m → ∀ j, j < m → i ≠ j → ∀ d, dstOf ops i = some d → dstOf ops j ≠ some d) (h : Desc ops m vals t0 L X') {i : Nat} (hi : i < m) (n : Nat) (hh hh' : List Ob) :
    Desc ops m vals t0 (fun j => L j ∨ j = i) (St.put ⟨n, X', hh⟩ (dstOf ops i) (vals i) hh').t := by
  intro t
  cases hdi : dstOf ops i with
  | none =>
    refine ⟨fun j hj hL ht => ?_, fun hn => ?_⟩
    · rcases hL with hL | rfl
      · exact (h t).1 j hj hL ht
      · rw [hdi] at ht; cases ht
    · exact (h t).2 fun j hj hL => hn j hj (.inl hL)
  | some d =>
    show (∀ j, j < m → (L j ∨ j = i) → dstOf ops j = some t → upd X' d (vals i) t = vals j) ∧ ((∀ j, j < m → (L j ∨ j = i) → dstOf ops j ≠ some t) → upd X' d (vals i) t = t0 t)
    unfold upd
    by_cases e : t = d
    · subst e
      rw [if_pos rfl]
      refine ⟨fun j hj _ ht => ?_, fun hn => absurd hdi (hn i hi (.inr rfl))⟩
      by_cases hji : j = i
      · rw [hji]
      · exact absurd hdi (dist j hj i hi hji t ht)
    · rw [if_neg e]
      refine ⟨fun j hj hL ht => ?_, fun hn => (h t).2 fun j hj hL => hn j hj (.inl hL)⟩
      rcases hL with hL | rfl
      · exact (h t).1 j hj hL ht
      · rw [hdi] at ht; injection ht with ht; exact absurd ht.symm e

def ancOf (ops : Array Oper) (i : Nat) : List Nat := (ancs ops ops.size).getD i []
/-- how many of the chain's operations have run in any case when i runs -/
def lev (ops : Array Oper) (ch : List Nat) (i : Nat) : Nat := ch.countP fun c => (ancOf ops i).contains c
/-- how many of the chain's operations stand ahead of i -/
def cur (ord ch : List Nat) (i : Nat) : Nat := ch.countP fun c => ord.idxOf c < ord.idxOf i

def drawOkX (ops : Array Oper) (ord ch : List Nat) : Bool :=
  decide (ord.length = ops.size) && decide ord.Nodup && (ord.all fun i => decide (i < ops.size)) &&
  ((List.range ops.size).all fun i => (edgesOf ops i).all fun j => decide (j < ops.size) && decide (ord.idxOf j < ord.idxOf i)) &&
  ((List.range ops.size).all fun i => (looks ops i).all fun t => (List.range ops.size).all fun j => i == j || dstOf ops j != some t || (if ord.idxOf j < ord.idxOf i then (ancOf ops i).contains j else (ancOf ops j).contains i)) &&
  ((List.range ops.size).all fun i => (List.range ops.size).all fun j => i == j || (dstOf ops i).isNone || dstOf ops i != dstOf ops j) &&
  (ch.all fun c => decide (c < ops.size)) && decide ch.Nodup &&
  ((List.range ch.length).all fun q => (List.range q).all fun q' => (ancOf ops (ch.getD q 0)).contains (ch.getD q' 0)) &&
  ((List.range ch.length).all fun q => cur ord ch (ch.getD q 0) == q) &&
  ((List.range ops.size).all fun i => ch.contains i || (((List.range (lev ops ch i)).all fun q => (ancOf ops i).contains (ch.getD q 0)) && ((List.range ch.length).all fun q => decide (q < cur ord ch i) || (ancOf ops (ch.getD q 0)).contains i)))

structure DX (ops : Array Oper) (ord ch : List Nat) : Prop where
  len : ord.length = ops.size
  nd : ord.Nodup
  mem : ∀ i ∈ ord, i < ops.size
  edge : ∀ i, i < ops.size → ∀ j ∈ edgesOf ops i, j < ops.size ∧ ord.idxOf j < ord.idxOf i
  look : ∀ i, i < ops.size → ∀ t ∈ looks ops i, ∀ j, j < ops.size → i ≠ j → dstOf ops j = some t → (ord.idxOf j < ord.idxOf i ∧ j ∈ ancOf ops i) ∨ (¬ ord.idxOf j < ord.idxOf i ∧ i ∈ ancOf ops j)
  dist : ∀ i, i < ops.size → ∀ j, j < ops.size → i ≠ j → ∀ d, dstOf ops i = some d → dstOf ops j ≠ some d
  chm : ∀ c ∈ ch, c < ops.size
  chn : ch.Nodup
  cha : ∀ q, q < ch.length → ∀ q', q' < q → ch.getD q' 0 ∈ ancOf ops (ch.getD q 0)
  chc : ∀ q, q < ch.length → cur ord ch (ch.getD q 0) = q
  fl : ∀ i, i < ops.size → i ∉ ch → (∀ q, q < lev ops ch i → ch.getD q 0 ∈ ancOf ops i) ∧ ∀ q, q < ch.length → q < cur ord ch i ∨ i ∈ ancOf ops (ch.getD q 0)

theorem drawOkX_iff {ops : Array Oper} {ord ch : List Nat} (h : drawOkX ops ord ch = true) : DX ops ord ch := by
  unfold drawOkX at h
  simp only [Bool.and_eq_true, List.all_eq_true, List.mem_range, decide_eq_true_eq, Bool.or_eq_true, beq_iff_eq, bne_iff_ne, Option.isNone_iff_eq_none, List.contains_iff_mem] at h
  obtain ⟨⟨⟨⟨⟨⟨⟨⟨⟨⟨h1, h2⟩, h3⟩, h4⟩, h5⟩, h6⟩, h7⟩, h8⟩, h9⟩, h10⟩, h11⟩ := h
  refine ⟨h1, h2, h3, h4, fun i hi t ht j hj hne hd => ?_, fun i hi j hj hne d hd hd' => ?_, h7, h8, h9, h10, fun i hi hn => ?_⟩
  · rcases h5 i hi t ht j hj with (h | h) | h
    · exact absurd h hne
    · exact absurd hd h
    · split at h
      · rename_i hlt; exact .inl ⟨hlt, by simpa using h⟩
      · rename_i hlt; exact .inr ⟨hlt, by simpa using h⟩
  · rcases h6 i hi j hj with (h | h) | h
    · exact hne h
    · rw [h] at hd; cases hd
    · exact h (hd.trans hd'.symm)
  · rcases h11 i hi with h | h
    · exact absurd h hn
    · exact h

/-- one still operation -/
def opX (P : Program) (E : Env) (ops : Array Oper) (s : St) (o : Oper) (k : X → Prop) : Prop :=
  match o.guard with
  | none => dok s o.dst ∧ (aopD P E s o.op).use fun v _ => k v
  | some (j, want) => guardP (gval ops s j) want fun es => dok s o.dst ∧ (aopD P E (s.un es) o.op).useG es s.h fun v => k v
theorem opX_ok {P : Program} {E : Env} {ops : Array Oper} {s : St} {o : Oper} {k : X → Prop} (h : opX P E ops s o k) : ∃ x, OpOk P E ops s o x ∧ k x := by
  unfold opX at h
  unfold OpOk
  cases hg : o.guard with
  | none =>
    rw [hg] at h
    exact ⟨_, ⟨h.1, ⟨h.2.1, rfl⟩⟩, h.2.2⟩
  | some jw =>
    obtain ⟨j, want⟩ := jw
    rw [hg] at h
    dsimp only at h ⊢
    unfold guardP at h
    split at h
    · rename_i es hp
      obtain ⟨h1, h2, h3⟩ := h
      exact ⟨_, ⟨h1, es, _, hp, rfl, fun e => ⟨(h2 e).1, rfl⟩⟩, h3⟩
    · exact h.elim
theorem OpOk.free {P : Program} {E : Env} {ops : Array Oper} {n : Nat} {t : Nat → X} {h h' : List Ob} {o : Oper} {v : X} (hf : free o.op = true) (hk : OpOk P E ops ⟨n, t, h⟩ o v) : OpOk P E ops ⟨n, t, h'⟩ o v := by
  unfold OpOk at hk ⊢
  obtain ⟨h1, h2⟩ := hk
  refine ⟨by cases hd : o.dst <;> rw [hd] at h1 <;> exact h1, ?_⟩
  split at h2
  · have := free_congr (P := P) (E := E) (n := n) (t := t) (h := h) (h' := h') hf
    rw [← this.1, ← this.2]; exact h2
  · obtain ⟨es, y, g1, g2, g3⟩ := h2
    refine ⟨es, y, g1, g2, fun e => ?_⟩
    have := free_congr (P := P) (E := E) (n := n) (t := unT es t) (h := h) (h' := h') hf
    have g4 := g3 e
    show (aopD P E ⟨n, unT es t, h'⟩ o.op).cond ∧ y = (aopD P E ⟨n, unT es t, h'⟩ o.op).val
    rw [← this.1, ← this.2]; exact g4

def rgX (P : Program) (E : Env) (ops : Array Oper) (ch : List Nat) : List Nat → St → List (List Ob) → (St → Prop) → Prop
  | [], s, _, K => K s
  | i :: rest, s, past, K =>
    match ops[i]? with
    | none => False
    | some o =>
      if ch.contains i = true then o.guard = none ∧ dok s o.dst ∧ (aop P E s o.op).use fun v h => rgX P E ops ch rest (s.put o.dst v h) (s.h :: past) K
      else opX P E ops s o fun v => (free o.op = true ∨ ∀ h ∈ past.take (past.length - lev ops ch i), OpOk P E ops ⟨s.n, s.t, h⟩ o v) ∧ rgX P E ops ch rest (s.put o.dst v s.h) past K

theorem countP_step {f g : Nat → Bool} {i : Nat} (hi : f i = false) (h : ∀ c, g c = (f c || c == i)) : ∀ ch : List Nat, ch.Nodup → ch.countP g = ch.countP f + if i ∈ ch then 1 else 0
  | [], _ => rfl
  | c :: ch, hn => by
    have hn' := List.nodup_cons.1 hn
    have ih := countP_step hi h ch hn'.2
    rw [List.countP_cons, List.countP_cons, ih, h c]
    by_cases e : c = i
    · subst e
      simp [hi, hn'.1]
    · have e' : ¬ i = c := fun h => e h.symm
      simp [e, e']
      omega

/-- what the operation gives, in whatever of the states in which it may run -/
def GoodX (P : Program) (E : Env) (ops : Array Oper) (ord ch : List Nat) (n0 : Nat) (t0 : Nat → X) (vals : Nat → X) (hs : Nat → List Ob) (i : Nat) : Prop :=
  ∀ o, ops[i]? = some o → ∃ tj : Nat → X, Desc ops ops.size vals t0 (fun j => ord.idxOf j < ord.idxOf i) tj ∧
    (i ∈ ch → o.guard = none ∧ dok ⟨n0, tj, hs (cur ord ch i)⟩ o.dst ∧ (aop P E ⟨n0, tj, hs (cur ord ch i)⟩ o.op).cond ∧ vals i = (aop P E ⟨n0, tj, hs (cur ord ch i)⟩ o.op).val ∧ hs (cur ord ch i + 1) = (aop P E ⟨n0, tj, hs (cur ord ch i)⟩ o.op).h) ∧
    (i ∉ ch → ∀ q, lev ops ch i ≤ q → q ≤ cur ord ch i → OpOk P E ops ⟨n0, tj, hs q⟩ o (vals i))

theorem rgX_vals {P : Program} {E : Env} {ops : Array Oper} {ord ch : List Nat} (hd : DX ops ord ch) {n0 : Nat} {t0 : Nat → X} {K : St → Prop} : ∀ (k p : Nat) (s : St) (past : List (List Ob)) (vals : Nat → X), p + k = ops.size → s.n = n0 →
    Desc ops ops.size vals t0 (fun j => ord.idxOf j < p) s.t → past.length = ch.countP (fun c => ord.idxOf c < p) → rgX P E ops ch (ord.drop p) s past K →
    ∃ (vals' : Nat → X) (hs : Nat → List Ob), (∀ j, ord.idxOf j < p → vals' j = vals j) ∧ (∀ r, r ≤ past.length → hs r = (s.h :: past).reverse.getD r []) ∧ (∀ i, p ≤ ord.idxOf i → i < ops.size → GoodX P E ops ord ch n0 t0 vals' hs i) ∧
      ∃ tm, Desc ops ops.size vals' t0 (fun j => ord.idxOf j < ops.size) tm ∧ K ⟨n0, tm, hs (ch.countP fun c => ord.idxOf c < ops.size)⟩
  | 0, p, s, past, vals, hk, hn, hD, hp, h => by
    have hpe : p = ops.size := by omega
    subst hpe
    rw [List.drop_of_length_le (by rw [hd.len]; exact Nat.le_refl _)] at h
    have mem : ∀ i, i < ops.size → ord.idxOf i < ops.size := by
      intro i hi
      rw [← hd.len]
      refine List.idxOf_lt_length_of_mem ?_
      -- all places are taken
      have hsub : ord ⊆ List.range ops.size := fun x hx => List.mem_range.2 (hd.mem x hx)
      refine Classical.byContradiction fun hno => ?_
      have h2 : ord ⊆ (List.range ops.size).erase i := fun x hx => (List.mem_erase_of_ne (fun e => hno (by rw [← e]; exact hx))).2 (hsub hx)
      have h3 := nodup_len hd.nd h2
      rw [List.length_erase_of_mem (List.mem_range.2 hi), List.length_range, hd.len] at h3
      omega
    refine ⟨vals, fun r => (s.h :: past).reverse.getD r [], fun _ _ => rfl, fun _ _ => rfl, fun i hi hi2 => ?_, s.t, hD, ?_⟩
    · have := mem i hi2; omega
    · rw [← hp]
      have : (s.h :: past).reverse.getD past.length [] = s.h := by simp [List.getD]
      show K ⟨n0, s.t, (s.h :: past).reverse.getD past.length []⟩
      rw [this, ← hn]; exact h
  | k + 1, p, s, past, vals, hk, hn, hD, hp, h => by
    have hlt : p < ord.length := by rw [hd.len]; omega
    rw [List.drop_eq_getElem_cons hlt] at h
    generalize hi : ord[p] = i at h
    have hidx : ord.idxOf i = p := by rw [← hi]; exact hd.nd.idxOf_getElem p hlt
    have hio : i < ops.size := hd.mem i (by rw [← hi]; exact List.getElem_mem hlt)
    have hget : ops[i]? = some ops[i] := Array.getElem?_eq_getElem hio
    have hdst : dstOf ops i = ops[i].dst := by simp [dstOf, hget]
    have uniq : ∀ c, ord.idxOf c = p → c = i := by
      intro c hc
      have h1 : ord.idxOf c < ord.length := by omega
      have h2 := List.getElem_idxOf h1
      simp only [hc] at h2
      rw [← h2]; exact hi
    have hstep := countP_step (f := fun c => decide (ord.idxOf c < p)) (g := fun c => decide (ord.idxOf c < p + 1)) (i := i) (by simp [hidx]) (fun c => by
      by_cases e : c = i
      · subst e; simp [hidx]
      · have hne : ord.idxOf c ≠ p := fun h => e (uniq c h)
        rw [Bool.eq_iff_iff]
        simp [e]; omega) ch hd.chn
    have hcur : cur ord ch i = past.length := by unfold cur; rw [hidx, hp]
    unfold rgX at h
    rw [hget] at h
    dsimp only at h
    -- the step, whichever it is
    have step : ∃ (x : X) (h' : List Ob) (past' : List (List Ob)), rgX P E ops ch (ord.drop (p + 1)) (s.put ops[i].dst x h') past' K ∧ past'.length = ch.countP (fun c => ord.idxOf c < p + 1) ∧
        (∀ r, r ≤ past.length → (h' :: past').reverse.getD r [] = (s.h :: past).reverse.getD r []) ∧ past.length ≤ past'.length ∧
        (i ∈ ch → ops[i].guard = none ∧ dok s ops[i].dst ∧ (aop P E s ops[i].op).cond ∧ x = (aop P E s ops[i].op).val ∧ (h' :: past').reverse.getD (past.length + 1) [] = (aop P E s ops[i].op).h ∧ past.length + 1 ≤ past'.length) ∧
        (i ∉ ch → OpOk P E ops s ops[i] x ∧ (Go.Abs.free ops[i].op = true ∨ ∀ h ∈ past.take (past.length - lev ops ch i), OpOk P E ops ⟨s.n, s.t, h⟩ ops[i] x)) := by
      by_cases hc : i ∈ ch
      · rw [if_pos (by simpa using hc)] at h
        obtain ⟨h1, h2, h3, h4⟩ := h
        refine ⟨_, _, s.h :: past, h4, ?_, fun r hr => ?_, by simp, fun _ => ⟨h1, h2, h3, rfl, ?_, by simp⟩, fun hn => absurd hc hn⟩
        · rw [hstep, if_pos hc, List.length_cons, hp]
        · rw [List.reverse_cons (a := (aop P E s ops[i].op).h)]
          simp only [List.getD]
          rw [List.getElem?_append_left (by simp; omega)]
        · simp [List.getD]
      · rw [if_neg (by simpa using hc)] at h
        obtain ⟨x, h1, h2, h3⟩ := opX_ok h
        refine ⟨x, s.h, past, h3, ?_, fun _ _ => rfl, Nat.le_refl _, fun hm => absurd hm hc, fun _ => ⟨h1, h2⟩⟩
        rw [hstep, if_neg hc, hp]
        rfl
    obtain ⟨x, h', past', hrest, hplen, hhist, hple, hch, hfl⟩ := step
    let vals1 : Nat → X := fun j => if j = i then x else vals j
    have hD1 : Desc ops ops.size vals1 t0 (fun j => ord.idxOf j < p) s.t := by
      intro t
      refine ⟨fun j hj hL ht => ?_, (hD t).2⟩
      have : vals1 j = vals j := if_neg fun e => by subst e; omega
      rw [this]; exact (hD t).1 j hj hL ht
    have hv1 : vals1 i = x := if_pos rfl
    obtain ⟨sn, st, sh⟩ := s
    dsimp only at hn hD1 hhist hch hfl hrest
    have hD2 := hD1.add' hd.dist (i := i) hio sn sh h'
    rw [hv1, hdst] at hD2
    have hput : (St.put ⟨sn, st, sh⟩ ops[i].dst x h').n = sn ∧ (St.put ⟨sn, st, sh⟩ ops[i].dst x h').h = h' := by cases ops[i].dst <;> exact ⟨rfl, rfl⟩
    have hD3 : Desc ops ops.size vals1 t0 (fun j => ord.idxOf j < p + 1) (St.put ⟨sn, st, sh⟩ ops[i].dst x h').t := by
      intro t
      refine ⟨fun j hj hL ht => (hD2 t).1 j hj ?_ ht, fun hne => (hD2 t).2 fun j hj hL => hne j hj ?_⟩
      · rcases Nat.lt_or_ge (ord.idxOf j) p with h | h
        · exact .inl h
        · exact .inr (uniq j (by omega))
      · rcases hL with h | rfl
        · omega
        · omega
    obtain ⟨vals', hs, g1, g2, g3, g4⟩ := rgX_vals hd (n0 := n0) k (p + 1) (St.put ⟨sn, st, sh⟩ ops[i].dst x h') past' vals1 (by omega) (by rw [hput.1]; exact hn) hD3 hplen hrest
    rw [hput.2] at g2
    have gi : vals' i = x := by rw [g1 i (by omega)]; exact hv1
    refine ⟨vals', hs, fun j hj => ?_, fun r hr => ?_, fun j hj hj2 => ?_, g4⟩
    · rw [g1 j (by omega)]; exact if_neg fun e => by subst e; omega
    · rw [g2 r (by omega), hhist r hr]
    · rcases Nat.lt_or_ge p (ord.idxOf j) with hlt2 | hge
      · exact g3 j (by omega) hj2
      · have hj3 : j = i := uniq j (by omega)
        subst hj3
        intro o ho
        rw [hget] at ho
        injection ho with ho
        subst ho
        have hsq : ∀ r, r ≤ past.length → hs r = (sh :: past).reverse.getD r [] := fun r hr => by rw [g2 r (by omega), hhist r hr]
        have hsc : hs past.length = sh := by rw [hsq _ (Nat.le_refl _)]; simp [List.getD]
        refine ⟨st, fun t => ⟨fun l hl hL ht => ?_, fun hne => (hD1 t).2 fun l hl hL => hne l hl (by omega)⟩, fun hc => ?_, fun hc q hq1 hq2 => ?_⟩
        · rw [g1 l (by omega)]; exact (hD1 t).1 l hl (by omega) ht
        · obtain ⟨a1, a2, a3, a4, a5, a6⟩ := hch hc
          rw [hcur, hsc, gi, g2 (past.length + 1) a6, a5, ← hn]
          exact ⟨a1, a2, a3, a4, rfl⟩
        · obtain ⟨a1, a2⟩ := hfl hc
          rw [hcur] at hq2
          rw [gi, ← hn]
          rcases Nat.eq_or_lt_of_le hq2 with e | hq3
          · rw [e, hsc]; exact a1
          · rcases a2 with a2 | a2
            · exact a1.free a2
            · refine a2 (hs q) ?_
              rw [hsq q hq2]
              -- the q-th of the past, seen from its head
              rw [List.reverse_cons]
              simp only [List.getD]
              rw [List.getElem?_append_left (by simpa using hq3), List.getElem?_reverse hq3, List.getElem?_eq_getElem (by omega), Option.getD_some]
              rw [List.mem_take_iff_getElem]
              exact ⟨past.length - 1 - q, by omega, rfl⟩

/-- an operation of the chain -/
theorem wpOp_of_ch {P : Program} {E : Env} {c : Cx} (hE : E.ok P c)  {ops : Array Oper} {Q : Exit → Act → World → Prop} {s : St} {β : Pl} {a : Act} {w : World} {i : Nat} {o : Oper} (ho : ops[i]? = some o) (H : Rel c s β a w) (hg : o.guard = none) (hd : dok s o.dst) (hc : (aop P E s o.op).cond)
    {K : Act → World → Prop} (hK : ∀ β' a' w', Rel c (s.put o.dst (aop P E s o.op).val (aop P E s o.op).h) β' a' w' → K a' w') : wpOp P ops Q i K a w := by
  unfold wpOp
  rw [ho]
  dsimp only
  rw [if_pos (by simp [Region.wanted, hg])]
  exact .inl (aop_sound hE H o hc _ Q fun v β' w' h1 h2 h3 => hK β' _ w' (Rel.put o.dst H hd h1 h2 h3))

theorem drawXA {P : Program} {E : Env} {c : Cx} (hE : E.ok P c)  {ops : Array Oper} {ord ch : List Nat} (hd : DX ops ord ch) {Q : Exit → Act → World → Prop} {K : St → Prop} (hQ : ∀ s' β' a' w', K s' → Rel c s' β' a' w' → Q .normal a' w')
    {n0 : Nat} {t0 : Nat → X} {vals : Nat → X} {hs : Nat → List Ob} (hv : ∀ i, i < ops.size → GoodX P E ops ord ch n0 t0 vals hs i)
    (hK : ∃ tm, Desc ops ops.size vals t0 (fun j => j < ops.size) tm ∧ K ⟨n0, tm, hs ch.length⟩) :
    ∀ (fuel : Nat) (listed : Array Bool) (rem : List Nat) (X' : Nat → X) (q : Nat) (β : Pl) (a : Act) (w : World), listed.size = ops.size → rem.Nodup → (∀ i, i ∈ rem ↔ i < ops.size ∧ listed.getD i false = false) → rem.length ≤ fuel →
      (∀ i, listed.getD i false = true → ∀ j ∈ edgesOf ops i, listed.getD j false = true) → q ≤ ch.length → (∀ r, r < ch.length → (listed.getD (ch.getD r 0) false = true ↔ r < q)) →
      Desc ops ops.size vals t0 (fun i => listed.getD i false = true) X' → Rel c ⟨n0, X', hs q⟩ β a w → wpAny P .any ops Q fuel listed a w := by
  -- when all have run
  have fin : ∀ (listed : Array Bool) (X' : Nat → X) (q : Nat) (β : Pl) (a : Act) (w : World), (∀ i, i < ops.size → listed.getD i false = true) → q ≤ ch.length → (∀ r, r < ch.length → (listed.getD (ch.getD r 0) false = true ↔ r < q)) →
      Desc ops ops.size vals t0 (fun i => listed.getD i false = true) X' → Rel c ⟨n0, X', hs q⟩ β a w → Q .normal a w := by
    intro listed X' q β a w hall hq hqc hD H
    have hqe : q = ch.length := by
      rcases Nat.eq_or_lt_of_le hq with h | h
      · exact h
      · have hm : ch.getD q 0 < ops.size := by
          have : ch.getD q 0 = ch[q] := by simp [List.getD, h]
          rw [this]; exact hd.chm _ (List.getElem_mem h)
        have := (hqc q h).1 (hall _ hm)
        omega
    obtain ⟨tm, k3, k4⟩ := hK
    have hX : X' = tm := by
      funext t
      by_cases hw : ∃ i, i < ops.size ∧ dstOf ops i = some t
      · obtain ⟨i, hi, hdi⟩ := hw
        rw [(hD t).1 i hi (hall i hi) hdi, (k3 t).1 i hi hi hdi]
      · rw [(hD t).2 fun i hi _ hdi => hw ⟨i, hi, hdi⟩, (k3 t).2 fun i hi _ hdi => hw ⟨i, hi, hdi⟩]
    rw [hX, hqe] at H
    exact hQ _ β a w k4 H
  intro fuel
  induction fuel with
  | zero =>
    intro listed rem X' q β a w hls hnd hrem hf hcl hq hqc hD H
    have hr0 : rem = [] := List.eq_nil_of_length_eq_zero (by omega)
    have hall : ∀ i, i < ops.size → listed.getD i false = true := by
      intro i hi
      cases hb : listed.getD i false with
      | true => rfl
      | false => have := (hrem i).2 ⟨hi, hb⟩; rw [hr0] at this; simp at this
    refine ⟨?_, fin listed X' q β a w hall hq hqc hD H⟩
    rw [List.eq_nil_iff_forall_not_mem]
    intro i hi
    rw [ready_iff hls] at hi
    have := hall i hi.1
    rw [hi.2.1] at this; cases this
  | succ fuel ih =>
    intro listed rem X' q β a w hls hnd hrem hf hcl hq hqc hD H
    refine ⟨fun hnil => ?_, fun i hi => ?_⟩
    · -- the first that has not run is ready
      by_cases hall : ∀ i, i < ops.size → listed.getD i false = true
      · exact fin listed X' q β a w hall hq hqc hD H
      · exfalso
        have hex : ∃ p, ∃ i, i < ops.size ∧ listed.getD i false = false ∧ ord.idxOf i = p := by
          refine Classical.byContradiction fun hno => hall fun i hi => ?_
          cases hb : listed.getD i false with
          | true => rfl
          | false => exact absurd ⟨_, i, hi, hb, rfl⟩ hno
        obtain ⟨p, ⟨i, h1, h2, h3⟩, h4⟩ := exists_least hex
        have : i ∈ Region.ready .any ops listed := by
          rw [ready_iff hls]
          refine ⟨h1, h2, fun k hk => ?_⟩
          obtain ⟨e1, e2⟩ := hd.edge i h1 k hk
          cases hb : listed.getD k false with
          | true => rfl
          | false => have := h4 _ ⟨k, e1, hb, rfl⟩; omega
        rw [hnil] at this
        simp at this
    · rw [ready_iff hls] at hi
      obtain ⟨h1, h2, h3⟩ := hi
      have hanc : ∀ k, k < ops.size → (∀ j ∈ edgesOf ops k, listed.getD j false = true) → ∀ j ∈ ancOf ops k, listed.getD j false = true := fun k hk he =>
        anc_mem (ops := ops) (L := fun j => listed.getD j false = true) hcl ops.size k hk he
      have hget : ops[i]? = some ops[i] := Array.getElem?_eq_getElem h1
      obtain ⟨tj, j3, jc, jf⟩ := hv i h1 ops[i] hget
      have hag : ∀ t ∈ looks ops i, X' t = tj t := by
        intro t ht
        by_cases hw : ∃ k, k < ops.size ∧ i ≠ k ∧ dstOf ops k = some t
        · obtain ⟨k, hk, hne, hdk⟩ := hw
          rcases hd.look i h1 t ht k hk hne hdk with ⟨hlt, hmem⟩ | ⟨hlt, hmem⟩
          · have hLk := hanc i h1 h3 k hmem
            rw [(hD t).1 k hk hLk hdk, (j3 t).1 k hk hlt hdk]
          · have hnk : listed.getD k false = false := by
              cases hb : listed.getD k false with
              | false => rfl
              | true =>
                have := hanc k hk (hcl k hb) i hmem
                rw [h2] at this; cases this
            have uniq : ∀ l, l < ops.size → dstOf ops l = some t → l = k := fun l hl hdl => by
              by_cases e : l = k
              · exact e
              · exact absurd hdk (hd.dist l hl k hk e t hdl)
            rw [(hD t).2 (fun l hl hL hdl => by rw [uniq l hl hdl, hnk] at hL; cases hL), (j3 t).2 (fun l hl hL hdl => by have := uniq l hl hdl; subst this; exact hlt hL)]
        · have only : ∀ l, l < ops.size → dstOf ops l = some t → l = i := fun l hl hdl => by
            by_cases e : i = l
            · exact e.symm
            · exact absurd ⟨l, hl, e, hdl⟩ hw
          rw [(hD t).2 (fun l hl hL hdl => by rw [only l hl hdl, h2] at hL; cases hL), (j3 t).2 (fun l hl hL hdl => by have := only l hl hdl; subst this; omega)]
      have hlk : looks ops i = ops[i].looksAt ops := by simp [looks, hget]
      have hops : ∀ hh x, x ∈ ops[i].op.operands → ev (⟨n0, X', hh⟩ : St) x = ev (⟨n0, tj, hh⟩ : St) x := by
        intro hh x hx
        refine ev_congr fun t ht => hag t ?_
        rw [hlk]
        unfold Oper.looksAt
        refine List.mem_append.2 (.inl (List.mem_filterMap.2 ⟨x, by simpa using hx, by rw [ht]⟩))
      have hdst : dstOf ops i = ops[i].dst := by simp [dstOf, hget]
      have hil : i < listed.size := by omega
      -- what holds of the others behind this one
      have next : ∀ (q' : Nat) (β' : Pl) (a' : Act) (w' : World), q' ≤ ch.length → (∀ r, r < ch.length → ((listed.setIfInBounds i true).getD (ch.getD r 0) false = true ↔ r < q')) →
          Rel c (St.put ⟨n0, X', hs q⟩ ops[i].dst (vals i) (hs q')) β' a' w' → wpAny P .any ops Q fuel (listed.setIfInBounds i true) a' w' := by
        intro q' β' a' w' hq' hqc' H'
        have hD' := hD.add' hd.dist h1 n0 (hs q) (hs q')
        rw [hdst] at hD'
        have hput : St.put ⟨n0, X', hs q⟩ ops[i].dst (vals i) (hs q') = ⟨n0, (St.put ⟨n0, X', hs q⟩ ops[i].dst (vals i) (hs q')).t, hs q'⟩ := by cases ops[i].dst <;> rfl
        have H2 : Rel c ⟨n0, (St.put ⟨n0, X', hs q⟩ ops[i].dst (vals i) (hs q')).t, hs q'⟩ β' a' w' := by rw [← hput]; exact H'
        refine ih _ (rem.erase i) _ q' β' a' w' (by simpa using hls) (hnd.erase i) (fun k => ?_) ?_ (fun k hk j hj => ?_) hq' hqc' ?_ H2
        · rw [hnd.mem_erase_iff, hrem]
          constructor
          · rintro ⟨hne, hk1, hk2⟩
            refine ⟨hk1, ?_⟩
            cases hb : (listed.setIfInBounds i true).getD k false with
            | false => rfl
            | true =>
              rcases (setL hil).1 hb with h | h
              · rw [hk2] at h; cases h
              · exact absurd h hne
          · rintro ⟨hk1, hk2⟩
            refine ⟨fun e => ?_, hk1, ?_⟩
            · rw [(setL hil).2 (.inr e)] at hk2; cases hk2
            · cases hb : listed.getD k false with
              | false => rfl
              | true => rw [(setL hil).2 (.inl hb)] at hk2; cases hk2
        · rw [List.length_erase_of_mem ((hrem i).2 ⟨h1, h2⟩)]; omega
        · rcases (setL hil).1 hk with h | h
          · exact (setL hil).2 (.inl (hcl k h j hj))
          · subst h; exact (setL hil).2 (.inl (h3 j hj))
        · intro t
          refine ⟨fun k hk hL hdk => (hD' t).1 k hk ((setL hil).1 hL) hdk, fun hne => (hD' t).2 fun k hk hL => hne k hk ((setL hil).2 hL)⟩
      by_cases hc : i ∈ ch
      · -- the chain's next
        obtain ⟨r, hr, hri⟩ := List.getElem_of_mem hc
        have hri' : ch.getD r 0 = i := by simp [List.getD, hr, hri]
        have hrq : r = q := by
          rcases Nat.lt_trichotomy r q with h | h | h
          · have := (hqc r hr).2 h
            rw [hri', h2] at this; cases this
          · exact h
          · have := hanc i h1 h3 (ch.getD q 0) (by rw [← hri']; exact hd.cha r hr q h)
            have := (hqc q (by omega)).1 this
            omega
        subst hrq
        have hcu : cur ord ch i = r := by rw [← hri']; exact hd.chc r hr
        obtain ⟨g1, g2, g3, g4, g5⟩ := jc hc
        rw [hcu] at g2 g3 g4 g5
        have hcg : aop P E (⟨n0, X', hs r⟩ : St) ops[i].op = aop P E ⟨n0, tj, hs r⟩ ops[i].op := aop_congr _ rfl (hops (hs r))
        refine wpOp_of_ch hE hget H g1 (by cases hdd : ops[i].dst <;> rw [hdd] at g2 <;> exact g2) (by rw [hcg]; exact g3) fun β' a' w' H' => ?_
        rw [hcg, ← g4, ← g5] at H'
        refine next (r + 1) β' a' w' (by omega) (fun r' hr' => ?_) H'
        rw [setL hil, hqc r' hr']
        constructor
        · rintro (h | h)
          · omega
          · have e1 : ch[r'] = i := by rw [← h]; simp [List.getD, hr']
            have i1 := hd.chn.idxOf_getElem r' hr'
            have i2 := hd.chn.idxOf_getElem r hr
            rw [e1] at i1
            rw [hri] at i2
            omega
        · intro h
          rcases Nat.lt_or_ge r' r with h' | h'
          · exact .inl h'
          · have : r' = r := by omega
            subst this; exact .inr hri'
      · -- one that floats
        obtain ⟨f1, f2⟩ := hd.fl i h1 hc
        have hl1 : lev ops ch i ≤ q := by
          rcases Nat.lt_or_ge q (lev ops ch i) with h | h
          · have := hanc i h1 h3 (ch.getD q 0) (f1 q h)
            have hlc : lev ops ch i ≤ ch.length := List.countP_le_length
            have := (hqc q (by omega)).1 this
            omega
          · exact h
        have hl2 : q ≤ cur ord ch i := by
          rcases Nat.lt_or_ge (cur ord ch i) q with h | h
          · exfalso
            rcases f2 (cur ord ch i) (by omega) with h' | h'
            · omega
            · have hli := (hqc (cur ord ch i) (by omega)).2 h
              have hm : ch.getD (cur ord ch i) 0 < ops.size := by
                have hlt : cur ord ch i < ch.length := by omega
                have : ch.getD (cur ord ch i) 0 = ch[cur ord ch i] := by simp [List.getD, hlt]
                rw [this]; exact hd.chm _ (List.getElem_mem hlt)
              have := hanc _ hm (hcl _ hli) i h'
              rw [h2] at this; cases this
          · exact h
        have j4 := jf hc q hl1 hl2
        have hcg : aopD P E (⟨n0, X', hs q⟩ : St) ops[i].op = aopD P E ⟨n0, tj, hs q⟩ ops[i].op := aopD_congr _ rfl (hops (hs q))
        have hok : OpOk P E ops ⟨n0, X', hs q⟩ ops[i] (vals i) := by
          obtain ⟨q1, q2⟩ := j4
          refine ⟨by cases hdd : ops[i].dst <;> rw [hdd] at q1 <;> exact q1, ?_⟩
          cases hg : ops[i].guard with
          | none => rw [hg] at q2; dsimp only at q2 ⊢; rw [hcg]; exact q2
          | some jw =>
            obtain ⟨j, want⟩ := jw
            rw [hg] at q2
            dsimp only at q2 ⊢
            obtain ⟨p, y, p1, p2, p3⟩ := q2
            have hcg' : aopD P E ((⟨n0, X', hs q⟩ : St).un p) ops[i].op = aopD P E ((⟨n0, tj, hs q⟩ : St).un p) ops[i].op := by
              refine aopD_congr _ rfl fun x hx => ?_
              have := hops (hs q) x hx
              cases x with
              | tmp t => show unL p (X' t) = unL p (tj t); rw [show X' t = tj t from this]
              | _ => rfl
            refine ⟨p, y, ?_, p2, by rw [hcg']; exact p3⟩
            rw [← p1]
            refine congrArg (gl want) ?_
            unfold gval
            cases hdj : (ops[j]?).bind (·.dst) with
            | none => rfl
            | some d =>
              refine hag d ?_
              rw [hlk]
              unfold Oper.looksAt
              refine List.mem_append.2 (.inr ?_)
              rw [hg]
              simp [hdj]
        refine wpOp_of hE hget H hok fun β' a' w' H' => ?_
        refine next q β' a' w' hq (fun r hr => ?_) H'
        rw [setL hil, hqc r hr]
        constructor
        · rintro (h | h)
          · exact h
          · exfalso
            refine hc ?_
            have : ch.getD r 0 = ch[r] := by simp [List.getD, hr]
            rw [← h, this]; exact List.getElem_mem hr
        · exact fun h => .inl h

/-- a region that draws its order: still operations that float about a chain -/
def drawX (P : Program) (E : Env) (ops : Array Oper) (s : St) (K : St → Prop) : Prop :=
  ∃ ord ch, drawOkX ops ord ch = true ∧ rgX P E ops ch ord s [] K

theorem drawX_sound {P : Program} {E : Env} {c : Cx} (hE : E.ok P c) (hm : P.follows .mixedOrders = true)  {id : Nat} {ops : Array Oper} {Q : Exit → Act → World → Prop} {s : St} {K : St → Prop} {β : Pl} {a : Act} {w : World} (H : Rel c s β a w)
    (h : drawX P E ops s K) (hQ : ∀ s' β' a' w', K s' → Rel c s' β' a' w' → Q .normal a' w') : (Code.region id ops true).wp P Q a w := by
  obtain ⟨ord, ch, hok, hrg⟩ := h
  have hd := drawOkX_iff hok
  have hD0 : Desc ops ops.size (fun _ => .top) s.t (fun j => ord.idxOf j < 0) s.t := fun t => ⟨fun i _ hL => by omega, fun _ => rfl⟩
  obtain ⟨vals, hs, _, g2, g3, tm, g4, g5⟩ := rgX_vals hd (n0 := s.n) (t0 := s.t) ops.size 0 s [] (fun _ => .top) (by omega) rfl hD0 (by simp) (by simpa using hrg)
  have mem : ∀ i, i < ops.size → ord.idxOf i < ops.size := by
    intro i hi
    rw [← hd.len]
    refine List.idxOf_lt_length_of_mem ?_
    have hsub : ord ⊆ List.range ops.size := fun x hx => List.mem_range.2 (hd.mem x hx)
    refine Classical.byContradiction fun hno => ?_
    have h2 : ord ⊆ (List.range ops.size).erase i := fun x hx => (List.mem_erase_of_ne (fun e => hno (by rw [← e]; exact hx))).2 (hsub hx)
    have h3 := nodup_len hd.nd h2
    rw [List.length_erase_of_mem (List.mem_range.2 hi), List.length_range, hd.len] at h3
    omega
  have hcl : (ch.countP fun c => ord.idxOf c < ops.size) = ch.length := List.countP_eq_length.2 fun c hc => by simpa using mem c (hd.chm c hc)
  rw [hcl] at g5
  have hs0 : hs 0 = s.h := g2 0 (Nat.zero_le _)
  refine wp_region_any hm ?_
  have hL0 : ∀ i, (Array.replicate ops.size false).getD i false = false := fun i => by
    simp only [Array.getD_eq_getD_getElem?, Array.getElem?_replicate]
    split <;> rfl
  have H0 : Rel c ⟨s.n, s.t, hs 0⟩ β a { w with drawn := w.drawn + 1 } := by rw [hs0]; exact H.drawn
  refine drawXA hE hd hQ (fun i hi => g3 i (Nat.zero_le _) hi) ⟨tm, fun t => ⟨fun i hi _ ht => (g4 t).1 i hi (mem i hi) ht, fun hne => (g4 t).2 fun i hi _ => hne i hi hi⟩, g5⟩ ops.size _ (List.range ops.size) s.t 0 β a _ (by simp) List.nodup_range (fun i => ?_) (by simp) (fun i hi => ?_) (Nat.zero_le _) (fun r hr => ?_) ?_ H0
  · rw [List.mem_range, hL0]; simp
  · rw [hL0] at hi; cases hi
  · rw [hL0]; simp
  · exact fun t => ⟨fun i _ hL => (by have h' : (Array.replicate ops.size false).getD i false = true := hL; rw [hL0] at h'; cases h'), fun _ => rfl⟩

theorem opX_mono {P : Program} {E : Env} {ops : Array Oper} {s : St} {o : Oper} {k k' : X → Prop} (hk : ∀ x, k x → k' x) (h : opX P E ops s o k) : opX P E ops s o k' := by
  unfold opX at h ⊢
  split at h
  · exact ⟨h.1, h.2.1, hk _ h.2.2⟩
  · unfold guardP at h ⊢
    split at h
    · exact ⟨h.1, h.2.1, hk _ h.2.2⟩
    · exact h.elim
theorem rgX_mono {P : Program} {E : Env} {ops : Array Oper} {ch : List Nat} {K K' : St → Prop} (hk : ∀ s, K s → K' s) : ∀ (l : List Nat) (s : St) (past : List (List Ob)), rgX P E ops ch l s past K → rgX P E ops ch l s past K'
  | [], s, _, h => hk s h
  | i :: rest, s, past, h => by
    unfold rgX at h ⊢
    split at h
    · exact h
    · split at h
      · rename_i hc
        rw [if_pos hc]
        exact ⟨h.1, h.2.1, h.2.2.1, rgX_mono hk rest _ _ h.2.2.2⟩
      · rename_i hc
        rw [if_neg hc]
        exact opX_mono (fun x hx => ⟨hx.1, rgX_mono hk rest _ _ hx.2⟩) h

theorem drawX_mono {P : Program} {E : Env} {ops : Array Oper} {s : St} {K K' : St → Prop} (hk : ∀ s, K s → K' s) (h : drawX P E ops s K) : drawX P E ops s K' := by
  obtain ⟨ord, ch, h1, h2⟩ := h
  exact ⟨ord, ch, h1, rgX_mono hk _ _ _ h2⟩

/-- in one of three ways; in the third with other contracts of the same functions -/
def drawP (P : Program) (E : Env) (ops : Array Oper) (s : St) (K : St → Prop) : Prop :=
  drawP0 P E ops s K ∨ drawX P E ops s K ∨ ∃ E' : Env, (∀ c, E.ok P c → E'.ok P c) ∧ drawP0 P E' ops s K
theorem drawP_sound {P : Program} {E : Env} {c : Cx} (hE : E.ok P c) (hm : P.follows .mixedOrders = true)  {id : Nat} {ops : Array Oper} {Q : Exit → Act → World → Prop} {s : St} {K : St → Prop} {β : Pl} {a : Act} {w : World} (H : Rel c s β a w)
    (h : drawP P E ops s K) (hQ : ∀ s' β' a' w', K s' → Rel c s' β' a' w' → Q .normal a' w') : (Code.region id ops true).wp P Q a w :=
  h.elim (fun h => drawP0_sound hE hm H h hQ) fun h => h.elim (fun h => drawX_sound hE hm H h hQ) fun ⟨_, h1, h2⟩ => drawP0_sound (h1 c hE) hm H h2 hQ
theorem drawP_mono {P : Program} {E : Env} {ops : Array Oper} {s : St} {K K' : St → Prop} (hk : ∀ s, K s → K' s) (h : drawP P E ops s K) : drawP P E ops s K' :=
  h.imp (drawP0_mono hk) fun h => h.imp (drawX_mono hk) fun ⟨E', h1, h2⟩ => ⟨E', h1, drawP0_mono hk h2⟩

end Go.Abs
