/-
  What is proved here: an operation's effect hangs on its operands' values alone; the order in which a region may be run. Condition: none.
-/
import Derived.Test.YtglbimhhiikkpaaDoorAbs12
namespace Go.Abs
open Go.RowKit
set_option linter.unusedSimpArgs false

/-- the effect in a region that draws its order: what is made there is read as data -/
def eFnD (E : Env) (s : St) (f : X) (args : List X) : Eff :=
  match f with
  | .fn g cap => match E.f g with
    | some F => ⟨F.pre ((args ++ cap).map (purN s.h 3)) ∧ (F.res ((args ++ cap).map (purN s.h 3))).2 = [] ∧ ((args ++ cap).all isPure = true ∨ mf2 (F.res ((args ++ cap).map (purN s.h 3))).1 = true),
        sh2 s.h.length (F.res ((args ++ cap).map (purN s.h 3))).1, s.h⟩
    | none => bad s
  | _ => bad s

def still : Op → Bool
  | .move _ | .assign _ | .pick .. | .load .. | .nilCheck _ | .binOp .. | .unOp .. | .convert .. | .makeFunc .. | .slice .. | .fieldAddr .. | .field .. | .indexAddr .. | .index .. | .extract .. | .build .. | .lookup .. => true
  | .call { callee := .builtin .len, .. } | .call { callee := .builtin .min, .. } | .call { callee := .builtin .max, .. } | .call { callee := .value _, .. } => true
  | _ => false

def aopD (P : Program) (E : Env) (s : St) (op : Op) : Eff :=
  match op with
  | .call { callee := .value f, args, .. } => eFnD E s (ev s f) (args.toList.map (ev s))
  | .buildSlice T n ps => eBSD P s T n (ps.toList.map fun p => (p.1, ev s p.2))
  | op => if still op then aop P E s op else bad s

set_option maxHeartbeats 4000000 in
theorem aopD_sound {P : Program} {E : Env} {c : Cx} (hE : E.ok P c)  {s : St} {β : Pl} {a : Act} {w : World} (H : Rel c s β a w) (o : Oper) (hc : (aopD P E s o.op).cond) : (aopD P E s o.op).h = s.h ∧ Does1 P c s β a w o (aopD P E s o.op) := by
  have gen : still o.op = true → (∀ f l ts, o.op ≠ .call ⟨.value f, l, ts⟩) → aopD P E s o.op = aop P E s o.op := by
    intro h1 h2
    unfold aopD
    split
    · rename_i f l ts he; exact absurd he (h2 f l ts)
    · rename_i T n ps he; rw [he] at h1; cases h1
    · rw [if_pos h1]
  by_cases hbs : ∃ T n ps, o.op = .buildSlice T n ps
  · obtain ⟨T, n, ps, hbs⟩ := hbs
    have e1 : aopD P E s o.op = eBSD P s T n (ps.toList.map fun p => (p.1, ev s p.2)) := by rw [hbs]; rfl
    rw [e1] at hc ⊢
    refine ⟨?_, ?_⟩
    · unfold eBSD; split
      · rfl
      · split <;> rfl
    · obtain ⟨d, op, ty, pos, af, gu⟩ := o
      dsimp only at hbs
      subst hbs
      exact does1_of (sem := Instr.buildSlice T n (ps.map fun (i, x) => (i, a.eval x))) rfl (buildSlice_pure H.2.2.1 (rep_parts H ps).1 (rep_parts H ps).2 hc)
  by_cases hv : ∃ f l ts, o.op = .call ⟨.value f, l, ts⟩
  · obtain ⟨f, l, ts, hv⟩ := hv
    have e1 : aopD P E s o.op = eFnD E s (ev s f) (l.toList.map (ev s)) := by rw [hv]; rfl
    rw [e1] at hc ⊢
    have e2 : aop P E s o.op = eFn E s (ev s f) (l.toList.map (ev s)) := by rw [hv]; rfl
    unfold eFnD at hc ⊢
    split at hc
    · rename_i g cap hg
      split at hc
      · rename_i F hF
        obtain ⟨h1, h2, h3⟩ := hc
        refine ⟨rfl, ?_⟩
        have hs := aop_sound hE H o (by
          rw [e2]
          unfold eFn
          rw [hg]
          dsimp only
          rw [hF]
          exact ⟨h1, h3.imp id fun h => ⟨h, by rw [h2]; rfl⟩⟩)
        have e3 : aop P E s o.op = ⟨(aop P E s o.op).cond, sh2 s.h.length (F.res ((l.toList.map (ev s) ++ cap).map (purN s.h 3))).1, s.h⟩ := by
          rw [e2]
          unfold eFn
          rw [hg]
          dsimp only
          rw [hF]
          simp only [eCall, h2, List.map_nil, List.append_nil]
        rw [e3] at hs
        exact hs
      · exact hc.elim
    · exact hc.elim
  · have hne : ∀ f l ts, o.op ≠ .call ⟨.value f, l, ts⟩ := fun f l ts h => hv ⟨f, l, ts, h⟩
    by_cases hst : still o.op = true
    · have e1 := gen hst hne
      rw [e1] at hc ⊢
      refine ⟨?_, aop_sound hE H o hc⟩
      obtain ⟨dst, op, type, pos, after, guard⟩ := o
      cases op with
      | call cl =>
        obtain ⟨callee, args, ts⟩ := cl
        cases callee with
        | value f => exact absurd rfl (hne f args ts)
        | invoke r m => simp [still] at hst
        | builtin b =>
          simp only [aop]
          unfold eBuiltin
          split <;> first
            | (unfold eLen; split <;> rfl)
            | (simp [still] at hst; done)
            | (unfold eMin; split <;> rfl)
            | (unfold eMax; split <;> rfl)
            | rfl
      | move x => rfl
      | assign x => rfl
      | pick x y z => simp only [aop]; unfold ePick; split <;> rfl
      | load T x => simp only [aop]; unfold eLoad; split <;> rfl
      | nilCheck x => simp only [aop]; unfold eNil; split <;> rfl
      | binOp op T x y T' => simp only [aop]; unfold eBin; (repeat' split) <;> rfl
      | unOp op T x => simp only [aop]; unfold eUn; split <;> rfl
      | convert x y z => simp only [aop]; unfold eConv; split <;> first | rfl | (split <;> rfl)
      | makeFunc fn first cap =>
        cases fn with
        | func f => simp only [aop]; split <;> rfl
        | _ => rfl
      | slice T x lo hi mx => simp only [aop]; unfold eSlice; (repeat' split) <;> rfl
      | fieldAddr T x f => simp only [aop]; unfold eFieldAddr; (repeat' split) <;> rfl
      | field T x f => simp only [aop]; unfold eField; (repeat' split) <;> rfl
      | indexAddr T x i => simp only [aop]; unfold eIndexAddr; (repeat' split) <;> rfl
      | index T x i => simp only [aop]; unfold eIndex; (repeat' split) <;> rfl
      | extract t i => simp only [aop]; unfold eExtract; split <;> rfl
      | build T ps => simp only [aop]; unfold eBuild; (repeat' split) <;> rfl
      | lookup T x i ok => simp only [aop]; unfold eLookup; (repeat' split) <;> rfl
      | _ => simp [still] at hst
    · exfalso
      have : aopD P E s o.op = bad s := by
        unfold aopD
        split
        · rename_i f l ts he; exact absurd he (hne f l ts)
        · rename_i T n ps he; exact absurd ⟨T, n, ps, he⟩ hbs
        · rw [if_neg hst]
      rw [this] at hc
      exact hc

theorem evG_congr {E : Env} {s s' : St} {x : Operand} (h : ev s x = ev s' x) : evG E s x = evG E s' x := by
  cases x with
  | global g => rfl
  | _ => exact h
theorem ev_congr {s s' : St} {x : Operand} (h : ∀ t, x = .tmp t → s.t t = s'.t t) : ev s x = ev s' x := by
  cases x with
  | tmp t => exact h t rfl
  | _ => rfl

/-- the effect hangs on the operands' values and the objects alone -/
theorem aopD_congr {P : Program} {E : Env} {s s' : St} (op : Op) (hh : s.h = s'.h) (h : ∀ x ∈ op.operands, ev s x = ev s' x) : aopD P E s op = aopD P E s' op := by
  have pairs : ∀ ps : Array (Nat × Operand), (∀ x ∈ (ps.toList.map (·.2)).toArray, ev s x = ev s' x) → (ps.toList.map fun p => (p.1, ev s p.2)) = (ps.toList.map fun p => (p.1, ev s' p.2)) := fun ps hp => by
    refine List.map_congr_left fun p hm => ?_
    rw [hp p.2 (by rw [List.mem_toArray]; exact List.mem_map.2 ⟨p, hm, rfl⟩)]
  have lst : ∀ xs : Array Operand, (∀ x ∈ xs, ev s x = ev s' x) → xs.toList.map (ev s) = xs.toList.map (ev s') := fun xs hx => List.map_congr_left fun x hm => hx x (by simpa using hm)
  cases op with
  | call cl =>
    obtain ⟨callee, args, ts⟩ := cl
    have ha := lst args fun x hx => h x (by cases callee <;> simp [Op.operands, Call.operands, hx])
    cases callee with
    | value f =>
      have hf := h f (by simp [Op.operands, Call.operands])
      simp only [aopD, eFnD, hf, ha, hh, bad]
    | invoke r m => simp [aopD, still, bad, hh]
    | builtin b =>
      have hb : ∀ bb, eBuiltin P s bb ts.toList (args.toList.map (ev s)) = eBuiltin P s' bb ts.toList (args.toList.map (ev s')) ∨ still (.call ⟨.builtin bb, args, ts⟩) = false := by
        intro bb
        cases bb with
        | len => left; rw [ha]; simp only [eBuiltin, bad, hh, eLen, eAppend, eMin, eMax]
        | min => left; rw [ha]; simp only [eBuiltin, bad, hh, eLen, eAppend, eMin, eMax]
        | max => left; rw [ha]; simp only [eBuiltin, bad, hh, eLen, eAppend, eMin, eMax]
        | _ => right; rfl
      rcases hb b with e | e
      · simp only [aopD, aop, bad, hh]; rw [e]
      · simp only [aopD, e, Bool.false_eq_true, if_false, bad, hh]
  | makeFunc fn first cap =>
    have hc := lst cap fun x hx => h x (by simp [Op.operands, hx])
    cases fn <;> simp only [aopD, still, aop, bad, hc, hh]
  | build T ps =>
    have hp := pairs ps (fun x hx => h x hx)
    simp only [aopD, still, aop, bad, hp]
    simp only [eBuild, hh]
  | buildSlice T n ps =>
    have hp := pairs ps (fun x hx => h x hx)
    simp only [aopD, hp]
    simp only [eBSD, hh]
  | move x => simp only [aopD, still, aop, bad, h x (by simp [Op.operands]), hh]
  | assign x => simp only [aopD, still, aop, bad, h x (by simp [Op.operands]), hh]
  | pick x y z => simp only [aopD, still, aop, bad, ePick, h x (by simp [Op.operands]), h y (by simp [Op.operands]), h z (by simp [Op.operands]), hh]
  | load T x => simp only [aopD, still, aop, bad, eLoad, evG_congr (E := E) (h x (by simp [Op.operands])), hh]
  | nilCheck x => simp only [aopD, still, aop, bad, eNil, h x (by simp [Op.operands]), hh]
  | binOp op T x y T' => simp only [aopD, still, aop, bad, eBin, h x (by simp [Op.operands]), h y (by simp [Op.operands]), hh]
  | unOp op T x => simp only [aopD, still, aop, bad, eUn, h x (by simp [Op.operands]), hh]
  | convert x y z => simp only [aopD, still, aop, bad, eConv, h z (by simp [Op.operands]), hh]
  | slice T x lo hi mx =>
    have e1 : lo.map (ev s) = lo.map (ev s') := by cases lo with | none => rfl | some y => simp [h y (by simp [Op.operands])]
    have e2 : hi.map (ev s) = hi.map (ev s') := by cases hi with | none => rfl | some y => simp [h y (by simp [Op.operands])]
    have e3 : mx.map (ev s) = mx.map (ev s') := by cases mx with | none => rfl | some y => simp [h y (by simp [Op.operands])]
    simp only [aopD, still, aop, bad, eSlice, e1, e2, e3, h x (by simp [Op.operands]), hh]
  | fieldAddr T x f => simp only [aopD, still, aop, bad, eFieldAddr, evG_congr (E := E) (h x (by simp [Op.operands])), hh]
  | field T x f => simp only [aopD, still, aop, bad, eField, h x (by simp [Op.operands]), hh]
  | indexAddr T x i => simp only [aopD, still, aop, bad, eIndexAddr, evG_congr (E := E) (h x (by simp [Op.operands])), h i (by simp [Op.operands]), hh]
  | index T x i => simp only [aopD, still, aop, bad, eIndex, h x (by simp [Op.operands]), h i (by simp [Op.operands]), hh]
  | extract t i => simp only [aopD, still, aop, bad, eExtract, h t (by simp [Op.operands]), hh]
  | lookup T x i ok => simp only [aopD, still, aop, bad, eLookup, h x (by simp [Op.operands]), h i (by simp [Op.operands]), hh]
  | _ => simp [aopD, still, bad, hh]

/-! ### which operations must have run before which -/
def edgesOf (ops : Array Oper) (i : Nat) : List Nat := ((ops[i]?).map fun o => (o.after.toList.filter (Region.binds .any)).map (·.on)).getD []
def ancStep (ops : Array Oper) (acc : List (List Nat)) (i : Nat) : List (List Nat) := acc ++ [((edgesOf ops i).flatMap fun j => j :: acc.getD j []).eraseDups]
def ancs (ops : Array Oper) (n : Nat) : List (List Nat) := (List.range n).foldl (ancStep ops) []

theorem ancs_length (ops : Array Oper) (n : Nat) : (ancs ops n).length = n := by
  unfold ancs
  induction n with
  | zero => rfl
  | succ n ih => rw [List.range_succ, List.foldl_append]; simp [ancStep, ih]
theorem ancs_succ (ops : Array Oper) (n : Nat) : ancs ops (n + 1) = ancStep ops (ancs ops n) n := by
  unfold ancs; rw [List.range_succ, List.foldl_append]; rfl
theorem ancs_getD (ops : Array Oper) : ∀ n i, i < n → (ancs ops n).getD i [] = ((edgesOf ops i).flatMap fun j => j :: (ancs ops i).getD j []).eraseDups := by
  intro n
  induction n with
  | zero => intro i h; omega
  | succ n ih =>
    intro i h
    rw [ancs_succ]
    unfold ancStep
    rcases Nat.lt_or_eq_of_le (Nat.lt_succ_iff.1 h) with hlt | rfl
    · rw [← ih i hlt]
      simp only [List.getD]
      rw [List.getElem?_append_left (by rw [ancs_length]; exact hlt)]
    · simp only [List.getD]
      rw [List.getElem?_append_right (by rw [ancs_length]; omega), ancs_length]
      simp

/-- a set of operations that have run, closed under what must have run before -/
theorem anc_mem {ops : Array Oper} {L : Nat → Prop} (hL : ∀ i, L i → ∀ j ∈ edgesOf ops i, L j) : ∀ n i, i < n → (∀ j ∈ edgesOf ops i, L j) → ∀ j ∈ (ancs ops n).getD i [], L j := by
  intro n i hi
  induction i using Nat.strongRecOn generalizing n with
  | _ i ih =>
    intro he j hj
    rw [ancs_getD ops n i hi, List.mem_eraseDups, List.mem_flatMap] at hj
    obtain ⟨k, hk, hj⟩ := hj
    rcases List.mem_cons.1 hj with rfl | hj
    · exact he _ hk
    · rcases Nat.lt_or_ge k i with hlt | hge
      · exact ih k hlt i hlt (hL k (he k hk)) j hj
      · have : (ancs ops i).getD k [] = [] := by simp only [List.getD]; rw [List.getElem?_eq_none (by rw [ancs_length]; exact hge)]; rfl
        rw [this] at hj; simp at hj

end Go.Abs
