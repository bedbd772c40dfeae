/-
  What is proved here: two values of a struct made of numbers, strings and bools are compared cell by cell. Condition: a check of the type.
  What is proved here: maps from whole numbers to plain values, made, asked and written, in every related world. Condition: the operation's own condition, in the abstract state.
  What is proved here: a call of a function of which a contract is known, in every related world. Condition: the contract's own.
  What is proved here: how the objects that a callee hands back join the caller's. Condition: none beyond the contract's.
  What is proved here: some objects are picked out under new numbers; how a callee that writes to objects handed in leaves the caller's. Condition: none beyond the contract's.
  What is proved here: objects that hold references to others are picked out under new numbers; how a callee that writes to them, and may lay some of them anew, leaves the caller's. Condition: none beyond the contract's.
  What is proved here: a predicate on abstract states that is sound for whole bodies of functions: what it promises, the model's run keeps. Condition: the contracts of the callees.
  What is proved here: an operation's effect hangs on its operands' values alone; the order in which a region may be run. Condition: none.
-/
import Derived.Test.YteleljfnjdlnkaaGreatDoorAbsA
import Derived.Laws.StructEq
import Derived.MapKept
import Derived.Deep.LoopGhost
set_option linter.unusedVariables false
set_option linter.unnecessarySimpa false
namespace Go.Abs
open Go.RowKit
set_option linter.unusedSimpArgs false

/-- the kinds of a struct's cells: 0 a number, 1 a string, 2 a bool; with their places -/
def fPlan (rec : Nat → Option (List (Nat × Nat))) (sz : Nat → Nat) : List Field → Option (List (Nat × Nat))
  | [] => some []
  | f :: fs => if f.name = "_" then none else match rec f.type, fPlan rec sz fs with
    | some l, some m => if l.all (fun p => p.2 < sz f.type) then some (l.map (fun p => (p.1, p.2 + f.offset)) ++ m) else none
    | _, _ => none
def plan (P : Program) : Nat → Nat → Option (List (Nat × Nat))
  | 0, _ => none
  | d + 1, T => match P.underlying T with
    | some (.int _) => if isAg P T = false ∧ okT P T = true then some [(0, 0)] else none
    | some .string => if isAg P T = false ∧ okT P T = true then some [(1, 0)] else none
    | some .bool => if isAg P T = false ∧ okT P T = true then some [(2, 0)] else none
    | some (.struct fs) => if isAg P T = true ∧ okT P T = true ∧ P.stoodInHeld T = false then fPlan (plan P d) (szOf P) fs.toList else none
    | _ => none

def leafEq (k : Nat) (a b : Value) : Option Bool :=
  match k, a, b with
  | 0, .int k x, .int k' y => if k = k' then some (x == y) else none
  | 1, .string x, .string y => some (x.toList == y.toList)
  | 2, .bool x, .bool y => some (x == y)
  | _, _, _ => none
/-- the answer, by the plan -/
def planEq (cs ds : Array Value) : List (Nat × Nat) → Option Bool
  | [] => some true
  | p :: l => match cs[p.2]?, ds[p.2]? with
    | some a, some b => match leafEq p.1 a b, planEq cs ds l with
      | some x, some y => some (x && y)
      | _, _ => none
    | _, _ => none

theorem planEq_append {cs ds : Array Value} : ∀ {l m : List (Nat × Nat)} {b : Bool}, planEq cs ds (l ++ m) = some b → ∃ x y, planEq cs ds l = some x ∧ planEq cs ds m = some y ∧ b = (x && y)
  | [], m, b, h => ⟨true, b, rfl, h, by simp⟩
  | p :: l, m, b, h => by
    simp only [List.cons_append, planEq] at h ⊢
    cases ha : cs[p.2]? with
    | none => rw [ha] at h; cases h
    | some a =>
      cases hb : ds[p.2]? with
      | none => rw [ha, hb] at h; cases h
      | some b' =>
        rw [ha, hb] at h
        try simp only at h
        try simp only
        cases hl : leafEq p.1 a b' with
        | none => rw [hl] at h; cases h
        | some z =>
          rw [hl] at h
          cases hq : planEq cs ds (l ++ m) with
          | none => rw [hq] at h; cases h
          | some q =>
            rw [hq] at h
            injection h with h
            obtain ⟨x, y, h1, h2, h3⟩ := planEq_append hq
            refine ⟨z && x, y, by simp only [hl, h1], h2, ?_⟩
            rw [← h, h3, Bool.and_assoc]
theorem planEq_shift {cs ds : Array Value} {off sz : Nat} : ∀ {l : List (Nat × Nat)} {b : Bool}, (∀ p ∈ l, p.2 < sz) → planEq cs ds (l.map fun p => (p.1, p.2 + off)) = some b → planEq (cs.extract off (off + sz)) (ds.extract off (off + sz)) l = some b
  | [], b, _, h => h
  | p :: l, b, hl, h => by
    have hp := hl p (by simp)
    have get : ∀ (es : Array Value) (a : Value), es[p.2 + off]? = some a → (es.extract off (off + sz))[p.2]? = some a := by
      intro es a ha
      have hlt : p.2 + off < es.size := (Array.getElem?_eq_some_iff.1 ha).1
      rw [Array.getElem?_extract, if_pos (by omega), Nat.add_comm]
      exact ha
    simp only [List.map_cons, planEq] at h ⊢
    cases ha : cs[p.2 + off]? with
    | none => rw [ha] at h; cases h
    | some a =>
      cases hb : ds[p.2 + off]? with
      | none => rw [ha, hb] at h; cases h
      | some b' =>
        rw [ha, hb] at h
        rw [get cs a ha, get ds b' hb]
        try simp only at h
        try simp only
        cases hq : leafEq p.1 a b' with
        | none => rw [hq] at h; cases h
        | some z =>
          rw [hq] at h
          cases hr : planEq cs ds (l.map fun p => (p.1, p.2 + off)) with
          | none => rw [hr] at h; cases h
          | some r =>
            rw [hr] at h
            rw [planEq_shift (fun p hp => hl p (List.mem_cons_of_mem _ hp)) hr]
            simpa only [hq] using h

/-- one part of a struct -/
def partV (P : Program) (T : Nat) (cs : Array Value) (off : Nat) : Option Value := if isAg P T then some (.agg (cs.extract off (off + szOf P T))) else cs[off]?
theorem run_partV {P : Program} {T off : Nat} {cs : Array Value} {v : Value} (hT : okT P T = true) (h : partV P T cs off = some v) (w : World) : (part T cs off).run P w = .ok v w := by
  unfold partV at h
  unfold part
  simp only [Sem.run_bind, run_isAgg hT, Result.andThen_ok]
  split at h
  · rename_i ha
    injection h with h
    subst h
    simp [ha, run_sizeOf hT]
  · rename_i ha
    simp only [ha, Bool.false_eq_true, if_false]
    rw [h]
    simp

theorem run_planEq {P : Program} : ∀ (d T : Nat) (l : List (Nat × Nat)), plan P d T = some l → ∀ (e : Nat) (w : World) (cs ds : Array Value) (off : Nat) (b : Bool), planEq cs ds (l.map fun p => (p.1, p.2 + off)) = some b → (∀ p ∈ l, p.2 < szOf P T) →
    okT P T = true ∧ ∃ u v, partV P T cs off = some u ∧ partV P T ds off = some v ∧ (Op.equalIn (d + e) T u v).run P w = .ok b w
  | 0, T, l, h => by cases h
  | d + 1, T, l, h => by
    intro e w cs ds off b hb hsz
    have de : d + 1 + e = (d + e) + 1 := by omega
    rw [de]
    have leaf : ∀ k, l = [(k, 0)] → isAg P T = false → (∀ x y z, leafEq k x y = some z → (Op.equalIn (d + e + 1) T x y).run P w = .ok z w) → ∃ u v, partV P T cs off = some u ∧ partV P T ds off = some v ∧ (Op.equalIn (d + e + 1) T u v).run P w = .ok b w := by
      intro k hl hag hrun
      subst hl
      simp only [List.map_cons, List.map_nil, planEq, Nat.zero_add] at hb
      cases ha : cs[off]? with
      | none => rw [ha] at hb; cases hb
      | some x =>
        cases hy : ds[off]? with
        | none => rw [ha, hy] at hb; cases hb
        | some y =>
          rw [ha, hy] at hb
          simp only at hb
          cases hq : leafEq k x y with
          | none => rw [hq] at hb; cases hb
          | some z =>
            rw [hq] at hb
            simp only [Bool.and_true, Option.some.injEq] at hb
            subst hb
            exact ⟨x, y, by simp [partV, hag, ha], by simp [partV, hag, hy], hrun x y z hq⟩
    unfold plan at h
    split at h
    · rename_i k hu
      split at h
      · rename_i hc
        injection h with h
        refine ⟨hc.2, leaf 0 h.symm hc.1 fun x y z hz => ?_⟩
        unfold leafEq at hz
        split at hz
        · rename_i k1 x1 k2 y1 _
          split at hz
          · rename_i hk
            subst hk
            injection hz with hz
            subst hz
            exact run_equalIn_int w _ T k1 k x1 y1 hu
          · cases hz
        · omega
        · omega
        · cases hz
      · cases h
    · rename_i hu
      split at h
      · rename_i hc
        injection h with h
        refine ⟨hc.2, leaf 1 h.symm hc.1 fun x y z hz => ?_⟩
        unfold leafEq at hz
        split at hz
        · omega
        · injection hz with hz
          subst hz
          exact run_equalIn_string w _ T _ _ hu
        · omega
        · cases hz
      · cases h
    · rename_i hu
      split at h
      · rename_i hc
        injection h with h
        refine ⟨hc.2, leaf 2 h.symm hc.1 fun x y z hz => ?_⟩
        unfold leafEq at hz
        split at hz
        · omega
        · omega
        · injection hz with hz
          subst hz
          exact run_equalIn_bool' w _ T _ _ hu
        · cases hz
      · cases h
    · rename_i fs hu
      split at h
      · rename_i hc
        obtain ⟨hag, hok, hst⟩ := hc
        refine ⟨hok, .agg (cs.extract off (off + szOf P T)), .agg (ds.extract off (off + szOf P T)), by simp [partV, hag], by simp [partV, hag], ?_⟩
        have hf : P.fieldsOf T = fs := by simp [Program.fieldsOf, hu]
        rw [run_equalIn_agg w _ T _ _ (by rw [hf]; exact hu) hst, hf]
        have hb' := planEq_shift (off := off) (sz := szOf P T) hsz hb
        generalize cs.extract off (off + szOf P T) = cs' at hb'
        generalize ds.extract off (off + szOf P T) = ds' at hb'
        clear hb hsz leaf hu hf
        generalize fs.toList = fl at h
        induction fl generalizing l b with
        | nil =>
          simp only [fPlan, Option.some.injEq] at h
          subst h
          simp only [planEq, Option.some.injEq] at hb'
          subst hb'
          simp [Op.eqFields]
        | cons f fl ih =>
          simp only [fPlan] at h
          split at h
          · cases h
          · rename_i hn
            split at h
            · rename_i l1 l2 hl1 hl2
              split at h
              · rename_i hall
                injection h with h
                subst h
                rw [List.all_eq_true] at hall
                obtain ⟨x, y, h1, h2, h3⟩ := planEq_append hb'
                obtain ⟨q1, u, v, q2, q3, q4⟩ := run_planEq d f.type l1 hl1 e w cs' ds' f.offset x h1 (fun p hp => by simpa using hall p hp)
                simp only [Op.eqFields]
                rw [if_pos hn]
                simp only [Sem.run_bind, run_partV q1 q2, run_partV q1 q3, Result.andThen_ok, q4]
                cases x with
                | false => subst h3; simp
                | true =>
                  subst h3
                  simp only [Bool.not_true, Bool.false_eq_true, if_false, Bool.true_and]
                  exact ih l2 _ h2 hl2
              · cases h
            · cases h
      · cases h
    · cases h

/-- struct equality, as an effect -/
def vals : List X → Option (List Value)
  | [] => some []
  | .v x :: l => (vals l).map (x :: ·)
  | _ => none
def eqPlan (P : Program) (T : Nat) : Option (List (Nat × Nat)) := if isAg P T = true ∧ P.eqGuardType P.depth T = false then plan P 8 T else none

theorem run_eqStruct {P : Program} {T : Nat} {l : List (Nat × Nat)} (h : eqPlan P T = some l) {cs ds : Array Value} {b : Bool} (hb : planEq cs ds l = some b) (hl : ∀ p ∈ l, p.2 < szOf P T) (hs : cs.size = szOf P T) (hs' : ds.size = szOf P T) (w : World) (x y : Operand) :
    ((do eqGuard .eql T x y (.agg cs) (.agg ds); binOp .eql T (.agg cs) (.agg ds) : Sem Value)).run P w = .ok (.bool b) w ∧
    ((do eqGuard .neq T x y (.agg cs) (.agg ds); binOp .neq T (.agg cs) (.agg ds) : Sem Value)).run P w = .ok (.bool (!b)) w := by
  unfold eqPlan at h
  split at h
  · rename_i hc
    obtain ⟨_, u, v, q2, q3, q4⟩ := run_planEq 8 T l h 9992 w cs ds 0 b (by simpa using hb) hl
    have e1 : u = .agg cs := by simp [partV, hc.1, ← hs] at q2; exact q2.symm
    have e2 : v = .agg ds := by simp [partV, hc.1, ← hs'] at q3; exact q3.symm
    subst e1 e2
    constructor
    · simp only [Sem.run_bind, run_eqGuard_agg w _ T x y cs ds hc.2, Result.andThen_ok, run_eql_struct]
      rw [show (10000 : Nat) = 8 + 9992 from rfl, q4]; rfl
    · simp only [Sem.run_bind, run_eqGuard_agg w _ T x y cs ds hc.2, Result.andThen_ok, run_neq_struct]
      rw [show (10000 : Nat) = 8 + 9992 from rfl, q4]; rfl
  · cases h

end Go.Abs

namespace Go.Abs
open Go.RowKit Go.MapKept

def mapKV (P : Program) (T : Nat) : Option (Nat × Nat) :=
  match P.underlying T with
  | some (.map k e) => (match P.underlying k with | some (.int .i64) => some (k, e) | _ => none)
  | _ => none
theorem mapKV_eq {P : Program} {T k e : Nat} (h : mapKV P T = some (k, e)) : P.underlying T = some (.map k e) ∧ P.underlying k = some (.int .i64) := by
  unfold mapKV at h
  split at h
  · rename_i k' e' hu
    split at h
    · rename_i hk
      injection h with h
      injection h with h1 h2
      subst h1 h2
      exact ⟨hu, hk⟩
    · cases h
  · cases h
def zeroV (P : Program) (T : Nat) : Value := ((P.info? T).bind (·.zero)).getD .nilFunc
theorem run_zeroV {P : Program} {T : Nat} (h : hasZ P T = true) (w : World) : (zeroValue T).run P w = .ok (zeroV P T) w := by
  unfold hasZ at h
  unfold zeroV
  cases hi : P.info? T with
  | none => rw [hi] at h; simp at h
  | some i =>
    rw [hi] at h
    simp only [Option.bind_some] at h ⊢
    cases hz : i.zero with
    | none => rw [hz] at h; simp at h
    | some z => exact run_zeroValue hi hz w

theorem vals_plain {w : World} {S : Nat → Prop} {β : Pl} : ∀ {xs : List X} {cs : Array Value} {vs : List Value}, cs.size = xs.length → (∀ (j : Nat) x c, xs[j]? = some x → cs[j]? = some c → Rep w S β c x) → vals xs = some vs → cs = vs.toArray
  | [], cs, vs, hl, hr, hv => by
    simp only [vals, Option.some.injEq] at hv
    subst hv
    exact Array.eq_empty_of_size_eq_zero hl
  | x :: xs, cs, vs, hl, hr, hv => by
    cases x with
    | v y =>
      simp only [vals, Option.map_eq_some_iff] at hv
      obtain ⟨us, hu, rfl⟩ := hv
      obtain ⟨l⟩ := cs
      cases l with
      | nil => simp at hl
      | cons c l =>
        have h0 := (hr 0 (.v y) c rfl rfl).inv_v.1
        have ih := vals_plain (xs := xs) (cs := l.toArray) (vs := us) (by simpa using hl) (fun j x c hx hc => hr (j + 1) x c (by simpa using hx) (by simpa using hc)) hu
        have ih' : l = us := by simpa using congrArg Array.toList ih
        rw [h0, ih']
    | _ => simp [vals] at hv

/-- a value that is known whole -/
def toV : X → Option Value
  | .v x => some x
  | .agg xs => (vals xs).map fun vs => .agg vs.toArray
  | _ => none
theorem toV_eq {w : World} {S : Nat → Prop} {β : Pl} {u v : Value} {x : X} (h : Rep w S β u x) (hx : toV x = some v) : u = v := by
  cases x with
  | v y => simp only [toV, Option.some.injEq] at hx; subst hx; exact h.inv_v.1
  | agg xs =>
    simp only [toV, Option.map_eq_some_iff] at hx
    obtain ⟨vs, hv, rfl⟩ := hx
    obtain ⟨cs, rfl, hl, _, hr⟩ := h.inv_agg
    rw [vals_plain hl hr hv]
  | _ => simp [toV] at hx

def mset : List (Int × Value) → Int → Value → List (Int × Value)
  | [], n, v => [(n, v)]
  | p :: l, n, v => if p.1 = n then (n, v) :: l else p :: mset l n v

theorem lookup_mset : ∀ (l : List (Int × Value)) (n m : Int) (v : Value), (mset l n v).lookup m = if m = n then some v else l.lookup m
  | [], n, m, v => by
    simp only [mset, List.lookup_cons, List.lookup_nil]
    by_cases h : m = n
    · simp [h]
    · simp [h, beq_eq_false_iff_ne.2 h]
  | (a, b) :: l, n, m, v => by
    simp only [mset]
    split
    · rename_i hp
      subst hp
      simp only [List.lookup_cons]
      by_cases h : m = a
      · simp [h]
      · simp [h, beq_eq_false_iff_ne.2 h]
    · rename_i hp
      simp only [List.lookup_cons]
      rw [lookup_mset l n m v]
      by_cases h : m = a
      · simp [h, hp]
      · simp [beq_eq_false_iff_ne.2 h]

def ents (es : List MapEntry) (l : List (Int × Value)) : Prop := es.map (fun e => (e.key, e.val)) = l.map (fun p => (Value.int .i64 p.1, p.2))

theorem ents_keys {es : List MapEntry} {l : List (Int × Value)} (h : ents es l) : ∀ x ∈ es, IsKey (.int .i64) x.key := by
  intro x hx
  have : (x.key, x.val) ∈ l.map (fun p => (Value.int .i64 p.1, p.2)) := by rw [← h]; exact List.mem_map.2 ⟨x, hx, rfl⟩
  obtain ⟨p, _, e⟩ := List.mem_map.1 this
  injection e with e1 e2
  rw [← e1]; simp [IsKey]

/-- what a search in the entries finds, in the list's words -/
theorem ents_find : ∀ {es : List MapEntry} {l : List (Int × Value)} (n : Int), ents es l →
    ((∀ x ∈ es, x.key ≠ .int .i64 n) → l.lookup n = none ∧ ∀ v, mset l n v = l ++ [(n, v)]) ∧
    (∀ j e, Instr.findNow (.int .i64) (.int .i64 n) es 0 = some (some (j, e)) → l.lookup n = some e)
  | [], [], n, _ => ⟨fun _ => ⟨rfl, fun _ => rfl⟩, fun j e h => by simp [Instr.findNow] at h⟩
  | [], _ :: _, n, h => by simp [ents] at h
  | _ :: _, [], n, h => by simp [ents] at h
  | x :: es, p :: l, n, h => by
    simp only [ents, List.map_cons, List.cons.injEq] at h
    obtain ⟨h0, h1⟩ := h
    injection h0 with hk hv
    obtain ⟨ih1, ih2⟩ := ents_find (es := es) (l := l) n h1
    refine ⟨fun hne => ?_, fun j e hf => ?_⟩
    · have hpn : p.1 ≠ n := fun e => hne x (List.mem_cons_self ..) (by rw [hk, e])
      obtain ⟨a1, a2⟩ := ih1 fun y hy => hne y (List.mem_cons_of_mem _ hy)
      refine ⟨?_, fun v => by simp [mset, hpn, a2]⟩
      rw [List.lookup_cons, beq_eq_false_iff_ne.2 (Ne.symm hpn)]
      exact a1
    · simp only [Instr.findNow, hk, Instr.sameNow, if_true] at hf
      rw [List.lookup_cons]
      cases hb : (n == p.1) with
      | true => rw [hb] at hf; simp at hf; rw [← hf.2, hv]
      | false =>
        rw [hb] at hf
        simp only at hf
        simp only
        have sh : ∀ (es : List MapEntry) (i : Nat) (j : Nat) (e : Value), Instr.findNow (.int .i64) (.int .i64 n) es i = some (some (j, e)) → ∃ j', Instr.findNow (.int .i64) (.int .i64 n) es 0 = some (some (j', e)) := by
          intro es
          induction es with
          | nil => intro i j e h; simp [Instr.findNow] at h
          | cons y ys ih =>
            intro i j e h
            simp only [Instr.findNow] at h ⊢
            cases hs : Instr.sameNow (.int .i64) (.int .i64 n) y.key with
            | none => rw [hs] at h; simp at h
            | some b =>
              rw [hs] at h
              cases b with
              | true => simp at h; exact ⟨0, by simp [h.2]⟩
              | false =>
                simp only at h ⊢
                obtain ⟨j1, h1⟩ := ih _ _ _ h
                have mv : ∀ (zs : List MapEntry) (i i' j : Nat) (e : Value), Instr.findNow (.int .i64) (.int .i64 n) zs i = some (some (j, e)) → ∃ j', Instr.findNow (.int .i64) (.int .i64 n) zs i' = some (some (j', e)) := by
                  intro zs
                  induction zs with
                  | nil => intro i i' j e h; simp [Instr.findNow] at h
                  | cons z zs ihz =>
                    intro i i' j e h
                    simp only [Instr.findNow] at h ⊢
                    cases hs : Instr.sameNow (.int .i64) (.int .i64 n) z.key with
                    | none => rw [hs] at h; simp at h
                    | some b =>
                      rw [hs] at h
                      cases b with
                      | true => simp at h; exact ⟨i', by simp [h.2]⟩
                      | false => simp only at h ⊢; exact ihz _ _ _ _ h
                exact mv _ _ _ _ _ h1
        obtain ⟨j', hj'⟩ := sh _ _ _ _ hf
        exact ih2 _ _ hj'

theorem ents_set : ∀ {es : List MapEntry} {l : List (Int × Value)} {j : Nat} {e : MapEntry} (n : Int) (v : Value), ents es l → Instr.findNow (.int .i64) (.int .i64 n) es 0 = some (some (j, e.val)) → es[j]? = some e →
    ents (es.modify j fun e => { e with key := .int .i64 n, val := v }) (mset l n v) := by
  intro es l j e n v h hf hj
  have key : ∀ (es : List MapEntry) (l : List (Int × Value)) (i j : Nat) (u : Value), ents es l → Instr.findNow (.int .i64) (.int .i64 n) es i = some (some (j, u)) →
      i ≤ j ∧ ents (es.modify (j - i) fun e => { e with key := .int .i64 n, val := v }) (mset l n v) := by
    intro es
    induction es with
    | nil => intro l i j u _ h; simp [Instr.findNow] at h
    | cons x es ih =>
      intro l i j u h hf
      cases l with
      | nil => simp [ents] at h
      | cons p l =>
        simp only [ents, List.map_cons, List.cons.injEq] at h
        obtain ⟨h0, h1⟩ := h
        injection h0 with hk hv
        simp only [Instr.findNow, hk, Instr.sameNow, if_true] at hf
        cases hb : (n == p.1) with
        | true =>
          rw [hb] at hf
          simp at hf
          obtain ⟨rfl, _⟩ := hf
          have : p.1 = n := (beq_iff_eq.1 hb).symm
          refine ⟨Nat.le_refl _, ?_⟩
          simp only [Nat.sub_self, List.modify_zero_cons, mset, this, if_true, ents, List.map_cons]
          rw [h1]
        | false =>
          rw [hb] at hf
          simp only at hf
          have hpn : p.1 ≠ n := fun e => by rw [e] at hb; simp at hb
          obtain ⟨a1, a2⟩ := ih l (i + 1) j u h1 hf
          refine ⟨by omega, ?_⟩
          have : j - i = (j - (i + 1)) + 1 := by omega
          rw [this, List.modify_succ_cons]
          simp only [mset, if_neg hpn, ents, List.map_cons]
          rw [hk, hv, a2]
  exact (key es l 0 j e.val h hf).2

/-! ### the operations -/
def mOb (l : List (Int × Value)) : Ob := ⟨0, 0, 0, [], true, true, some l⟩
def eMakeMap (P : Program) (s : St) (T : Nat) (r : Option X) : Eff :=
  match r with
  | none => ⟨True, .osl s.h.length 0, s.h ++ [⟨0, 0, 0, [], true, true, some []⟩]⟩
  | some (.v (.int _ _)) => ⟨(mapKV P T).isSome = true, .osl s.h.length 0, s.h ++ [⟨0, 0, 0, [], true, true, some []⟩]⟩
  | _ => ⟨False, .top, s.h⟩

theorem makeMap_push {c : Cx} {h : List Ob} {β : Pl} {w : World} (H : HRel c h β w) :
    HRel c (h ++ [⟨0, 0, 0, [], true, true, some []⟩]) (β.set h.length 0 (.map (some w.heap.size)) 0) (w.alloc (.map #[] 0)) ∧
      ∀ v x, Rep w (Stab c.w0 c.S0 h β w) β v x → Rep (w.alloc (.map #[] 0)) (Stab c.w0 c.S0 (h ++ [⟨0, 0, 0, [], true, true, some []⟩]) (β.set h.length 0 (.map (some w.heap.size)) 0) (w.alloc (.map #[] 0))) (β.set h.length 0 (.map (some w.heap.size)) 0) v x :=
  H.push ((Below.refl _ _).alloc (Nat.le_refl _) _) ⟨0, 0, 0, [], true, true, some []⟩ (.map (some w.heap.size)) rfl (by simp) (.inr (.inl ⟨w.heap.size, #[], 0, [], rfl, rfl, rfl, rfl, (heap_alloc w _).1, rfl⟩))
    (fun b hb => by simp only [blk, Option.some.injEq] at hb; omega) (fun _ _ _ i j x hx => by simp [at2] at hx)

theorem makeMap_does {P : Program} {c : Cx} {s : St} {β : Pl} {w : World} {T : Nat} {r : Option Value} {xr : Option X} (H : HRel c s.h β w) (hr : ∀ v, r = some v → ∃ x, xr = some x ∧ Rep w (Stab c.w0 c.S0 s.h β w) β v x) (hr' : r = none → xr = none)
    (hc : (eMakeMap P s T xr).cond) : Does P c s β w (Instr.makeMap T r) (eMakeMap P s T xr) := by
  have hp := makeMap_push H
  unfold eMakeMap at hc ⊢
  split at hc
  · cases r with
    | some v => obtain ⟨x, hx, _⟩ := hr v rfl; cases hx
    | none => exact ⟨_, _, _, run_makeMap T w, hp.1, hp.2, .osl _ 0 _ (by simp) rfl⟩
  · cases r with
    | none => have := hr' rfl; cases this
    | some v =>
      obtain ⟨x, hx, hrr⟩ := hr v rfl
      injection hx with hx
      subst hx
      obtain ⟨rfl, _⟩ := hrr.inv_v
      obtain ⟨⟨k, e⟩, hm⟩ := Option.isSome_iff_exists.1 hc
      obtain ⟨h1, _⟩ := mapKV_eq hm
      refine ⟨.map (some w.heap.size), w.alloc (.map #[] 0), _, ?_, hp.1, hp.2, .osl _ 0 _ (by simp) rfl⟩
      simp [Instr.makeMap, run_underlying h1, asInt, asIntOf, Result.andThen]
  · exact hc.elim

def mres (ok : Bool) (o : Option Value) (z : Value) : X := if ok then .tup [cst (o.getD z), .v (.bool o.isSome)] else cst (o.getD z)
def eLookup (P : Program) (s : St) (T : Nat) (x i : X) (ok : Bool) : Eff :=
  match mapKV P T, x, i with
  | some (_, e), .osl k ver, .v (.int .i64 n) => match (s.h[k]?).bind (·.mp) with
    | some l => ⟨hasZ P e = true ∧ verOk s.h k ver ∧ ((s.h[k]?.map (·.bx)).getD false) = true ∧ ((s.h[k]?.map (·.rows)).getD []) = [], mres ok (l.lookup n) (zeroV P e), s.h⟩
    | none => ⟨False, .top, s.h⟩
  | _, _, _ => ⟨False, .top, s.h⟩

/-- where a map lies -/
theorem HRel.mapAt {c : Cx} {h : List Ob} {β : Pl} {w : World} (H : HRel c h β w) {k : Nat} {ob : Ob} {u : Value} {l : List (Int × Value)} (hk : h[k]? = some ob) (hu : β.val k ob.ver = some u) (hb : ob.bx = true) (hr : ob.rows = []) (hm : ob.mp = some l) :
    ∃ g es clock, u = .map (some g) ∧ w.heap[g]? = some (.map es clock) ∧ ents es.toList l := by
  obtain ⟨_, _, u', hu', hs, _⟩ := H.objs k ob hk
  rw [hu] at hu'; injection hu' with e; subst e
  rcases hs with ⟨_, _, h3⟩ | ⟨g, es, clock, l', h1, h2, _, _, h3, h4⟩ | ⟨g, cap, cur, _, _, _, _, h4⟩
  · rw [hb] at h3; cases h3
  · rw [hm] at h2; injection h2 with h2; subst h2
    exact ⟨g, es, clock, h1, h3, h4⟩
  · rw [hb, hr] at h4; simp at h4

theorem run_lookup_ents {P : Program} {w : World} {T k e g : Nat} {es : Array MapEntry} {clock : Nat} {l : List (Int × Value)} {n : Int} (hm : mapKV P T = some (k, e)) (hz : hasZ P e = true) (hg : w.heap[g]? = some (.map es clock)) (he : ents es.toList l) (ok : Bool) :
    (Instr.lookup T (.map (some g)) (.int .i64 n) ok).run P w = .ok (if ok then .tuple #[(l.lookup n).getD (zeroV P e), .bool (l.lookup n).isSome] else (l.lookup n).getD (zeroV P e)) w := by
  obtain ⟨h1, h2⟩ := mapKV_eq hm
  have hk : IsKey (.int .i64) (.int .i64 n) := by simp [IsKey]
  obtain ⟨f1, f2⟩ := ents_find n he
  rcases findNow_spec hk es.toList 0 (ents_keys he) with ⟨a1, a2⟩ | ⟨j, en, a1, a2, a3⟩
  · simp [Instr.lookup, run_underlying h1, MapKept.run_getObj_map hg, MapKept.run_checkKey h2 hk, MapKept.run_findKey h2 a1, run_zeroV hz, (f1 a2).1, Result.andThen]
  · simp [Instr.lookup, run_underlying h1, MapKept.run_getObj_map hg, MapKept.run_checkKey h2 hk, MapKept.run_findKey h2 a1, f2 _ _ a1, Result.andThen]

theorem lookup_does {P : Program} {c : Cx} {s : St} {β : Pl} {w : World} {T : Nat} {u ui : Value} {x i : X} {ok : Bool} (H : HRel c s.h β w) (hr : Rep w (Stab c.w0 c.S0 s.h β w) β u x) (hi : Rep w (Stab c.w0 c.S0 s.h β w) β ui i)
    (hc : (eLookup P s T x i ok).cond) : Does P c s β w (Instr.lookup T u ui ok) (eLookup P s T x i ok) := by
  unfold eLookup at hc ⊢
  split at hc
  · rename_i e k ver n hm
    split at hc
    · rename_i l hl
      obtain ⟨hz, hv, hb, hrw⟩ := hc
      obtain ⟨ob, hk, rfl⟩ := verOk_get hv
      simp only [hk, Option.map_some, Option.getD_some, Option.bind_some] at hb hrw hl
      obtain ⟨hu, _⟩ := hr.inv_osl
      obtain ⟨rfl, _⟩ := hi.inv_v
      obtain ⟨g, es, clock, rfl, hg, he⟩ := H.mapAt hk hu hb hrw hl
      refine Does.pure H (run_lookup_ents hm hz hg he ok) ?_
      unfold mres
      cases ok with
      | false => exact rep_cst _ _ _ _
      | true =>
        refine .tup _ _ rfl fun j x c hx hc => ?_
        match j with
        | 0 => simp at hx hc; subst hx hc; exact rep_cst _ _ _ _
        | 1 => simp at hx hc; subst hx hc; exact .v _ rfl
        | j + 2 => simp at hx
    · exact hc.elim
  · exact hc.elim

def eMapSet (P : Program) (s : St) (T : Nat) (x i y : X) : Eff :=
  match mapKV P T, x, i, toV y with
  | some _, .osl k ver, .v (.int .i64 n), some v => match s.h[k]? with
    | some ob => match ob.mp with
      | some l => ⟨verOk s.h k ver ∧ liveOk s.h k ∧ ob.bx = true ∧ ob.rows = [], .top, s.h.set k { ob with mp := some (mset l n v) }⟩
      | none => ⟨False, .top, s.h⟩
    | none => ⟨False, .top, s.h⟩
  | _, _, _, _ => ⟨False, .top, s.h⟩

theorem mapSet_does {P : Program} {c : Cx} {s : St} {β : Pl} {w : World} {T : Nat} {u ui uy : Value} {x i y : X} (H : HRel c s.h β w) (hr : Rep w (Stab c.w0 c.S0 s.h β w) β u x) (hi : Rep w (Stab c.w0 c.S0 s.h β w) β ui i)
    (hy : Rep w (Stab c.w0 c.S0 s.h β w) β uy y) (hc : (eMapSet P s T x i y).cond) :
    (eMapSet P s T x i y).val = .top ∧ ∃ w' β', (Instr.mapUpdate T u ui uy).run P w = .ok () w' ∧ HRel c (eMapSet P s T x i y).h β' w' ∧
      (∀ u x', Rep w (Stab c.w0 c.S0 s.h β w) β u x' → Rep w' (Stab c.w0 c.S0 (eMapSet P s T x i y).h β' w') β' u x') := by
  unfold eMapSet at hc ⊢
  split at hc
  · rename_i ke k ver n v hm hv
    obtain ⟨kt, e⟩ := ke
    split at hc
    · rename_i ob hk
      split at hc
      · rename_i l hl
        obtain ⟨hvo, hlv, hb, hrw⟩ := hc
        obtain ⟨ob', hk', rfl⟩ := verOk_get hvo
        rw [hk] at hk'; injection hk' with e'; subst e'
        have hlive : ob.live = true := by simpa [liveOk, hk] using hlv
        obtain ⟨hu, _⟩ := hr.inv_osl
        obtain ⟨rfl, _⟩ := hi.inv_v
        have ey := toV_eq hy hv
        subst ey
        obtain ⟨g, es, clock, rfl, hg, he⟩ := H.mapAt hk hu hb hrw hl
        obtain ⟨h1, h2⟩ := mapKV_eq hm
        have hkk : IsKey (.int .i64) (.int .i64 n) := by simp [IsKey]
        refine ⟨rfl, ?_⟩
        have fin : ∀ es' clock', ents es'.toList (mset l n uy) → (Instr.mapUpdate T (.map (some g)) (.int .i64 n) uy).run P w = .ok () { w with heap := w.heap.setIfInBounds g (.map es' clock') } →
            ∃ w' β', (Instr.mapUpdate T (.map (some g)) (.int .i64 n) uy).run P w = .ok () w' ∧ HRel c (s.h.set k { ob with mp := some (mset l n uy) }) β' w' ∧
              (∀ u x', Rep w (Stab c.w0 c.S0 s.h β w) β u x' → Rep w' (Stab c.w0 c.S0 (s.h.set k { ob with mp := some (mset l n uy) }) β' w') β' u x') := by
          intro es' clock' hes hrun
          have hp := H.put hk hlive hu { ob with mp := some (mset l n uy) } (.map (some g)) hlive (.inl ⟨rfl, rfl⟩) rfl (w' := { w with heap := w.heap.setIfInBounds g (.map es' clock') }) rfl rfl rfl (by simp)
            (fun b _ hne => (heap_set hg).2 b fun e => hne (by rw [e]; rfl)) (fun b hb => .inl hb) (fun r hr => by simp [hrw] at hr)
            (.inr (.inl ⟨g, es', clock', _, rfl, rfl, hrw, hb, (heap_set hg).1, hes⟩)) (fun _ _ _ i j x hx => by simp [hrw, at2] at hx)
          exact ⟨_, _, hrun, hp.1, hp.2⟩
        obtain ⟨f1, _⟩ := ents_find n he
        rcases findNow_spec hkk es.toList 0 (ents_keys he) with ⟨a1, a2⟩ | ⟨j, en, a1, a2, a3⟩
        · refine fin (es.push { key := .int .i64 n, val := uy, born := clock }) (clock + 1) ?_ ?_
          · rw [(f1 a2).2]
            simp only [ents, Array.toList_push, List.map_append, List.map_cons, List.map_nil]
            rw [he]
          · simp [Instr.mapUpdate, run_underlying h1, MapKept.run_getObj_map hg, MapKept.run_checkKey h2 hkk, MapKept.run_findKey h2 a1, MapKept.run_setObj_map _ hg, Result.andThen]
        · have hj : es[j]? = some en := by simpa using a2
          rw [Nat.zero_add] at a1
          refine fin (es.modify j fun e => { e with key := .int .i64 n, val := uy }) clock ?_ ?_
          · rw [Array.toList_modify]
            exact ents_set n uy he a1 a2
          · simp [Instr.mapUpdate, run_underlying h1, MapKept.run_getObj_map hg, MapKept.run_checkKey h2 hkk, MapKept.run_findKey h2 a1, hj, a3, run_keyThatStays hkk, MapKept.run_setObj_map _ hg, Result.andThen]
      · exact hc.elim
    · exact hc.elim
  · exact hc.elim
end Go.Abs

namespace Go.Abs
open Go.RowKit

/-! ### what a function gives: a value and new objects (its references count from 0) -/
structure Fun where
  pre : List X → Prop
  res : List X → X × List Ob

def GenCA (A : List (Nat × List X)) (P : Program) (f : Nat) (F : Fun) : Prop :=
  (∀ args w, (callFunc f args).run P w = .ok (.enter f args) w) ∧
  ∀ (w : World) (S : Nat → Prop) (vs : Array Value) (xs : List X), F.pre xs → vs.size = xs.length → (∀ (j : Nat) x v, xs[j]? = some x → vs[j]? = some v → Rep w S Pl.none v x) → (∀ b, S b → b < w.heap.size) → Amb w S A →
    Calls P f vs w fun e w' => ∃ v β', e = .returned v ∧ HRel ⟨w, S, fun _ => False, A⟩ (F.res xs).2 β' w' ∧ (∀ ob ∈ (F.res xs).2, ob.live = true) ∧ Rep w' (Stab w S (F.res xs).2 β' w') β' v (F.res xs).1
def GenC (P : Program) (f : Nat) (F : Fun) : Prop := GenCA [] P f F

/-! ### the view of a value as pure data -/
def purV : Value → X
  | .slice none 0 0 => .sl []
  | y => .v y
theorem purV_rep {w : World} {S : Nat → Prop} {β : Pl} {y : Value} (hp : plain y = true) : Rep w S β y (purV y) := by
  unfold purV
  split
  · exact .nil _ _
  · exact .v _ hp

def purN (h : List Ob) : Nat → X → X
  | 0, x => match x with
    | .v y => purV y
    | .sl r => .sl r
    | .pt c => .pt c
    | _ => .top
  | n + 1, x => match x with
    | .v y => purV y
    | .sl r => .sl r
    | .pt c => .pt c
    | .agg cells => .agg (cells.map (purN h n))
    | .fn f cap => .fn f (cap.map (purN h n))
    | .osl k ver => match h[k]? with
      | some ob => if ob.ver = ver ∧ ob.bx = false then .sl (ob.rows.map fun r => r.map (purN h n)) else .top
      | none => .top
    | .osub k ver off len => match h[k]? with
      | some ob => if ob.ver = ver ∧ ob.bx = false ∧ off + len ≤ ob.rows.length then .sl (((ob.rows.drop off).take len).map fun r => r.map (purN h n)) else .top
      | none => .top
    | .optr k ver i j => match h[k]? with
      | some ob => if ob.ver = ver then .pt (((rowOf h k i).drop j).map (purN h n)) else .top
      | none => .top
    | _ => .top

/-- the blocks that a view may look at -/
def SPlus (c : Cx) (h : List Ob) (β : Pl) (w : World) (b : Nat) : Prop :=
  b < w.heap.size ∧ (Stab c.w0 c.S0 h β w b ∨ ∃ k ob u, h[k]? = some ob ∧ β.val k ob.ver = some u ∧ blk u = some b)

theorem pur_rep {c : Cx} {h : List Ob} {β : Pl} {w : World} (H : HRel c h β w) : ∀ (n : Nat) {u : Value} {x : X}, Rep w (Stab c.w0 c.S0 h β w) β u x → Rep w (SPlus c h β w) Pl.none u (purN h n x) := by
  have hS : ∀ b, Stab c.w0 c.S0 h β w b → SPlus c h β w b := fun b hs => ⟨hs.1, .inl hs⟩
  have hP : ∀ k ob u b, h[k]? = some ob → β.val k ob.ver = some u → blk u = some b → SPlus c h β w b := fun k ob u b h1 h2 h3 => ⟨H.blk_lt h1 h2 h3, .inr ⟨k, ob, u, h1, h2, h3⟩⟩
  intro n
  induction n with
  | zero =>
    intro u x hr
    cases x with
    | v y =>
      obtain ⟨rfl, hp⟩ := hr.inv_v
      exact purV_rep hp
    | sl r => exact hr.cut0 hS (n := 0) rfl |>.mono (fun _ h => h) (fun _ _ => rfl) (fun _ _ _ h => by simp [Pl.cut] at h)
    | pt r => exact hr.cut0 hS (n := 0) rfl |>.mono (fun _ h => h) (fun _ _ => rfl) (fun _ _ _ h => by simp [Pl.cut] at h)
    | _ => exact .top _
  | succ n ih =>
    intro u x hr
    cases x with
    | v y =>
      obtain ⟨rfl, hp⟩ := hr.inv_v
      exact purV_rep hp
    | sl r => exact hr.cut0 hS (n := 0) rfl |>.mono (fun _ h => h) (fun _ _ => rfl) (fun _ _ _ h => by simp [Pl.cut] at h)
    | e0 => exact .top _
    | pt r => exact hr.cut0 hS (n := 0) rfl |>.mono (fun _ h => h) (fun _ _ => rfl) (fun _ _ _ h => by simp [Pl.cut] at h)
    | top => exact .top _
    | tup xs => exact .top _
    | gd es x => exact .top _
    | pin k ver u => exact .top _
    | agg cells =>
      obtain ⟨cs, rfl, hl, h1, hrep⟩ := hr.inv_agg
      refine .agg cs _ (by simpa using hl) h1 fun j x c hx hc => ?_
      rw [List.getElem?_map] at hx
      cases hj : cells[j]? with
      | none => rw [hj] at hx; cases hx
      | some y =>
        rw [hj] at hx
        injection hx with hx
        subst hx
        exact ih (hrep j y c hj hc)
    | fn f cap =>
      obtain ⟨cs, rfl, hl, hrep⟩ := hr.inv_fn
      refine .fn f cs _ (by simpa using hl) fun j x c hx hc => ?_
      rw [List.getElem?_map] at hx
      cases hj : cap[j]? with
      | none => rw [hj] at hx; cases hx
      | some y =>
        rw [hj] at hx
        injection hx with hx
        subst hx
        exact ih (hrep j y c hj hc)
    | osl k ver =>
      simp only [purN]
      split
      · rename_i ob hk
        split
        · rename_i hcond
          obtain ⟨rfl, hbx⟩ := hcond
          obtain ⟨hu, _⟩ := hr.inv_osl
          have hv : verOk h k ob.ver := by simp [verOk, hk]
          obtain ⟨h1, h2, u', hu', _, hcc⟩ := H.objs k ob hk
          rw [hu] at hu'; injection hu' with e; subst e
          rcases H.arr hk hv hu hbx with ⟨rfl, hr0⟩ | ⟨g, cap, rfl, hcap⟩
          · rw [hr0]; exact .nil _ _
          · have key : ∀ p : Nat × Nat, ∃ cc : Value, cc.oneCell' = true ∧ ∀ x, at2 ob.rows p.1 p.2 = some x → w.cell? ⟨g, p.1 * ob.sz + p.2, none⟩ = some cc ∧ Rep w (Stab c.w0 c.S0 h β w) β cc x := by
              intro p
              cases hat : at2 ob.rows p.1 p.2 with
              | none => exact ⟨.nilFunc, rfl, fun x hx => by cases hx⟩
              | some y =>
                obtain ⟨g', cc, hg', hcell, h1c, hrep⟩ := hcc _ _ y hat
                simp only [blk, Option.some.injEq] at hg'
                subst hg'
                exact ⟨cc, h1c, fun x hx => by injection hx with hx; subst hx; exact ⟨hcell, hrep⟩⟩
            obtain ⟨f, hf⟩ := Classical.axiomOfChoice key
            have := Rep.sl (w := w) (S := SPlus c h β w) (β := Pl.none) ⟨g, 0, none⟩ cap ob.sz (ob.rows.map fun r => r.map (purN h n)) (fun i j => f (i, j)) (by simpa using hcap) (hP k ob _ g hk hu rfl)
              (fun r hr => by
                obtain ⟨r', hr', rfl⟩ := List.mem_map.1 hr
                simpa using h2 r' hr') (fun i j hi hj => by
                simp only [List.length_map] at hi
                have hrl := h2 ob.rows[i] (List.getElem_mem _)
                have hat : at2 ob.rows i j = some (ob.rows[i][j]'(by omega)) := by simp only [at2, List.getElem?_eq_getElem hi, Option.bind_some]; exact List.getElem?_eq_getElem (by omega)
                rw [add_none, Nat.zero_add]; exact ((hf (i, j)).2 _ hat).1) (fun i j => (hf (i, j)).1) (fun i j x hx => by
                simp only [at2, List.getElem?_map] at hx
                cases hri : ob.rows[i]? with
                | none => rw [hri] at hx; cases hx
                | some r =>
                  rw [hri] at hx
                  simp only [Option.map_some, Option.bind_some, List.getElem?_map] at hx
                  cases hrj : r[j]? with
                  | none => rw [hrj] at hx; cases hx
                  | some y =>
                    rw [hrj] at hx
                    injection hx with hx
                    subst hx
                    exact ih ((hf (i, j)).2 y (by simp [at2, hri, hrj])).2)
            simpa using this
        · exact .top _
      · exact .top _
    | osub k ver off len =>
      simp only [purN]
      split
      · rename_i ob hk
        split
        · rename_i hcond
          obtain ⟨rfl, hbx, hlen⟩ := hcond
          have hll : (((ob.rows.drop off).take len).map fun r => r.map (purN h n)).length = len := by simp; omega
          cases hr with
          | osub0 =>
            have : (((ob.rows.drop off).take 0).map fun r => r.map (purN h n)) = [] := by simp
            rw [this]; exact .nil _ _
          | osub _ _ _ _ g cp nn cap hcp hoc hu =>
            obtain ⟨h1, h2, u', hu', _, hcc⟩ := H.objs k ob hk
            rw [hu] at hu'; injection hu' with e; subst e
            have key : ∀ p : Nat × Nat, ∃ cc : Value, cc.oneCell' = true ∧ ∀ x, at2 ob.rows (off + p.1) p.2 = some x → w.cell? ⟨g, (off + p.1) * ob.sz + p.2, none⟩ = some cc ∧ Rep w (Stab c.w0 c.S0 h β w) β cc x := by
              intro p
              cases hat : at2 ob.rows (off + p.1) p.2 with
              | none => exact ⟨.nilFunc, rfl, fun x hx => by cases hx⟩
              | some y =>
                obtain ⟨g', cc, hg', hcell, h1c, hrep⟩ := hcc _ _ y hat
                simp only [blk, Option.some.injEq] at hg'
                subst hg'
                exact ⟨cc, h1c, fun x hx => by injection hx with hx; subst hx; exact ⟨hcell, hrep⟩⟩
            obtain ⟨f, hf⟩ := Classical.axiomOfChoice key
            have := Rep.sl (w := w) (S := SPlus c h β w) (β := Pl.none) ⟨g, off * β.sz k, none⟩ cp ob.sz (((ob.rows.drop off).take len).map fun r => r.map (purN h n)) (fun i j => f (i, j)) (by rw [hll]; exact hcp) (hP k ob _ g hk hu rfl)
              (fun r hr => by
                obtain ⟨r', hr', rfl⟩ := List.mem_map.1 hr
                simpa using h2 r' (List.mem_of_mem_drop (List.mem_of_mem_take hr'))) (fun i j hi hj => by
                rw [hll] at hi
                have hrl := h2 (ob.rows[off + i]'(by omega)) (List.getElem_mem _)
                have hat : at2 ob.rows (off + i) j = some ((ob.rows[off + i]'(by omega))[j]'(by omega)) := by simp only [at2, List.getElem?_eq_getElem (show off + i < ob.rows.length by omega), Option.bind_some]; exact List.getElem?_eq_getElem (by omega)
                rw [add_none, h1, ← Nat.add_assoc, ← Nat.add_mul]; exact ((hf (i, j)).2 _ hat).1) (fun i j => (hf (i, j)).1) (fun i j x hx => by
                simp only [at2, List.getElem?_map, List.getElem?_take, List.getElem?_drop] at hx
                split at hx
                · cases hri : ob.rows[off + i]? with
                  | none => rw [hri] at hx; cases hx
                  | some r =>
                    rw [hri] at hx
                    simp only [Option.map_some, Option.bind_some, List.getElem?_map] at hx
                    cases hrj : r[j]? with
                    | none => rw [hrj] at hx; cases hx
                    | some y =>
                      rw [hrj] at hx
                      injection hx with hx
                      subst hx
                      exact ih ((hf (i, j)).2 y (by simp [at2, hri, hrj])).2
                · cases hx)
            rw [hll] at this
            exact this
        · exact .top _
      · exact .top _
    | optr k ver i j =>
      simp only [purN]
      split
      · rename_i ob hk
        split
        · rename_i hcond
          subst hcond
          obtain ⟨g, v, hv, hg, rfl⟩ := hr.inv_optr
          have hver : verOk h k ob.ver := by simp [verOk, hk]
          have key : ∀ m : Nat, ∃ cc : Value, cc.oneCell' = true ∧ ∀ x, (rowOf h k i)[j + m]? = some x → w.cell? ⟨g, i * β.sz k + (j + m), none⟩ = some cc ∧ Rep w (Stab c.w0 c.S0 h β w) β cc x := by
            intro m
            cases hat : (rowOf h k i)[j + m]? with
            | none => exact ⟨.nilFunc, rfl, fun x hx => by cases hx⟩
            | some y =>
              obtain ⟨cc, hcell, h1c, hrep⟩ := H.cell hver hv hg hat
              exact ⟨cc, h1c, fun x hx => by injection hx with hx; subst hx; exact ⟨hcell, hrep⟩⟩
          obtain ⟨f, hf⟩ := Classical.axiomOfChoice key
          refine .pt _ _ f (hP k ob v g hk hv hg) (fun m hm => ?_) (fun m => (hf m).1) (fun m x hx => ?_)
          · simp only [List.length_map, List.length_drop] at hm
            rw [add_none, Nat.add_assoc]
            exact ((hf m).2 _ (List.getElem?_eq_getElem (by omega))).1
          · rw [List.getElem?_map, List.getElem?_drop] at hx
            cases hy : (rowOf h k i)[j + m]? with
            | none => rw [hy] at hx; cases hx
            | some y =>
              rw [hy] at hx
              injection hx with hx
              subst hx
              exact ih ((hf m).2 y hy).2
        · exact .top _
      · exact .top _

end Go.Abs

namespace Go.Abs
open Go.RowKit

/-! ### pure values; values without memory -/
def isP0 : X → Bool
  | .v _ | .sl _ | .pt _ | .top => true
  | _ => false
def isPure : X → Bool
  | .agg cs => cs.all isP0
  | .fn _ cs => cs.all isP0
  | x => isP0 x
def mf0 : X → Bool
  | .v _ | .top | .osl _ _ | .osub _ _ _ _ | .optr _ _ _ _ => true
  | .sl rows => rows.isEmpty
  | _ => false
def mf1 : X → Bool
  | .agg cs => cs.all mf0
  | x => mf0 x
def mf2 : X → Bool
  | .tup xs => xs.all mf1
  | x => mf1 x
def mfObs (obs : List Ob) : Bool := obs.all fun ob => ob.rows.all fun r => r.all mf0

/-! ### shifting references -/
def sh0 (n : Nat) : X → X
  | .osl k ver => .osl (k + n) ver
  | .osub k ver o l => .osub (k + n) ver o l
  | .optr k ver i j => .optr (k + n) ver i j
  | .fn _ _ | .agg _ | .tup _ | .gd _ _ | .pin _ _ _ => .top
  | x => x
def sh1 (n : Nat) : X → X
  | .agg cs => .agg (cs.map (sh0 n))
  | x => sh0 n x
def sh2 (n : Nat) : X → X
  | .tup xs => .tup (xs.map (sh1 n))
  | x => sh1 n x
def shOb (n : Nat) (ob : Ob) : Ob := { ob with rows := ob.rows.map fun r => r.map (sh0 n) }

def Pl.join (β β' : Pl) (n : Nat) : Pl := ⟨fun k ver => if k < n then β.val k ver else β'.val (k - n) ver, fun k => if k < n then β.sz k else β'.sz (k - n)⟩

/-- nothing but references and plain values: S does not matter -/
theorem rep_mf0 {w : World} {S S' : Nat → Prop} {β : Pl} {u : Value} {x : X} (h : Rep w S β u x) (hm : mf0 x = true) : Rep w S' β u x := by
  cases h with
  | top u => exact .top u
  | v _ h => exact .v _ h
  | nil a c => exact .nil a c
  | sl ad c sz rows cs hcap hs hz hc h1 hr =>
    simp only [mf0, List.isEmpty_iff] at hm
    subst hm
    exact .nil _ _
  | osl k ver u h h1 => exact .osl k ver u h h1
  | osub k ver off len g c n cap hcap hoc h => exact .osub k ver off len g c n cap hcap hoc h
  | osub0 k ver off a u h hz => exact .osub0 k ver off a u h hz
  | optr k ver i j g u h hg => exact .optr k ver i j g u h hg
  | _ => simp [mf0] at hm

theorem rep_sh0 {w : World} {S : Nat → Prop} {β β' : Pl} {n : Nat} {u : Value} {x : X} (h : Rep w S β' u x) : Rep w S (β.join β' n) u (sh0 n x) := by
  have hval : ∀ k ver, (β.join β' n).val (k + n) ver = β'.val k ver := fun k ver => by simp only [Pl.join]; rw [if_neg (by omega), Nat.add_sub_cancel]
  have hsz : ∀ k, (β.join β' n).sz (k + n) = β'.sz k := fun k => by simp only [Pl.join]; rw [if_neg (by omega), Nat.add_sub_cancel]
  cases h with
  | top u => exact .top u
  | v _ h => exact .v _ h
  | nil a c => exact .nil a c
  | sl ad c sz rows cs hcap hs hz hc h1 hr => exact .sl ad c sz rows cs hcap hs hz hc h1 hr
  | pt ad cells cs hs hc h1 hr => exact .pt ad cells cs hs hc h1 hr
  | agg => exact .top _
  | tup => exact .top _
  | fn => exact .top _
  | gd => exact .top _
  | pin => exact .top _
  | e0 a => exact .e0 a
  | osl k ver u h h1 => exact .osl _ _ u (by rw [hval]; exact h) h1
  | osub k ver off len g c nn cap hcap hoc h =>
    have := Rep.osub (w := w) (S := S) (β := β.join β' n) (k + n) ver off len g c nn cap hcap hoc (by rw [hval]; exact h)
    rw [hsz] at this; exact this
  | osub0 k ver off a u h hz => exact .osub0 _ _ _ _ u (by rw [hval]; exact h) hz
  | optr k ver i j g u h hg =>
    have := Rep.optr (w := w) (S := S) (β := β.join β' n) (k + n) ver i j g u (by rw [hval]; exact h) hg
    rw [hsz] at this; exact this

theorem rep_sh1 {w : World} {S : Nat → Prop} {β β' : Pl} {n : Nat} {u : Value} {x : X} (h : Rep w S β' u x) : Rep w S (β.join β' n) u (sh1 n x) := by
  cases x with
  | agg cs =>
    obtain ⟨cs', rfl, hl, h1, hr⟩ := h.inv_agg
    refine .agg _ _ (by simpa using hl) h1 fun j x c hx hc => ?_
    rw [List.getElem?_map] at hx
    cases hj : cs[j]? with
    | none => rw [hj] at hx; cases hx
    | some y => rw [hj] at hx; injection hx with hx; subst hx; exact rep_sh0 (hr j y c hj hc)
  | _ => exact rep_sh0 h
theorem rep_sh2 {w : World} {S : Nat → Prop} {β β' : Pl} {n : Nat} {u : Value} {x : X} (h : Rep w S β' u x) : Rep w S (β.join β' n) u (sh2 n x) := by
  cases x with
  | tup cs =>
    obtain ⟨cs', rfl, hl, hr⟩ := h.inv_tup
    refine .tup _ _ (by simpa using hl) fun j x c hx hc => ?_
    rw [List.getElem?_map] at hx
    cases hj : cs[j]? with
    | none => rw [hj] at hx; cases hx
    | some y => rw [hj] at hx; injection hx with hx; subst hx; exact rep_sh1 (hr j y c hj hc)
  | _ => exact rep_sh1 h
theorem rep_mf1 {w : World} {S S' : Nat → Prop} {β : Pl} {u : Value} {x : X} (h : Rep w S β u x) (hm : mf1 x = true) : Rep w S' β u x := by
  cases x with
  | agg cs =>
    obtain ⟨cs', rfl, hl, h1, hr⟩ := h.inv_agg
    simp only [mf1, List.all_eq_true] at hm
    exact .agg _ _ hl h1 fun j x c hx hc => rep_mf0 (hr j x c hx hc) (hm x (List.mem_of_getElem? hx))
  | _ => exact rep_mf0 h hm
theorem rep_mf2 {w : World} {S S' : Nat → Prop} {β : Pl} {u : Value} {x : X} (h : Rep w S β u x) (hm : mf2 x = true) : Rep w S' β u x := by
  cases x with
  | tup cs =>
    obtain ⟨cs', rfl, hl, hr⟩ := h.inv_tup
    simp only [mf2, List.all_eq_true] at hm
    exact .tup _ _ hl fun j x c hx hc => rep_mf1 (hr j x c hx hc) (hm x (List.mem_of_getElem? hx))
  | _ => exact rep_mf1 h hm

theorem frm_below {w w' : World} (h : Frm w (fun _ => False) w') : Below w.heap.size w w' := ⟨h.os, h.tape, h.output, h.size, fun k hk => h.block k hk (fun h => h)⟩

/-- the callee's objects join the caller's -/
theorem HRel.join {c : Cx} {h obs : List Ob} {β β' : Pl} {w w' : World} {S : Nat → Prop} {A : List (Nat × List X)} (H : HRel c h β w) (H' : HRel ⟨w, S, fun _ => False, A⟩ obs β' w') (hlive : ∀ ob ∈ obs, ob.live = true)
    (hS : (∀ b, S b → Stab c.w0 c.S0 h β w b) ∨ mfObs obs = true) :
    HRel c (h ++ obs.map (shOb h.length)) (β.join β' h.length) w' ∧ (∀ u x, Rep w (Stab c.w0 c.S0 h β w) β u x → Rep w' (Stab c.w0 c.S0 (h ++ obs.map (shOb h.length)) (β.join β' h.length) w') (β.join β' h.length) u x) ∧
      ((∀ b, S b → Stab c.w0 c.S0 h β w b) → ∀ b, Stab w S obs β' w' b → Stab c.w0 c.S0 (h ++ obs.map (shOb h.length)) (β.join β' h.length) w' b) := by
  have hb := frm_below H'.frm
  have hle : β.le (β.join β' h.length) := by
    intro k ver v hv
    have hk : k < h.length := by
      rcases Nat.lt_or_ge k h.length with h1 | h1
      · exact h1
      · rw [H.dom k ver h1] at hv; cases hv
    exact ⟨by simp [Pl.join, hk, hv], by simp [Pl.join, hk]⟩
  have hget : ∀ {k ob}, (h ++ obs.map (shOb h.length))[k]? = some ob → (k < h.length ∧ h[k]? = some ob) ∨ ∃ ob', h.length ≤ k ∧ obs[k - h.length]? = some ob' ∧ ob = shOb h.length ob' := by
    intro k ob hk
    rcases Nat.lt_or_ge k h.length with hlt | hge
    · exact .inl ⟨hlt, by rwa [List.getElem?_append_left hlt] at hk⟩
    · rw [List.getElem?_append_right hge, List.getElem?_map] at hk
      cases ho : obs[k - h.length]? with
      | none => rw [ho] at hk; cases hk
      | some ob' => rw [ho] at hk; injection hk with hk; exact .inr ⟨ob', hge, rfl, hk.symm⟩
  have hvl : ∀ k ver, k < h.length → (β.join β' h.length).val k ver = β.val k ver := fun k ver hk => by simp [Pl.join, hk]
  have hvr : ∀ k ver, h.length ≤ k → (β.join β' h.length).val k ver = β'.val (k - h.length) ver := fun k ver hk => by simp [Pl.join, Nat.not_lt.2 hk]
  -- the blocks of the callee's objects are new
  have hnew : ∀ k ob u b, obs[k]? = some ob → β'.val k ob.ver = some u → blk u = some b → w.heap.size ≤ b := by
    intro k ob u b hk hu hbl
    rcases (H'.own b ⟨k, ob, u, hk, hlive ob (List.mem_of_getElem? hk), hu, hbl⟩).2 with h1 | h1
    · exact h1
    · exact h1.elim
  have hown : ∀ b, Owned (h ++ obs.map (shOb h.length)) (β.join β' h.length) b → Owned h β b ∨ (w.heap.size ≤ b ∧ Owned obs β' b) := by
    rintro b ⟨k, ob, u, hk, hl, hu, hbl⟩
    rcases hget hk with ⟨hlt, hk'⟩ | ⟨ob', hge, hk', rfl⟩
    · exact .inl ⟨k, ob, u, hk', hl, by rwa [hvl k _ hlt] at hu, hbl⟩
    · have hu' : β'.val (k - h.length) ob'.ver = some u := by rwa [hvr k _ hge] at hu
      exact .inr ⟨hnew _ ob' u b hk' hu' hbl, _, ob', u, hk', hl, hu', hbl⟩
  have tr : ∀ u x, Rep w (Stab c.w0 c.S0 h β w) β u x → Rep w' (Stab c.w0 c.S0 (h ++ obs.map (shOb h.length)) (β.join β' h.length) w') (β.join β' h.length) u x := fun u x hr =>
    hr.mono (fun b hs => ⟨Nat.lt_of_lt_of_le hs.1 hb.size, hs.2.1, fun ho => by
      rcases hown b ho with h1 | ⟨h1, _⟩
      · exact hs.2.2 h1
      · have := hs.1; omega⟩) (fun b hs => hb.block b hs.1) hle
  have hst : (∀ b, S b → Stab c.w0 c.S0 h β w b) → ∀ b, Stab w S obs β' w' b → Stab c.w0 c.S0 (h ++ obs.map (shOb h.length)) (β.join β' h.length) w' b := by
    intro hS b ⟨h1, h2, h3⟩
    refine ⟨h1, ?_, fun ho => ?_⟩
    · rcases h2 with h2 | h2
      · exact (hS b h2).2.1
      · exact .inr (Nat.le_trans H.frm.size h2)
    · rcases hown b ho with h4 | ⟨_, h4⟩
      · rcases h2 with h2 | h2
        · exact (hS b h2).2.2 h4
        · have := (H.own b h4).1
          have h2' : w.heap.size ≤ b := h2
          omega
      · exact h3 h4
  refine ⟨⟨fun k ob hk => ?_, ?_, ?_, ?_, H.frm.below hb, ?_, H.st0, H.amb⟩, tr, hst⟩
  · rcases hget hk with ⟨hlt, hk'⟩ | ⟨ob', hge, hk', rfl⟩
    · obtain ⟨h1, h2, u', hu', hs, hc⟩ := H.objs k ob hk'
      refine ⟨by simp [Pl.join, hlt, h1], h2, u', by rw [hvl k _ hlt]; exact hu', hs.keep fun b hbu => hb.block b (hs.blk_lt hbu), fun i j x hx => ?_⟩
      obtain ⟨g, cc, hg, hcell, h1c, hr⟩ := hc i j x hx
      exact ⟨g, cc, hg, by rw [World.cell?_of_block (w := w) (hb.block g (hs.blk_lt hg))]; exact hcell, h1c, tr _ _ hr⟩
    · obtain ⟨h1, h2, u', hu', hs, hc⟩ := H'.objs _ ob' hk'
      refine ⟨by simp [Pl.join, Nat.not_lt.2 hge, h1, shOb], ?_, u', by rw [hvr k _ hge]; exact hu', ?_, fun i j x hx => ?_⟩
      · intro r hr
        simp only [shOb, List.mem_map] at hr
        obtain ⟨r', hr', rfl⟩ := hr
        simpa [shOb] using h2 r' hr'
      · rcases hs with ⟨e1, e2, e3⟩ | ⟨g, es, ck, l, e0, e1, e2, e3, e4, e5⟩ | ⟨g, cap, cur, a1, a2, a3, a4, a5⟩
        · exact .inl ⟨e1, by simp [shOb, e2], e3⟩
        · exact .inr (.inl ⟨g, es, ck, l, e0, e1, by simp [shOb, e2], e3, e4, e5⟩)
        · exact .inr (.inr ⟨g, cap, cur, a1, a2, by simpa [shOb] using a3, a4, by simpa [shOb] using a5⟩)
      · have hat : ∃ y, at2 ob'.rows i j = some y ∧ x = sh0 h.length y := by
          simp only [at2, shOb, List.getElem?_map] at hx ⊢
          cases hri : ob'.rows[i]? with
          | none => rw [hri] at hx; cases hx
          | some r =>
            rw [hri] at hx
            simp only [Option.map_some, Option.bind_some, List.getElem?_map] at hx ⊢
            cases hrj : r[j]? with
            | none => rw [hrj] at hx; cases hx
            | some y => rw [hrj] at hx; injection hx with hx; exact ⟨y, rfl, hx.symm⟩
        obtain ⟨y, hy, rfl⟩ := hat
        obtain ⟨g, cc, hg, hcell, h1c, hr⟩ := hc i j y hy
        refine ⟨g, cc, hg, hcell, h1c, rep_sh0 ?_⟩
        rcases hS with hS | hS
        · exact hr.mono (hst hS) (fun _ _ => rfl) (Pl.le_refl _)
        · refine rep_mf0 hr ?_
          simp only [mfObs, List.all_eq_true] at hS
          unfold at2 at hy
          cases hri : ob'.rows[i]? with
          | none => rw [hri] at hy; cases hy
          | some r =>
            rw [hri] at hy
            exact hS ob' (List.mem_of_getElem? hk') r (List.mem_of_getElem? hri) y (List.mem_of_getElem? hy)
  · intro k k' ob1 ob2 u1 u2 b hk hk' hu1 hu2 hb1 hb2
    rcases hget hk with ⟨hlt, hk1⟩ | ⟨o1, hge, hk1, rfl⟩ <;> rcases hget hk' with ⟨hlt', hk2⟩ | ⟨o2, hge', hk2, rfl⟩
    · rw [hvl _ _ hlt] at hu1; rw [hvl _ _ hlt'] at hu2
      exact H.inj k k' ob1 ob2 u1 u2 b hk1 hk2 hu1 hu2 hb1 hb2
    · exfalso
      rw [hvl _ _ hlt] at hu1; rw [hvr _ _ hge'] at hu2
      have := H.blk_lt hk1 hu1 hb1
      have := hnew _ o2 u2 b hk2 hu2 hb2
      omega
    · exfalso
      rw [hvl _ _ hlt'] at hu2; rw [hvr _ _ hge] at hu1
      have := H.blk_lt hk2 hu2 hb2
      have := hnew _ o1 u1 b hk1 hu1 hb1
      omega
    · rw [hvr _ _ hge] at hu1; rw [hvr _ _ hge'] at hu2
      have := H'.inj _ _ o1 o2 u1 u2 b hk1 hk2 hu1 hu2 hb1 hb2
      omega
  · intro k ob ver hk hlt
    rcases hget hk with ⟨hl, hk'⟩ | ⟨ob', hge, hk', rfl⟩
    · rw [hvl k _ hl]; exact H.cur k ob ver hk' hlt
    · rw [hvr k _ hge]; exact H'.cur _ ob' ver hk' hlt
  · intro k ver hk
    simp at hk
    rw [hvr k _ (by omega)]; exact H'.dom _ _ (by omega)
  · intro b ho
    rcases hown b ho with h1 | ⟨h1, h2⟩
    · exact ⟨Nat.lt_of_lt_of_le (H.own b h1).1 hb.size, (H.own b h1).2⟩
    · exact ⟨(H'.own b h2).1, .inl (Nat.le_trans H.frm.size h1)⟩

/-! ### the effect of a call -/
def eCall (s : St) (F : Fun) (args : List X) : Eff :=
  ⟨F.pre (args.map (purN s.h 3)) ∧ (args.all isPure = true ∨ (mf2 (F.res (args.map (purN s.h 3))).1 = true ∧ mfObs (F.res (args.map (purN s.h 3))).2 = true)),
    sh2 s.h.length (F.res (args.map (purN s.h 3))).1, s.h ++ (F.res (args.map (purN s.h 3))).2.map (shOb s.h.length)⟩

/-- a pure value lies on stable blocks alone -/
theorem pure_rep {c : Cx} {h : List Ob} {β : Pl} {w : World} {n : Nat} {u : Value} {x : X} (hr : Rep w (Stab c.w0 c.S0 h β w) β u x) (hp : isPure x = true) : Rep w (Stab c.w0 c.S0 h β w) Pl.none u (purN h (n + 1) x) := by
  have p0 : ∀ {u x} (m : Nat), Rep w (Stab c.w0 c.S0 h β w) β u x → isP0 x = true → Rep w (Stab c.w0 c.S0 h β w) Pl.none u (purN h m x) := by
    intro u x m hr hp
    cases x with
    | v y =>
      obtain ⟨rfl, hpl⟩ := hr.inv_v
      cases m <;> exact purV_rep hpl
    | top => cases m <;> exact .top _
    | sl r => cases m <;> exact hr.cut0 (fun _ h => h) (n := 0) rfl |>.mono (fun _ h => h) (fun _ _ => rfl) (fun _ _ _ h => by simp [Pl.cut] at h)
    | pt r => cases m <;> exact hr.cut0 (fun _ h => h) (n := 0) rfl |>.mono (fun _ h => h) (fun _ _ => rfl) (fun _ _ _ h => by simp [Pl.cut] at h)
    | _ => simp [isP0] at hp
  cases x with
  | agg cells =>
    obtain ⟨cs, rfl, hl, h1, hrep⟩ := hr.inv_agg
    simp only [isPure, List.all_eq_true] at hp
    refine .agg cs _ (by simpa using hl) h1 fun j x c hx hc => ?_
    rw [List.getElem?_map] at hx
    cases hj : cells[j]? with
    | none => rw [hj] at hx; cases hx
    | some y =>
      rw [hj] at hx
      injection hx with hx
      subst hx
      exact p0 n (hrep j y c hj hc) (hp y (List.mem_of_getElem? hj))
  | fn f cap =>
    obtain ⟨cs, rfl, hl, hrep⟩ := hr.inv_fn
    simp only [isPure, List.all_eq_true] at hp
    refine .fn f cs _ (by simpa using hl) fun j x c hx hc => ?_
    rw [List.getElem?_map] at hx
    cases hj : cap[j]? with
    | none => rw [hj] at hx; cases hx
    | some y =>
      rw [hj] at hx
      injection hx with hx
      subst hx
      exact p0 n (hrep j y c hj hc) (hp y (List.mem_of_getElem? hj))
  | _ => exact p0 (n + 1) hr hp

theorem call_does {P : Program} {c : Cx} {s : St} {β : Pl} {w : World} {f : Nat} {F : Fun} (hF : GenCA c.A P f F) {vs : Array Value} {xs : List X} (H : HRel c s.h β w) (hl : vs.size = xs.length)
    (hr : ∀ (j : Nat) x v, xs[j]? = some x → vs[j]? = some v → Rep w (Stab c.w0 c.S0 s.h β w) β v x) (hc : (eCall s F xs).cond) :
    Calls P f vs w fun e w' => ∃ v β', e = .returned v ∧ HRel c (eCall s F xs).h β' w' ∧ (∀ u x, Rep w (Stab c.w0 c.S0 s.h β w) β u x → Rep w' (Stab c.w0 c.S0 (eCall s F xs).h β' w') β' u x) ∧
      Rep w' (Stab c.w0 c.S0 (eCall s F xs).h β' w') β' v (eCall s F xs).val := by
  obtain ⟨hpre, hmode⟩ := hc
  by_cases hp : xs.all isPure = true
  · rw [List.all_eq_true] at hp
    refine (hF.2 w (Stab c.w0 c.S0 s.h β w) vs _ hpre (by simpa using hl) (fun j x v hx hv => ?_) (fun b hb => hb.1) H.ambNow).mono ?_
    · rw [List.getElem?_map] at hx
      cases hj : xs[j]? with
      | none => rw [hj] at hx; cases hx
      | some y =>
        rw [hj] at hx
        injection hx with hx
        subst hx
        exact pure_rep (hr j y v hj hv) (hp y (List.mem_of_getElem? hj))
    · rintro e w' ⟨v, β', rfl, h1, h2, h3⟩
      obtain ⟨g1, g2, g3⟩ := H.join h1 h2 (.inl fun _ h => h)
      exact ⟨v, _, rfl, g1, g2, rep_sh2 (h3.mono (g3 fun _ h => h) (fun _ _ => rfl) (Pl.le_refl _))⟩
  · obtain ⟨m1, m2⟩ := hmode.resolve_left hp
    refine (hF.2 w (SPlus c s.h β w) vs _ hpre (by simpa using hl) (fun j x v hx hv => ?_) (fun b hb => hb.1) (fun p hp => ⟨(H.ambNow p hp).1.mono (fun b hb => ⟨hb.1, .inl hb⟩) (fun _ _ => rfl) (Pl.le_refl _), (H.ambNow p hp).2⟩)).mono ?_
    · rw [List.getElem?_map] at hx
      cases hj : xs[j]? with
      | none => rw [hj] at hx; cases hx
      | some y =>
        rw [hj] at hx
        injection hx with hx
        subst hx
        exact pur_rep H 3 (hr j y v hj hv)
    · rintro e w' ⟨v, β', rfl, h1, h2, h3⟩
      obtain ⟨g1, g2, _⟩ := H.join h1 h2 (.inr m2)
      exact ⟨v, _, rfl, g1, g2, rep_sh2 (rep_mf2 h3 m1)⟩

end Go.Abs

namespace Go.Abs
open Go.RowKit

/-! ### some objects are handed over -/
def rn0 (h : List Ob) (ks : List Nat) : X → X
  | .osl k ver => match h[k]? with
    | some ob => if ob.ver = ver then (match ks.idxOf? k with | some i => .osl i 0 | none => .top) else .top
    | none => .top
  | .optr k ver a b => match h[k]? with
    | some ob => if ob.ver = ver then (match ks.idxOf? k with | some i => .optr i 0 a b | none => .top) else .top
    | none => .top
  | .pin k ver u => match h[k]? with
    | some ob => if ob.ver = ver then (match ks.idxOf? k with | some i => .pin i 0 u | none => .top) else .top
    | none => .top
  | .osub _ _ _ _ | .agg _ | .tup _ | .fn _ _ | .gd _ _ => .top
  | x => x
def rn1 (h : List Ob) (ks : List Nat) : X → X
  | .agg cs => .agg (cs.map (rn0 h ks))
  | x => rn0 h ks x
def rn2 (h : List Ob) (ks : List Nat) : X → X
  | .tup xs => .tup (xs.map (rn1 h ks))
  | x => rn1 h ks x
def pickObs (h : List Ob) (ks : List Nat) : List Ob := ks.map fun k => { (h[k]?).getD ⟨0, 0, 0, [], false, false, none⟩ with ver := 0 }
def pickOk (h : List Ob) (ks : List Nat) : Prop :=
  ks.Nodup ∧ ∀ k ∈ ks, ((h[k]?).map fun ob => ob.live && ob.rows.all fun r => r.all (ok0 0)) = some true

theorem pick_get {h : List Ob} {ks : List Nat} (hp : pickOk h ks) {i : Nat} {ob : Ob} (hi : (pickObs h ks)[i]? = some ob) : ∃ k ob', ks[i]? = some k ∧ h[k]? = some ob' ∧ ob = { ob' with ver := 0 } ∧ ob'.live = true ∧ ∀ r ∈ ob'.rows, ∀ x ∈ r, ok0 0 x = true := by
  unfold pickObs at hi
  rw [List.getElem?_map] at hi
  cases hk : ks[i]? with
  | none => rw [hk] at hi; cases hi
  | some k =>
    rw [hk] at hi
    have hq := hp.2 k (List.mem_of_getElem? hk)
    cases ho : h[k]? with
    | none => rw [ho] at hq; cases hq
    | some ob' =>
      rw [ho] at hq
      simp only [Option.map_some, Option.some.injEq, Bool.and_eq_true, List.all_eq_true] at hq
      simp only [Option.map_some, Option.some.injEq, Option.getD_some, ho] at hi
      exact ⟨k, ob', rfl, ho, hi.symm, hq.1, hq.2⟩

def Pl.pick (β : Pl) (h : List Ob) (ks : List Nat) : Pl :=
  ⟨fun i ver => if ver = 0 then (match ks[i]? with | some k => (match h[k]? with | some ob => β.val k ob.ver | Option.none => Option.none) | Option.none => Option.none) else Option.none,
   fun i => match ks[i]? with | some k => β.sz k | Option.none => 0⟩

theorem Pl.pick_val {β : Pl} {h : List Ob} {ks : List Nat} {i k : Nat} {ob : Ob} (h1 : ks[i]? = some k) (h2 : h[k]? = some ob) : (β.pick h ks).val i 0 = β.val k ob.ver := by simp [Pl.pick, h1, h2]

theorem pick_own {h : List Ob} {β : Pl} {ks : List Nat} (hp : pickOk h ks) {b : Nat} (ho : Owned (pickObs h ks) (β.pick h ks) b) : Owned h β b := by
  obtain ⟨i, ob, u, hi, hl, hu, hb⟩ := ho
  obtain ⟨k, ob', hk, hob, rfl, hl', _⟩ := pick_get hp hi
  rw [Pl.pick_val hk hob] at hu
  exact ⟨k, ob', u, hob, hl', hu, hb⟩

/-- the picked objects, in another context -/
theorem HRel.pickG {c c' : Cx} {h : List Ob} {β : Pl} {w : World} (ks : List Nat) (hp : pickOk h ks) (H : HRel c h β w)
    (hst : ∀ b, Stab c.w0 c.S0 h β w b → Stab c'.w0 c'.S0 (pickObs h ks) (β.pick h ks) w b) (hfrm : Frm c'.w0 c'.M w)
    (hown : ∀ b, Owned (pickObs h ks) (β.pick h ks) b → c'.w0.heap.size ≤ b ∨ c'.M b) (hst0 : ∀ b, c'.S0 b → b < c'.w0.heap.size ∧ ¬ c'.M b) (hamb : Amb c'.w0 c'.S0 c'.A) :
    HRel c' (pickObs h ks) (β.pick h ks) w ∧ (∀ ob ∈ pickObs h ks, ob.live = true) ∧ ∀ u x, Rep w (Stab c.w0 c.S0 h β w) β u x → Rep w (Stab c'.w0 c'.S0 (pickObs h ks) (β.pick h ks) w) (β.pick h ks) u (rn1 h ks x) := by
  have hval : ∀ i k ob, ks[i]? = some k → h[k]? = some ob → (β.pick h ks).val i 0 = β.val k ob.ver := fun i k ob h1 h2 => Pl.pick_val h1 h2
  have hsz : ∀ i k, ks[i]? = some k → (β.pick h ks).sz i = β.sz k := fun i k h1 => by simp [Pl.pick, h1]
  have pur : ∀ {u x}, Rep w (Stab c.w0 c.S0 h β w) β u x → ok0 0 x = true → Rep w (Stab c'.w0 c'.S0 (pickObs h ks) (β.pick h ks) w) (β.pick h ks) u x := fun hr ho =>
    (hr.cut0 hst ho).mono (fun _ h => h) (fun _ _ => rfl) (fun _ _ _ h => by simp [Pl.cut] at h)
  have hidx : ∀ {i k}, ks.idxOf? k = some i → ks[i]? = some k := by
    intro i k hi
    obtain ⟨hlt, he, _⟩ := List.idxOf?_eq_some_iff.1 hi
    rw [List.getElem?_eq_getElem hlt]
    simpa using he
  have r0 : ∀ {u x}, Rep w (Stab c.w0 c.S0 h β w) β u x → Rep w (Stab c'.w0 c'.S0 (pickObs h ks) (β.pick h ks) w) (β.pick h ks) u (rn0 h ks x) := by
    intro u x hr
    cases x with
    | osl k ver =>
      obtain ⟨hu, h1⟩ := hr.inv_osl
      simp only [rn0]
      split
      · rename_i ob hk
        split
        · rename_i hver
          split
          · rename_i i hi
            exact .osl i 0 u (by rw [hval i k ob (hidx hi) hk, hver]; exact hu) h1
          · exact .top _
        · exact .top _
      · exact .top _
    | optr k ver a b =>
      obtain ⟨g, v, hv, hg, rfl⟩ := hr.inv_optr
      simp only [rn0]
      split
      · rename_i ob hk
        split
        · rename_i hver
          split
          · rename_i i hi
            have := Rep.optr (w := w) (S := Stab c'.w0 c'.S0 (pickObs h ks) (β.pick h ks) w) (β := β.pick h ks) i 0 a b g v (by rw [hval i k ob (hidx hi) hk, hver]; exact hv) hg
            rw [hsz i k (hidx hi)] at this
            exact this
          · exact .top _
        · exact .top _
      · exact .top _
    | pin k ver v =>
      simp only [rn0]
      split
      · rename_i ob hk
        split
        · rename_i hver
          split
          · rename_i i hi
            refine .pin _ i 0 v ?_
            rw [hval i k ob (hidx hi) hk, hver]
            cases hr with
            | pin _ _ _ _ h => exact h
          · exact .top _
        · exact .top _
      · exact .top _
    | top => exact pur hr rfl
    | e0 => exact pur hr rfl
    | v y => exact pur hr rfl
    | sl r => exact pur hr rfl
    | pt r => exact pur hr rfl
    | _ => exact .top _
  have r1 : ∀ {u x}, Rep w (Stab c.w0 c.S0 h β w) β u x → Rep w (Stab c'.w0 c'.S0 (pickObs h ks) (β.pick h ks) w) (β.pick h ks) u (rn1 h ks x) := by
    intro u x hr
    cases x with
    | agg xs =>
      obtain ⟨cs, rfl, hlen, h1, hrep⟩ := hr.inv_agg
      refine .agg _ _ (by simpa using hlen) h1 fun j x c' hx hc => ?_
      rw [List.getElem?_map] at hx
      cases hj : xs[j]? with
      | none => rw [hj] at hx; cases hx
      | some y => rw [hj] at hx; injection hx with hx; subst hx; exact r0 (hrep j y c' hj hc)
    | _ => exact r0 hr
  refine ⟨⟨fun i ob hi => ?_, ?_, ?_, ?_, hfrm, fun b ho => ⟨(H.own b (pick_own hp ho)).1, hown b ho⟩, hst0, hamb⟩, ?_, ?_⟩
  · obtain ⟨k, ob', hk, hob, rfl, hl', hok⟩ := pick_get hp hi
    obtain ⟨h1, h2, u, hu, hs, hc⟩ := H.objs k ob' hob
    refine ⟨by simp [Pl.pick, hk, h1], h2, u, by rw [hval i k ob' hk hob]; exact hu, hs, fun i' j x hx => ?_⟩
    obtain ⟨g, cc, hg, hcell, h1c, hr⟩ := hc i' j x hx
    refine ⟨g, cc, hg, hcell, h1c, pur hr ?_⟩
    unfold at2 at hx
    cases hri : ob'.rows[i']? with
    | none => rw [hri] at hx; cases hx
    | some r => rw [hri] at hx; exact hok r (List.mem_of_getElem? hri) x (List.mem_of_getElem? hx)
  · intro i i' ob1 ob2 u1 u2 b hi hi' hu1 hu2 hb1 hb2
    obtain ⟨k1, o1, hk1, ho1, rfl, _⟩ := pick_get hp hi
    obtain ⟨k2, o2, hk2, ho2, rfl, _⟩ := pick_get hp hi'
    rw [hval i k1 o1 hk1 ho1] at hu1
    rw [hval i' k2 o2 hk2 ho2] at hu2
    have := H.inj k1 k2 o1 o2 u1 u2 b ho1 ho2 hu1 hu2 hb1 hb2
    subst this
    exact (List.getElem?_inj (List.getElem?_eq_some_iff.1 hk1).1 hp.1).1 (hk1.trans hk2.symm)
  · intro i ob ver hi hlt
    obtain ⟨k, ob', hk, hob, rfl, _⟩ := pick_get hp hi
    have : ver ≠ 0 := by simp at hlt; omega
    simp [Pl.pick, this]
  · intro i ver hi
    simp only [pickObs, List.length_map] at hi
    simp [Pl.pick, List.getElem?_eq_none hi]
  · intro ob hob
    obtain ⟨i, hi⟩ := List.getElem?_of_mem hob
    obtain ⟨_, _, _, _, rfl, hl', _⟩ := pick_get hp hi
    exact hl'
  · exact fun u x hr => r1 hr

theorem HRel.pick {c : Cx} {h : List Ob} {β : Pl} {w : World} (ks : List Nat) (hp : pickOk h ks) (H : HRel c h β w) : HRel c (pickObs h ks) (β.pick h ks) w ∧ (∀ ob ∈ pickObs h ks, ob.live = true) ∧ ∀ u x, Rep w (Stab c.w0 c.S0 h β w) β u x → Rep w (Stab c.w0 c.S0 (pickObs h ks) (β.pick h ks) w) (β.pick h ks) u (rn1 h ks x) :=
  H.pickG (c' := c) ks hp (fun _ hs => ⟨hs.1, hs.2.1, fun ho => hs.2.2 (pick_own hp ho)⟩) H.frm (fun b ho => (H.own b (pick_own hp ho)).2) H.st0 H.amb

/-! ### a callee that writes -/
structure MFun where
  mu : List Bool
  pre : List X → List Ob → Prop
  res : List X → List Ob → X × List Ob

/-- an object after the call: the same place -/
def sameOb (ob ob' : Ob) : Prop := ob'.ty = ob.ty ∧ ob'.sz = ob.sz ∧ ob'.bx = ob.bx ∧ ob'.ver = 0 ∧ ob'.mp = ob.mp

def GenMA (A : List (Nat × List X)) (P : Program) (f : Nat) (F : MFun) : Prop :=
  (∀ args w, (callFunc f args).run P w = .ok (.enter f args) w) ∧
  ∀ (w : World) (S : Nat → Prop) (β : Pl) (obs : List Ob) (vs : Array Value) (xs : List X), F.pre xs obs → vs.size = xs.length → HRel ⟨w, S, fun b => Owned obs β b, A⟩ obs β w → (∀ ob ∈ obs, ob.live = true ∧ ob.ver = 0) →
    (∀ (j : Nat) x v, xs[j]? = some x → vs[j]? = some v → Rep w (Stab w S obs β w) β v x) →
    Calls P f vs w fun e w' => ∃ v β', e = .returned v ∧ HRel ⟨w, S, fun b => Owned obs β b, A⟩ (F.res xs obs).2 β' w' ∧ (∀ ob ∈ (F.res xs obs).2, ob.live = true) ∧
      (∀ (k : Nat) ob, obs[k]? = some ob → ∃ ob', (F.res xs obs).2[k]? = some ob' ∧ sameOb ob ob' ∧ β'.val k 0 = β.val k 0) ∧
      Rep w' (Stab w S (F.res xs obs).2 β' w') β' v (F.res xs obs).1

def GenM (P : Program) (f : Nat) (F : MFun) : Prop := GenMA [] P f F

def pickA : List X → List Nat
  | .osl k _ :: xs => k :: pickA xs
  | _ :: xs => pickA xs
  | [] => []
def pickK : List Bool → List X → List Nat
  | true :: fs, .agg cs :: xs => pickA cs ++ pickK fs xs
  | true :: fs, .osl k _ :: xs => k :: pickK fs xs
  | true :: fs, .optr k _ _ _ :: xs => k :: pickK fs xs
  | _ :: fs, _ :: xs => pickK fs xs
  | _, _ => []

def mArgs (h : List Ob) (ks : List Nat) : List Bool → List X → List X
  | _, [] => []
  | true :: fs, x :: xs => rn1 h ks x :: mArgs h ks fs xs
  | false :: fs, x :: xs => purN h 3 x :: mArgs h ks fs xs
  | [], x :: xs => purN h 3 x :: mArgs h ks [] xs
def mPure : List Bool → List X → Bool
  | _, [] => true
  | true :: fs, _ :: xs => mPure fs xs
  | false :: fs, x :: xs => isPure x && mPure fs xs
  | [], x :: xs => isPure x && mPure [] xs

theorem mArgs_get {h : List Ob} {ks : List Nat} : ∀ {fs : List Bool} {xs : List X} {j : Nat} {x' : X}, mPure fs xs = true → (mArgs h ks fs xs)[j]? = some x' → ∃ x, xs[j]? = some x ∧ (x' = rn1 h ks x ∨ (x' = purN h 3 x ∧ isPure x = true))
  | _, [], j, x', _, hx => by simp [mArgs] at hx
  | true :: fs, x :: xs, 0, x', _, hx => by simp [mArgs] at hx; exact ⟨x, rfl, .inl hx.symm⟩
  | true :: fs, x :: xs, j + 1, x', hp, hx => by simp [mArgs] at hx; exact mArgs_get (fs := fs) (xs := xs) (by simpa [mPure] using hp) hx
  | false :: fs, x :: xs, 0, x', hp, hx => by simp [mArgs] at hx; simp [mPure] at hp; exact ⟨x, rfl, .inr ⟨hx.symm, hp.1⟩⟩
  | false :: fs, x :: xs, j + 1, x', hp, hx => by simp [mArgs] at hx; simp [mPure] at hp; exact mArgs_get (fs := fs) (xs := xs) hp.2 hx
  | [], x :: xs, 0, x', hp, hx => by simp [mArgs] at hx; simp [mPure] at hp; exact ⟨x, rfl, .inr ⟨hx.symm, hp.1⟩⟩
  | [], x :: xs, j + 1, x', hp, hx => by simp [mArgs] at hx; simp [mPure] at hp; exact mArgs_get (fs := []) (xs := xs) hp.2 hx
theorem mArgs_len {h : List Ob} {ks : List Nat} : ∀ (fs : List Bool) (xs : List X), (mArgs h ks fs xs).length = xs.length
  | _, [] => by simp [mArgs]
  | true :: fs, x :: xs => by simp [mArgs, mArgs_len fs xs]
  | false :: fs, x :: xs => by simp [mArgs, mArgs_len fs xs]
  | [], x :: xs => by simp [mArgs, mArgs_len [] xs]

/-- the callee's references, as the caller's -/
def verOf (h : List Ob) (k : Nat) : Nat := match h[k]? with | some ob => ob.ver | none => 0
def rb0 (h : List Ob) (ks : List Nat) : X → X
  | .osl i ver => match ks[i]? with
    | some k => if ver = 0 then .osl k (verOf h k) else .top
    | none => .osl (h.length + (i - ks.length)) ver
  | .optr i ver a b => match ks[i]? with
    | some k => if ver = 0 then .optr k (verOf h k) a b else .top
    | none => .optr (h.length + (i - ks.length)) ver a b
  | .osub _ _ _ _ | .fn _ _ | .agg _ | .tup _ | .gd _ _ | .pin _ _ _ => .top
  | x => x
def rb1 (h : List Ob) (ks : List Nat) : X → X
  | .agg cs => .agg (cs.map (rb0 h ks))
  | x => rb0 h ks x
def rb2 (h : List Ob) (ks : List Nat) : X → X
  | .tup xs => .tup (xs.map (rb1 h ks))
  | x => rb1 h ks x
def rbR (h : List Ob) (ks : List Nat) (rows : List (List X)) : List (List X) := rows.map fun r => r.map (rb0 h ks)
def rbOb (h : List Ob) (ks : List Nat) (ob : Ob) : Ob := { ob with rows := rbR h ks ob.rows }
def setObs (g : List (List X) → List (List X)) : List Ob → List Nat → List Ob → List Ob
  | h, k :: ks, ob :: obs => setObs g (h.set k { (h[k]?).getD ⟨0, 0, 0, [], false, false, none⟩ with rows := g ob.rows }) ks obs
  | h, _, _ => h

theorem setObs_get (g : List (List X) → List (List X)) : ∀ (ks : List Nat) (h obs : List Ob), ks.Nodup → ks.length ≤ obs.length → (∀ k ∈ ks, k < h.length) →
    (setObs g h ks obs).length = h.length ∧ (∀ k, k ∉ ks → (setObs g h ks obs)[k]? = h[k]?) ∧ ∀ (i k : Nat) o ob, ks[i]? = some k → h[k]? = some o → obs[i]? = some ob → (setObs g h ks obs)[k]? = some { o with rows := g ob.rows }
  | [], h, obs, _, _, _ => by
    have e : setObs g h [] obs = h := by cases obs <;> rfl
    rw [e]
    exact ⟨rfl, fun _ _ => rfl, fun i k o ob hk => by simp at hk⟩
  | k0 :: ks, h, [], _, hl, _ => by simp at hl
  | k0 :: ks, h, ob0 :: obs, hn, hl, hlt => by
    simp only [List.nodup_cons] at hn
    have hk0 : k0 < h.length := hlt k0 (by simp)
    obtain ⟨h1, h2, h3⟩ := setObs_get g ks (h.set k0 { (h[k0]?).getD ⟨0, 0, 0, [], false, false, none⟩ with rows := g ob0.rows }) obs hn.2 (by simpa using hl) (fun k hk => by rw [List.length_set]; exact hlt k (List.mem_cons_of_mem _ hk))
    rw [List.length_set] at h1
    refine ⟨h1, fun k hk => ?_, fun i k o ob hi ho hob => ?_⟩
    · simp only [List.mem_cons, not_or] at hk
      show (setObs g _ ks obs)[k]? = _
      rw [h2 k hk.2, List.getElem?_set_ne (Ne.symm hk.1)]
    · show (setObs g _ ks obs)[k]? = _
      cases i with
      | zero =>
        simp at hi hob
        subst hi hob
        rw [h2 k0 hn.1, List.getElem?_set_self hk0, ho]
        rfl
      | succ i =>
        simp at hi hob
        have hne : k0 ≠ k := fun e => hn.1 (by rw [e]; exact List.mem_of_getElem? hi)
        exact h3 i k o ob hi (by rw [List.getElem?_set_ne hne]; exact ho) hob

def eCallM (s : St) (F : MFun) (args : List X) : Eff :=
  ⟨pickOk s.h (pickK F.mu args) ∧ mPure F.mu args = true ∧ F.pre (mArgs s.h (pickK F.mu args) F.mu args) (pickObs s.h (pickK F.mu args)),
    rb2 s.h (pickK F.mu args) (F.res (mArgs s.h (pickK F.mu args) F.mu args) (pickObs s.h (pickK F.mu args))).1,
    setObs (rbR s.h (pickK F.mu args)) s.h (pickK F.mu args) (F.res (mArgs s.h (pickK F.mu args) F.mu args) (pickObs s.h (pickK F.mu args))).2 ++
      ((F.res (mArgs s.h (pickK F.mu args) F.mu args) (pickObs s.h (pickK F.mu args))).2.drop (pickK F.mu args).length).map (rbOb s.h (pickK F.mu args))⟩

def Pl.back (β β' : Pl) (n m : Nat) : Pl := ⟨fun k ver => if k < n then β.val k ver else β'.val (k - n + m) ver, fun k => if k < n then β.sz k else β'.sz (k - n + m)⟩

/-- the caller's objects after the callee wrote to some of them -/
theorem HRel.back {c : Cx} {h obs' : List Ob} {β β' : Pl} {w w' : World} {ks : List Nat} (hp : pickOk h ks) (H : HRel c h β w)
    {A : List (Nat × List X)} (H' : HRel ⟨w, Stab c.w0 c.S0 h β w, fun b => Owned (pickObs h ks) (β.pick h ks) b, A⟩ obs' β' w') (hlive : ∀ ob ∈ obs', ob.live = true)
    (hsame : ∀ (k : Nat) ob, (pickObs h ks)[k]? = some ob → ∃ ob', obs'[k]? = some ob' ∧ sameOb ob ob' ∧ β'.val k 0 = (β.pick h ks).val k 0) :
    HRel c (setObs (rbR h ks) h ks obs' ++ (obs'.drop ks.length).map (rbOb h ks)) (β.back β' h.length ks.length) w' ∧
    (∀ u x, Rep w (Stab c.w0 c.S0 h β w) β u x → Rep w' (Stab c.w0 c.S0 (setObs (rbR h ks) h ks obs' ++ (obs'.drop ks.length).map (rbOb h ks)) (β.back β' h.length ks.length) w') (β.back β' h.length ks.length) u x) ∧
    (∀ u x, Rep w' (Stab w (Stab c.w0 c.S0 h β w) obs' β' w') β' u x → Rep w' (Stab c.w0 c.S0 (setObs (rbR h ks) h ks obs' ++ (obs'.drop ks.length).map (rbOb h ks)) (β.back β' h.length ks.length) w') (β.back β' h.length ks.length) u (rb0 h ks x)) := by
  have hks : ∀ k ∈ ks, ∃ o, h[k]? = some o ∧ o.live = true := by
    intro k hk
    have := hp.2 k hk
    cases ho : h[k]? with
    | none => rw [ho] at this; cases this
    | some o =>
      rw [ho] at this
      simp only [Option.map_some, Option.some.injEq, Bool.and_eq_true] at this
      exact ⟨o, rfl, this.1⟩
  have hlt : ∀ k ∈ ks, k < h.length := fun k hk => by
    obtain ⟨o, ho, _⟩ := hks k hk
    exact (List.getElem?_eq_some_iff.1 ho).1
  have hpk : ∀ {i k o}, ks[i]? = some k → h[k]? = some o → ∃ ob', obs'[i]? = some ob' ∧ ob'.ty = o.ty ∧ ob'.sz = o.sz ∧ ob'.bx = o.bx ∧ ob'.ver = 0 ∧ ob'.mp = o.mp ∧ β'.val i 0 = β.val k o.ver := by
    intro i k o hi ho
    have hg : (pickObs h ks)[i]? = some { o with ver := 0 } := by simp [pickObs, hi, ho]
    obtain ⟨ob', h1, ⟨h2, h3, h4, h5, h7⟩, h6⟩ := hsame i _ hg
    exact ⟨ob', h1, h2, h3, h4, h5, h7, by rw [h6, Pl.pick_val hi ho]⟩
  have hlen : ks.length ≤ obs'.length := by
    rcases Nat.eq_zero_or_pos ks.length with h0 | h0
    · omega
    · have hi : ks[ks.length - 1]? = some (ks[ks.length - 1]'(by omega)) := List.getElem?_eq_getElem (by omega)
      obtain ⟨o, ho, _⟩ := hks _ (List.mem_of_getElem? hi)
      obtain ⟨ob', h1, _⟩ := hpk hi ho
      have := (List.getElem?_eq_some_iff.1 h1).1
      omega
  obtain ⟨g1, g2, g3⟩ := setObs_get (rbR h ks) ks h obs' hp.1 hlen hlt
  have hsz := H'.frm.size
  have hle : β.le (β.back β' h.length ks.length) := by
    intro k ver v hv
    have hk : k < h.length := by
      rcases Nat.lt_or_ge k h.length with h1 | h1
      · exact h1
      · rw [H.dom k ver h1] at hv; cases hv
    exact ⟨by simp [Pl.back, hk, hv], by simp [Pl.back, hk]⟩
  have hvl : ∀ k ver, k < h.length → (β.back β' h.length ks.length).val k ver = β.val k ver := fun k ver hk => by simp [Pl.back, hk]
  have hvr : ∀ k ver, h.length ≤ k → (β.back β' h.length ks.length).val k ver = β'.val (k - h.length + ks.length) ver := fun k ver hk => by simp [Pl.back, Nat.not_lt.2 hk]
  have hget : ∀ {k ob}, (setObs (rbR h ks) h ks obs' ++ (obs'.drop ks.length).map (rbOb h ks))[k]? = some ob →
      (k ∉ ks ∧ k < h.length ∧ h[k]? = some ob) ∨ (∃ (i : Nat) (o ob' : Ob), ks[i]? = some k ∧ k < h.length ∧ h[k]? = some o ∧ obs'[i]? = some ob' ∧ ob = { o with rows := rbR h ks ob'.rows }) ∨
      ∃ ob', h.length ≤ k ∧ obs'[k - h.length + ks.length]? = some ob' ∧ ob = rbOb h ks ob' := by
    intro k ob hk
    rcases Nat.lt_or_ge k h.length with hl | hge
    · rw [List.getElem?_append_left (by omega)] at hk
      by_cases hm : k ∈ ks
      · obtain ⟨i, hi⟩ := List.getElem?_of_mem hm
        obtain ⟨o, ho, _⟩ := hks k hm
        obtain ⟨ob', h1, _⟩ := hpk hi ho
        rw [g3 i k o ob' hi ho h1] at hk
        injection hk with hk
        exact .inr (.inl ⟨i, o, ob', hi, hl, ho, h1, hk.symm⟩)
      · rw [g2 k hm] at hk
        exact .inl ⟨hm, hl, hk⟩
    · rw [List.getElem?_append_right (by omega), List.getElem?_map, List.getElem?_drop, g1] at hk
      rw [Nat.add_comm] at hk
      cases ho : obs'[k - h.length + ks.length]? with
      | none => rw [ho] at hk; cases hk
      | some ob' => rw [ho] at hk; injection hk with hk; exact .inr (.inr ⟨ob', hge, rfl, hk.symm⟩)
  -- the blocks of the callee's objects: new, or of those handed over
  have hnew : ∀ {i ob u b}, obs'[i]? = some ob → β'.val i ob.ver = some u → blk u = some b → w.heap.size ≤ b ∨ Owned (pickObs h ks) (β.pick h ks) b := by
    intro i ob u b hi hu hb
    exact (H'.own b ⟨i, ob, u, hi, hlive ob (List.mem_of_getElem? hi), hu, hb⟩).2
  -- a block of an object that stays is not among those handed over
  have hnot : ∀ {k o u b}, k ∉ ks → h[k]? = some o → β.val k o.ver = some u → blk u = some b → ¬ Owned (pickObs h ks) (β.pick h ks) b := by
    rintro k o u b hk ho hu hb ⟨i, ob, u', hi, _, hu', hb'⟩
    obtain ⟨k', o', hk', ho', rfl, _⟩ := pick_get hp hi
    rw [Pl.pick_val hk' ho'] at hu'
    have := H.inj k k' o o' u u' b ho ho' hu hu' hb hb'
    subst this
    exact hk (List.mem_of_getElem? hk')
  have hown : ∀ {b}, Owned (setObs (rbR h ks) h ks obs' ++ (obs'.drop ks.length).map (rbOb h ks)) (β.back β' h.length ks.length) b → (Owned h β b ∧ ¬ Owned (pickObs h ks) (β.pick h ks) b) ∨ Owned obs' β' b := by
    rintro b ⟨k, ob, u, hk, hl, hu, hb⟩
    rcases hget hk with ⟨hm, hlt', hk'⟩ | ⟨i, o, ob', hi, hlt', ho, hob, rfl⟩ | ⟨ob', hge, hob, rfl⟩
    · rw [hvl k _ hlt'] at hu
      exact .inl ⟨⟨k, ob, u, hk', hl, hu, hb⟩, hnot hm hk' hu hb⟩
    · rw [hvl k _ hlt'] at hu
      obtain ⟨ob2, a1, _, _, _, a5, amp, a6⟩ := hpk hi ho
      rw [hob] at a1; injection a1 with a1; subst a1
      exact .inr ⟨i, ob', u, hob, hlive _ (List.mem_of_getElem? hob), by rw [a5, a6]; exact hu, hb⟩
    · rw [hvr k _ hge] at hu
      exact .inr ⟨_, ob', u, hob, hl, hu, hb⟩
  have hst : ∀ b, Stab w (Stab c.w0 c.S0 h β w) obs' β' w' b → Stab c.w0 c.S0 (setObs (rbR h ks) h ks obs' ++ (obs'.drop ks.length).map (rbOb h ks)) (β.back β' h.length ks.length) w' b := by
    rintro b ⟨h1, h2, h3⟩
    refine ⟨h1, ?_, fun ho => ?_⟩
    · rcases h2 with h2 | h2
      · exact h2.2.1
      · exact .inr (Nat.le_trans H.frm.size h2)
    · rcases hown ho with ⟨h4, _⟩ | h4
      · rcases h2 with h2 | h2
        · exact h2.2.2 h4
        · have := (H.own b h4).1
          have h2' : w.heap.size ≤ b := h2
          omega
      · exact h3 h4
  have tr : ∀ u x, Rep w (Stab c.w0 c.S0 h β w) β u x → Rep w' (Stab c.w0 c.S0 (setObs (rbR h ks) h ks obs' ++ (obs'.drop ks.length).map (rbOb h ks)) (β.back β' h.length ks.length) w') (β.back β' h.length ks.length) u x := fun u x hr =>
    hr.mono (fun b hs => ⟨Nat.lt_of_lt_of_le hs.1 hsz, hs.2.1, fun ho => by
      rcases hown ho with ⟨h1, _⟩ | ⟨i, ob, u, hi, hl, hu, hb⟩
      · exact hs.2.2 h1
      · rcases hnew hi hu hb with h1 | h1
        · have := hs.1; omega
        · exact hs.2.2 (pick_own hp h1)⟩) (fun b hs => H'.frm.block b hs.1 fun ho => hs.2.2 (pick_own hp ho)) hle
  have hK : ∀ {i k o}, ks[i]? = some k → h[k]? = some o → verOf h k = o.ver ∧ (β.back β' h.length ks.length).val k o.ver = β'.val i 0 ∧ (β.back β' h.length ks.length).sz k = β'.sz i := by
    intro i k o hi ho
    obtain ⟨ob', a1, _, a3, _, a5, amp, a6⟩ := hpk hi ho
    have hl := hlt k (List.mem_of_getElem? hi)
    refine ⟨by simp [verOf, ho], by rw [hvl k _ hl, a6], ?_⟩
    obtain ⟨b1, _⟩ := H'.objs i ob' a1
    obtain ⟨b2, _⟩ := H.objs k o ho
    rw [b1, a3]
    simp [Pl.back, hl, b2]
  have hN : ∀ {i}, ks[i]? = none → (∀ ver, (β.back β' h.length ks.length).val (h.length + (i - ks.length)) ver = β'.val i ver) ∧ (β.back β' h.length ks.length).sz (h.length + (i - ks.length)) = β'.sz i := by
    intro i hi
    have hi' : ks.length ≤ i := List.getElem?_eq_none_iff.1 hi
    have e : h.length + (i - ks.length) - h.length + ks.length = i := by omega
    refine ⟨fun ver => by rw [hvr _ _ (by omega), e], ?_⟩
    simp only [Pl.back]
    rw [if_neg (by omega), e]
  have r0 : ∀ u x, Rep w' (Stab w (Stab c.w0 c.S0 h β w) obs' β' w') β' u x → Rep w' (Stab c.w0 c.S0 (setObs (rbR h ks) h ks obs' ++ (obs'.drop ks.length).map (rbOb h ks)) (β.back β' h.length ks.length) w') (β.back β' h.length ks.length) u (rb0 h ks x) := by
    intro u x hr
    cases hr with
    | top u => exact .top u
    | v _ h => exact .v _ h
    | nil a c => exact .nil a c
    | sl ad cc sz rows cs hcap hs hz hc h1 hr => exact .sl ad cc sz rows cs hcap (hst _ hs) hz hc h1 fun i j x hx => (hr i j x hx).mono hst (fun _ _ => rfl) (Pl.le_refl _)
    | pt ad cells cs hs hc h1 hr => exact .pt ad cells cs (hst _ hs) hc h1 fun j x hx => (hr j x hx).mono hst (fun _ _ => rfl) (Pl.le_refl _)
    | agg => exact .top _
    | tup => exact .top _
    | fn => exact .top _
    | gd => exact .top _
    | e0 a => exact .e0 a
    | pin => exact .top _
    | osub => exact .top _
    | osub0 => exact .top _
    | osl i ver u hu h1 =>
      simp only [rb0]
      split
      · rename_i k hi
        split
        · rename_i hv
          subst hv
          obtain ⟨o, ho, _⟩ := hks k (List.mem_of_getElem? hi)
          obtain ⟨e1, e2, _⟩ := hK hi ho
          exact .osl _ _ u (by rw [e1, e2]; exact hu) h1
        · exact .top _
      · rename_i hi
        exact .osl _ _ u (by rw [(hN hi).1]; exact hu) h1
    | optr i ver a b g u hu hg =>
      simp only [rb0]
      split
      · rename_i k hi
        split
        · rename_i hv
          subst hv
          obtain ⟨o, ho, _⟩ := hks k (List.mem_of_getElem? hi)
          obtain ⟨e1, e2, e3⟩ := hK hi ho
          rw [← e3]
          exact .optr _ _ _ _ g u (by rw [e1, e2]; exact hu) hg
        · exact .top _
      · rename_i hi
        rw [← (hN hi).2]
        exact .optr _ _ _ _ g u (by rw [(hN hi).1]; exact hu) hg
  have hat : ∀ {rows : List (List X)} {i j : Nat} {x : X}, at2 (rbR h ks rows) i j = some x → ∃ y, at2 rows i j = some y ∧ x = rb0 h ks y := by
    intro rows i j x hx
    simp only [at2, rbR, List.getElem?_map] at hx ⊢
    cases hri : rows[i]? with
    | none => rw [hri] at hx; cases hx
    | some r =>
      rw [hri] at hx
      simp only [Option.map_some, Option.bind_some, List.getElem?_map] at hx ⊢
      cases hrj : r[j]? with
      | none => rw [hrj] at hx; cases hx
      | some y => rw [hrj] at hx; injection hx with hx; exact ⟨y, rfl, hx.symm⟩
  have hrl : ∀ {rows : List (List X)} {z : Nat}, (∀ r ∈ rows, r.length = z) → ∀ r ∈ rbR h ks rows, r.length = z := by
    intro rows z hz r hr
    simp only [rbR, List.mem_map] at hr
    obtain ⟨r', hr', rfl⟩ := hr
    simpa using hz r' hr'
  refine ⟨⟨fun k ob hk => ?_, ?_, ?_, ?_, ?_, ?_, H.st0, H.amb⟩, tr, r0⟩
  · rcases hget hk with ⟨hm, hl, hk'⟩ | ⟨i, o, ob', hi, hl, ho, hob, rfl⟩ | ⟨ob', hge, hob, rfl⟩
    · obtain ⟨h1, h2, u', hu', hs, hc⟩ := H.objs k ob hk'
      have hbk : ∀ b, blk u' = some b → w'.heap[b]? = w.heap[b]? := fun b hb => H'.frm.block b (hs.blk_lt hb) (hnot hm hk' hu' hb)
      refine ⟨by simp [Pl.back, hl, h1], h2, u', by rw [hvl k _ hl]; exact hu', hs.keep hbk, fun i j x hx => ?_⟩
      obtain ⟨g, cc, hg, hcell, h1c, hr⟩ := hc i j x hx
      exact ⟨g, cc, hg, by rw [World.cell?_of_block (w := w) (hbk g hg)]; exact hcell, h1c, tr _ _ hr⟩
    · obtain ⟨ob2, a1, a2, a3, a4, a5, amp, a6⟩ := hpk hi ho
      rw [hob] at a1; injection a1 with a1; subst a1
      obtain ⟨h1, h2, u', hu', hs, hc⟩ := H'.objs i ob' hob
      obtain ⟨b1, _⟩ := H.objs k o ho
      have hz : ob'.sz = o.sz := a3
      refine ⟨by simp [Pl.back, hl, b1], fun r hr => by rw [← hz]; exact hrl h2 r hr, u', ?_, ?_, fun i' j x hx => ?_⟩
      · rw [hvl k _ hl]
        show β.val k o.ver = some u'
        rw [← a6, ← a5]; exact hu'
      · rcases hs with ⟨e1, e2, e3⟩ | ⟨g, es, ck, l, e0, e1, e2, e3, e4, e5⟩ | ⟨g, cap, cur, b1, b2, b3, b4, b5⟩
        · exact .inl ⟨e1, by simp [rbR, e2], by rw [← a4]; exact e3⟩
        · exact .inr (.inl ⟨g, es, ck, l, e0, by rw [← amp]; exact e1, by simp [rbR, e2], by rw [← a4]; exact e3, e4, e5⟩)
        · refine .inr (.inr ⟨g, cap, cur, by rw [← a2]; exact b1, by rw [← hz]; exact b2, by simpa [rbR] using b3, b4, ?_⟩)
          show if o.bx = true then _ else _
          rw [← a4]
          simpa [rbR] using b5
      · obtain ⟨y, hy, rfl⟩ := hat hx
        obtain ⟨g, cc, hg, hcell, h1c, hr⟩ := hc i' j y hy
        exact ⟨g, cc, hg, by rw [← hz]; exact hcell, h1c, r0 _ _ hr⟩
    · obtain ⟨h1, h2, u', hu', hs, hc⟩ := H'.objs _ ob' hob
      refine ⟨by simp [Pl.back, Nat.not_lt.2 hge, h1, rbOb], hrl h2, u', by rw [hvr k _ hge]; exact hu', ?_, fun i j x hx => ?_⟩
      · rcases hs with ⟨e1, e2, e3⟩ | ⟨g, es, ck, l, e0, e1, e2, e3, e4, e5⟩ | ⟨g, cap, cur, a1, a2, a3, a4, a5⟩
        · exact .inl ⟨e1, by simp [rbOb, rbR, e2], e3⟩
        · exact .inr (.inl ⟨g, es, ck, l, e0, e1, by simp [rbOb, rbR, e2], e3, e4, e5⟩)
        · exact .inr (.inr ⟨g, cap, cur, a1, a2, by simpa [rbOb, rbR] using a3, a4, by simpa [rbOb, rbR] using a5⟩)
      · obtain ⟨y, hy, rfl⟩ := hat hx
        obtain ⟨g, cc, hg, hcell, h1c, hr⟩ := hc i j y hy
        exact ⟨g, cc, hg, hcell, h1c, r0 _ _ hr⟩
  · -- no two share a block
    have key : ∀ {k ob u b}, (setObs (rbR h ks) h ks obs' ++ (obs'.drop ks.length).map (rbOb h ks))[k]? = some ob → (β.back β' h.length ks.length).val k ob.ver = some u → blk u = some b →
        (k ∉ ks ∧ k < h.length ∧ ∃ o, h[k]? = some o ∧ β.val k o.ver = some u) ∨ ∃ i ob', obs'[i]? = some ob' ∧ β'.val i ob'.ver = some u ∧ ((ks[i]? = some k ∧ k < h.length) ∨ (ks.length ≤ i ∧ k = i - ks.length + h.length)) := by
      intro k ob u b hk hu hb
      rcases hget hk with ⟨hm, hl, hk'⟩ | ⟨i, o, ob', hi, hl, ho, hob, rfl⟩ | ⟨ob', hge, hob, rfl⟩
      · exact .inl ⟨hm, hl, ob, hk', by rwa [hvl k _ hl] at hu⟩
      · obtain ⟨ob2, a1, _, _, _, a5, amp, a6⟩ := hpk hi ho
        rw [hob] at a1; injection a1 with a1; subst a1
        rw [hvl k _ hl] at hu
        exact .inr ⟨i, ob', hob, by rw [a5, a6]; exact hu, .inl ⟨hi, hl⟩⟩
      · rw [hvr k _ hge] at hu
        exact .inr ⟨_, ob', hob, hu, .inr ⟨by omega, by omega⟩⟩
    intro k k' ob1 ob2 u1 u2 b hk hk' hu1 hu2 hb1 hb2
    rcases key hk hu1 hb1 with ⟨hm1, hl1, o1, ho1, hv1⟩ | ⟨i1, p1, hp1, hv1, hk1⟩ <;> rcases key hk' hu2 hb2 with ⟨hm2, hl2, o2, ho2, hv2⟩ | ⟨i2, p2, hp2, hv2, hk2⟩
    · exact H.inj k k' o1 o2 u1 u2 b ho1 ho2 hv1 hv2 hb1 hb2
    · exfalso
      have h1 := H.blk_lt ho1 hv1 hb1
      rcases hnew hp2 hv2 hb2 with h2 | h2
      · omega
      · exact hnot hm1 ho1 hv1 hb1 h2
    · exfalso
      have h1 := H.blk_lt ho2 hv2 hb2
      rcases hnew hp1 hv1 hb1 with h2 | h2
      · omega
      · exact hnot hm2 ho2 hv2 hb2 h2
    · have e := H'.inj i1 i2 p1 p2 u1 u2 b hp1 hp2 hv1 hv2 hb1 hb2
      subst e
      rcases hk1 with ⟨a1, a2⟩ | ⟨a1, a2⟩ <;> rcases hk2 with ⟨c1, c2⟩ | ⟨c1, c2⟩
      · rw [a1] at c1; injection c1
      · rw [List.getElem?_eq_none c1] at a1; cases a1
      · rw [List.getElem?_eq_none a1] at c1; cases c1
      · omega
  · intro k ob ver hk hlt'
    rcases hget hk with ⟨hm, hl, hk'⟩ | ⟨i, o, ob', hi, hl, ho, hob, rfl⟩ | ⟨ob', hge, hob, rfl⟩
    · rw [hvl k _ hl]; exact H.cur k ob ver hk' hlt'
    · rw [hvl k _ hl]; exact H.cur k o ver ho hlt'
    · rw [hvr k _ hge]; exact H'.cur _ ob' ver hob hlt'
  · intro k ver hk
    rw [List.length_append, g1, List.length_map, List.length_drop] at hk
    rw [hvr k _ (by omega)]; exact H'.dom _ _ (by omega)
  · refine ⟨H'.frm.os.trans H.frm.os, H'.frm.tape.trans H.frm.tape, H'.frm.output.trans H.frm.output, Nat.le_trans H.frm.size hsz, fun b h1 h2 => ?_⟩
    rw [H'.frm.block b (Nat.lt_of_lt_of_le h1 H.frm.size) fun ho => ?_]
    · exact H.frm.block b h1 h2
    · rcases (H.own b (pick_own hp ho)).2 with h3 | h3
      · omega
      · exact h2 h3
  · intro b ho
    rcases hown ho with ⟨h1, _⟩ | h1
    · exact ⟨Nat.lt_of_lt_of_le (H.own b h1).1 hsz, (H.own b h1).2⟩
    · refine ⟨(H'.own b h1).1, ?_⟩
      rcases (H'.own b h1).2 with h2 | h2
      · exact .inl (Nat.le_trans H.frm.size h2)
      · exact (H.own b (pick_own hp h2)).2

theorem callM_does {P : Program} {c : Cx} {s : St} {β : Pl} {w : World} {f : Nat} {F : MFun} (hF : GenMA c.A P f F) {vs : Array Value} {xs : List X} (H : HRel c s.h β w) (hl : vs.size = xs.length)
    (hr : ∀ (j : Nat) x v, xs[j]? = some x → vs[j]? = some v → Rep w (Stab c.w0 c.S0 s.h β w) β v x) (hc : (eCallM s F xs).cond) :
    Calls P f vs w fun e w' => ∃ v β', e = .returned v ∧ HRel c (eCallM s F xs).h β' w' ∧ (∀ u x, Rep w (Stab c.w0 c.S0 s.h β w) β u x → Rep w' (Stab c.w0 c.S0 (eCallM s F xs).h β' w') β' u x) ∧
      Rep w' (Stab c.w0 c.S0 (eCallM s F xs).h β' w') β' v (eCallM s F xs).val := by
  obtain ⟨hp, hpu, hpre⟩ := hc
  obtain ⟨q1, q2, q3⟩ := H.pickG (c' := ⟨w, Stab c.w0 c.S0 s.h β w, fun b => Owned (pickObs s.h (pickK F.mu xs)) (β.pick s.h (pickK F.mu xs)) b, c.A⟩) (pickK F.mu xs) hp
    (fun b hs => ⟨hs.1, .inl hs, fun ho => hs.2.2 (pick_own hp ho)⟩) (Frm.refl _ _) (fun b ho => .inr ho) (fun b hb => ⟨hb.1, fun ho => hb.2.2 (pick_own hp ho)⟩) H.ambNow
  refine (hF.2 w (Stab c.w0 c.S0 s.h β w) (β.pick s.h (pickK F.mu xs)) _ vs _ hpre (by rw [mArgs_len]; exact hl) q1 (fun ob hob => ⟨q2 ob hob, ?_⟩) (fun j x v hx hv => ?_)).mono ?_
  · simp only [pickObs, List.mem_map] at hob
    obtain ⟨k, _, rfl⟩ := hob
    rfl
  · obtain ⟨y, hy, h⟩ := mArgs_get hpu hx
    rcases h with rfl | ⟨rfl, hpy⟩
    · exact q3 _ _ (hr j y v hy hv)
    · exact (pure_rep (hr j y v hy hv) hpy).mono (fun b hs => ⟨hs.1, .inl hs, fun ho => hs.2.2 (pick_own hp ho)⟩) (fun _ _ => rfl) (Pl.none_le _)
  · rintro e w' ⟨v, β', rfl, h1, h2, h3, h4⟩
    obtain ⟨g1, g2, g3⟩ := H.back hp h1 h2 h3
    refine ⟨v, _, rfl, g1, g2, ?_⟩
    have r1 : ∀ u x, Rep w' (Stab w (Stab c.w0 c.S0 s.h β w) (F.res (mArgs s.h (pickK F.mu xs) F.mu xs) (pickObs s.h (pickK F.mu xs))).2 β' w') β' u x → Rep w' (Stab c.w0 c.S0 (eCallM s F xs).h (β.back β' s.h.length (pickK F.mu xs).length) w') (β.back β' s.h.length (pickK F.mu xs).length) u (rb1 s.h (pickK F.mu xs) x) := by
      intro u x hx
      cases x with
      | agg ys =>
        obtain ⟨cs, rfl, hlen, h1, hrep⟩ := hx.inv_agg
        refine .agg _ _ (by simpa using hlen) h1 fun j x c' hx hc => ?_
        rw [List.getElem?_map] at hx
        cases hj : ys[j]? with
        | none => rw [hj] at hx; cases hx
        | some y => rw [hj] at hx; injection hx with hx; subst hx; exact g3 _ _ (hrep j y c' hj hc)
      | _ => exact g3 _ _ hx
    show Rep _ _ _ _ (rb2 _ _ _)
    generalize (F.res (mArgs s.h (pickK F.mu xs) F.mu xs) (pickObs s.h (pickK F.mu xs))).1 = y at h4
    cases y with
    | tup ys =>
      obtain ⟨cs, rfl, hlen, hrep⟩ := h4.inv_tup
      refine .tup _ _ (by simpa using hlen) fun j x c' hx hc => ?_
      rw [List.getElem?_map] at hx
      cases hj : ys[j]? with
      | none => rw [hj] at hx; cases hx
      | some y => rw [hj] at hx; injection hx with hx; subst hx; exact r1 _ _ (hrep j y c' hj hc)
    | _ => exact r1 _ _ h4

end Go.Abs

namespace Go.Abs
open Go.RowKit

/-! ### some objects are handed over, with what they hold -/
/-- under which version the i-th is handed over: 0, as it was; 1, laid anew -/
def vf (fl : List Nat) (i : Nat) : Nat := fl.getD i 0
def rv0 (h : List Ob) (ks fl : List Nat) : X → X
  | .osl k ver => match h[k]? with
    | some ob => if ob.ver = ver then (match ks.idxOf? k with | some i => .osl i (vf fl i) | none => .top) else .top
    | none => .top
  | .optr k ver a b => match h[k]? with
    | some ob => if ob.ver = ver then (match ks.idxOf? k with | some i => .optr i (vf fl i) a b | none => .top) else .top
    | none => .top
  | .pin k ver u => match h[k]? with
    | some ob => if ob.ver = ver then (match ks.idxOf? k with | some i => .pin i (vf fl i) u | none => .top) else .top
    | none => .top
  | .osub _ _ _ _ | .agg _ | .tup _ | .fn _ _ | .gd _ _ => .top
  | x => x
def rv1 (h : List Ob) (ks fl : List Nat) : X → X
  | .agg cs => .agg (cs.map (rv0 h ks fl))
  | x => rv0 h ks fl x
def rv2 (h : List Ob) (ks fl : List Nat) : X → X
  | .tup xs => .tup (xs.map (rv1 h ks fl))
  | x => rv1 h ks fl x
def pickVL (h : List Ob) (ks fl : List Nat) : List Nat → Nat → List Ob
  | [], _ => []
  | k :: l, i => { (h[k]?).getD ⟨0, 0, 0, [], false, false, none⟩ with ver := vf fl i, rows := ((h[k]?).getD ⟨0, 0, 0, [], false, false, none⟩).rows.map fun r => r.map (rv0 h ks fl) } :: pickVL h ks fl l (i + 1)
def pickV (h : List Ob) (ks fl : List Nat) : List Ob := pickVL h ks fl ks 0
def pickOkN (h : List Ob) (ks : List Nat) : Prop := ks.Nodup ∧ ∀ k ∈ ks, ((h[k]?).map fun ob => ob.live) = some true

theorem pickVL_get (h : List Ob) (ks fl : List Nat) : ∀ (l : List Nat) (n i : Nat), (pickVL h ks fl l n)[i]? = (l[i]?).map fun k => { (h[k]?).getD ⟨0, 0, 0, [], false, false, none⟩ with ver := vf fl (n + i), rows := ((h[k]?).getD ⟨0, 0, 0, [], false, false, none⟩).rows.map fun r => r.map (rv0 h ks fl) }
  | [], n, i => by simp [pickVL]
  | k :: l, n, 0 => by simp [pickVL]
  | k :: l, n, i + 1 => by
    simp only [pickVL, List.getElem?_cons_succ]
    rw [pickVL_get h ks fl l (n + 1) i, show n + 1 + i = n + (i + 1) by omega]
theorem pickVL_len (h : List Ob) (ks fl : List Nat) : ∀ (l : List Nat) (n : Nat), (pickVL h ks fl l n).length = l.length
  | [], n => rfl
  | k :: l, n => by simp [pickVL, pickVL_len h ks fl l]
theorem pickV_len (h : List Ob) (ks fl : List Nat) : (pickV h ks fl).length = ks.length := pickVL_len h ks fl ks 0
theorem pickV_get {h : List Ob} {ks fl : List Nat} (hp : pickOkN h ks) {i : Nat} {ob : Ob} (hi : (pickV h ks fl)[i]? = some ob) : ∃ k ob', ks[i]? = some k ∧ h[k]? = some ob' ∧ ob = { ob' with ver := vf fl i, rows := ob'.rows.map fun r => r.map (rv0 h ks fl) } ∧ ob'.live = true := by
  unfold pickV at hi
  rw [pickVL_get, Nat.zero_add] at hi
  cases hk : ks[i]? with
  | none => rw [hk] at hi; cases hi
  | some k =>
    rw [hk] at hi
    have hq := hp.2 k (List.mem_of_getElem? hk)
    cases ho : h[k]? with
    | none => rw [ho] at hq; cases hq
    | some ob' =>
      rw [ho] at hq
      simp only [Option.map_some, Option.some.injEq] at hq
      simp only [Option.map_some, Option.some.injEq, Option.getD_some, ho] at hi
      exact ⟨k, ob', rfl, ho, hi.symm, hq⟩
theorem pickV_at {h : List Ob} {ks fl : List Nat} {i k : Nat} {o : Ob} (hi : ks[i]? = some k) (ho : h[k]? = some o) : (pickV h ks fl)[i]? = some { o with ver := vf fl i, rows := o.rows.map fun r => r.map (rv0 h ks fl) } := by
  unfold pickV
  rw [pickVL_get, hi]
  simp [ho]

def Pl.pickV (β : Pl) (h : List Ob) (ks fl : List Nat) : Pl :=
  ⟨fun i ver => if ver = vf fl i then (match ks[i]? with | some k => (match h[k]? with | some ob => β.val k ob.ver | Option.none => Option.none) | Option.none => Option.none) else Option.none,
   fun i => match ks[i]? with | some k => β.sz k | Option.none => 0⟩
theorem Pl.pickV_val {β : Pl} {h : List Ob} {ks fl : List Nat} {i k : Nat} {ob : Ob} (h1 : ks[i]? = some k) (h2 : h[k]? = some ob) : (β.pickV h ks fl).val i (vf fl i) = β.val k ob.ver := by simp [Pl.pickV, h1, h2]
theorem pickV_own {h : List Ob} {β : Pl} {ks fl : List Nat} (hp : pickOkN h ks) {b : Nat} (ho : Owned (pickV h ks fl) (β.pickV h ks fl) b) : Owned h β b := by
  obtain ⟨i, ob, u, hi, hl, hu, hb⟩ := ho
  obtain ⟨k, ob', hk, hob, rfl, hl'⟩ := pickV_get hp hi
  rw [Pl.pickV_val hk hob] at hu
  exact ⟨k, ob', u, hob, hl', hu, hb⟩
theorem at2_map {f : X → X} {rows : List (List X)} {i j : Nat} {x : X} (hx : at2 (rows.map fun r => r.map f) i j = some x) : ∃ y, at2 rows i j = some y ∧ x = f y := by
  simp only [at2, List.getElem?_map] at hx ⊢
  cases hri : rows[i]? with
  | none => rw [hri] at hx; cases hx
  | some r =>
    rw [hri] at hx
    simp only [Option.map_some, Option.bind_some, List.getElem?_map] at hx ⊢
    cases hrj : r[j]? with
    | none => rw [hrj] at hx; cases hx
    | some y => rw [hrj] at hx; injection hx with hx; exact ⟨y, rfl, hx.symm⟩
theorem len_map2 {f : X → X} {rows : List (List X)} {z : Nat} (hz : ∀ r ∈ rows, r.length = z) : ∀ r ∈ (rows.map fun r => r.map f), r.length = z := by
  intro r hr
  simp only [List.mem_map] at hr
  obtain ⟨r', hr', rfl⟩ := hr
  simpa using hz r' hr'
theorem shape_rows {w : World} {ob ob' : Ob} {u : Value} (h : Shape w ob u) (h1 : ob'.ty = ob.ty) (h2 : ob'.sz = ob.sz) (h3 : ob'.bx = ob.bx) (h4 : ob'.mp = ob.mp) (h5 : ob'.rows.length = ob.rows.length) : Shape w ob' u := by
  rcases h with ⟨e1, e2, e3⟩ | ⟨g, es, ck, l, e0, e1, e2, e3, e4, e5⟩ | ⟨g, cap, cur, b1, b2, b3, b4, b5⟩
  · exact .inl ⟨e1, List.eq_nil_of_length_eq_zero (by rw [h5, e2]; rfl), by rw [h3]; exact e3⟩
  · exact .inr (.inl ⟨g, es, ck, l, e0, by rw [h4]; exact e1, List.eq_nil_of_length_eq_zero (by rw [h5, e2]; rfl), by rw [h3]; exact e3, e4, e5⟩)
  · exact .inr (.inr ⟨g, cap, cur, by rw [h1]; exact b1, by rw [h2]; exact b2, by rw [h5]; exact b3, b4, by rw [h3, h5]; exact b5⟩)

/-- the picked objects, in another context -/
theorem HRel.pickN {c c' : Cx} {h : List Ob} {β : Pl} {w : World} (ks fl : List Nat) (hp : pickOkN h ks) (H : HRel c h β w)
    (hst : ∀ b, Stab c.w0 c.S0 h β w b → Stab c'.w0 c'.S0 (pickV h ks fl) (β.pickV h ks fl) w b) (hfrm : Frm c'.w0 c'.M w)
    (hown : ∀ b, Owned (pickV h ks fl) (β.pickV h ks fl) b → c'.w0.heap.size ≤ b ∨ c'.M b) (hst0 : ∀ b, c'.S0 b → b < c'.w0.heap.size ∧ ¬ c'.M b) (hamb : Amb c'.w0 c'.S0 c'.A) :
    HRel c' (pickV h ks fl) (β.pickV h ks fl) w ∧ (∀ ob ∈ pickV h ks fl, ob.live = true) ∧ ∀ u x, Rep w (Stab c.w0 c.S0 h β w) β u x → Rep w (Stab c'.w0 c'.S0 (pickV h ks fl) (β.pickV h ks fl) w) (β.pickV h ks fl) u (rv1 h ks fl x) := by
  have hval : ∀ i k ob, ks[i]? = some k → h[k]? = some ob → (β.pickV h ks fl).val i (vf fl i) = β.val k ob.ver := fun i k ob h1 h2 => Pl.pickV_val h1 h2
  have hsz : ∀ i k, ks[i]? = some k → (β.pickV h ks fl).sz i = β.sz k := fun i k h1 => by simp [Pl.pickV, h1]
  have pur : ∀ {u x}, Rep w (Stab c.w0 c.S0 h β w) β u x → ok0 0 x = true → Rep w (Stab c'.w0 c'.S0 (pickV h ks fl) (β.pickV h ks fl) w) (β.pickV h ks fl) u x := fun hr ho =>
    (hr.cut0 hst ho).mono (fun _ h => h) (fun _ _ => rfl) (fun _ _ _ h => by simp [Pl.cut] at h)
  have hidx : ∀ {i k}, ks.idxOf? k = some i → ks[i]? = some k := by
    intro i k hi
    obtain ⟨hlt, he, _⟩ := List.idxOf?_eq_some_iff.1 hi
    rw [List.getElem?_eq_getElem hlt]
    simpa using he
  have r0 : ∀ {u x}, Rep w (Stab c.w0 c.S0 h β w) β u x → Rep w (Stab c'.w0 c'.S0 (pickV h ks fl) (β.pickV h ks fl) w) (β.pickV h ks fl) u (rv0 h ks fl x) := by
    intro u x hr
    cases x with
    | osl k ver =>
      obtain ⟨hu, h1⟩ := hr.inv_osl
      simp only [rv0]
      split
      · rename_i ob hk
        split
        · rename_i hver
          split
          · rename_i i hi
            exact .osl i (vf fl i) u (by rw [hval i k ob (hidx hi) hk, hver]; exact hu) h1
          · exact .top _
        · exact .top _
      · exact .top _
    | optr k ver a b =>
      obtain ⟨g, v, hv, hg, rfl⟩ := hr.inv_optr
      simp only [rv0]
      split
      · rename_i ob hk
        split
        · rename_i hver
          split
          · rename_i i hi
            have := Rep.optr (w := w) (S := Stab c'.w0 c'.S0 (pickV h ks fl) (β.pickV h ks fl) w) (β := β.pickV h ks fl) i (vf fl i) a b g v (by rw [hval i k ob (hidx hi) hk, hver]; exact hv) hg
            rw [hsz i k (hidx hi)] at this
            exact this
          · exact .top _
        · exact .top _
      · exact .top _
    | pin k ver v =>
      simp only [rv0]
      split
      · rename_i ob hk
        split
        · rename_i hver
          split
          · rename_i i hi
            refine .pin _ i (vf fl i) v ?_
            rw [hval i k ob (hidx hi) hk, hver]
            cases hr with
            | pin _ _ _ _ h => exact h
          · exact .top _
        · exact .top _
      · exact .top _
    | top => exact pur hr rfl
    | e0 => exact pur hr rfl
    | v y => exact pur hr rfl
    | sl r => exact pur hr rfl
    | pt r => exact pur hr rfl
    | _ => exact .top _
  have r1 : ∀ {u x}, Rep w (Stab c.w0 c.S0 h β w) β u x → Rep w (Stab c'.w0 c'.S0 (pickV h ks fl) (β.pickV h ks fl) w) (β.pickV h ks fl) u (rv1 h ks fl x) := by
    intro u x hr
    cases x with
    | agg xs =>
      obtain ⟨cs, rfl, hlen, h1, hrep⟩ := hr.inv_agg
      refine .agg _ _ (by simpa using hlen) h1 fun j x c' hx hc => ?_
      rw [List.getElem?_map] at hx
      cases hj : xs[j]? with
      | none => rw [hj] at hx; cases hx
      | some y => rw [hj] at hx; injection hx with hx; subst hx; exact r0 (hrep j y c' hj hc)
    | _ => exact r0 hr
  refine ⟨⟨fun i ob hi => ?_, ?_, ?_, ?_, hfrm, fun b ho => ⟨(H.own b (pickV_own hp ho)).1, hown b ho⟩, hst0, hamb⟩, ?_, ?_⟩
  · obtain ⟨k, ob', hk, hob, rfl, hl'⟩ := pickV_get hp hi
    obtain ⟨h1, h2, u, hu, hs, hc⟩ := H.objs k ob' hob
    refine ⟨by simp [Pl.pickV, hk, h1], len_map2 h2, u, by rw [hval i k ob' hk hob]; exact hu, shape_rows hs rfl rfl rfl rfl (by simp), fun i' j x hx => ?_⟩
    obtain ⟨y, hy, rfl⟩ := at2_map hx
    obtain ⟨g, cc, hg, hcell, h1c, hr⟩ := hc i' j y hy
    exact ⟨g, cc, hg, hcell, h1c, r0 hr⟩
  · intro i i' ob1 ob2 u1 u2 b hi hi' hu1 hu2 hb1 hb2
    obtain ⟨k1, o1, hk1, ho1, rfl, _⟩ := pickV_get hp hi
    obtain ⟨k2, o2, hk2, ho2, rfl, _⟩ := pickV_get hp hi'
    rw [hval i k1 o1 hk1 ho1] at hu1
    rw [hval i' k2 o2 hk2 ho2] at hu2
    have := H.inj k1 k2 o1 o2 u1 u2 b ho1 ho2 hu1 hu2 hb1 hb2
    subst this
    exact (List.getElem?_inj (List.getElem?_eq_some_iff.1 hk1).1 hp.1).1 (hk1.trans hk2.symm)
  · intro i ob ver hi hlt
    obtain ⟨k, ob', hk, hob, rfl, _⟩ := pickV_get hp hi
    have : ver ≠ vf fl i := by simp at hlt; omega
    simp [Pl.pickV, this]
  · intro i ver hi
    rw [pickV_len] at hi
    simp [Pl.pickV, List.getElem?_eq_none hi]
  · intro ob hob
    obtain ⟨i, hi⟩ := List.getElem?_of_mem hob
    obtain ⟨_, _, _, _, rfl, hl'⟩ := pickV_get hp hi
    exact hl'
  · exact fun u x hr => r1 hr

theorem HRel.pickVS {c : Cx} {h : List Ob} {β : Pl} {w : World} (ks fl : List Nat) (hp : pickOkN h ks) (H : HRel c h β w) : HRel c (Go.Abs.pickV h ks fl) (β.pickV h ks fl) w ∧ (∀ ob ∈ Go.Abs.pickV h ks fl, ob.live = true) ∧ ∀ u x, Rep w (Stab c.w0 c.S0 h β w) β u x → Rep w (Stab c.w0 c.S0 (Go.Abs.pickV h ks fl) (β.pickV h ks fl) w) (β.pickV h ks fl) u (rv1 h ks fl x) :=
  H.pickN (c' := c) ks fl hp (fun _ hs => ⟨hs.1, hs.2.1, fun ho => hs.2.2 (pickV_own hp ho)⟩) H.frm (fun b ho => (H.own b (pickV_own hp ho)).2) H.st0 H.amb

/-! ### a callee that writes to what it is handed, and may lay it anew -/
def sameObN (ob ob' : Ob) : Prop := ob'.ty = ob.ty ∧ ob'.sz = ob.sz ∧ ob'.bx = ob.bx ∧ ob'.mp = ob.mp
def GenNA (A : List (Nat × List X)) (P : Program) (f : Nat) (F : MFun) : Prop :=
  (∀ args w, (callFunc f args).run P w = .ok (.enter f args) w) ∧
  ∀ (w : World) (S : Nat → Prop) (β : Pl) (obs : List Ob) (vs : Array Value) (xs : List X), F.pre xs obs → vs.size = xs.length → HRel ⟨w, S, fun b => Owned obs β b, A⟩ obs β w → (∀ ob ∈ obs, ob.live = true ∧ ob.ver = 0) →
    (∀ (j : Nat) x v, xs[j]? = some x → vs[j]? = some v → Rep w (Stab w S obs β w) β v x) →
    Calls P f vs w fun e w' => ∃ v β', e = .returned v ∧ HRel ⟨w, S, fun b => Owned obs β b, A⟩ (F.res xs obs).2 β' w' ∧ (∀ ob ∈ (F.res xs obs).2, ob.live = true) ∧
      (∀ (k : Nat) ob, obs[k]? = some ob → ∃ ob', (F.res xs obs).2[k]? = some ob' ∧ sameObN ob ob' ∧ ((ob'.ver = 0 ∧ β'.val k 0 = β.val k 0) ∨ ob'.ver = 1)) ∧
      Rep w' (Stab w S (F.res xs obs).2 β' w') β' v (F.res xs obs).1

/-- the numbers of the objects that an argument leads to -/
def pickD (h : List Ob) (k : Nat) : List Nat := k :: (((h[k]?).map (·.rows)).getD []).flatMap pickA
def pickN (h : List Ob) : List Bool → List X → List Nat
  | true :: fs, .agg cs :: xs => pickA cs ++ pickN h fs xs
  | true :: fs, .osl k _ :: xs => k :: pickN h fs xs
  | true :: fs, .optr k _ _ _ :: xs => pickD h k ++ pickN h fs xs
  | _ :: fs, _ :: xs => pickN h fs xs
  | _, _ => []
def mArgsN (h : List Ob) (ks : List Nat) : List Bool → List X → List X
  | _, [] => []
  | true :: fs, x :: xs => rv1 h ks [] x :: mArgsN h ks fs xs
  | false :: fs, x :: xs => purN h 3 x :: mArgsN h ks fs xs
  | [], x :: xs => purN h 3 x :: mArgsN h ks [] xs
theorem mArgsN_get {h : List Ob} {ks : List Nat} : ∀ {fs : List Bool} {xs : List X} {j : Nat} {x' : X}, mPure fs xs = true → (mArgsN h ks fs xs)[j]? = some x' → ∃ x, xs[j]? = some x ∧ (x' = rv1 h ks [] x ∨ (x' = purN h 3 x ∧ isPure x = true))
  | _, [], j, x', _, hx => by simp [mArgsN] at hx
  | true :: fs, x :: xs, 0, x', _, hx => by simp [mArgsN] at hx; exact ⟨x, rfl, .inl hx.symm⟩
  | true :: fs, x :: xs, j + 1, x', hp, hx => by simp [mArgsN] at hx; exact mArgsN_get (fs := fs) (xs := xs) (by simpa [mPure] using hp) hx
  | false :: fs, x :: xs, 0, x', hp, hx => by simp [mArgsN] at hx; simp [mPure] at hp; exact ⟨x, rfl, .inr ⟨hx.symm, hp.1⟩⟩
  | false :: fs, x :: xs, j + 1, x', hp, hx => by simp [mArgsN] at hx; simp [mPure] at hp; exact mArgsN_get (fs := fs) (xs := xs) hp.2 hx
  | [], x :: xs, 0, x', hp, hx => by simp [mArgsN] at hx; simp [mPure] at hp; exact ⟨x, rfl, .inr ⟨hx.symm, hp.1⟩⟩
  | [], x :: xs, j + 1, x', hp, hx => by simp [mArgsN] at hx; simp [mPure] at hp; exact mArgsN_get (fs := []) (xs := xs) hp.2 hx
theorem mArgsN_len {h : List Ob} {ks : List Nat} : ∀ (fs : List Bool) (xs : List X), (mArgsN h ks fs xs).length = xs.length
  | _, [] => by simp [mArgsN]
  | true :: fs, x :: xs => by simp [mArgsN, mArgsN_len fs xs]
  | false :: fs, x :: xs => by simp [mArgsN, mArgsN_len fs xs]
  | [], x :: xs => by simp [mArgsN, mArgsN_len [] xs]


/-- the callee's references, as the caller's: only to what is there now -/
def verO (obs : List Ob) (i : Nat) : Nat := match obs[i]? with | some ob => ob.ver | none => 0
def rw0 (h obs : List Ob) (ks : List Nat) : X → X
  | .osl i ver => match ks[i]? with
    | some k => if ver = verO obs i then .osl k (verOf h k + ver) else .top
    | none => .osl (h.length + (i - ks.length)) ver
  | .optr i ver a b => match ks[i]? with
    | some k => if ver = verO obs i then .optr k (verOf h k + ver) a b else .top
    | none => .optr (h.length + (i - ks.length)) ver a b
  | .osub _ _ _ _ | .fn _ _ | .agg _ | .tup _ | .gd _ _ | .pin _ _ _ => .top
  | x => x
def rw1 (h obs : List Ob) (ks : List Nat) : X → X
  | .agg cs => .agg (cs.map (rw0 h obs ks))
  | x => rw0 h obs ks x
def rw2 (h obs : List Ob) (ks : List Nat) : X → X
  | .tup xs => .tup (xs.map (rw1 h obs ks))
  | x => rw1 h obs ks x
def rwR (h obs : List Ob) (ks : List Nat) (rows : List (List X)) : List (List X) := rows.map fun r => r.map (rw0 h obs ks)
def rwOb (h obs : List Ob) (ks : List Nat) (ob : Ob) : Ob := { ob with rows := rwR h obs ks ob.rows }
def setN (g : List (List X) → List (List X)) : List Ob → List Nat → List Ob → List Ob
  | h, k :: ks, ob :: obs => setN g (h.set k { (h[k]?).getD ⟨0, 0, 0, [], false, false, none⟩ with rows := g ob.rows, ver := ((h[k]?).getD ⟨0, 0, 0, [], false, false, none⟩).ver + ob.ver }) ks obs
  | h, _, _ => h

theorem setN_get (g : List (List X) → List (List X)) : ∀ (ks : List Nat) (h obs : List Ob), ks.Nodup → ks.length ≤ obs.length → (∀ k ∈ ks, k < h.length) →
    (setN g h ks obs).length = h.length ∧ (∀ k, k ∉ ks → (setN g h ks obs)[k]? = h[k]?) ∧ ∀ (i k : Nat) o ob, ks[i]? = some k → h[k]? = some o → obs[i]? = some ob → (setN g h ks obs)[k]? = some { o with rows := g ob.rows, ver := o.ver + ob.ver }
  | [], h, obs, _, _, _ => by
    have e : setN g h [] obs = h := by cases obs <;> rfl
    rw [e]
    exact ⟨rfl, fun _ _ => rfl, fun i k o ob hk => by simp at hk⟩
  | k0 :: ks, h, [], _, hl, _ => by simp at hl
  | k0 :: ks, h, ob0 :: obs, hn, hl, hlt => by
    simp only [List.nodup_cons] at hn
    have hk0 : k0 < h.length := hlt k0 (by simp)
    obtain ⟨h1, h2, h3⟩ := setN_get g ks (h.set k0 { (h[k0]?).getD ⟨0, 0, 0, [], false, false, none⟩ with rows := g ob0.rows, ver := ((h[k0]?).getD ⟨0, 0, 0, [], false, false, none⟩).ver + ob0.ver }) obs hn.2 (by simpa using hl) (fun k hk => by rw [List.length_set]; exact hlt k (List.mem_cons_of_mem _ hk))
    rw [List.length_set] at h1
    refine ⟨h1, fun k hk => ?_, fun i k o ob hi ho hob => ?_⟩
    · simp only [List.mem_cons, not_or] at hk
      show (setN g _ ks obs)[k]? = _
      rw [h2 k hk.2, List.getElem?_set_ne (Ne.symm hk.1)]
    · show (setN g _ ks obs)[k]? = _
      cases i with
      | zero =>
        simp at hi hob
        subst hi hob
        rw [h2 k0 hn.1, List.getElem?_set_self hk0, ho]
        rfl
      | succ i =>
        simp at hi hob
        have hne : k0 ≠ k := fun e => hn.1 (by rw [e]; exact List.mem_of_getElem? hi)
        exact h3 i k o ob hi (by rw [List.getElem?_set_ne hne]; exact ho) hob

def eCallN (s : St) (F : MFun) (args : List X) : Eff :=
  ⟨pickOkN s.h (pickN s.h F.mu args) ∧ mPure F.mu args = true ∧ F.pre (mArgsN s.h (pickN s.h F.mu args) F.mu args) (pickV s.h (pickN s.h F.mu args) []),
    rw2 s.h (F.res (mArgsN s.h (pickN s.h F.mu args) F.mu args) (pickV s.h (pickN s.h F.mu args) [])).2 (pickN s.h F.mu args) (F.res (mArgsN s.h (pickN s.h F.mu args) F.mu args) (pickV s.h (pickN s.h F.mu args) [])).1,
    setN (rwR s.h (F.res (mArgsN s.h (pickN s.h F.mu args) F.mu args) (pickV s.h (pickN s.h F.mu args) [])).2 (pickN s.h F.mu args)) s.h (pickN s.h F.mu args) (F.res (mArgsN s.h (pickN s.h F.mu args) F.mu args) (pickV s.h (pickN s.h F.mu args) [])).2 ++
      ((F.res (mArgsN s.h (pickN s.h F.mu args) F.mu args) (pickV s.h (pickN s.h F.mu args) [])).2.drop (pickN s.h F.mu args).length).map (rwOb s.h (F.res (mArgsN s.h (pickN s.h F.mu args) F.mu args) (pickV s.h (pickN s.h F.mu args) [])).2 (pickN s.h F.mu args))⟩

def Pl.backN (β β' : Pl) (h obs' : List Ob) (ks : List Nat) : Pl :=
  ⟨fun k ver => if k < h.length then (match ks.idxOf? k with | some i => if ver = verOf h k + 1 ∧ verO obs' i = 1 then β'.val i 1 else β.val k ver | Option.none => β.val k ver) else β'.val (k - h.length + ks.length) ver,
   fun k => if k < h.length then β.sz k else β'.sz (k - h.length + ks.length)⟩

theorem vf_nil (i : Nat) : vf [] i = 0 := by simp [vf]
theorem idxOf_get : ∀ {ks : List Nat} {i k : Nat}, ks.Nodup → ks[i]? = some k → ks.idxOf? k = some i := by
  intro ks i k hn hi
  obtain ⟨hlt, he⟩ := List.getElem?_eq_some_iff.1 hi
  rw [List.idxOf?_eq_some_iff]
  refine ⟨hlt, by simpa using he, fun j hj => ?_⟩
  intro e
  have e' : ks[j]'(by omega) = ks[i] := by rw [he]; simpa using e
  have := (List.getElem_inj (h₀ := by omega) (h₁ := hlt) hn).1 e'
  omega
/-- the caller's objects after the callee wrote to some of them -/
theorem HRel.backN {c : Cx} {h obs' : List Ob} {β β' : Pl} {w w' : World} {ks : List Nat} (hp : pickOkN h ks) (H : HRel c h β w)
    {A : List (Nat × List X)} (H' : HRel ⟨w, Stab c.w0 c.S0 h β w, fun b => Owned (pickV h ks []) (β.pickV h ks []) b, A⟩ obs' β' w') (hlive : ∀ ob ∈ obs', ob.live = true)
    (hsame : ∀ (k : Nat) ob, (pickV h ks [])[k]? = some ob → ∃ ob', obs'[k]? = some ob' ∧ sameObN ob ob' ∧ ((ob'.ver = 0 ∧ β'.val k 0 = (β.pickV h ks []).val k 0) ∨ ob'.ver = 1)) :
    HRel c (setN (rwR h obs' ks) h ks obs' ++ (obs'.drop ks.length).map (rwOb h obs' ks)) (β.backN β' h obs' ks) w' ∧
    (∀ u x, Rep w (Stab c.w0 c.S0 h β w) β u x → Rep w' (Stab c.w0 c.S0 (setN (rwR h obs' ks) h ks obs' ++ (obs'.drop ks.length).map (rwOb h obs' ks)) (β.backN β' h obs' ks) w') (β.backN β' h obs' ks) u x) ∧
    (∀ u x, Rep w' (Stab w (Stab c.w0 c.S0 h β w) obs' β' w') β' u x → Rep w' (Stab c.w0 c.S0 (setN (rwR h obs' ks) h ks obs' ++ (obs'.drop ks.length).map (rwOb h obs' ks)) (β.backN β' h obs' ks) w') (β.backN β' h obs' ks) u (rw0 h obs' ks x)) := by
  have hks : ∀ k ∈ ks, ∃ o, h[k]? = some o ∧ o.live = true := by
    intro k hk
    have := hp.2 k hk
    cases ho : h[k]? with
    | none => rw [ho] at this; cases this
    | some o =>
      rw [ho] at this
      simp only [Option.map_some, Option.some.injEq] at this
      exact ⟨o, rfl, this⟩
  have hlt : ∀ k ∈ ks, k < h.length := fun k hk => by
    obtain ⟨o, ho, _⟩ := hks k hk
    exact (List.getElem?_eq_some_iff.1 ho).1
  have hpk : ∀ {i k o}, ks[i]? = some k → h[k]? = some o → ∃ ob', obs'[i]? = some ob' ∧ ob'.ty = o.ty ∧ ob'.sz = o.sz ∧ ob'.bx = o.bx ∧ ob'.mp = o.mp ∧ ((ob'.ver = 0 ∧ β'.val i 0 = β.val k o.ver) ∨ ob'.ver = 1) := by
    intro i k o hi ho
    have hg := pickV_at (fl := []) hi ho
    obtain ⟨ob', h1, ⟨h2, h3, h4, h5⟩, h6⟩ := hsame i _ hg
    refine ⟨ob', h1, h2, h3, h4, h5, ?_⟩
    have h7 := Pl.pickV_val (β := β) (fl := []) hi ho
    rw [vf_nil] at h7
    rw [h7] at h6
    exact h6
  have hlen : ks.length ≤ obs'.length := by
    rcases Nat.eq_zero_or_pos ks.length with h0 | h0
    · omega
    · have hi : ks[ks.length - 1]? = some (ks[ks.length - 1]'(by omega)) := List.getElem?_eq_getElem (by omega)
      obtain ⟨o, ho, _⟩ := hks _ (List.mem_of_getElem? hi)
      obtain ⟨ob', h1, _⟩ := hpk hi ho
      have := (List.getElem?_eq_some_iff.1 h1).1
      omega
  obtain ⟨g1, g2, g3⟩ := setN_get (rwR h obs' ks) ks h obs' hp.1 hlen hlt
  have hsz := H'.frm.size
  have hvl : ∀ {k o ver}, h[k]? = some o → ver ≤ o.ver → (β.backN β' h obs' ks).val k ver = β.val k ver := by
    intro k o ver ho hv
    have hk := (List.getElem?_eq_some_iff.1 ho).1
    have hvo : verOf h k = o.ver := by simp [verOf, ho]
    simp only [Pl.backN, hk, if_true]
    split
    · rw [if_neg (by omega)]
    · rfl
  have hvn : ∀ {k ver}, k ∉ ks → k < h.length → (β.backN β' h obs' ks).val k ver = β.val k ver := by
    intro k ver hm hk
    simp only [Pl.backN, hk, if_true]
    split
    · rename_i i hi
      exact absurd (by
        obtain ⟨hlt, he, _⟩ := List.idxOf?_eq_some_iff.1 hi
        have : ks[i] = k := by simpa using he
        rw [← this]; exact List.getElem_mem _) hm
    · rfl
  have hvc : ∀ {i k o ob'}, ks[i]? = some k → h[k]? = some o → obs'[i]? = some ob' → (β.backN β' h obs' ks).val k (o.ver + ob'.ver) = β'.val i ob'.ver := by
    intro i k o ob' hi ho hob
    obtain ⟨ob2, a1, _, _, _, _, a6⟩ := hpk hi ho
    rw [hob] at a1; injection a1 with a1; subst a1
    rcases a6 with ⟨a6, a7⟩ | a6
    · rw [a6, hvl ho (by omega), Nat.add_zero, a7]
    · have hk := (List.getElem?_eq_some_iff.1 ho).1
      have hvo : verOf h k = o.ver := by simp [verOf, ho]
      have hvo' : verO obs' i = 1 := by simp [verO, hob, a6]
      simp only [Pl.backN, hk, if_true, idxOf_get hp.1 hi, hvo, hvo', a6, and_self]
  have hle : β.le (β.backN β' h obs' ks) := by
    intro k ver v hv
    have hk : k < h.length := by
      rcases Nat.lt_or_ge k h.length with h1 | h1
      · exact h1
      · rw [H.dom k ver h1] at hv; cases hv
    have ho : h[k]? = some h[k] := List.getElem?_eq_getElem hk
    have hvv : ver ≤ h[k].ver := by
      rcases Nat.lt_or_ge h[k].ver ver with h1 | h1
      · rw [H.cur k _ ver ho h1] at hv; cases hv
      · exact h1
    exact ⟨by rw [hvl ho hvv]; exact hv, by simp [Pl.backN, hk]⟩
  have hvr : ∀ k ver, h.length ≤ k → (β.backN β' h obs' ks).val k ver = β'.val (k - h.length + ks.length) ver := fun k ver hk => by simp [Pl.backN, Nat.not_lt.2 hk]
  have hget : ∀ {k ob}, (setN (rwR h obs' ks) h ks obs' ++ (obs'.drop ks.length).map (rwOb h obs' ks))[k]? = some ob →
      (k ∉ ks ∧ k < h.length ∧ h[k]? = some ob) ∨ (∃ (i : Nat) (o ob' : Ob), ks[i]? = some k ∧ k < h.length ∧ h[k]? = some o ∧ obs'[i]? = some ob' ∧ ob = { o with rows := rwR h obs' ks ob'.rows, ver := o.ver + ob'.ver }) ∨
      ∃ ob', h.length ≤ k ∧ obs'[k - h.length + ks.length]? = some ob' ∧ ob = rwOb h obs' ks ob' := by
    intro k ob hk
    rcases Nat.lt_or_ge k h.length with hl | hge
    · rw [List.getElem?_append_left (by omega)] at hk
      by_cases hm : k ∈ ks
      · obtain ⟨i, hi⟩ := List.getElem?_of_mem hm
        obtain ⟨o, ho, _⟩ := hks k hm
        obtain ⟨ob', h1, _⟩ := hpk hi ho
        rw [g3 i k o ob' hi ho h1] at hk
        injection hk with hk
        exact .inr (.inl ⟨i, o, ob', hi, hl, ho, h1, hk.symm⟩)
      · rw [g2 k hm] at hk
        exact .inl ⟨hm, hl, hk⟩
    · rw [List.getElem?_append_right (by omega), List.getElem?_map, List.getElem?_drop, g1] at hk
      rw [Nat.add_comm] at hk
      cases ho : obs'[k - h.length + ks.length]? with
      | none => rw [ho] at hk; cases hk
      | some ob' => rw [ho] at hk; injection hk with hk; exact .inr (.inr ⟨ob', hge, rfl, hk.symm⟩)
  -- the blocks of the callee's objects: new, or of those handed over
  have hnew : ∀ {i ob u b}, obs'[i]? = some ob → β'.val i ob.ver = some u → blk u = some b → w.heap.size ≤ b ∨ Owned (pickV h ks []) (β.pickV h ks []) b := by
    intro i ob u b hi hu hb
    exact (H'.own b ⟨i, ob, u, hi, hlive ob (List.mem_of_getElem? hi), hu, hb⟩).2
  -- a block of an object that stays is not among those handed over
  have hnot : ∀ {k o u b}, k ∉ ks → h[k]? = some o → β.val k o.ver = some u → blk u = some b → ¬ Owned (pickV h ks []) (β.pickV h ks []) b := by
    rintro k o u b hk ho hu hb ⟨i, ob, u', hi, _, hu', hb'⟩
    obtain ⟨k', o', hk', ho', rfl, _⟩ := pickV_get hp hi
    rw [Pl.pickV_val hk' ho'] at hu'
    have := H.inj k k' o o' u u' b ho ho' hu hu' hb hb'
    subst this
    exact hk (List.mem_of_getElem? hk')
  have hown : ∀ {b}, Owned (setN (rwR h obs' ks) h ks obs' ++ (obs'.drop ks.length).map (rwOb h obs' ks)) (β.backN β' h obs' ks) b → (Owned h β b ∧ ¬ Owned (pickV h ks []) (β.pickV h ks []) b) ∨ Owned obs' β' b := by
    rintro b ⟨k, ob, u, hk, hl, hu, hb⟩
    rcases hget hk with ⟨hm, hlt', hk'⟩ | ⟨i, o, ob', hi, hlt', ho, hob, rfl⟩ | ⟨ob', hge, hob, rfl⟩
    · rw [hvn hm hlt'] at hu
      exact .inl ⟨⟨k, ob, u, hk', hl, hu, hb⟩, hnot hm hk' hu hb⟩
    · rw [hvc hi ho hob] at hu
      exact .inr ⟨i, ob', u, hob, hlive _ (List.mem_of_getElem? hob), hu, hb⟩
    · rw [hvr k _ hge] at hu
      exact .inr ⟨_, ob', u, hob, hl, hu, hb⟩
  have hst : ∀ b, Stab w (Stab c.w0 c.S0 h β w) obs' β' w' b → Stab c.w0 c.S0 (setN (rwR h obs' ks) h ks obs' ++ (obs'.drop ks.length).map (rwOb h obs' ks)) (β.backN β' h obs' ks) w' b := by
    rintro b ⟨h1, h2, h3⟩
    refine ⟨h1, ?_, fun ho => ?_⟩
    · rcases h2 with h2 | h2
      · exact h2.2.1
      · exact .inr (Nat.le_trans H.frm.size h2)
    · rcases hown ho with ⟨h4, _⟩ | h4
      · rcases h2 with h2 | h2
        · exact h2.2.2 h4
        · have := (H.own b h4).1
          have h2' : w.heap.size ≤ b := h2
          omega
      · exact h3 h4
  have tr : ∀ u x, Rep w (Stab c.w0 c.S0 h β w) β u x → Rep w' (Stab c.w0 c.S0 (setN (rwR h obs' ks) h ks obs' ++ (obs'.drop ks.length).map (rwOb h obs' ks)) (β.backN β' h obs' ks) w') (β.backN β' h obs' ks) u x := fun u x hr =>
    hr.mono (fun b hs => ⟨Nat.lt_of_lt_of_le hs.1 hsz, hs.2.1, fun ho => by
      rcases hown ho with ⟨h1, _⟩ | ⟨i, ob, u, hi, hl, hu, hb⟩
      · exact hs.2.2 h1
      · rcases hnew hi hu hb with h1 | h1
        · have := hs.1; omega
        · exact hs.2.2 (pickV_own hp h1)⟩) (fun b hs => H'.frm.block b hs.1 fun ho => hs.2.2 (pickV_own hp ho)) hle
  have hK : ∀ {i k}, ks[i]? = some k → (β.backN β' h obs' ks).val k (verOf h k + verO obs' i) = β'.val i (verO obs' i) ∧ (β.backN β' h obs' ks).sz k = β'.sz i := by
    intro i k hi
    obtain ⟨o, ho, _⟩ := hks k (List.mem_of_getElem? hi)
    obtain ⟨ob', a1, _, a3, _⟩ := hpk hi ho
    have hl := hlt k (List.mem_of_getElem? hi)
    have e1 : verOf h k = o.ver := by simp [verOf, ho]
    have e2 : verO obs' i = ob'.ver := by simp [verO, a1]
    refine ⟨by rw [e1, e2]; exact hvc hi ho a1, ?_⟩
    obtain ⟨b1, _⟩ := H'.objs i ob' a1
    obtain ⟨b2, _⟩ := H.objs k o ho
    rw [b1, a3]
    simp [Pl.backN, hl, b2]
  have hN : ∀ {i}, ks[i]? = none → (∀ ver, (β.backN β' h obs' ks).val (h.length + (i - ks.length)) ver = β'.val i ver) ∧ (β.backN β' h obs' ks).sz (h.length + (i - ks.length)) = β'.sz i := by
    intro i hi
    have hi' : ks.length ≤ i := List.getElem?_eq_none_iff.1 hi
    have e : h.length + (i - ks.length) - h.length + ks.length = i := by omega
    refine ⟨fun ver => by rw [hvr _ _ (by omega), e], ?_⟩
    simp only [Pl.backN]
    rw [if_neg (by omega), e]
  have r0 : ∀ u x, Rep w' (Stab w (Stab c.w0 c.S0 h β w) obs' β' w') β' u x → Rep w' (Stab c.w0 c.S0 (setN (rwR h obs' ks) h ks obs' ++ (obs'.drop ks.length).map (rwOb h obs' ks)) (β.backN β' h obs' ks) w') (β.backN β' h obs' ks) u (rw0 h obs' ks x) := by
    intro u x hr
    cases hr with
    | top u => exact .top u
    | v _ h => exact .v _ h
    | nil a c => exact .nil a c
    | sl ad cc sz rows cs hcap hs hz hc h1 hr => exact .sl ad cc sz rows cs hcap (hst _ hs) hz hc h1 fun i j x hx => (hr i j x hx).mono hst (fun _ _ => rfl) (Pl.le_refl _)
    | pt ad cells cs hs hc h1 hr => exact .pt ad cells cs (hst _ hs) hc h1 fun j x hx => (hr j x hx).mono hst (fun _ _ => rfl) (Pl.le_refl _)
    | agg => exact .top _
    | tup => exact .top _
    | fn => exact .top _
    | gd => exact .top _
    | e0 a => exact .e0 a
    | pin => exact .top _
    | osub => exact .top _
    | osub0 => exact .top _
    | osl i ver u hu h1 =>
      simp only [rw0]
      split
      · rename_i k hi
        split
        · rename_i hv
          subst hv
          obtain ⟨e2, _⟩ := hK hi
          exact .osl _ _ u (by rw [e2]; exact hu) h1
        · exact .top _
      · rename_i hi
        exact .osl _ _ u (by rw [(hN hi).1]; exact hu) h1
    | optr i ver a b g u hu hg =>
      simp only [rw0]
      split
      · rename_i k hi
        split
        · rename_i hv
          subst hv
          obtain ⟨e2, e3⟩ := hK hi
          rw [← e3]
          exact .optr _ _ _ _ g u (by rw [e2]; exact hu) hg
        · exact .top _
      · rename_i hi
        rw [← (hN hi).2]
        exact .optr _ _ _ _ g u (by rw [(hN hi).1]; exact hu) hg
  refine ⟨⟨fun k ob hk => ?_, ?_, ?_, ?_, ?_, ?_, H.st0, H.amb⟩, tr, r0⟩
  · rcases hget hk with ⟨hm, hl, hk'⟩ | ⟨i, o, ob', hi, hl, ho, hob, rfl⟩ | ⟨ob', hge, hob, rfl⟩
    · obtain ⟨h1, h2, u', hu', hs, hc⟩ := H.objs k ob hk'
      have hbk : ∀ b, blk u' = some b → w'.heap[b]? = w.heap[b]? := fun b hb => H'.frm.block b (hs.blk_lt hb) (hnot hm hk' hu' hb)
      refine ⟨by simp [Pl.backN, hl, h1], h2, u', by rw [hvn hm hl]; exact hu', hs.keep hbk, fun i j x hx => ?_⟩
      obtain ⟨g, cc, hg, hcell, h1c, hr⟩ := hc i j x hx
      exact ⟨g, cc, hg, by rw [World.cell?_of_block (w := w) (hbk g hg)]; exact hcell, h1c, tr _ _ hr⟩
    · obtain ⟨ob2, a1, a2, a3, a4, amp, a6⟩ := hpk hi ho
      rw [hob] at a1; injection a1 with a1; subst a1
      obtain ⟨h1, h2, u', hu', hs, hc⟩ := H'.objs i ob' hob
      obtain ⟨b1, _⟩ := H.objs k o ho
      have hz : ob'.sz = o.sz := a3
      refine ⟨by simp [Pl.backN, hl, b1], fun r hr => by rw [← hz]; exact len_map2 h2 r hr, u', ?_, shape_rows hs a2.symm a3.symm a4.symm amp.symm (by simp [rwR]), fun i' j x hx => ?_⟩
      · show (β.backN β' h obs' ks).val k (o.ver + ob'.ver) = some u'
        rw [hvc hi ho hob]; exact hu'
      · obtain ⟨y, hy, rfl⟩ := at2_map hx
        obtain ⟨g, cc, hg, hcell, h1c, hr⟩ := hc i' j y hy
        exact ⟨g, cc, hg, by rw [← hz]; exact hcell, h1c, r0 _ _ hr⟩
    · obtain ⟨h1, h2, u', hu', hs, hc⟩ := H'.objs _ ob' hob
      refine ⟨by simp [Pl.backN, Nat.not_lt.2 hge, h1, rwOb], len_map2 h2, u', by rw [hvr k _ hge]; exact hu', shape_rows hs rfl rfl rfl rfl (by simp [rwOb, rwR]), fun i j x hx => ?_⟩
      obtain ⟨y, hy, rfl⟩ := at2_map hx
      obtain ⟨g, cc, hg, hcell, h1c, hr⟩ := hc i j y hy
      exact ⟨g, cc, hg, hcell, h1c, r0 _ _ hr⟩
  · -- no two share a block
    have key : ∀ {k ob u b}, (setN (rwR h obs' ks) h ks obs' ++ (obs'.drop ks.length).map (rwOb h obs' ks))[k]? = some ob → (β.backN β' h obs' ks).val k ob.ver = some u → blk u = some b →
        (k ∉ ks ∧ k < h.length ∧ ∃ o, h[k]? = some o ∧ β.val k o.ver = some u) ∨ ∃ i ob', obs'[i]? = some ob' ∧ β'.val i ob'.ver = some u ∧ ((ks[i]? = some k ∧ k < h.length) ∨ (ks.length ≤ i ∧ k = i - ks.length + h.length)) := by
      intro k ob u b hk hu hb
      rcases hget hk with ⟨hm, hl, hk'⟩ | ⟨i, o, ob', hi, hl, ho, hob, rfl⟩ | ⟨ob', hge, hob, rfl⟩
      · exact .inl ⟨hm, hl, ob, hk', by rwa [hvn hm hl] at hu⟩
      · rw [hvc hi ho hob] at hu
        exact .inr ⟨i, ob', hob, hu, .inl ⟨hi, hl⟩⟩
      · rw [hvr k _ hge] at hu
        exact .inr ⟨_, ob', hob, hu, .inr ⟨by omega, by omega⟩⟩
    intro k k' ob1 ob2 u1 u2 b hk hk' hu1 hu2 hb1 hb2
    rcases key hk hu1 hb1 with ⟨hm1, hl1, o1, ho1, hv1⟩ | ⟨i1, p1, hp1, hv1, hk1⟩ <;> rcases key hk' hu2 hb2 with ⟨hm2, hl2, o2, ho2, hv2⟩ | ⟨i2, p2, hp2, hv2, hk2⟩
    · exact H.inj k k' o1 o2 u1 u2 b ho1 ho2 hv1 hv2 hb1 hb2
    · exfalso
      have h1 := H.blk_lt ho1 hv1 hb1
      rcases hnew hp2 hv2 hb2 with h2 | h2
      · omega
      · exact hnot hm1 ho1 hv1 hb1 h2
    · exfalso
      have h1 := H.blk_lt ho2 hv2 hb2
      rcases hnew hp1 hv1 hb1 with h2 | h2
      · omega
      · exact hnot hm2 ho2 hv2 hb2 h2
    · have e := H'.inj i1 i2 p1 p2 u1 u2 b hp1 hp2 hv1 hv2 hb1 hb2
      subst e
      rcases hk1 with ⟨a1, a2⟩ | ⟨a1, a2⟩ <;> rcases hk2 with ⟨c1, c2⟩ | ⟨c1, c2⟩
      · rw [a1] at c1; injection c1
      · rw [List.getElem?_eq_none c1] at a1; cases a1
      · rw [List.getElem?_eq_none a1] at c1; cases c1
      · omega
  · intro k ob ver hk hlt'
    rcases hget hk with ⟨hm, hl, hk'⟩ | ⟨i, o, ob', hi, hl, ho, hob, rfl⟩ | ⟨ob', hge, hob, rfl⟩
    · rw [hvn hm hl]; exact H.cur k ob ver hk' hlt'
    · obtain ⟨ob2, a1, _, _, _, _, a6⟩ := hpk hi ho
      rw [hob] at a1; injection a1 with a1; subst a1
      have hvo : verOf h k = o.ver := by simp [verOf, ho]
      have hvo' : verO obs' i = ob'.ver := by simp [verO, hob]
      have hlt2 : o.ver + ob'.ver < ver := hlt'
      simp only [Pl.backN, hl, if_true, idxOf_get hp.1 hi, hvo, hvo']
      rw [if_neg (by omega)]
      exact H.cur k o ver ho (by omega)
    · rw [hvr k _ hge]; exact H'.cur _ ob' ver hob hlt'
  · intro k ver hk
    rw [List.length_append, g1, List.length_map, List.length_drop] at hk
    rw [hvr k _ (by omega)]; exact H'.dom _ _ (by omega)
  · refine ⟨H'.frm.os.trans H.frm.os, H'.frm.tape.trans H.frm.tape, H'.frm.output.trans H.frm.output, Nat.le_trans H.frm.size hsz, fun b h1 h2 => ?_⟩
    rw [H'.frm.block b (Nat.lt_of_lt_of_le h1 H.frm.size) fun ho => ?_]
    · exact H.frm.block b h1 h2
    · rcases (H.own b (pickV_own hp ho)).2 with h3 | h3
      · omega
      · exact h2 h3
  · intro b ho
    rcases hown ho with ⟨h1, _⟩ | h1
    · exact ⟨Nat.lt_of_lt_of_le (H.own b h1).1 hsz, (H.own b h1).2⟩
    · refine ⟨(H'.own b h1).1, ?_⟩
      rcases (H'.own b h1).2 with h2 | h2
      · exact .inl (Nat.le_trans H.frm.size h2)
      · exact (H.own b (pickV_own hp h2)).2

theorem callN_does {P : Program} {c : Cx} {s : St} {β : Pl} {w : World} {f : Nat} {F : MFun} (hF : GenNA c.A P f F) {vs : Array Value} {xs : List X} (H : HRel c s.h β w) (hl : vs.size = xs.length)
    (hr : ∀ (j : Nat) x v, xs[j]? = some x → vs[j]? = some v → Rep w (Stab c.w0 c.S0 s.h β w) β v x) (hc : (eCallN s F xs).cond) :
    Calls P f vs w fun e w' => ∃ v β', e = .returned v ∧ HRel c (eCallN s F xs).h β' w' ∧ (∀ u x, Rep w (Stab c.w0 c.S0 s.h β w) β u x → Rep w' (Stab c.w0 c.S0 (eCallN s F xs).h β' w') β' u x) ∧
      Rep w' (Stab c.w0 c.S0 (eCallN s F xs).h β' w') β' v (eCallN s F xs).val := by
  obtain ⟨hp, hpu, hpre⟩ := hc
  obtain ⟨q1, q2, q3⟩ := H.pickN (c' := ⟨w, Stab c.w0 c.S0 s.h β w, fun b => Owned (pickV s.h (Go.Abs.pickN s.h F.mu xs) []) (β.pickV s.h (Go.Abs.pickN s.h F.mu xs) []) b, c.A⟩) (Go.Abs.pickN s.h F.mu xs) [] hp
    (fun b hs => ⟨hs.1, .inl hs, fun ho => hs.2.2 (pickV_own hp ho)⟩) (Frm.refl _ _) (fun b ho => .inr ho) (fun b hb => ⟨hb.1, fun ho => hb.2.2 (pickV_own hp ho)⟩) H.ambNow
  refine (hF.2 w (Stab c.w0 c.S0 s.h β w) (β.pickV s.h (Go.Abs.pickN s.h F.mu xs) []) _ vs _ hpre (by rw [mArgsN_len]; exact hl) q1 (fun ob hob => ⟨q2 ob hob, ?_⟩) (fun j x v hx hv => ?_)).mono ?_
  · obtain ⟨i, hi⟩ := List.getElem?_of_mem hob
    obtain ⟨_, _, _, _, rfl, _⟩ := pickV_get hp hi
    exact vf_nil i
  · obtain ⟨y, hy, h⟩ := mArgsN_get hpu hx
    rcases h with rfl | ⟨rfl, hpy⟩
    · exact q3 _ _ (hr j y v hy hv)
    · exact (pure_rep (hr j y v hy hv) hpy).mono (fun b hs => ⟨hs.1, .inl hs, fun ho => hs.2.2 (pickV_own hp ho)⟩) (fun _ _ => rfl) (Pl.none_le _)
  · rintro e w' ⟨v, β', rfl, h1, h2, h3, h4⟩
    obtain ⟨g1, g2, g3⟩ := H.backN hp h1 h2 h3
    refine ⟨v, _, rfl, g1, g2, ?_⟩
    generalize hobs : (F.res (mArgsN s.h (Go.Abs.pickN s.h F.mu xs) F.mu xs) (pickV s.h (Go.Abs.pickN s.h F.mu xs) [])).2 = obs' at *
    have eh : (eCallN s F xs).h = setN (rwR s.h obs' (Go.Abs.pickN s.h F.mu xs)) s.h (Go.Abs.pickN s.h F.mu xs) obs' ++ (obs'.drop (Go.Abs.pickN s.h F.mu xs).length).map (rwOb s.h obs' (Go.Abs.pickN s.h F.mu xs)) := by simp only [eCallN, hobs]
    have ev' : (eCallN s F xs).val = rw2 s.h obs' (Go.Abs.pickN s.h F.mu xs) (F.res (mArgsN s.h (Go.Abs.pickN s.h F.mu xs) F.mu xs) (pickV s.h (Go.Abs.pickN s.h F.mu xs) [])).1 := by simp only [eCallN, hobs]
    rw [eh, ev']
    have r1 : ∀ u x, Rep w' (Stab w (Stab c.w0 c.S0 s.h β w) obs' β' w') β' u x → Rep w' (Stab c.w0 c.S0 (setN (rwR s.h obs' (Go.Abs.pickN s.h F.mu xs)) s.h (Go.Abs.pickN s.h F.mu xs) obs' ++ (obs'.drop (Go.Abs.pickN s.h F.mu xs).length).map (rwOb s.h obs' (Go.Abs.pickN s.h F.mu xs))) (β.backN β' s.h obs' (Go.Abs.pickN s.h F.mu xs)) w') (β.backN β' s.h obs' (Go.Abs.pickN s.h F.mu xs)) u (rw1 s.h obs' (Go.Abs.pickN s.h F.mu xs) x) := by
      intro u x hx
      cases x with
      | agg ys =>
        obtain ⟨cs, rfl, hlen, h1, hrep⟩ := hx.inv_agg
        refine .agg _ _ (by simpa using hlen) h1 fun j x c' hx hc => ?_
        rw [List.getElem?_map] at hx
        cases hj : ys[j]? with
        | none => rw [hj] at hx; cases hx
        | some y => rw [hj] at hx; injection hx with hx; subst hx; exact g3 _ _ (hrep j y c' hj hc)
      | _ => exact g3 _ _ hx
    generalize (F.res (mArgsN s.h (Go.Abs.pickN s.h F.mu xs) F.mu xs) (pickV s.h (Go.Abs.pickN s.h F.mu xs) [])).1 = y at h4
    cases y with
    | tup ys =>
      obtain ⟨cs, rfl, hlen, hrep⟩ := h4.inv_tup
      refine .tup _ _ (by simpa using hlen) fun j x c' hx hc => ?_
      rw [List.getElem?_map] at hx
      cases hj : ys[j]? with
      | none => rw [hj] at hx; cases hx
      | some y => rw [hj] at hx; injection hx with hx; subst hx; exact r1 _ _ (hrep j y c' hj hc)
    | _ => exact r1 _ _ h4

/-! ### the end of a slice is cut off -/
theorem HRel.trunc {c : Cx} {h : List Ob} {β : Pl} {w : World} {k m : Nat} {ob : Ob} {v : Value} (H : HRel c h β w) (hk : h[k]? = some ob) (hl : ob.live = true) (hbx : ob.bx = false) (hpos : 0 < ob.rows.length) (hm : m ≤ ob.rows.length)
    (hr : Rep w (Stab c.w0 c.S0 h β w) β v (.osub k ob.ver 0 m)) :
    ∃ β', HRel c (h.set k { ob with rows := ob.rows.take m, ver := ob.ver + 1 }) β' w ∧ (∀ v x, Rep w (Stab c.w0 c.S0 h β w) β v x → Rep w (Stab c.w0 c.S0 (h.set k { ob with rows := ob.rows.take m, ver := ob.ver + 1 }) β' w) β' v x) ∧
      Rep w (Stab c.w0 c.S0 (h.set k { ob with rows := ob.rows.take m, ver := ob.ver + 1 }) β' w) β' v (.osl k (ob.ver + 1)) := by
  obtain ⟨hszk, hrows, u', hu', hsh, hcells⟩ := H.objs k ob hk
  have key : ∃ g cap cur, u' = .slice (some ⟨g, 0, none⟩) ob.rows.length cap ∧ v = .slice (some ⟨g, 0, none⟩) m cap ∧ w.heap[g]? = some (.cells cur ob.ty (0, 0)) ∧ cur.size = cap * ob.sz ∧ ob.rows.length ≤ cap ∧ cap ≤ maxLen := by
    rcases hsh with ⟨_, h0, _⟩ | ⟨_, _, _, _, _, _, _, h, _⟩ | ⟨g', cap', cur, hcur, hcs, hle, hmax, h⟩
    · rw [h0] at hpos; simp at hpos
    · rw [hbx] at h; cases h
    rw [hbx] at h
    simp only [Bool.false_eq_true, if_false] at h
    subst h
    cases hr with
    | osub0 _ _ _ a u hu hz0 =>
      exfalso
      rw [hu] at hu'; injection hu' with eu; subst eu
      rcases hz0 with ⟨h, _⟩ | ⟨g, nn, h⟩
      · cases h
      · injection h with _ _ h; omega
    | osub _ _ _ _ g cc nn cap hcp hoc hu =>
      rw [hu] at hu'; injection hu' with eu
      injection eu with e1 e2 e3
      injection e1 with e1
      injection e1 with e1
      subst e1 e2 e3
      exact ⟨g, cap, cur, rfl, by rw [← hoc]; simp, hcur, hcs, hle, hmax⟩
  obtain ⟨g, cap, cur, rfl, rfl, hcur, hcs, hle, hmax⟩ := key
  have hput := H.put hk hl hu' { ob with rows := ob.rows.take m, ver := ob.ver + 1 } (.slice (some ⟨g, 0, none⟩) m cap) hl (.inr rfl) rfl (w' := w) rfl rfl rfl (Nat.le_refl _) (fun _ _ _ => rfl) (fun b hb => .inl hb)
    (fun r hr => hrows r (List.mem_of_mem_take hr))
    (.inr (.inr ⟨g, cap, cur, hcur, hcs, by simp; omega, hmax, by
      show if ob.bx = true then _ else _
      rw [hbx]
      simp only [Bool.false_eq_true, if_false, List.length_take]
      rw [Nat.min_eq_left hm]⟩))
    (fun S' β' tr i j x hx => by
      have hx' : at2 ob.rows i j = some x := by
        simp only [at2, List.getElem?_take] at hx ⊢
        split at hx
        · exact hx
        · cases hx
      obtain ⟨g2, cc, hg2, hcc, h1c, hrc⟩ := hcells i j x hx'
      exact ⟨g2, cc, hg2, hcc, h1c, tr _ _ hrc⟩)
  exact ⟨_, hput.1, hput.2, .osl _ _ _ (Pl.set_same _ _ _ _ _) rfl⟩

end Go.Abs

namespace Go.Abs
open Go.RowKit

structure Env where
  f : Nat → Option Fun
  m : Nat → Option MFun
  n : Nat → Option MFun
  A : List (Nat × List X)
structure Env.ok (P : Program) (E : Env) (c : Cx) : Prop where
  f : ∀ f F, E.f f = some F → GenCA c.A P f F
  m : ∀ f F, E.m f = some F → GenMA c.A P f F
  n : ∀ f F, E.n f = some F → GenNA c.A P f F
  a : c.A = E.A

/-- an operand; a package's variable as what it holds -/
def glX : Option (List X) → X
  | some cells => .pt cells
  | none => .top
def evG (E : Env) (s : St) : Operand → X
  | .global g => glX (E.A.lookup g)
  | x => ev s x
theorem lookup_mem {α : Type} : ∀ {l : List (Nat × α)} {k : Nat} {x : α}, l.lookup k = some x → (k, x) ∈ l
  | [], k, x, h => by cases h
  | (k', y) :: l, k, x, h => by
    rw [List.lookup_cons] at h
    split at h
    · rename_i e
      injection h with h
      have : k = k' := by simpa using e
      subst this h
      exact List.mem_cons_self
    · exact List.mem_cons_of_mem _ (lookup_mem h)
theorem rep_evG {P : Program} {E : Env} {c : Cx} (hE : E.ok P c) {s : St} {β : Pl} {a : Act} {w : World} (H : Rel c s β a w) (x : Operand) : Rep w (Stab c.w0 c.S0 s.h β w) β (a.eval x) (evG E s x) := by
  cases x with
  | global g =>
    simp only [evG]
    cases hl : E.A.lookup g with
    | none => exact .top _
    | some cells =>
      have hm : (g, cells) ∈ c.A := by rw [hE.a]; exact lookup_mem hl
      exact (H.2.2.1.ambNow _ hm).1.mono (fun _ h => h) (fun _ _ => rfl) (Pl.none_le _)
  | tmp t => exact rep_ev H (.tmp t)
  | const v => exact rep_ev H (.const v)
  | func f => exact rep_ev H (.func f)

def bad (s : St) : Eff := ⟨False, .top, s.h⟩

def eBuiltin (P : Program) (s : St) (b : Builtin) (ts : List Nat) (args : List X) : Eff :=
  match b, ts, args with
  | .len, [T], [x] => eLen P s T x
  | .append, [T, T'], [a, x] => if T = T' then eAppend P s T a x else bad s
  | .min, _, args => eMin s args
  | .max, _, args => eMax s args
  | .clear, [T], [x] => eClear P s T x
  | _, _, _ => bad s

def eFn (E : Env) (s : St) (f : X) (args : List X) : Eff :=
  match f with
  | .fn g cap => match E.f g with
    | some F => eCall s F (args ++ cap)
    | none => match E.m g with
      | some F => eCallM s F (args ++ cap)
      | none => match E.n g with
        | some F => eCallN s F (args ++ cap)
        | none => bad s
  | _ => bad s

def eBin (P : Program) (s : St) (op : BinOp) (T : Nat) (x y : X) : Eff :=
  match x, y with
  | .v a, .v b => ⟨binC P T op a b, .v (binV op a b), s.h⟩
  | .agg xs, .agg ys => match eqPlan P T, vals xs, vals ys with
    | some l, some cs, some ds => match op, planEq cs.toArray ds.toArray l with
      | .eql, some b => ⟨l.all (fun p => p.2 < szOf P T) = true ∧ xs.length = szOf P T ∧ ys.length = szOf P T, .v (.bool b), s.h⟩
      | .neq, some b => ⟨l.all (fun p => p.2 < szOf P T) = true ∧ xs.length = szOf P T ∧ ys.length = szOf P T, .v (.bool !b), s.h⟩
      | _, _ => bad s
    | _, _, _ => bad s
  | _, _ => bad s

def eNil (s : St) : X → Eff
  | .pt c => ⟨True, .pt c, s.h⟩
  | .optr k ver i j => ⟨True, .optr k ver i j, s.h⟩
  | .fn f c => ⟨True, .fn f c, s.h⟩
  | _ => bad s

def gdL (es : List (Bool × Bool)) (x : X) : X :=
  match es with
  | [] => x
  | e :: es => .gd (e :: es) x
def un (p want : Bool) : X → X
  | .gd (e :: es) x => if e.1 = p ∧ e.2 = want then gdL es x else .gd (e :: es) x
  | x => x
theorem un_rep {w : World} {S : Nat → Prop} {β : Pl} {u : Value} {x : X} {p want : Bool} (h : p = want) (hr : Rep w S β u x) : Rep w S β u (un p want x) := by
  unfold un
  split
  · rename_i e es y
    split
    · rename_i he
      have he' : e.1 = e.2 := by rw [he.1, he.2]; exact h
      cases hr with
      | gd _ _ _ hh hu =>
        unfold gdL
        split
        · exact hh ⟨he', trivial⟩
        · exact .gd _ _ _ (fun h1 => hh ⟨he', h1⟩) fun h1 => hu fun h2 => h1 h2.2
    · exact hr
  · exact hr
def unL : List (Bool × Bool) → X → X
  | [], x => x
  | e :: es, x => unL es (un e.1 e.2 x)
theorem unL_rep {w : World} {S : Nat → Prop} {β : Pl} {u : Value} : ∀ (es : List (Bool × Bool)) (x : X), allT es → Rep w S β u x → Rep w S β u (unL es x)
  | [], _, _, hr => hr
  | e :: es, x, h, hr => unL_rep es (un e.1 e.2 x) h.2 (un_rep h.1 hr)
def unT (es : List (Bool × Bool)) (t : Nat → X) : Nat → X := fun i => unL es (t i)
def St.un (s : St) (es : List (Bool × Bool)) : St := ⟨s.n, unT es s.t, s.h⟩
theorem Rel.un {c : Cx} {s : St} {β : Pl} {a : Act} {w : World} {es : List (Bool × Bool)} (h : allT es) (H : Rel c s β a w) : Rel c (s.un es) β a w := ⟨H.1, H.2.1, H.2.2.1, fun t => unL_rep es _ h (H.2.2.2 t)⟩
def pX (p : Bool) (a b : X) : X := if p then un p true a else un p false b
def ePick (s : St) (c a b : X) : Eff :=
  match c with
  | .v (.bool p) => ⟨True, pX p a b, s.h⟩
  | _ => bad s

def aop (P : Program) (E : Env) (s : St) : Op → Eff
  | .move x | .assign x => ⟨True, ev s x, s.h⟩
  | .pick c a b => ePick s (ev s c) (ev s a) (ev s b)
  | .alloc T => eAlloc P s T
  | .box T x => eBox s T (ev s x)
  | .build T ps => eBuild P s T (ps.toList.map fun p => (p.1, ev s p.2))
  | .buildSlice T n ps => eBuildSlice P s T n (ps.toList.map fun p => (p.1, ev s p.2))
  | .load T a => eLoad P s T (evG E s a)
  | .store T a x => eStore P s T (ev s a) (ev s x)
  | .nilCheck x => eNil s (ev s x)
  | .binOp op T x y _ => eBin P s op T (ev s x) (ev s y)
  | .unOp op _ x => eUn s op (ev s x)
  | .convert a b x => eConv P s a b (ev s x)
  | .makeFunc (.func f) first cap => if first.size = 0 then ⟨True, .fn f (cap.toList.map (ev s)), s.h⟩ else bad s
  | .makeSlice T l c => eMake P s T (ev s l) (ev s c)
  | .slice T x lo hi mx => eSlice P s T (ev s x) (lo.map (ev s)) (hi.map (ev s)) (mx.map (ev s))
  | .fieldAddr T x f => eFieldAddr P s T f (evG E s x)
  | .field T x f => eField P s T f (ev s x)
  | .indexAddr T x i => eIndexAddr P s T (evG E s x) (ev s i)
  | .index T x i => eIndex P s T (ev s x) (ev s i)
  | .extract t i => eExtract s (ev s t) i
  | .makeMap T r => eMakeMap P s T (r.map (ev s))
  | .lookup T x i ok => eLookup P s T (ev s x) (ev s i) ok
  | .mapUpdate T x i y => eMapSet P s T (ev s x) (ev s i) (ev s y)
  | .call { callee := .builtin b, args, argTypes } => eBuiltin P s b argTypes.toList (args.toList.map (ev s))
  | .call { callee := .value f, args, .. } => eFn E s (ev s f) (args.toList.map (ev s))
  | _ => bad s

theorem vals_eq {w : World} {S : Nat → Prop} {β : Pl} : ∀ {xs : List X} {cs : Array Value} {vs : List Value}, cs.size = xs.length → (∀ (j : Nat) x c, xs[j]? = some x → cs[j]? = some c → Rep w S β c x) → vals xs = some vs → cs = vs.toArray := by
  intro xs
  induction xs with
  | nil =>
    intro cs vs hl _ hv
    simp only [vals, Option.some.injEq] at hv
    subst hv
    exact Array.eq_empty_of_size_eq_zero hl
  | cons x xs ih =>
    intro cs vs hl hr hv
    cases x with
    | v y =>
      simp only [vals] at hv
      cases hq : vals xs with
      | none => rw [hq] at hv; cases hv
      | some us =>
        rw [hq] at hv
        injection hv with hv
        subst hv
        obtain ⟨l⟩ := cs
        match l, hl, hr with
        | c :: l, hl, hr =>
          have h0 := (hr 0 (.v y) c rfl (by simp)).inv_v.1
          subst h0
          have := ih (cs := l.toArray) (vs := us) (by simpa using hl) (fun j x c' hx hc => hr (j + 1) x c' (by simpa using hx) (by simpa using hc)) hq
          simp at this
          subst this
          rfl
    | _ => cases hv

/-- one operation, in every related world -/
def Does1 (P : Program) (c : Cx) (s : St) (β : Pl) (a : Act) (w : World) (o : Oper) (e : Eff) : Prop :=
  ∀ (K : Act → World → Prop) (Q : Exit → Act → World → Prop),
    (∀ v β' w', HRel c e.h β' w' → (∀ u x, Rep w (Stab c.w0 c.S0 s.h β w) β u x → Rep w' (Stab c.w0 c.S0 e.h β' w') β' u x) → Rep w' (Stab c.w0 c.S0 e.h β' w') β' v e.val → K (a.put o.dst v) w') → o.wp P a w K Q

theorem does1_of {P : Program} {c : Cx} {s : St} {β : Pl} {a : Act} {w : World} {o : Oper} {e : Eff} {sem : Sem Value} (hx : execOp a.eval o = (do pure (.value (← sem)))) (h : Does P c s β w sem e) : Does1 P c s β a w o e := by
  intro K Q hK
  obtain ⟨v, w', β', hrun, h1, h2, h3⟩ := h
  unfold Oper.wp
  rw [hx]
  simp only [Sem.run_bind, hrun, Result.andThen_ok, Sem.run_pure]
  exact hK v β' w' h1 h2 h3

theorem rep_evs {c : Cx} {s : St} {β : Pl} {a : Act} {w : World} (H : Rel c s β a w) (xs : Array Operand) : ∀ (j : Nat) x v, (xs.toList.map (ev s))[j]? = some x → (xs.map a.eval)[j]? = some v → Rep w (Stab c.w0 c.S0 s.h β w) β v x := by
  intro j x v hx hv
  rw [List.getElem?_map, Array.getElem?_toList] at hx
  rw [Array.getElem?_map] at hv
  cases hj : xs[j]? with
  | none => rw [hj] at hx; cases hx
  | some y =>
    rw [hj] at hx hv
    injection hx with hx
    injection hv with hv
    subst hx hv
    exact rep_ev H y

theorem rep_parts {c : Cx} {s : St} {β : Pl} {a : Act} {w : World} (H : Rel c s β a w) (ps : Array (Nat × Operand)) :
    (ps.toList.map fun p => (p.1, ev s p.2)).map (·.1) = ((ps.map fun (i, x) => (i, a.eval x)).toList).map (·.1) ∧
    ∀ (j : Nat) p q, (ps.toList.map fun p => (p.1, ev s p.2))[j]? = some p → ((ps.map fun (i, x) => (i, a.eval x)).toList)[j]? = some q → Rep w (Stab c.w0 c.S0 s.h β w) β q.2 p.2 := by
  refine ⟨by simp, fun j p q hp hq => ?_⟩
  rw [List.getElem?_map, Array.getElem?_toList] at hp
  rw [Array.getElem?_toList, Array.getElem?_map] at hq
  cases hj : ps[j]? with
  | none => rw [hj] at hp; cases hp
  | some y =>
    rw [hj] at hp hq
    injection hp with hp
    injection hq with hq
    subst hp hq
    exact rep_ev H y.2

set_option maxHeartbeats 4000000 in
theorem aop_sound {P : Program} {E : Env} {c : Cx} (hE : E.ok P c) {s : St} {β : Pl} {a : Act} {w : World} (H : Rel c s β a w) (o : Oper) (hc : (aop P E s o.op).cond) : Does1 P c s β a w o (aop P E s o.op) := by
  obtain ⟨dst, op, type, pos, after, guard⟩ := o
  have HH := H.2.2.1
  cases op with
  | move x => exact does1_of (sem := pure (a.eval x)) rfl (Does.pure HH rfl (rep_ev H x))
  | assign x => exact does1_of (sem := pure (a.eval x)) rfl (Does.pure HH rfl (rep_ev H x))
  | pick cc x y =>
    have hr := rep_ev H cc
    simp only [aop] at hc ⊢
    unfold ePick at hc ⊢
    split at hc
    · rename_i p hp
      rw [hp] at hr
      obtain ⟨hv, _⟩ := hr.inv_v
      intro K Q hK
      unfold Oper.wp execOp
      simp only [hv, asBool, Sem.run_bind, Sem.run_pure, Result.andThen_ok]
      refine hK _ β w HH (fun _ _ h => h) ?_
      cases p
      · exact un_rep rfl (rep_ev H y)
      · exact un_rep rfl (rep_ev H x)
    · exact hc.elim
  | alloc T => exact does1_of (sem := Instr.alloc T true (.tuple #[])) rfl (alloc_does HH hc)
  | box T x => exact does1_of (sem := Instr.box T (a.eval x)) rfl (box_does HH (rep_ev H x) hc)
  | build T ps => exact does1_of (sem := Instr.build T (ps.map fun (i, x) => (i, a.eval x))) rfl (build_does HH (rep_parts H ps).1 (rep_parts H ps).2 hc)
  | buildSlice T n ps => exact does1_of (sem := Instr.buildSlice T n (ps.map fun (i, x) => (i, a.eval x))) rfl (buildSlice_does HH (rep_parts H ps).1 (rep_parts H ps).2 hc)
  | load T x => exact does1_of (sem := Instr.loadAt T (a.eval x)) rfl (load_does HH (rep_evG hE H x) hc)
  | store T x y =>
    intro K Q hK
    obtain ⟨w', β', hrun, h1, h2⟩ := store_does HH (rep_ev H x) (rep_ev H y) hc
    have hval : (eStore P s T (ev s x) (ev s y)).val = .top := by
      unfold eStore
      split
      · split <;> rfl
      · rfl
    unfold Oper.wp execOp
    simp only [Sem.run_bind, hrun, Result.andThen_ok, Sem.run_pure]
    refine hK undef β' w' h1 h2 ?_
    show Rep _ _ _ _ (eStore P s T (ev s x) (ev s y)).val
    rw [hval]; exact .top _
  | nilCheck x =>
    have hr := rep_ev H x
    simp only [aop] at hc ⊢
    unfold eNil at hc ⊢
    split at hc
    · rename_i cells hp
      rw [hp] at hr
      obtain ⟨ad, cs, hu, _⟩ := hr.inv_pt
      rw [hu] at hr
      intro K Q hK
      unfold Oper.wp execOp
      simp only [hu, Sem.run_pure]
      exact hK _ β w HH (fun _ _ h => h) hr
    · rename_i k ver i j hp
      rw [hp] at hr
      obtain ⟨g, v, _, _, hu⟩ := hr.inv_optr
      rw [hu] at hr
      intro K Q hK
      unfold Oper.wp execOp
      simp only [hu, Sem.run_pure]
      exact hK _ β w HH (fun _ _ h => h) hr
    · rename_i f cap hp
      rw [hp] at hr
      obtain ⟨cs, hu, _⟩ := hr.inv_fn
      rw [hu] at hr
      intro K Q hK
      unfold Oper.wp execOp
      simp only [hu, Sem.run_pure]
      exact hK _ β w HH (fun _ _ h => h) hr
    · exact hc.elim
  | binOp op T x y T' =>
    have hx := rep_ev H x
    have hy := rep_ev H y
    simp only [aop] at hc ⊢
    unfold eBin at hc ⊢
    split at hc
    · rename_i u v hu hv
      rw [hu] at hx; rw [hv] at hy
      obtain ⟨e1, _⟩ := hx.inv_v
      obtain ⟨e2, _⟩ := hy.inv_v
      obtain ⟨h1, h2⟩ := binV_run hc w x y
      exact does1_of (sem := do eqGuard op T x y (a.eval x) (a.eval y); binOp op T (a.eval x) (a.eval y)) rfl (Does.pure HH (by rw [e1, e2]; exact h1) (.v _ h2))
    · rename_i xs ys hxs hys
      rw [hxs] at hx; rw [hys] at hy
      obtain ⟨cs, e1, hl1, _, hr1⟩ := hx.inv_agg
      obtain ⟨ds, e2, hl2, _, hr2⟩ := hy.inv_agg
      split at hc
      · rename_i l vs us hp hv1 hv2
        have g1 := vals_eq hl1 hr1 hv1
        have g2 := vals_eq hl2 hr2 hv2
        subst g1 g2
        split at hc
        · rename_i b hb
          obtain ⟨c1, c2, c3⟩ := hc
          rw [List.all_eq_true] at c1
          have key := (run_eqStruct hp hb (fun p hp => by simpa using c1 p hp) (hl1.trans c2) (hl2.trans c3) w x y).1
          exact does1_of (sem := do eqGuard .eql T x y (a.eval x) (a.eval y); binOp .eql T (a.eval x) (a.eval y)) rfl (Does.pure HH (by rw [e1, e2]; exact key) (.v _ rfl))
        · rename_i b hb
          obtain ⟨c1, c2, c3⟩ := hc
          rw [List.all_eq_true] at c1
          have key := (run_eqStruct hp hb (fun p hp => by simpa using c1 p hp) (hl1.trans c2) (hl2.trans c3) w x y).2
          exact does1_of (sem := do eqGuard .neq T x y (a.eval x) (a.eval y); binOp .neq T (a.eval x) (a.eval y)) rfl (Does.pure HH (by rw [e1, e2]; exact key) (.v _ rfl))
        · exact hc.elim
      · exact hc.elim
    · exact hc.elim
  | unOp op T x => exact does1_of (sem := Op.unary op (a.eval x)) rfl (un_does HH (rep_ev H x) hc)
  | convert src dd x => exact does1_of (sem := Go.convert src dd (a.eval x)) rfl (conv_does HH (rep_ev H x) hc)
  | makeFunc fn first cap =>
    cases fn with
    | func f =>
      simp only [aop] at hc ⊢
      split at hc
      · rename_i hz
        rw [if_pos hz]
        have e1 : first = #[] := Array.eq_empty_of_size_eq_zero hz
        refine does1_of (sem := Instr.makeFunc (.func f) (first.map a.eval) (cap.map a.eval)) rfl (Does.pure HH rfl ?_)
        rw [e1]
        simp only [Array.map_empty]
        exact .fn f _ _ (by simp) (rep_evs H cap)
      · exact hc.elim
    | _ => exact hc.elim
  | makeSlice T l cp => exact does1_of (sem := Instr.makeSlice T (a.eval l) (a.eval cp)) rfl (make_does HH (rep_ev H l) (rep_ev H cp) hc)
  | slice T x lo hi mx =>
    refine does1_of (sem := Instr.sliceAt T (a.eval x) (lo.map a.eval) (hi.map a.eval) (mx.map a.eval)) rfl (slice_does HH (rep_ev H x) (fun v hv => ?_) (fun hn => ?_) (fun v hv => ?_) (fun hn => ?_) (fun hn => ?_) (fun z hz => ?_) hc)
    · cases lo with
      | none => cases hv
      | some y => injection hv with hv; subst hv; exact ⟨_, rfl, rep_ev H y⟩
    · cases lo with
      | none => rfl
      | some y => cases hn
    · cases hi with
      | none => cases hv
      | some y => injection hv with hv; subst hv; exact ⟨_, rfl, rep_ev H y⟩
    · cases hi with
      | none => rfl
      | some y => cases hn
    · cases mx with
      | none => rfl
      | some y => cases hn
    · cases mx with
      | none => cases hz
      | some y => injection hz with hz; subst hz; exact ⟨_, rfl, rep_ev H y⟩
  | fieldAddr T x f => exact does1_of (sem := Instr.fieldAt T (a.eval x) f) rfl (fieldAddr_does HH (rep_evG hE H x) hc)
  | field T x f => exact does1_of (sem := Instr.field T (a.eval x) f) rfl (field_does HH (rep_ev H x) hc)
  | indexAddr T x i => exact does1_of (sem := Instr.indexAt T (a.eval x) (a.eval i)) rfl (indexAddr_does HH (rep_evG hE H x) (rep_ev H i) hc)
  | index T x i => exact does1_of (sem := Instr.index T (a.eval x) (a.eval i)) rfl (index_does HH (rep_ev H x) (rep_ev H i) hc)
  | extract t i => exact does1_of (sem := Instr.extract (a.eval t) i) rfl (extract_does HH (rep_ev H t) hc)
  | makeMap T r =>
    refine does1_of (sem := Instr.makeMap T (r.map a.eval)) rfl (makeMap_does HH (fun v hv => ?_) (fun hn => ?_) hc)
    · cases r with
      | none => cases hv
      | some y => injection hv with hv; subst hv; exact ⟨_, rfl, rep_ev H y⟩
    · cases r with
      | none => rfl
      | some y => cases hn
  | lookup T x i ok => exact does1_of (sem := Instr.lookup T (a.eval x) (a.eval i) ok) rfl (lookup_does HH (rep_ev H x) (rep_ev H i) hc)
  | mapUpdate T x i y =>
    intro K Q hK
    obtain ⟨hval, w', β', hrun, h1, h2⟩ := mapSet_does HH (rep_ev H x) (rep_ev H i) (rep_ev H y) hc
    unfold Oper.wp execOp
    simp only [Sem.run_bind, hrun, Result.andThen_ok, Sem.run_pure]
    refine hK undef β' w' h1 h2 ?_
    show Rep _ _ _ _ (eMapSet P s T (ev s x) (ev s i) (ev s y)).val
    rw [hval]; exact .top _
  | call cl =>
    obtain ⟨callee, args, argTypes⟩ := cl
    cases callee with
    | invoke r m => exact hc.elim
    | value f =>
      have hf := rep_ev H f
      simp only [aop] at hc ⊢
      unfold eFn at hc ⊢
      split at hc
      · rename_i g cap hg
        rw [hg] at hf
        obtain ⟨cs, hu, hl, hrep⟩ := hf.inv_fn
        have hargs : ∀ (j : Nat) x v, (args.toList.map (ev s) ++ cap)[j]? = some x → (args.map a.eval ++ cs)[j]? = some v → Rep w (Stab c.w0 c.S0 s.h β w) β v x := by
          intro j x v hx hv
          rcases Nat.lt_or_ge j args.size with h | h
          · rw [List.getElem?_append_left (by simpa using h)] at hx
            rw [Array.getElem?_append_left (by simpa using h)] at hv
            exact rep_evs H args j x v hx hv
          · rw [List.getElem?_append_right (by simpa using h)] at hx
            rw [Array.getElem?_append_right (by simpa using h)] at hv
            simp only [List.length_map, Array.length_toList] at hx
            simp only [Array.size_map] at hv
            exact hrep _ x v hx hv
        split at hc
        · rename_i F hF
          have hg' := hE.f g F hF
          intro K Q hK
          unfold Oper.wp execOp
          simp only [resolve, hu, Deferred.ofValue, invoke, Sem.run_bind, Sem.run_pure, Result.andThen_ok, hg'.1, Array.empty_append]
          refine (call_does hg' HH (vs := args.map a.eval ++ cs) (xs := args.toList.map (ev s) ++ cap) (by simp [hl]) hargs hc).mono ?_
          rintro e w' ⟨v, β', rfl, h1, h2, h3⟩
          exact hK v β' w' h1 h2 h3
        · split at hc
          · rename_i F hF
            have hg' := hE.m g F hF
            intro K Q hK
            unfold Oper.wp execOp
            simp only [resolve, hu, Deferred.ofValue, invoke, Sem.run_bind, Sem.run_pure, Result.andThen_ok, hg'.1, Array.empty_append]
            refine (callM_does hg' HH (vs := args.map a.eval ++ cs) (xs := args.toList.map (ev s) ++ cap) (by simp [hl]) hargs hc).mono ?_
            rintro e w' ⟨v, β', rfl, h1, h2, h3⟩
            exact hK v β' w' h1 h2 h3
          · split at hc
            · rename_i F hF
              have hg' := hE.n g F hF
              intro K Q hK
              unfold Oper.wp execOp
              simp only [resolve, hu, Deferred.ofValue, invoke, Sem.run_bind, Sem.run_pure, Result.andThen_ok, hg'.1, Array.empty_append]
              refine (callN_does hg' HH (vs := args.map a.eval ++ cs) (xs := args.toList.map (ev s) ++ cap) (by simp [hl]) hargs hc).mono ?_
              rintro e w' ⟨v, β', rfl, h1, h2, h3⟩
              exact hK v β' w' h1 h2 h3
            · exact hc.elim
      · exact hc.elim
    | builtin b =>
      have hr := rep_evs H args
      have mk : ∀ {sem : Sem Value} {e : Eff}, (∀ cst, builtin b argTypes type cst (args.map a.eval) = (do pure (.value (← sem)))) → Does P c s β w sem e → Does1 P c s β a w ⟨dst, .call ⟨.builtin b, args, argTypes⟩, type, pos, after, guard⟩ e := by
        intro sem e hb h
        intro K Q hK
        obtain ⟨v, w', β', hrun, h1, h2, h3⟩ := h
        unfold Oper.wp execOp
        simp only [resolve, invoke, Sem.run_bind, Sem.run_pure, Result.andThen_ok]
        rw [hb]
        simp only [Sem.run_bind, hrun, Result.andThen_ok, Sem.run_pure]
        exact hK v β' w' h1 h2 h3
      have arr1 : ∀ x, args.toList.map (ev s) = [x] → ∃ y, args = #[y] ∧ ev s y = x := by
        intro x hx
        obtain ⟨l⟩ := args
        match l, hx with
        | [y], hx => simp at hx; exact ⟨y, rfl, hx⟩
      have arr2 : ∀ x y, args.toList.map (ev s) = [x, y] → ∃ x' y', args = #[x', y'] ∧ ev s x' = x ∧ ev s y' = y := by
        intro x y hx
        obtain ⟨l⟩ := args
        match l, hx with
        | [x', y'], hx => simp at hx; exact ⟨x', y', rfl, hx.1, hx.2⟩
      have ty1 : ∀ T, argTypes.toList = [T] → argTypes = #[T] := fun T h => by cases argTypes; simpa using h
      have ty2 : ∀ T T', argTypes.toList = [T, T'] → argTypes = #[T, T'] := fun T T' h => by cases argTypes; simpa using h
      simp only [aop] at hc ⊢
      unfold eBuiltin at hc ⊢
      split at hc
      · rename_i T x hT hx
        obtain ⟨y, rfl, rfl⟩ := arr1 x hx
        have := ty1 T hT
        subst this
        have em : (#[y] : Array Operand).map a.eval = #[a.eval y] := by simp
        exact mk (fun _ => by rw [em]; rfl) (len_does (ty := type) HH (rep_ev H y) hc)
      · rename_i T T' x y hT hx
        obtain ⟨x', y', rfl, rfl, rfl⟩ := arr2 x y hx
        have := ty2 T T' hT
        subst this
        split at hc
        · rename_i e
          subst e
          rw [if_pos rfl]
          have em : (#[x', y'] : Array Operand).map a.eval = #[a.eval x', a.eval y'] := by simp
          exact mk (fun _ => by rw [em]; rfl) (append_does (ty := type) HH (rep_ev H x') (rep_ev H y') hc)
        · exact hc.elim
      · unfold eMin at hc ⊢
        split at hc
        · rename_i k x k' y hx
          obtain ⟨x', y', rfl, hx', hy'⟩ := arr2 _ _ hx
          have h1 := rep_ev H x'
          have h2 := rep_ev H y'
          rw [hx'] at h1; rw [hy'] at h2
          obtain ⟨e1, _⟩ := h1.inv_v
          obtain ⟨e2, _⟩ := h2.inv_v
          refine mk (fun _ => rfl) (Does.pure HH (v := .int k (if y < x then y else x)) ?_ (.v _ rfl))
          simp [Builtin.min_, Builtin.min2, e1, e2]
        · exact hc.elim
      · unfold eMax at hc ⊢
        split at hc
        · rename_i k x k' y hx
          obtain ⟨x', y', rfl, hx', hy'⟩ := arr2 _ _ hx
          have h1 := rep_ev H x'
          have h2 := rep_ev H y'
          rw [hx'] at h1; rw [hy'] at h2
          obtain ⟨e1, _⟩ := h1.inv_v
          obtain ⟨e2, _⟩ := h2.inv_v
          refine mk (fun _ => rfl) (Does.pure HH (v := .int k (if y > x then y else x)) ?_ (.v _ rfl))
          simp [Builtin.max_, Builtin.max2, e1, e2]
        · exact hc.elim
      · rename_i T x hT hx
        obtain ⟨y, rfl, rfl⟩ := arr1 x hx
        have := ty1 T hT
        subst this
        have em : (#[y] : Array Operand).map a.eval = #[a.eval y] := by simp
        exact mk (fun _ => by rw [em]; rfl) (clear_does (ty := type) HH (rep_ev H y) hc)
      · exact hc.elim
  | _ => exact hc.elim

end Go.Abs

namespace Go.Abs
open Go.RowKit
set_option linter.unusedSimpArgs false

/-- the effect in a region that draws its order: what is made there is read as data -/
def eFnD (E : Env) (s : St) (f : X) (args : List X) : Eff :=
  match f with
  | .fn g cap => match E.f g with
    | some F => ⟨F.pre ((args ++ cap).map (purN s.h 3)) ∧ (F.res ((args ++ cap).map (purN s.h 3))).2 = [] ∧ ((args ++ cap).all isPure = true ∨ mf2 (F.res ((args ++ cap).map (purN s.h 3))).1 = true),
        sh2 s.h.length (F.res ((args ++ cap).map (purN s.h 3))).1, s.h⟩
    | none => bad s
  | _ => bad s

def still : Op → Bool
  | .move _ | .assign _ | .pick .. | .load .. | .nilCheck _ | .binOp .. | .unOp .. | .convert .. | .makeFunc .. | .slice .. | .fieldAddr .. | .field .. | .indexAddr .. | .index .. | .extract .. | .build .. | .lookup .. => true
  | .call { callee := .builtin .len, .. } | .call { callee := .builtin .min, .. } | .call { callee := .builtin .max, .. } | .call { callee := .value _, .. } => true
  | _ => false

def eApD (P : Program) (s : St) (ts : List Nat) (args : List X) : Eff :=
  match ts, args with
  | [T, T'], [a, x] => if T = T' then eAppend0 P s T a x else bad s
  | _, _ => bad s
def aopD (P : Program) (E : Env) (s : St) (op : Op) : Eff :=
  match op with
  | .call { callee := .value f, args, .. } => eFnD E s (ev s f) (args.toList.map (ev s))
  | .buildSlice T n ps => eBSD P s T n (ps.toList.map fun p => (p.1, ev s p.2))
  | .call { callee := .builtin .append, args, argTypes } => eApD P s argTypes.toList (args.toList.map (ev s))
  | op => if still op then aop P E s op else bad s

set_option maxHeartbeats 4000000 in
theorem aopD_sound {P : Program} {E : Env} {c : Cx} (hE : E.ok P c)  {s : St} {β : Pl} {a : Act} {w : World} (H : Rel c s β a w) (o : Oper) (hc : (aopD P E s o.op).cond) : (aopD P E s o.op).h = s.h ∧ Does1 P c s β a w o (aopD P E s o.op) := by
  have gen : still o.op = true → (∀ f l ts, o.op ≠ .call ⟨.value f, l, ts⟩) → aopD P E s o.op = aop P E s o.op := by
    intro h1 h2
    unfold aopD
    split
    · rename_i f l ts he; exact absurd he (h2 f l ts)
    · rename_i T n ps he; rw [he] at h1; cases h1
    · rename_i l ts he; rw [he] at h1; cases h1
    · rw [if_pos h1]
  by_cases hbs : ∃ T n ps, o.op = .buildSlice T n ps
  · obtain ⟨T, n, ps, hbs⟩ := hbs
    have e1 : aopD P E s o.op = eBSD P s T n (ps.toList.map fun p => (p.1, ev s p.2)) := by rw [hbs]; rfl
    rw [e1] at hc ⊢
    refine ⟨?_, ?_⟩
    · unfold eBSD; split
      · rfl
      · split <;> rfl
    · obtain ⟨d, op, ty, pos, af, gu⟩ := o
      dsimp only at hbs
      subst hbs
      exact does1_of (sem := Instr.buildSlice T n (ps.map fun (i, x) => (i, a.eval x))) rfl (buildSlice_pure H.2.2.1 (rep_parts H ps).1 (rep_parts H ps).2 hc)
  by_cases hap : ∃ l ts, o.op = .call ⟨.builtin .append, l, ts⟩
  · obtain ⟨l, ts, hap⟩ := hap
    have e1 : aopD P E s o.op = eApD P s ts.toList (l.toList.map (ev s)) := by rw [hap]; rfl
    rw [e1] at hc ⊢
    unfold eApD at hc ⊢
    split at hc
    · rename_i T T' x y hT hx
      split at hc
      · rename_i e
        subst e
        rw [if_pos rfl]
        refine ⟨by unfold eAppend0; split <;> rfl, ?_⟩
        obtain ⟨l⟩ := l
        obtain ⟨ts⟩ := ts
        simp only at hT
        subst hT
        match l, hx with
        | [x', y'], hx =>
        simp only [List.map_cons, List.map_nil, List.cons.injEq, and_true] at hx
        obtain ⟨rfl, rfl⟩ := hx
        obtain ⟨d, op, ty, pos, af, gu⟩ := o
        dsimp only at hap
        subst hap
        have hd := append0_does (ty := ty) H.2.2.1 (rep_ev H x') (rep_ev H y') hc
        intro K Q hK
        obtain ⟨v, w', β', hrun, h1, h2, h3⟩ := hd
        unfold Oper.wp execOp
        simp only [resolve, invoke, Sem.run_bind, Sem.run_pure, Result.andThen_ok]
        have em : (#[x', y'] : Array Operand).map a.eval = #[a.eval x', a.eval y'] := by simp
        have hb : ∀ cst, builtin .append #[T, T] ty cst ((#[x', y'] : Array Operand).map a.eval) = (do pure (.value (← Builtin.append_ #[T, T] ty #[a.eval x', a.eval y']))) := fun _ => by rw [em]; rfl
        rw [hb]
        simp only [Sem.run_bind, hrun, Result.andThen_ok, Sem.run_pure]
        exact hK v β' w' h1 h2 h3
      · exact hc.elim
    · exact hc.elim
  by_cases hv : ∃ f l ts, o.op = .call ⟨.value f, l, ts⟩
  · obtain ⟨f, l, ts, hv⟩ := hv
    have e1 : aopD P E s o.op = eFnD E s (ev s f) (l.toList.map (ev s)) := by rw [hv]; rfl
    rw [e1] at hc ⊢
    have e2 : aop P E s o.op = eFn E s (ev s f) (l.toList.map (ev s)) := by rw [hv]; rfl
    unfold eFnD at hc ⊢
    split at hc
    · rename_i g cap hg
      split at hc
      · rename_i F hF
        obtain ⟨h1, h2, h3⟩ := hc
        refine ⟨rfl, ?_⟩
        have hs := aop_sound hE H o (by
          rw [e2]
          unfold eFn
          rw [hg]
          dsimp only
          rw [hF]
          exact ⟨h1, h3.imp id fun h => ⟨h, by rw [h2]; rfl⟩⟩)
        have e3 : aop P E s o.op = ⟨(aop P E s o.op).cond, sh2 s.h.length (F.res ((l.toList.map (ev s) ++ cap).map (purN s.h 3))).1, s.h⟩ := by
          rw [e2]
          unfold eFn
          rw [hg]
          dsimp only
          rw [hF]
          simp only [eCall, h2, List.map_nil, List.append_nil]
        rw [e3] at hs
        exact hs
      · exact hc.elim
    · exact hc.elim
  · have hne : ∀ f l ts, o.op ≠ .call ⟨.value f, l, ts⟩ := fun f l ts h => hv ⟨f, l, ts, h⟩
    by_cases hst : still o.op = true
    · have e1 := gen hst hne
      rw [e1] at hc ⊢
      refine ⟨?_, aop_sound hE H o hc⟩
      obtain ⟨dst, op, type, pos, after, guard⟩ := o
      cases op with
      | call cl =>
        obtain ⟨callee, args, ts⟩ := cl
        cases callee with
        | value f => exact absurd rfl (hne f args ts)
        | invoke r m => simp [still] at hst
        | builtin b =>
          simp only [aop]
          unfold eBuiltin
          split <;> first
            | (unfold eLen; split <;> rfl)
            | (simp [still] at hst; done)
            | (unfold eMin; split <;> rfl)
            | (unfold eMax; split <;> rfl)
            | rfl
      | move x => rfl
      | assign x => rfl
      | pick x y z => simp only [aop]; unfold ePick; split <;> rfl
      | load T x => simp only [aop]; unfold eLoad; split <;> rfl
      | nilCheck x => simp only [aop]; unfold eNil; split <;> rfl
      | binOp op T x y T' => simp only [aop]; unfold eBin; (repeat' split) <;> rfl
      | unOp op T x => simp only [aop]; unfold eUn; split <;> rfl
      | convert x y z => simp only [aop]; unfold eConv; split <;> first | rfl | (split <;> rfl)
      | makeFunc fn first cap =>
        cases fn with
        | func f => simp only [aop]; split <;> rfl
        | _ => rfl
      | slice T x lo hi mx => simp only [aop]; unfold eSlice; (repeat' split) <;> rfl
      | fieldAddr T x f => simp only [aop]; unfold eFieldAddr; (repeat' split) <;> rfl
      | field T x f => simp only [aop]; unfold eField; (repeat' split) <;> rfl
      | indexAddr T x i => simp only [aop]; unfold eIndexAddr; (repeat' split) <;> rfl
      | index T x i => simp only [aop]; unfold eIndex; (repeat' split) <;> rfl
      | extract t i => simp only [aop]; unfold eExtract; split <;> rfl
      | build T ps => simp only [aop]; unfold eBuild; (repeat' split) <;> rfl
      | lookup T x i ok => simp only [aop]; unfold eLookup; (repeat' split) <;> rfl
      | _ => simp [still] at hst
    · exfalso
      have : aopD P E s o.op = bad s := by
        unfold aopD
        split
        · rename_i f l ts he; exact absurd he (hne f l ts)
        · rename_i T n ps he; exact absurd ⟨T, n, ps, he⟩ hbs
        · rename_i l ts he; exact absurd ⟨l, ts, he⟩ hap
        · rw [if_neg hst]
      rw [this] at hc
      exact hc

theorem evG_congr {E : Env} {s s' : St} {x : Operand} (h : ev s x = ev s' x) : evG E s x = evG E s' x := by
  cases x with
  | global g => rfl
  | _ => exact h
theorem ev_congr {s s' : St} {x : Operand} (h : ∀ t, x = .tmp t → s.t t = s'.t t) : ev s x = ev s' x := by
  cases x with
  | tmp t => exact h t rfl
  | _ => rfl

/-- the effect hangs on the operands' values and the objects alone -/
theorem aopD_congr {P : Program} {E : Env} {s s' : St} (op : Op) (hh : s.h = s'.h) (h : ∀ x ∈ op.operands, ev s x = ev s' x) : aopD P E s op = aopD P E s' op := by
  have pairs : ∀ ps : Array (Nat × Operand), (∀ x ∈ (ps.toList.map (·.2)).toArray, ev s x = ev s' x) → (ps.toList.map fun p => (p.1, ev s p.2)) = (ps.toList.map fun p => (p.1, ev s' p.2)) := fun ps hp => by
    refine List.map_congr_left fun p hm => ?_
    rw [hp p.2 (by rw [List.mem_toArray]; exact List.mem_map.2 ⟨p, hm, rfl⟩)]
  have lst : ∀ xs : Array Operand, (∀ x ∈ xs, ev s x = ev s' x) → xs.toList.map (ev s) = xs.toList.map (ev s') := fun xs hx => List.map_congr_left fun x hm => hx x (by simpa using hm)
  cases op with
  | call cl =>
    obtain ⟨callee, args, ts⟩ := cl
    have ha := lst args fun x hx => h x (by cases callee <;> simp [Op.operands, Call.operands, hx])
    cases callee with
    | value f =>
      have hf := h f (by simp [Op.operands, Call.operands])
      simp only [aopD, eFnD, hf, ha, hh, bad]
    | invoke r m => simp [aopD, still, bad, hh]
    | builtin b =>
      by_cases hba : b = .append
      · subst hba
        show eApD P s ts.toList (args.toList.map (ev s)) = eApD P s' ts.toList (args.toList.map (ev s'))
        rw [ha]
        simp only [eApD, eAppend0, bad, hh]
      have hun : ∀ (s : St) , aopD P E s (.call ⟨.builtin b, args, ts⟩) = if still (.call ⟨.builtin b, args, ts⟩) then aop P E s (.call ⟨.builtin b, args, ts⟩) else bad s := fun s => by
        cases b <;> first | rfl | exact absurd rfl hba
      rw [hun, hun]
      have hb : ∀ bb, eBuiltin P s bb ts.toList (args.toList.map (ev s)) = eBuiltin P s' bb ts.toList (args.toList.map (ev s')) ∨ still (.call ⟨.builtin bb, args, ts⟩) = false := by
        intro bb
        cases bb with
        | len => left; rw [ha]; simp only [eBuiltin, bad, hh, eLen, eAppend, eMin, eMax, eClear]
        | min => left; rw [ha]; simp only [eBuiltin, bad, hh, eLen, eAppend, eMin, eMax, eClear]
        | max => left; rw [ha]; simp only [eBuiltin, bad, hh, eLen, eAppend, eMin, eMax, eClear]
        | _ => right; rfl
      rcases hb b with e | e
      · simp only [aop, bad, hh]; rw [e]
      · simp only [e, Bool.false_eq_true, if_false, bad, hh]
  | makeFunc fn first cap =>
    have hc := lst cap fun x hx => h x (by simp [Op.operands, hx])
    cases fn <;> simp only [aopD, still, aop, bad, hc, hh]
  | build T ps =>
    have hp := pairs ps (fun x hx => h x hx)
    simp only [aopD, still, aop, bad, hp]
    simp only [eBuild, hh]
  | buildSlice T n ps =>
    have hp := pairs ps (fun x hx => h x hx)
    simp only [aopD, hp]
    simp only [eBSD, hh]
  | move x => simp only [aopD, still, aop, bad, h x (by simp [Op.operands]), hh]
  | assign x => simp only [aopD, still, aop, bad, h x (by simp [Op.operands]), hh]
  | pick x y z => simp only [aopD, still, aop, bad, ePick, h x (by simp [Op.operands]), h y (by simp [Op.operands]), h z (by simp [Op.operands]), hh]
  | load T x => simp only [aopD, still, aop, bad, eLoad, evG_congr (E := E) (h x (by simp [Op.operands])), hh]
  | nilCheck x => simp only [aopD, still, aop, bad, eNil, h x (by simp [Op.operands]), hh]
  | binOp op T x y T' => simp only [aopD, still, aop, bad, eBin, h x (by simp [Op.operands]), h y (by simp [Op.operands]), hh]
  | unOp op T x => simp only [aopD, still, aop, bad, eUn, h x (by simp [Op.operands]), hh]
  | convert x y z => simp only [aopD, still, aop, bad, eConv, h z (by simp [Op.operands]), hh]
  | slice T x lo hi mx =>
    have e1 : lo.map (ev s) = lo.map (ev s') := by cases lo with | none => rfl | some y => simp [h y (by simp [Op.operands])]
    have e2 : hi.map (ev s) = hi.map (ev s') := by cases hi with | none => rfl | some y => simp [h y (by simp [Op.operands])]
    have e3 : mx.map (ev s) = mx.map (ev s') := by cases mx with | none => rfl | some y => simp [h y (by simp [Op.operands])]
    simp only [aopD, still, aop, bad, eSlice, e1, e2, e3, h x (by simp [Op.operands]), hh]
  | fieldAddr T x f => simp only [aopD, still, aop, bad, eFieldAddr, evG_congr (E := E) (h x (by simp [Op.operands])), hh]
  | field T x f => simp only [aopD, still, aop, bad, eField, h x (by simp [Op.operands]), hh]
  | indexAddr T x i => simp only [aopD, still, aop, bad, eIndexAddr, evG_congr (E := E) (h x (by simp [Op.operands])), h i (by simp [Op.operands]), hh]
  | index T x i => simp only [aopD, still, aop, bad, eIndex, h x (by simp [Op.operands]), h i (by simp [Op.operands]), hh]
  | extract t i => simp only [aopD, still, aop, bad, eExtract, h t (by simp [Op.operands]), hh]
  | lookup T x i ok => simp only [aopD, still, aop, bad, eLookup, h x (by simp [Op.operands]), h i (by simp [Op.operands]), hh]
  | _ => simp [aopD, still, bad, hh]

/-! ### which operations must have run before which -/
def edgesOf (ops : Array Oper) (i : Nat) : List Nat := ((ops[i]?).map fun o => (o.after.toList.filter (Region.binds .any)).map (·.on)).getD []
def ancStep (ops : Array Oper) (acc : List (List Nat)) (i : Nat) : List (List Nat) := acc ++ [((edgesOf ops i).flatMap fun j => j :: acc.getD j []).eraseDups]
def ancs (ops : Array Oper) (n : Nat) : List (List Nat) := (List.range n).foldl (ancStep ops) []

theorem ancs_length (ops : Array Oper) (n : Nat) : (ancs ops n).length = n := by
  unfold ancs
  induction n with
  | zero => rfl
  | succ n ih => rw [List.range_succ, List.foldl_append]; simp [ancStep, ih]
theorem ancs_succ (ops : Array Oper) (n : Nat) : ancs ops (n + 1) = ancStep ops (ancs ops n) n := by
  unfold ancs; rw [List.range_succ, List.foldl_append]; rfl
theorem ancs_getD (ops : Array Oper) : ∀ n i, i < n → (ancs ops n).getD i [] = ((edgesOf ops i).flatMap fun j => j :: (ancs ops i).getD j []).eraseDups := by
  intro n
  induction n with
  | zero => intro i h; omega
  | succ n ih =>
    intro i h
    rw [ancs_succ]
    unfold ancStep
    rcases Nat.lt_or_eq_of_le (Nat.lt_succ_iff.1 h) with hlt | rfl
    · rw [← ih i hlt]
      simp only [List.getD]
      rw [List.getElem?_append_left (by rw [ancs_length]; exact hlt)]
    · simp only [List.getD]
      rw [List.getElem?_append_right (by rw [ancs_length]; omega), ancs_length]
      simp

/-- a set of operations that have run, closed under what must have run before -/
theorem anc_mem {ops : Array Oper} {L : Nat → Prop} (hL : ∀ i, L i → ∀ j ∈ edgesOf ops i, L j) : ∀ n i, i < n → (∀ j ∈ edgesOf ops i, L j) → ∀ j ∈ (ancs ops n).getD i [], L j := by
  intro n i hi
  induction i using Nat.strongRecOn generalizing n with
  | _ i ih =>
    intro he j hj
    rw [ancs_getD ops n i hi, List.mem_eraseDups, List.mem_flatMap] at hj
    obtain ⟨k, hk, hj⟩ := hj
    rcases List.mem_cons.1 hj with rfl | hj
    · exact he _ hk
    · rcases Nat.lt_or_ge k i with hlt | hge
      · exact ih k hlt i hlt (hL k (he k hk)) j hj
      · have : (ancs ops i).getD k [] = [] := by simp only [List.getD]; rw [List.getElem?_eq_none (by rw [ancs_length]; exact hge)]; rfl
        rw [this] at hj; simp at hj

end Go.Abs
