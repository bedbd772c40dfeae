/-
  What is proved here: two values of a struct made of numbers, strings and bools are compared cell by cell. Condition: a check of the type.
-/
import Derived.Test.YtglbimhhiikkpaaDoorAbs9
import Derived.Laws.StructEq
namespace Go.Abs
open Go.RowKit
set_option linter.unusedSimpArgs false

/-- the kinds of a struct's cells: 0 a number, 1 a string, 2 a bool; with their places -/
def fPlan (rec : Nat → Option (List (Nat × Nat))) (sz : Nat → Nat) : List Field → Option (List (Nat × Nat))
  | [] => some []
  | f :: fs => if f.name = "_" then none else match rec f.type, fPlan rec sz fs with
    | some l, some m => if l.all (fun p => p.2 < sz f.type) then some (l.map (fun p => (p.1, p.2 + f.offset)) ++ m) else none
    | _, _ => none
def plan (P : Program) : Nat → Nat → Option (List (Nat × Nat))
  | 0, _ => none
  | d + 1, T => match P.underlying T with
    | some (.int _) => if isAg P T = false ∧ okT P T = true then some [(0, 0)] else none
    | some .string => if isAg P T = false ∧ okT P T = true then some [(1, 0)] else none
    | some .bool => if isAg P T = false ∧ okT P T = true then some [(2, 0)] else none
    | some (.struct fs) => if isAg P T = true ∧ okT P T = true ∧ P.stoodInHeld T = false then fPlan (plan P d) (szOf P) fs.toList else none
    | _ => none

def leafEq (k : Nat) (a b : Value) : Option Bool :=
  match k, a, b with
  | 0, .int k x, .int k' y => if k = k' then some (x == y) else none
  | 1, .string x, .string y => some (x.toList == y.toList)
  | 2, .bool x, .bool y => some (x == y)
  | _, _, _ => none
/-- the answer, by the plan -/
def planEq (cs ds : Array Value) : List (Nat × Nat) → Option Bool
  | [] => some true
  | p :: l => match cs[p.2]?, ds[p.2]? with
    | some a, some b => match leafEq p.1 a b, planEq cs ds l with
      | some x, some y => some (x && y)
      | _, _ => none
    | _, _ => none

theorem planEq_append {cs ds : Array Value} : ∀ {l m : List (Nat × Nat)} {b : Bool}, planEq cs ds (l ++ m) = some b → ∃ x y, planEq cs ds l = some x ∧ planEq cs ds m = some y ∧ b = (x && y)
  | [], m, b, h => ⟨true, b, rfl, h, by simp⟩
  | p :: l, m, b, h => by
    simp only [List.cons_append, planEq] at h ⊢
    cases ha : cs[p.2]? with
    | none => rw [ha] at h; cases h
    | some a =>
      cases hb : ds[p.2]? with
      | none => rw [ha, hb] at h; cases h
      | some b' =>
        rw [ha, hb] at h
        try simp only at h
        try simp only
        cases hl : leafEq p.1 a b' with
        | none => rw [hl] at h; cases h
        | some z =>
          rw [hl] at h
          cases hq : planEq cs ds (l ++ m) with
          | none => rw [hq] at h; cases h
          | some q =>
            rw [hq] at h
            injection h with h
            obtain ⟨x, y, h1, h2, h3⟩ := planEq_append hq
            refine ⟨z && x, y, by simp only [hl, h1], h2, ?_⟩
            rw [← h, h3, Bool.and_assoc]
theorem planEq_shift {cs ds : Array Value} {off sz : Nat} : ∀ {l : List (Nat × Nat)} {b : Bool}, (∀ p ∈ l, p.2 < sz) → planEq cs ds (l.map fun p => (p.1, p.2 + off)) = some b → planEq (cs.extract off (off + sz)) (ds.extract off (off + sz)) l = some b
  | [], b, _, h => h
  | p :: l, b, hl, h => by
    have hp := hl p (by simp)
    have get : ∀ (es : Array Value) (a : Value), es[p.2 + off]? = some a → (es.extract off (off + sz))[p.2]? = some a := by
      intro es a ha
      have hlt : p.2 + off < es.size := (Array.getElem?_eq_some_iff.1 ha).1
      rw [Array.getElem?_extract, if_pos (by omega), Nat.add_comm]
      exact ha
    simp only [List.map_cons, planEq] at h ⊢
    cases ha : cs[p.2 + off]? with
    | none => rw [ha] at h; cases h
    | some a =>
      cases hb : ds[p.2 + off]? with
      | none => rw [ha, hb] at h; cases h
      | some b' =>
        rw [ha, hb] at h
        rw [get cs a ha, get ds b' hb]
        try simp only at h
        try simp only
        cases hq : leafEq p.1 a b' with
        | none => rw [hq] at h; cases h
        | some z =>
          rw [hq] at h
          cases hr : planEq cs ds (l.map fun p => (p.1, p.2 + off)) with
          | none => rw [hr] at h; cases h
          | some r =>
            rw [hr] at h
            rw [planEq_shift (fun p hp => hl p (List.mem_cons_of_mem _ hp)) hr]
            simpa only [hq] using h

/-- one part of a struct -/
def partV (P : Program) (T : Nat) (cs : Array Value) (off : Nat) : Option Value := if isAg P T then some (.agg (cs.extract off (off + szOf P T))) else cs[off]?
theorem run_partV {P : Program} {T off : Nat} {cs : Array Value} {v : Value} (hT : okT P T = true) (h : partV P T cs off = some v) (w : World) : (part T cs off).run P w = .ok v w := by
  unfold partV at h
  unfold part
  simp only [Sem.run_bind, run_isAgg hT, Result.andThen_ok]
  split at h
  · rename_i ha
    injection h with h
    subst h
    simp [ha, run_sizeOf hT]
  · rename_i ha
    simp only [ha, Bool.false_eq_true, if_false]
    rw [h]
    simp

theorem run_planEq {P : Program} : ∀ (d T : Nat) (l : List (Nat × Nat)), plan P d T = some l → ∀ (e : Nat) (w : World) (cs ds : Array Value) (off : Nat) (b : Bool), planEq cs ds (l.map fun p => (p.1, p.2 + off)) = some b → (∀ p ∈ l, p.2 < szOf P T) →
    okT P T = true ∧ ∃ u v, partV P T cs off = some u ∧ partV P T ds off = some v ∧ (Op.equalIn (d + e) T u v).run P w = .ok b w
  | 0, T, l, h => by cases h
  | d + 1, T, l, h => by
    intro e w cs ds off b hb hsz
    have de : d + 1 + e = (d + e) + 1 := by omega
    rw [de]
    have leaf : ∀ k, l = [(k, 0)] → isAg P T = false → (∀ x y z, leafEq k x y = some z → (Op.equalIn (d + e + 1) T x y).run P w = .ok z w) → ∃ u v, partV P T cs off = some u ∧ partV P T ds off = some v ∧ (Op.equalIn (d + e + 1) T u v).run P w = .ok b w := by
      intro k hl hag hrun
      subst hl
      simp only [List.map_cons, List.map_nil, planEq, Nat.zero_add] at hb
      cases ha : cs[off]? with
      | none => rw [ha] at hb; cases hb
      | some x =>
        cases hy : ds[off]? with
        | none => rw [ha, hy] at hb; cases hb
        | some y =>
          rw [ha, hy] at hb
          simp only at hb
          cases hq : leafEq k x y with
          | none => rw [hq] at hb; cases hb
          | some z =>
            rw [hq] at hb
            simp only [Bool.and_true, Option.some.injEq] at hb
            subst hb
            exact ⟨x, y, by simp [partV, hag, ha], by simp [partV, hag, hy], hrun x y z hq⟩
    unfold plan at h
    split at h
    · rename_i k hu
      split at h
      · rename_i hc
        injection h with h
        refine ⟨hc.2, leaf 0 h.symm hc.1 fun x y z hz => ?_⟩
        unfold leafEq at hz
        split at hz
        · rename_i k1 x1 k2 y1 _
          split at hz
          · rename_i hk
            subst hk
            injection hz with hz
            subst hz
            exact run_equalIn_int w _ T k1 k x1 y1 hu
          · cases hz
        · omega
        · omega
        · cases hz
      · cases h
    · rename_i hu
      split at h
      · rename_i hc
        injection h with h
        refine ⟨hc.2, leaf 1 h.symm hc.1 fun x y z hz => ?_⟩
        unfold leafEq at hz
        split at hz
        · omega
        · injection hz with hz
          subst hz
          exact run_equalIn_string w _ T _ _ hu
        · omega
        · cases hz
      · cases h
    · rename_i hu
      split at h
      · rename_i hc
        injection h with h
        refine ⟨hc.2, leaf 2 h.symm hc.1 fun x y z hz => ?_⟩
        unfold leafEq at hz
        split at hz
        · omega
        · omega
        · injection hz with hz
          subst hz
          exact run_equalIn_bool' w _ T _ _ hu
        · cases hz
      · cases h
    · rename_i fs hu
      split at h
      · rename_i hc
        obtain ⟨hag, hok, hst⟩ := hc
        refine ⟨hok, .agg (cs.extract off (off + szOf P T)), .agg (ds.extract off (off + szOf P T)), by simp [partV, hag], by simp [partV, hag], ?_⟩
        have hf : P.fieldsOf T = fs := by simp [Program.fieldsOf, hu]
        rw [run_equalIn_agg w _ T _ _ (by rw [hf]; exact hu) hst, hf]
        have hb' := planEq_shift (off := off) (sz := szOf P T) hsz hb
        generalize cs.extract off (off + szOf P T) = cs' at hb'
        generalize ds.extract off (off + szOf P T) = ds' at hb'
        clear hb hsz leaf hu hf
        generalize fs.toList = fl at h
        induction fl generalizing l b with
        | nil =>
          simp only [fPlan, Option.some.injEq] at h
          subst h
          simp only [planEq, Option.some.injEq] at hb'
          subst hb'
          simp [Op.eqFields]
        | cons f fl ih =>
          simp only [fPlan] at h
          split at h
          · cases h
          · rename_i hn
            split at h
            · rename_i l1 l2 hl1 hl2
              split at h
              · rename_i hall
                injection h with h
                subst h
                rw [List.all_eq_true] at hall
                obtain ⟨x, y, h1, h2, h3⟩ := planEq_append hb'
                obtain ⟨q1, u, v, q2, q3, q4⟩ := run_planEq d f.type l1 hl1 e w cs' ds' f.offset x h1 (fun p hp => by simpa using hall p hp)
                simp only [Op.eqFields]
                rw [if_pos hn]
                simp only [Sem.run_bind, run_partV q1 q2, run_partV q1 q3, Result.andThen_ok, q4]
                cases x with
                | false => subst h3; simp
                | true =>
                  subst h3
                  simp only [Bool.not_true, Bool.false_eq_true, if_false, Bool.true_and]
                  exact ih l2 _ h2 hl2
              · cases h
            · cases h
      · cases h
    · cases h

/-- struct equality, as an effect -/
def vals : List X → Option (List Value)
  | [] => some []
  | .v x :: l => (vals l).map (x :: ·)
  | _ => none
def eqPlan (P : Program) (T : Nat) : Option (List (Nat × Nat)) := if isAg P T = true ∧ P.eqGuardType P.depth T = false then plan P 8 T else none

theorem run_eqStruct {P : Program} {T : Nat} {l : List (Nat × Nat)} (h : eqPlan P T = some l) {cs ds : Array Value} {b : Bool} (hb : planEq cs ds l = some b) (hl : ∀ p ∈ l, p.2 < szOf P T) (hs : cs.size = szOf P T) (hs' : ds.size = szOf P T) (w : World) (x y : Operand) :
    ((do eqGuard .eql T x y (.agg cs) (.agg ds); binOp .eql T (.agg cs) (.agg ds) : Sem Value)).run P w = .ok (.bool b) w ∧
    ((do eqGuard .neq T x y (.agg cs) (.agg ds); binOp .neq T (.agg cs) (.agg ds) : Sem Value)).run P w = .ok (.bool (!b)) w := by
  unfold eqPlan at h
  split at h
  · rename_i hc
    obtain ⟨_, u, v, q2, q3, q4⟩ := run_planEq 8 T l h 9992 w cs ds 0 b (by simpa using hb) hl
    have e1 : u = .agg cs := by simp [partV, hc.1, ← hs] at q2; exact q2.symm
    have e2 : v = .agg ds := by simp [partV, hc.1, ← hs'] at q3; exact q3.symm
    subst e1 e2
    constructor
    · simp only [Sem.run_bind, run_eqGuard_agg w _ T x y cs ds hc.2, Result.andThen_ok, run_eql_struct]
      rw [show (10000 : Nat) = 8 + 9992 from rfl, q4]; rfl
    · simp only [Sem.run_bind, run_eqGuard_agg w _ T x y cs ds hc.2, Result.andThen_ok, run_neq_struct]
      rw [show (10000 : Nat) = 8 + 9992 from rfl, q4]; rfl
  · cases h

end Go.Abs
