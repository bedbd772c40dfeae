/-
  What is proved here: maps from whole numbers to plain values, made, asked and written, in every related world. Condition: the operation's own condition, in the abstract state.
-/
import Derived.Test.YtglbimhhiikkpaaDoorAbs9
import Derived.Test.YtglbimhhiikkpaaDoorAbs3e
import Derived.MapKept
namespace Go.Abs
open Go.RowKit Go.MapKept

def mapKV (P : Program) (T : Nat) : Option (Nat × Nat) :=
  match P.underlying T with
  | some (.map k e) => (match P.underlying k with | some (.int .i64) => some (k, e) | _ => none)
  | _ => none
theorem mapKV_eq {P : Program} {T k e : Nat} (h : mapKV P T = some (k, e)) : P.underlying T = some (.map k e) ∧ P.underlying k = some (.int .i64) := by
  unfold mapKV at h
  split at h
  · rename_i k' e' hu
    split at h
    · rename_i hk
      injection h with h
      injection h with h1 h2
      subst h1 h2
      exact ⟨hu, hk⟩
    · cases h
  · cases h
def zeroV (P : Program) (T : Nat) : Value := ((P.info? T).bind (·.zero)).getD .nilFunc
theorem run_zeroV {P : Program} {T : Nat} (h : hasZ P T = true) (w : World) : (zeroValue T).run P w = .ok (zeroV P T) w := by
  unfold hasZ at h
  unfold zeroV
  cases hi : P.info? T with
  | none => rw [hi] at h; simp at h
  | some i =>
    rw [hi] at h
    simp only [Option.bind_some] at h ⊢
    cases hz : i.zero with
    | none => rw [hz] at h; simp at h
    | some z => exact run_zeroValue hi hz w

theorem vals_plain {w : World} {S : Nat → Prop} {β : Pl} : ∀ {xs : List X} {cs : Array Value} {vs : List Value}, cs.size = xs.length → (∀ (j : Nat) x c, xs[j]? = some x → cs[j]? = some c → Rep w S β c x) → vals xs = some vs → cs = vs.toArray
  | [], cs, vs, hl, hr, hv => by
    simp only [vals, Option.some.injEq] at hv
    subst hv
    exact Array.eq_empty_of_size_eq_zero hl
  | x :: xs, cs, vs, hl, hr, hv => by
    cases x with
    | v y =>
      simp only [vals, Option.map_eq_some_iff] at hv
      obtain ⟨us, hu, rfl⟩ := hv
      obtain ⟨l⟩ := cs
      cases l with
      | nil => simp at hl
      | cons c l =>
        have h0 := (hr 0 (.v y) c rfl rfl).inv_v.1
        have ih := vals_plain (xs := xs) (cs := l.toArray) (vs := us) (by simpa using hl) (fun j x c hx hc => hr (j + 1) x c (by simpa using hx) (by simpa using hc)) hu
        have ih' : l = us := by simpa using congrArg Array.toList ih
        rw [h0, ih']
    | _ => simp [vals] at hv

/-- a value that is known whole -/
def toV : X → Option Value
  | .v x => some x
  | .agg xs => (vals xs).map fun vs => .agg vs.toArray
  | _ => none
theorem toV_eq {w : World} {S : Nat → Prop} {β : Pl} {u v : Value} {x : X} (h : Rep w S β u x) (hx : toV x = some v) : u = v := by
  cases x with
  | v y => simp only [toV, Option.some.injEq] at hx; subst hx; exact h.inv_v.1
  | agg xs =>
    simp only [toV, Option.map_eq_some_iff] at hx
    obtain ⟨vs, hv, rfl⟩ := hx
    obtain ⟨cs, rfl, hl, _, hr⟩ := h.inv_agg
    rw [vals_plain hl hr hv]
  | _ => simp [toV] at hx

def mset : List (Int × Value) → Int → Value → List (Int × Value)
  | [], n, v => [(n, v)]
  | p :: l, n, v => if p.1 = n then (n, v) :: l else p :: mset l n v

theorem lookup_mset : ∀ (l : List (Int × Value)) (n m : Int) (v : Value), (mset l n v).lookup m = if m = n then some v else l.lookup m
  | [], n, m, v => by
    simp only [mset, List.lookup_cons, List.lookup_nil]
    by_cases h : m = n
    · simp [h]
    · simp [h, beq_eq_false_iff_ne.2 h]
  | (a, b) :: l, n, m, v => by
    simp only [mset]
    split
    · rename_i hp
      subst hp
      simp only [List.lookup_cons]
      by_cases h : m = a
      · simp [h]
      · simp [h, beq_eq_false_iff_ne.2 h]
    · rename_i hp
      simp only [List.lookup_cons]
      rw [lookup_mset l n m v]
      by_cases h : m = a
      · simp [h, hp]
      · simp [beq_eq_false_iff_ne.2 h]

def ents (es : List MapEntry) (l : List (Int × Value)) : Prop := es.map (fun e => (e.key, e.val)) = l.map (fun p => (Value.int .i64 p.1, p.2))

theorem ents_keys {es : List MapEntry} {l : List (Int × Value)} (h : ents es l) : ∀ x ∈ es, IsKey (.int .i64) x.key := by
  intro x hx
  have : (x.key, x.val) ∈ l.map (fun p => (Value.int .i64 p.1, p.2)) := by rw [← h]; exact List.mem_map.2 ⟨x, hx, rfl⟩
  obtain ⟨p, _, e⟩ := List.mem_map.1 this
  injection e with e1 e2
  rw [← e1]; simp [IsKey]

/-- what a search in the entries finds, in the list's words -/
theorem ents_find : ∀ {es : List MapEntry} {l : List (Int × Value)} (n : Int), ents es l →
    ((∀ x ∈ es, x.key ≠ .int .i64 n) → l.lookup n = none ∧ ∀ v, mset l n v = l ++ [(n, v)]) ∧
    (∀ j e, Instr.findNow (.int .i64) (.int .i64 n) es 0 = some (some (j, e)) → l.lookup n = some e)
  | [], [], n, _ => ⟨fun _ => ⟨rfl, fun _ => rfl⟩, fun j e h => by simp [Instr.findNow] at h⟩
  | [], _ :: _, n, h => by simp [ents] at h
  | _ :: _, [], n, h => by simp [ents] at h
  | x :: es, p :: l, n, h => by
    simp only [ents, List.map_cons, List.cons.injEq] at h
    obtain ⟨h0, h1⟩ := h
    injection h0 with hk hv
    obtain ⟨ih1, ih2⟩ := ents_find (es := es) (l := l) n h1
    refine ⟨fun hne => ?_, fun j e hf => ?_⟩
    · have hpn : p.1 ≠ n := fun e => hne x (List.mem_cons_self ..) (by rw [hk, e])
      obtain ⟨a1, a2⟩ := ih1 fun y hy => hne y (List.mem_cons_of_mem _ hy)
      refine ⟨?_, fun v => by simp [mset, hpn, a2]⟩
      rw [List.lookup_cons, beq_eq_false_iff_ne.2 (Ne.symm hpn)]
      exact a1
    · simp only [Instr.findNow, hk, Instr.sameNow, if_true] at hf
      rw [List.lookup_cons]
      cases hb : (n == p.1) with
      | true => rw [hb] at hf; simp at hf; rw [← hf.2, hv]
      | false =>
        rw [hb] at hf
        simp only at hf
        simp only
        have sh : ∀ (es : List MapEntry) (i : Nat) (j : Nat) (e : Value), Instr.findNow (.int .i64) (.int .i64 n) es i = some (some (j, e)) → ∃ j', Instr.findNow (.int .i64) (.int .i64 n) es 0 = some (some (j', e)) := by
          intro es
          induction es with
          | nil => intro i j e h; simp [Instr.findNow] at h
          | cons y ys ih =>
            intro i j e h
            simp only [Instr.findNow] at h ⊢
            cases hs : Instr.sameNow (.int .i64) (.int .i64 n) y.key with
            | none => rw [hs] at h; simp at h
            | some b =>
              rw [hs] at h
              cases b with
              | true => simp at h; exact ⟨0, by simp [h.2]⟩
              | false =>
                simp only at h ⊢
                obtain ⟨j1, h1⟩ := ih _ _ _ h
                have mv : ∀ (zs : List MapEntry) (i i' j : Nat) (e : Value), Instr.findNow (.int .i64) (.int .i64 n) zs i = some (some (j, e)) → ∃ j', Instr.findNow (.int .i64) (.int .i64 n) zs i' = some (some (j', e)) := by
                  intro zs
                  induction zs with
                  | nil => intro i i' j e h; simp [Instr.findNow] at h
                  | cons z zs ihz =>
                    intro i i' j e h
                    simp only [Instr.findNow] at h ⊢
                    cases hs : Instr.sameNow (.int .i64) (.int .i64 n) z.key with
                    | none => rw [hs] at h; simp at h
                    | some b =>
                      rw [hs] at h
                      cases b with
                      | true => simp at h; exact ⟨i', by simp [h.2]⟩
                      | false => simp only at h ⊢; exact ihz _ _ _ _ h
                exact mv _ _ _ _ _ h1
        obtain ⟨j', hj'⟩ := sh _ _ _ _ hf
        exact ih2 _ _ hj'

theorem ents_set : ∀ {es : List MapEntry} {l : List (Int × Value)} {j : Nat} {e : MapEntry} (n : Int) (v : Value), ents es l → Instr.findNow (.int .i64) (.int .i64 n) es 0 = some (some (j, e.val)) → es[j]? = some e →
    ents (es.modify j fun e => { e with key := .int .i64 n, val := v }) (mset l n v) := by
  intro es l j e n v h hf hj
  have key : ∀ (es : List MapEntry) (l : List (Int × Value)) (i j : Nat) (u : Value), ents es l → Instr.findNow (.int .i64) (.int .i64 n) es i = some (some (j, u)) →
      i ≤ j ∧ ents (es.modify (j - i) fun e => { e with key := .int .i64 n, val := v }) (mset l n v) := by
    intro es
    induction es with
    | nil => intro l i j u _ h; simp [Instr.findNow] at h
    | cons x es ih =>
      intro l i j u h hf
      cases l with
      | nil => simp [ents] at h
      | cons p l =>
        simp only [ents, List.map_cons, List.cons.injEq] at h
        obtain ⟨h0, h1⟩ := h
        injection h0 with hk hv
        simp only [Instr.findNow, hk, Instr.sameNow, if_true] at hf
        cases hb : (n == p.1) with
        | true =>
          rw [hb] at hf
          simp at hf
          obtain ⟨rfl, _⟩ := hf
          have : p.1 = n := (beq_iff_eq.1 hb).symm
          refine ⟨Nat.le_refl _, ?_⟩
          simp only [Nat.sub_self, List.modify_zero_cons, mset, this, if_true, ents, List.map_cons]
          rw [h1]
        | false =>
          rw [hb] at hf
          simp only at hf
          have hpn : p.1 ≠ n := fun e => by rw [e] at hb; simp at hb
          obtain ⟨a1, a2⟩ := ih l (i + 1) j u h1 hf
          refine ⟨by omega, ?_⟩
          have : j - i = (j - (i + 1)) + 1 := by omega
          rw [this, List.modify_succ_cons]
          simp only [mset, if_neg hpn, ents, List.map_cons]
          rw [hk, hv, a2]
  exact (key es l 0 j e.val h hf).2

/-! ### the operations -/
def mOb (l : List (Int × Value)) : Ob := ⟨0, 0, 0, [], true, true, some l⟩
def eMakeMap (P : Program) (s : St) (T : Nat) (r : Option X) : Eff :=
  match r with
  | none => ⟨True, .osl s.h.length 0, s.h ++ [⟨0, 0, 0, [], true, true, some []⟩]⟩
  | some (.v (.int _ _)) => ⟨(mapKV P T).isSome = true, .osl s.h.length 0, s.h ++ [⟨0, 0, 0, [], true, true, some []⟩]⟩
  | _ => ⟨False, .top, s.h⟩

theorem makeMap_push {c : Cx} {h : List Ob} {β : Pl} {w : World} (H : HRel c h β w) :
    HRel c (h ++ [⟨0, 0, 0, [], true, true, some []⟩]) (β.set h.length 0 (.map (some w.heap.size)) 0) (w.alloc (.map #[] 0)) ∧
      ∀ v x, Rep w (Stab c.w0 c.S0 h β w) β v x → Rep (w.alloc (.map #[] 0)) (Stab c.w0 c.S0 (h ++ [⟨0, 0, 0, [], true, true, some []⟩]) (β.set h.length 0 (.map (some w.heap.size)) 0) (w.alloc (.map #[] 0))) (β.set h.length 0 (.map (some w.heap.size)) 0) v x :=
  H.push ((Below.refl _ _).alloc (Nat.le_refl _) _) ⟨0, 0, 0, [], true, true, some []⟩ (.map (some w.heap.size)) rfl (by simp) (.inr (.inl ⟨w.heap.size, #[], 0, [], rfl, rfl, rfl, rfl, (heap_alloc w _).1, rfl⟩))
    (fun b hb => by simp only [blk, Option.some.injEq] at hb; omega) (fun _ _ _ i j x hx => by simp [at2] at hx)

theorem makeMap_does {P : Program} {c : Cx} {s : St} {β : Pl} {w : World} {T : Nat} {r : Option Value} {xr : Option X} (H : HRel c s.h β w) (hr : ∀ v, r = some v → ∃ x, xr = some x ∧ Rep w (Stab c.w0 c.S0 s.h β w) β v x) (hr' : r = none → xr = none)
    (hc : (eMakeMap P s T xr).cond) : Does P c s β w (Instr.makeMap T r) (eMakeMap P s T xr) := by
  have hp := makeMap_push H
  unfold eMakeMap at hc ⊢
  split at hc
  · cases r with
    | some v => obtain ⟨x, hx, _⟩ := hr v rfl; cases hx
    | none => exact ⟨_, _, _, run_makeMap T w, hp.1, hp.2, .osl _ 0 _ (by simp) rfl⟩
  · cases r with
    | none => have := hr' rfl; cases this
    | some v =>
      obtain ⟨x, hx, hrr⟩ := hr v rfl
      injection hx with hx
      subst hx
      obtain ⟨rfl, _⟩ := hrr.inv_v
      obtain ⟨⟨k, e⟩, hm⟩ := Option.isSome_iff_exists.1 hc
      obtain ⟨h1, _⟩ := mapKV_eq hm
      refine ⟨.map (some w.heap.size), w.alloc (.map #[] 0), _, ?_, hp.1, hp.2, .osl _ 0 _ (by simp) rfl⟩
      simp [Instr.makeMap, run_underlying h1, asInt, asIntOf, Result.andThen]
  · exact hc.elim

def mres (ok : Bool) (o : Option Value) (z : Value) : X := if ok then .tup [cst (o.getD z), .v (.bool o.isSome)] else cst (o.getD z)
def eLookup (P : Program) (s : St) (T : Nat) (x i : X) (ok : Bool) : Eff :=
  match mapKV P T, x, i with
  | some (_, e), .osl k ver, .v (.int .i64 n) => match (s.h[k]?).bind (·.mp) with
    | some l => ⟨hasZ P e = true ∧ verOk s.h k ver ∧ ((s.h[k]?.map (·.bx)).getD false) = true ∧ ((s.h[k]?.map (·.rows)).getD []) = [], mres ok (l.lookup n) (zeroV P e), s.h⟩
    | none => ⟨False, .top, s.h⟩
  | _, _, _ => ⟨False, .top, s.h⟩

/-- where a map lies -/
theorem HRel.mapAt {c : Cx} {h : List Ob} {β : Pl} {w : World} (H : HRel c h β w) {k : Nat} {ob : Ob} {u : Value} {l : List (Int × Value)} (hk : h[k]? = some ob) (hu : β.val k ob.ver = some u) (hb : ob.bx = true) (hr : ob.rows = []) (hm : ob.mp = some l) :
    ∃ g es clock, u = .map (some g) ∧ w.heap[g]? = some (.map es clock) ∧ ents es.toList l := by
  obtain ⟨_, _, u', hu', hs, _⟩ := H.objs k ob hk
  rw [hu] at hu'; injection hu' with e; subst e
  rcases hs with ⟨_, _, h3⟩ | ⟨g, es, clock, l', h1, h2, _, _, h3, h4⟩ | ⟨g, cap, cur, _, _, _, _, h4⟩
  · rw [hb] at h3; cases h3
  · rw [hm] at h2; injection h2 with h2; subst h2
    exact ⟨g, es, clock, h1, h3, h4⟩
  · rw [hb, hr] at h4; simp at h4

theorem run_lookup_ents {P : Program} {w : World} {T k e g : Nat} {es : Array MapEntry} {clock : Nat} {l : List (Int × Value)} {n : Int} (hm : mapKV P T = some (k, e)) (hz : hasZ P e = true) (hg : w.heap[g]? = some (.map es clock)) (he : ents es.toList l) (ok : Bool) :
    (Instr.lookup T (.map (some g)) (.int .i64 n) ok).run P w = .ok (if ok then .tuple #[(l.lookup n).getD (zeroV P e), .bool (l.lookup n).isSome] else (l.lookup n).getD (zeroV P e)) w := by
  obtain ⟨h1, h2⟩ := mapKV_eq hm
  have hk : IsKey (.int .i64) (.int .i64 n) := by simp [IsKey]
  obtain ⟨f1, f2⟩ := ents_find n he
  rcases findNow_spec hk es.toList 0 (ents_keys he) with ⟨a1, a2⟩ | ⟨j, en, a1, a2, a3⟩
  · simp [Instr.lookup, run_underlying h1, MapKept.run_getObj_map hg, MapKept.run_checkKey h2 hk, MapKept.run_findKey h2 a1, run_zeroV hz, (f1 a2).1, Result.andThen]
  · simp [Instr.lookup, run_underlying h1, MapKept.run_getObj_map hg, MapKept.run_checkKey h2 hk, MapKept.run_findKey h2 a1, f2 _ _ a1, Result.andThen]

theorem lookup_does {P : Program} {c : Cx} {s : St} {β : Pl} {w : World} {T : Nat} {u ui : Value} {x i : X} {ok : Bool} (H : HRel c s.h β w) (hr : Rep w (Stab c.w0 c.S0 s.h β w) β u x) (hi : Rep w (Stab c.w0 c.S0 s.h β w) β ui i)
    (hc : (eLookup P s T x i ok).cond) : Does P c s β w (Instr.lookup T u ui ok) (eLookup P s T x i ok) := by
  unfold eLookup at hc ⊢
  split at hc
  · rename_i e k ver n hm
    split at hc
    · rename_i l hl
      obtain ⟨hz, hv, hb, hrw⟩ := hc
      obtain ⟨ob, hk, rfl⟩ := verOk_get hv
      simp only [hk, Option.map_some, Option.getD_some, Option.bind_some] at hb hrw hl
      obtain ⟨hu, _⟩ := hr.inv_osl
      obtain ⟨rfl, _⟩ := hi.inv_v
      obtain ⟨g, es, clock, rfl, hg, he⟩ := H.mapAt hk hu hb hrw hl
      refine Does.pure H (run_lookup_ents hm hz hg he ok) ?_
      unfold mres
      cases ok with
      | false => exact rep_cst _ _ _ _
      | true =>
        refine .tup _ _ rfl fun j x c hx hc => ?_
        match j with
        | 0 => simp at hx hc; subst hx hc; exact rep_cst _ _ _ _
        | 1 => simp at hx hc; subst hx hc; exact .v _ rfl
        | j + 2 => simp at hx
    · exact hc.elim
  · exact hc.elim

def eMapSet (P : Program) (s : St) (T : Nat) (x i y : X) : Eff :=
  match mapKV P T, x, i, toV y with
  | some _, .osl k ver, .v (.int .i64 n), some v => match s.h[k]? with
    | some ob => match ob.mp with
      | some l => ⟨verOk s.h k ver ∧ liveOk s.h k ∧ ob.bx = true ∧ ob.rows = [], .top, s.h.set k { ob with mp := some (mset l n v) }⟩
      | none => ⟨False, .top, s.h⟩
    | none => ⟨False, .top, s.h⟩
  | _, _, _, _ => ⟨False, .top, s.h⟩

theorem mapSet_does {P : Program} {c : Cx} {s : St} {β : Pl} {w : World} {T : Nat} {u ui uy : Value} {x i y : X} (H : HRel c s.h β w) (hr : Rep w (Stab c.w0 c.S0 s.h β w) β u x) (hi : Rep w (Stab c.w0 c.S0 s.h β w) β ui i)
    (hy : Rep w (Stab c.w0 c.S0 s.h β w) β uy y) (hc : (eMapSet P s T x i y).cond) :
    (eMapSet P s T x i y).val = .top ∧ ∃ w' β', (Instr.mapUpdate T u ui uy).run P w = .ok () w' ∧ HRel c (eMapSet P s T x i y).h β' w' ∧
      (∀ u x', Rep w (Stab c.w0 c.S0 s.h β w) β u x' → Rep w' (Stab c.w0 c.S0 (eMapSet P s T x i y).h β' w') β' u x') := by
  unfold eMapSet at hc ⊢
  split at hc
  · rename_i ke k ver n v hm hv
    obtain ⟨kt, e⟩ := ke
    split at hc
    · rename_i ob hk
      split at hc
      · rename_i l hl
        obtain ⟨hvo, hlv, hb, hrw⟩ := hc
        obtain ⟨ob', hk', rfl⟩ := verOk_get hvo
        rw [hk] at hk'; injection hk' with e'; subst e'
        have hlive : ob.live = true := by simpa [liveOk, hk] using hlv
        obtain ⟨hu, _⟩ := hr.inv_osl
        obtain ⟨rfl, _⟩ := hi.inv_v
        have ey := toV_eq hy hv
        subst ey
        obtain ⟨g, es, clock, rfl, hg, he⟩ := H.mapAt hk hu hb hrw hl
        obtain ⟨h1, h2⟩ := mapKV_eq hm
        have hkk : IsKey (.int .i64) (.int .i64 n) := by simp [IsKey]
        refine ⟨rfl, ?_⟩
        have fin : ∀ es' clock', ents es'.toList (mset l n uy) → (Instr.mapUpdate T (.map (some g)) (.int .i64 n) uy).run P w = .ok () { w with heap := w.heap.setIfInBounds g (.map es' clock') } →
            ∃ w' β', (Instr.mapUpdate T (.map (some g)) (.int .i64 n) uy).run P w = .ok () w' ∧ HRel c (s.h.set k { ob with mp := some (mset l n uy) }) β' w' ∧
              (∀ u x', Rep w (Stab c.w0 c.S0 s.h β w) β u x' → Rep w' (Stab c.w0 c.S0 (s.h.set k { ob with mp := some (mset l n uy) }) β' w') β' u x') := by
          intro es' clock' hes hrun
          have hp := H.put hk hlive hu { ob with mp := some (mset l n uy) } (.map (some g)) hlive (.inl ⟨rfl, rfl⟩) rfl (w' := { w with heap := w.heap.setIfInBounds g (.map es' clock') }) rfl rfl rfl (by simp)
            (fun b _ hne => (heap_set hg).2 b fun e => hne (by rw [e]; rfl)) (fun b hb => .inl hb) (fun r hr => by simp [hrw] at hr)
            (.inr (.inl ⟨g, es', clock', _, rfl, rfl, hrw, hb, (heap_set hg).1, hes⟩)) (fun _ _ _ i j x hx => by simp [hrw, at2] at hx)
          exact ⟨_, _, hrun, hp.1, hp.2⟩
        obtain ⟨f1, _⟩ := ents_find n he
        rcases findNow_spec hkk es.toList 0 (ents_keys he) with ⟨a1, a2⟩ | ⟨j, en, a1, a2, a3⟩
        · refine fin (es.push { key := .int .i64 n, val := uy, born := clock }) (clock + 1) ?_ ?_
          · rw [(f1 a2).2]
            simp only [ents, Array.toList_push, List.map_append, List.map_cons, List.map_nil]
            rw [he]
          · simp [Instr.mapUpdate, run_underlying h1, MapKept.run_getObj_map hg, MapKept.run_checkKey h2 hkk, MapKept.run_findKey h2 a1, MapKept.run_setObj_map _ hg, Result.andThen]
        · have hj : es[j]? = some en := by simpa using a2
          rw [Nat.zero_add] at a1
          refine fin (es.modify j fun e => { e with key := .int .i64 n, val := uy }) clock ?_ ?_
          · rw [Array.toList_modify]
            exact ents_set n uy he a1 a2
          · simp [Instr.mapUpdate, run_underlying h1, MapKept.run_getObj_map hg, MapKept.run_checkKey h2 hkk, MapKept.run_findKey h2 a1, hj, a3, run_keyThatStays hkk, MapKept.run_setObj_map _ hg, Result.andThen]
      · exact hc.elim
    · exact hc.elim
  · exact hc.elim
end Go.Abs
