/-
  What is proved here: contracts of lists of changes, and of a configuration if it is valid. Condition: none.
-/
import Derived.Test.YteleljfnjdlnkaaGreatDoorAP5x
import Derived.Test.YteleljfnjdlnkaaGreatDoorAP6x
import Derived.Test.YteleljfnjdlnkaaGreatDoorQK1bx
import Derived.Test.YteleljfnjdlnkaaGreatDoorD1x
import Derived.Test.YteleljfnjdlnkaaGreatDoorAPCx
namespace Go.Proofs
open Go.Abs Go.Srt
set_option linter.unusedSimpArgs false
set_option linter.unnecessarySimpa false
set_option linter.unusedVariables false
set_option maxHeartbeats 8000000
set_option maxRecDepth 20000

/-! ### lists of changes -/
def chsOk (l : List Chg) : Bool := l.all isCh && decide (l.length ≤ 100)
theorem all_stepH (l : List Chg) (p : Chg → Bool) (k : Nat) (h : k < l.length) (h1 : (l.take k).all p = true) (h2 : p l[k] = true) : (l.take (k + 1)).all p = true := by
  rw [takeS l k h, List.all_append, h1]; simp [h2]
theorem all_badH (l : List Chg) (p : Chg → Bool) (k : Nat) (h : k < l.length) (h2 : p l[k] = false) : l.all p = false := not_true fun h3 => by
  rw [List.all_eq_true] at h3
  rw [h3 _ (List.getElem_mem h)] at h2; cases h2
def okL2 (l : List Chg) : Prop := l.length ≤ 1048576 ∧ ∀ x ∈ l, x.nm.size ≤ 1048576
def F32 : Fun := ⟨fun xs => xs = [.sl (tR (deT (xs.getD 0 .top) : List Chg))] ∧ (fun (l : List Chg) => (okL2 l)) (deT (xs.getD 0 .top) : List Chg), fun xs => (fun (l : List Chg) => ((B (chsOk l), []) : X × List Ob)) (deT (xs.getD 0 .top) : List Chg)⟩
theorem F32_in {xs : List X} (h : F32.pre xs) : ∃ (l : List Chg), xs = [.sl (tR l)] ∧ (okL2 l) := ⟨_, h.1, h.2⟩
theorem F32_res (l : List Chg) : F32.res [.sl (tR l)] = (B (chsOk l), []) := by simp [F32]
theorem F32_mk (l : List Chg) (h : okL2 l) : F32.pre [.sl (tR l)] := by simpa [F32] using h
theorem c32 : GenCA K Tryz.prog 32 F32 := by
  refine contractA Tryz.mix K [(62, F62)] [] (by simp [c62]) (by simp) Tryz.func32 rfl (by decide) ?_
  intro xs hxs
  obtain ⟨l, rfl, hp⟩ := F32_in hxs
  rw [F32_res]
  refine ⟨by rw [Tryz.ntmps32]; simp, ?_⟩
  obtain ⟨hl, hn⟩ := hp
  simp -implicitDefEqProofs [Tryz.f32, F62, List.lookup_cons, and_assoc, pick_and, pick_or, if_and, if_or]
  refine loopP_inv (fun k : Nat => ⟨18, tl [(0, .sl (tR l)), (5, .sl (tR l)), (6, I l.length), (7, I k)], []⟩) (fun k => k ≤ l.length ∧ (l.take k).all isCh = true) (fun k => l.length - k) 0 ⟨Nat.zero_le _, rfl⟩ (Wk.tl (by simp [hold, upd, tl_cons])) ?_
  rintro k ⟨hk, ha⟩
  by_cases h : k < l.length
  · have hw := w64n (show k < 4611686018427387904 by omega)
    have hx := hn l[k] (List.getElem_mem h)
    cases hc : isCh l[k] with
    | true =>
      have hs := all_stepH l isCh k h ha hc
      simp -implicitDefEqProofs [List.lookup_cons, and_assoc, pick_and, pick_or, if_and, if_or, h, hx, hc]
      refine ⟨k + 1, by omega, by simpa using hs, by omega, ?_⟩
      exact Wk.tlD (m := 0) rfl (by simp [hold, upd, tl_cons, hw]) (by simp [okL_cons, okL_nil, ok1, ok0]) (by simp [okH_nil])
    | false =>
      have hb := all_badH l isCh k h hc
      simp -implicitDefEqProofs [List.lookup_cons, and_assoc, pick_and, pick_or, if_and, if_or, h, hx, hc]
      refine fin_pure (by simp) ?_
      simp -implicitDefEqProofs [pur2_i, pur2_b, pur2_s, pur2_nil, pur2_sl, pur2_tup, rn2_tup, rn2_agg, rn2_osl, rn1_v, rn1_osl, rn1_agg, rn0_v, rn0_sl, rn0, pickObs, pur_v, pur_b, pur_s, pur_nil, pur_sl, deI, deIs_sl, chsOk, hb]
  · have e : k = l.length := by omega
    subst e
    rw [List.take_length] at ha
    simp -implicitDefEqProofs [List.lookup_cons, and_assoc, pick_and, pick_or, if_and, if_or]
    refine fin_pure (by simp) ?_
    simp -implicitDefEqProofs [pur2_i, pur2_b, pur2_s, pur2_nil, pur2_sl, pur2_tup, rn2_tup, rn2_agg, rn2_osl, rn1_v, rn1_osl, rn1_agg, rn0_v, rn0_sl, rn0, pickObs, pur_v, pur_b, pur_s, pur_nil, pur_sl, deI, deIs_sl, chsOk, ha]
    omega
theorem c26 : GenCA K Tryz.prog 26 F32 := by
  refine contractA Tryz.mix K [(52, F62)] [] (by simp [c52]) (by simp) Tryz.func26 rfl (by decide) ?_
  intro xs hxs
  obtain ⟨l, rfl, hp⟩ := F32_in hxs
  rw [F32_res]
  refine ⟨by rw [Tryz.ntmps26]; simp, ?_⟩
  obtain ⟨hl, hn⟩ := hp
  simp -implicitDefEqProofs [Tryz.f26, F62, List.lookup_cons, and_assoc, pick_and, pick_or, if_and, if_or]
  refine loopP_inv (fun k : Nat => ⟨18, tl [(0, .sl (tR l)), (5, .sl (tR l)), (6, I l.length), (7, I k)], []⟩) (fun k => k ≤ l.length ∧ (l.take k).all isCh = true) (fun k => l.length - k) 0 ⟨Nat.zero_le _, rfl⟩ (Wk.tl (by simp [hold, upd, tl_cons])) ?_
  rintro k ⟨hk, ha⟩
  by_cases h : k < l.length
  · have hw := w64n (show k < 4611686018427387904 by omega)
    have hx := hn l[k] (List.getElem_mem h)
    cases hc : isCh l[k] with
    | true =>
      have hs := all_stepH l isCh k h ha hc
      simp -implicitDefEqProofs [List.lookup_cons, and_assoc, pick_and, pick_or, if_and, if_or, h, hx, hc]
      refine ⟨k + 1, by omega, by simpa using hs, by omega, ?_⟩
      exact Wk.tlD (m := 0) rfl (by simp [hold, upd, tl_cons, hw]) (by simp [okL_cons, okL_nil, ok1, ok0]) (by simp [okH_nil])
    | false =>
      have hb := all_badH l isCh k h hc
      simp -implicitDefEqProofs [List.lookup_cons, and_assoc, pick_and, pick_or, if_and, if_or, h, hx, hc]
      refine fin_pure (by simp) ?_
      simp -implicitDefEqProofs [pur2_i, pur2_b, pur2_s, pur2_nil, pur2_sl, pur2_tup, rn2_tup, rn2_agg, rn2_osl, rn1_v, rn1_osl, rn1_agg, rn0_v, rn0_sl, rn0, pickObs, pur_v, pur_b, pur_s, pur_nil, pur_sl, deI, deIs_sl, chsOk, hb]
  · have e : k = l.length := by omega
    subst e
    rw [List.take_length] at ha
    simp -implicitDefEqProofs [List.lookup_cons, and_assoc, pick_and, pick_or, if_and, if_or]
    refine fin_pure (by simp) ?_
    simp -implicitDefEqProofs [pur2_i, pur2_b, pur2_s, pur2_nil, pur2_sl, pur2_tup, rn2_tup, rn2_agg, rn2_osl, rn1_v, rn1_osl, rn1_agg, rn0_v, rn0_sl, rn0, pickObs, pur_v, pur_b, pur_s, pur_nil, pur_sl, deI, deIs_sl, chsOk, ha]
    omega
/-! ### plain -/
def allR : Cfg → List Chg → Option Cfg
  | c, [] => some c
  | c, x :: l => match apR c x with
    | none => none
    | some d => allR d l
def apAll (c : Cfg) (l : List Chg) : Option Cfg := if (isCfg c && chsOk l) = true then (match allR c l with
  | none => none
  | some d => if isCfg d = true then some d else none) else none
def badStep : Cfg → List Chg → Nat
  | c, [] => 0
  | c, x :: l => match apR c x with
    | none => 0
    | some d => if isCfg d = true then badStep d l + 1 else 0
theorem badStep_le : ∀ (l : List Chg) (c : Cfg), badStep c l ≤ l.length
  | [], c => by simp [badStep]
  | x :: l, c => by
    simp only [badStep, List.length_cons]
    split
    · omega
    · split
      · have := badStep_le l (by assumption)
        omega
      · omega
theorem cfg_ord {c : Cfg} (h : isCfg c = true) : ordB c = true := by
  have h' := h
  rw [isCfg_eq] at h'
  have hu : (List.range c.cls.length).all (upI_ c.cls) = true := cfg_up h'
  have hf : (List.range c.fil.length).all (upP_ c.fil) = true := cfg_upF h'
  have hs := h
  simp only [isCfg, Bool.and_eq_true, decide_eq_true_eq] at hs
  unfold ordB
  rw [hu, hf]
  simp [hs.1.1, hs.1.2]
theorem allR_ok : ∀ (l : List Chg) (c d : Cfg), okC c → ordB c = true → (∀ x ∈ l, x.nm.size ≤ 1048576) → allR c l = some d → okC d
  | [], c, d, hc, _, _, h => by injection h with h; subst h; exact hc
  | x :: l, c, d, hc, hb, hn, h => by
    simp only [allR] at h
    cases hr : apR c x with
    | none => rw [hr] at h; cases h
    | some e =>
      rw [hr] at h
      exact allR_ok l e d (apR_okC hb hc (hn x (by simp)) hr) (apR_ord hb hr) (fun y hy => hn y (by simp [hy])) h
theorem apAll_ok {c d : Cfg} {l : List Chg} (hc : okC c) (hl : okL2 l) (h : apAll c l = some d) : okC d ∧ isCfg d = true := by
  unfold apAll at h
  split at h
  · rename_i hg
    simp only [Bool.and_eq_true] at hg
    cases hr : allR c l with
    | none => rw [hr] at h; cases h
    | some e =>
      rw [hr] at h
      by_cases g : isCfg e = true
      · simp only [g, if_true, Option.some.injEq] at h
        subst h
        exact ⟨allR_ok l c e hc (cfg_ord hg.1) hl.2 hr, g⟩
      · simp [g] at h
  · cases h
def nilCf : X := .agg [.v (.string ⟨#[]⟩), .sl [], .sl [], I 0]
/-! ### a configuration if it is valid -/
def F72 : Fun := ⟨fun xs => xs = [.agg (cX (deC (xs.getD 0 .top) : Cfg))] ∧ (fun (c : Cfg) => (okC c)) (deC (xs.getD 0 .top) : Cfg), fun xs => (fun (c : Cfg) => ((.tup [if isCfg c = true then .agg (cX c) else nilCf, B (isCfg c)], []) : X × List Ob)) (deC (xs.getD 0 .top) : Cfg)⟩
theorem F72_in {xs : List X} (h : F72.pre xs) : ∃ (c : Cfg), xs = [.agg (cX c)] ∧ (okC c) := ⟨_, h.1, h.2⟩
theorem F72_res (c : Cfg) : F72.res [.agg (cX c)] = (.tup [if isCfg c = true then .agg (cX c) else nilCf, B (isCfg c)], []) := by simp [F72]
theorem F72_mk (c : Cfg) (h : okC c) : F72.pre [.agg (cX c)] := by simpa [F72] using h
theorem c72 : GenCA K Tryz.prog 72 F72 := by
  refine contractA Tryz.mix K [(25, F31)] [] (by simp [c25]) (by simp) Tryz.func72 rfl (by decide) ?_
  intro xs hxs
  obtain ⟨c, rfl, hp⟩ := F72_in hxs
  rw [F72_res]
  refine ⟨by rw [Tryz.ntmps72]; simp, ?_⟩
  cases g : isCfg c with
  | false =>
    simp -implicitDefEqProofs [Tryz.f72, F31, List.lookup_cons, and_assoc, pick_and, pick_or, if_and, if_or, hp, g]
    refine fin_pure (by simp) ?_
    simp -implicitDefEqProofs [pur2_i, pur2_b, pur2_s, pur2_nil, pur2_sl, pur2_tup, rn2_tup, rn2_agg, rn2_osl, rn1_v, rn1_osl, rn1_agg, rn0_v, rn0_sl, rn0, pickObs, pur_v, pur_b, pur_s, pur_nil, pur_sl, deI, deIs_sl, nilCf, purnil2]
  | true =>
    simp -implicitDefEqProofs [Tryz.f72, F31, List.lookup_cons, and_assoc, pick_and, pick_or, if_and, if_or, hp, g]
    refine fin_pure (by simp) ?_
    simp -implicitDefEqProofs [pur2_i, pur2_b, pur2_s, pur2_nil, pur2_sl, pur2_tup, rn2_tup, rn2_agg, rn2_osl, rn1_v, rn1_osl, rn1_agg, rn0_v, rn0_sl, rn0, pickObs, pur_v, pur_b, pur_s, pur_nil, pur_sl, deI, deIs_sl, purnil2]
def nilRw : X := .agg [.v (.string ⟨#[]⟩), .v (.slice none 0 0), .v (.slice none 0 0), I 0]
def cOk (c : Cfg) : List Ob := [obCls c.cls, obFil c.fil]
def cAg (c : Cfg) : X := .agg [.v (.string c.name), .osl 0 0, .osl 1 0, I c.dflt]
def unA (xs : List X) (obs : List Ob) : Cfg := match xs, obs with
  | [.agg [n, _, _, d]], [a, b] => ⟨deS n, deT (.sl a.rows), deT (.sl b.rows), deI d⟩
  | _, _ => ⟨⟨#[]⟩, [], [], 0⟩
theorem unA_eq (c : Cfg) : unA [cAg c] (cOk c) = c := by simp [unA, cAg, cOk, obCls, obFil]
def M39 : MFun := ⟨[true], fun xs obs => ∃ c : Cfg, xs = [cAg c] ∧ obs = cOk c ∧ okC c, fun xs obs => (.tup [if isCfg (unA xs obs) = true then cAg (unA xs obs) else nilRw, B (isCfg (unA xs obs))], cOk (unA xs obs))⟩
theorem n39 : GenNA K Tryz.prog 39 M39 := by
  refine contractNA Tryz.mix K [(31, F31)] [] [] (by simp [c31]) (by simp) (by simp) Tryz.func39 rfl (by decide) ?_
  rintro xs obs us ⟨c, rfl, rfl, hp⟩ hu
  obtain ⟨u0, u1, rfl⟩ : ∃ u0 u1, us = [u0, u1] := by
    match us, hu with
    | [a, b], _ => exact ⟨a, b, rfl⟩
  refine ⟨⟨by rw [Tryz.ntmps39]; simp, by simp, fun k ob hob => ?_⟩, ?_⟩
  · have e : M39.res [cAg c] (cOk c) = (.tup [if isCfg c = true then cAg c else nilRw, B (isCfg c)], cOk c) := by simp only [M39, unA_eq]
    rw [e]
    match k, hob with
    | 0, hob => simp [cOk] at hob; subst hob; exact ⟨_, rfl, rfl, rfl, rfl, rfl⟩
    | 1, hob => simp [cOk] at hob; subst hob; exact ⟨_, rfl, rfl, rfl, rfl, rfl⟩
    | k + 2, hob => simp [cOk] at hob
  have e : M39.res [cAg c] (cOk c) = (.tup [if isCfg c = true then cAg c else nilRw, B (isCfg c)], cOk c) := by simp only [M39, unA_eq]
  rw [e]
  have hoC : okC ⟨c.name, c.cls, c.fil, c.dflt⟩ := hp
  cases g : isCfg c with
  | false =>
    have g' : isCfg ⟨c.name, c.cls, c.fil, c.dflt⟩ = false := g
    simp -implicitDefEqProofs [Tryz.f39, List.lookup_cons, and_assoc, pick_and, pick_or, if_and, if_or, F31, cAg, cOk, obCls, obFil, hp, hoC, g, g', pur2osl, purnil2]
    refine finN [0, 1] [] (by simp [pickOkN]) (by simp [upd, tl_cons]) ?_
    simp [nilRw, one]
  | true =>
    have g' : isCfg ⟨c.name, c.cls, c.fil, c.dflt⟩ = true := g
    simp -implicitDefEqProofs [Tryz.f39, List.lookup_cons, and_assoc, pick_and, pick_or, if_and, if_or, F31, cAg, cOk, obCls, obFil, hp, hoC, g, g', pur2osl, purnil2]
    refine finN [0, 1] [] (by simp [pickOkN]) (by simp [upd, tl_cons]) ?_
    simp [one]
/-! ### all changes, one after the other -/
def allX : Option Cfg → X × List Ob
  | some d => (.tup [cAg d, B true], cOk d)
  | none => (.tup [nilCf, B false], [])
def allY : Option Cfg → X × List Ob
  | some d => (.tup [.agg (cX d), B true], [])
  | none => (.tup [nilCf, B false], [])
end Go.Proofs
