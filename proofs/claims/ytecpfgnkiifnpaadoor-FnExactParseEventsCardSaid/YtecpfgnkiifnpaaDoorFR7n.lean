/-
  What is proved here: contracts of the reference's readers of numbers, decimal or hexadecimal. Condition: none.
-/
import Derived.Test.YtecpfgnkiifnpaaDoorFR6n
namespace Go.Proofs
open Go.Abs Go.Flat
set_option linter.unusedSimpArgs false
set_option linter.unnecessarySimpa false
set_option linter.unusedVariables false
set_option maxHeartbeats 8000000
set_option maxRecDepth 20000
def F110 : Fun := ⟨fun xs => ∃ b, xs = [Sx b] ∧ b.size ≤ 1048576, fun xs => (B (isHexL (bL (deS (xs.getD 0 .top)))), [])⟩
theorem c110 : GenCA K Tryd.prog 110 F110 := by
  refine contractA Tryd.mix K [] [] (by simp) (by simp) Tryd.func110 rfl (by decide) ?_
  rintro xs ⟨b, rfl, hb⟩
  have hres : F110.res [Sx b] = (B (isHexL (bL b)), []) := rfl
  rw [hres]
  refine ⟨by rw [Tryd.ntmps110]; simp, ?_⟩
  by_cases h2 : 2 ≤ b.size
  · have h2i : (2 : Int) ≤ b.size := by omega
    by_cases h3 : (b.extract 0 2).toList = [48, 120]
    · rw [(isHex_ext b).2 ⟨h2, h3⟩]
      simp -implicitDefEqProofs [Tryd.f110, List.lookup_cons, eS, Sx, h2, h2i, h3, eSlice, bnd]
      refine fin_pure (by simp) ?_
      simp -implicitDefEqProofs [fS, rn0, pickObs, deI]
    · rw [Bool.eq_false_iff.2 fun hc => h3 ((isHex_ext b).1 hc).2]
      simp -implicitDefEqProofs [Tryd.f110, List.lookup_cons, eS, Sx, h2, h2i, h3, eSlice, bnd]
      refine fin_pure (by simp) ?_
      simp -implicitDefEqProofs [fS, rn0, pickObs, deI, h3]
  · have h2i : ¬ (2 : Int) ≤ b.size := by omega
    rw [Bool.eq_false_iff.2 fun hc => h2 ((isHex_ext b).1 hc).1]
    simp -implicitDefEqProofs [Tryd.f110, List.lookup_cons, eS, Sx, h2, h2i, eSlice, bnd]
    refine fin_pure (by simp) ?_
    simp -implicitDefEqProofs [fS, rn0, pickObs, deI]
def F111 : Fun := ⟨fun xs => ∃ b, xs = [Sx b] ∧ b.size ≤ 1048576, fun xs => (I (rdHex (bL (deS (xs.getD 0 .top)))), [])⟩
theorem c111 : GenCA K Tryd.prog 111 F111 := by
  refine contractA Tryd.mix K [(110, F110), (53, F53)] [] (by simp [c110, c53]) (by simp) Tryd.func111 rfl (by decide) ?_
  rintro xs ⟨b, rfl, hb⟩
  have hres : F111.res [Sx b] = (I (rdHex (bL b)), []) := rfl
  rw [hres]
  refine ⟨by rw [Tryd.ntmps111]; simp, ?_⟩
  have p1 : F110.pre [.v (.string b)] := ⟨b, rfl, hb⟩
  have q1 : F110.res [.v (.string b)] = (B (isHexL (bL b)), []) := rfl
  cases hx : isHexL (bL b) with
  | false =>
    rw [hx] at q1
    have e : rdHex (bL b) = -1 := by unfold rdHex; rw [if_neg (by simp [hx])]
    rw [e]
    simp -implicitDefEqProofs [Tryd.f111, List.lookup_cons, eS, Sx, p1, q1]
    refine fin_pure (by simp) ?_
    simp -implicitDefEqProofs [fS, rn0, pickObs, deI]
  | true =>
    rw [hx] at q1
    obtain ⟨h2, _⟩ := (isHex_ext b).1 hx
    have p2 : F53.pre [.v (.string (b.extract 2 b.size)), .v (.int .i64 16), .v (.int .i64 65535)] := ⟨b.extract 2 b.size, 16, 65535, rfl, Or.inr rfl, by omega, Nat.le_trans (by rw [ext_size _ _ _ (Nat.le_refl _)]; omega) hb⟩
    have q2 : F53.res [.v (.string (b.extract 2 b.size)), .v (.int .i64 16), .v (.int .i64 65535)] = (I (optI (numD 16 65535 (bL (b.extract 2 b.size)))), []) := dg_res _ 16 65535
    have e : rdHex (bL b) = optI (numD 16 65535 (bL (b.extract 2 b.size))) := by
      rw [rdHex_1 hx, bL_ext, List.take_of_length_le (by rw [List.length_drop, bL_len]; omega)]
    rw [e]
    simp -implicitDefEqProofs [Tryd.f111, List.lookup_cons, eS, Sx, p1, q1, p2, q2, eSlice, bnd, h2]
    refine ⟨by omega, fin_pure (by simp) ?_⟩
    simp -implicitDefEqProofs [fS, rn0, pickObs, deI]
def unitsL : List ByteArray := [⟨#[109]⟩, ⟨#[107]⟩, ⟨#[]⟩]
def Fr52 : Fun := ⟨fun xs => xs = [], fun _ => (.sl [[.v (.string ⟨#[109]⟩)], [.v (.string ⟨#[107]⟩)], [.v (.string ⟨#[]⟩)]], [])⟩
theorem cr52 : GenCA K Tryd.prog 52 Fr52 := by
  refine contractA Tryd.mix K [] [] (by simp) (by simp) Tryd.func52 rfl (by decide) ?_
  rintro xs rfl
  refine ⟨by rw [Tryd.ntmps52]; simp, ?_⟩
  simp -implicitDefEqProofs [Tryd.f52, List.lookup_cons, eS, eBuildSlice, fillX, chunk, plain, cellsX, splice]
  refine fin_pure (by simp) ?_
  rfl
def szU : Int → Int := fun k => if k = 0 then 1000000 else if k = 1 then 1000 else 1
def Fr54 : Fun := ⟨fun xs => xs = [I 0] ∨ xs = [I 1], fun xs => (I (szU (deI (xs.getD 0 .top))), [])⟩
theorem cr54 : GenCA K Tryd.prog 54 Fr54 := by
  refine contractA Tryd.mix K [] [] (by simp) (by simp) Tryd.func54 rfl (by decide) ?_
  rintro xs (rfl | rfl)
  · refine ⟨by rw [Tryd.ntmps54]; simp, ?_⟩
    simp -implicitDefEqProofs [Tryd.f54, List.lookup_cons, eS, eBuildSlice, fillX, chunk, plain, cellsX, splice]
    refine fin_pure (by simp) ?_
    rfl
  · refine ⟨by rw [Tryd.ntmps54]; simp, ?_⟩
    simp -implicitDefEqProofs [Tryd.f54, List.lookup_cons, eS, eBuildSlice, fillX, chunk, plain, cellsX, splice]
    refine fin_pure (by simp) ?_
    rfl
def F35 : Fun := ⟨fun xs => ∃ b, xs = [Sx b] ∧ b.size ≤ 1048576, fun xs => (I (rdNum (bL (deS (xs.getD 0 .top)))), [])⟩
theorem last_ext {b : ByteArray} (h : 0 < b.size) (x : UInt8) : (b.extract (b.size - 1) b.size).toList = [x] ↔ byt b (b.size - 1) = (x.toNat : Int) := by
  have hl : b.size - 1 < (bL b).length := by rw [bL_len]; omega
  rw [toL, bL_ext, byt_at hl, List.drop_eq_getElem_cons hl, show b.size - (b.size - 1) = 0 + 1 by omega, List.take_succ_cons, List.take_zero]
  constructor
  · intro e
    injection e with e _
    rw [e]
  · intro e
    rw [show (bL b)[b.size - 1] = x from UInt8.toNat_inj.1 (Int.ofNat_inj.1 e)]
theorem rdU {b : ByteArray} {U : Nat} (hU : unitN (bL b) = U) (h1 : U ≠ 1) : rdNum (bL b) = if optI (numD 10 (1000000000 / U) (bL (b.extract 0 (b.size - 1)))) ≤ 0 then -1 else optI (numD 10 (1000000000 / U) (bL (b.extract 0 (b.size - 1)))) * U := by
  unfold rdNum
  rw [if_neg (by rw [hU]; exact h1), hU, drop_last]
  cases numD 10 (1000000000 / U) (bL (b.extract 0 (b.size - 1))) with
  | none => rfl
  | some n =>
    by_cases hn : n = 0
    · subst hn; rfl
    · show (if n = 0 then -1 else ((n * U : Nat) : Int)) = _
      rw [if_neg hn, if_neg (by show ¬ (n : Int) ≤ 0; omega), Int.natCast_mul]
      rfl
theorem numD_le {base most : Nat} {l : List UInt8} {n : Nat} (h : numD base most l = some n) : n ≤ most ∨ n = 0 := by
  have key : ∀ (l : List UInt8) (m n : Nat), m ≤ most → dgN base most l m = some n → n ≤ most := by
    intro l
    induction l with
    | nil => intro m n hm e; rw [dgN] at e; injection e with e; omega
    | cons c l ih =>
      intro m n hm e
      rw [dgN] at e
      split at e
      · cases e
      · split at e
        · cases e
        · exact ih _ _ (by omega) e
  unfold numD at h
  split at h
  · cases h
  · exact Or.inl (key _ _ _ (Nat.zero_le _) h)
theorem optI_rng {base most : Nat} (l : List UInt8) : -1 ≤ optI (numD base most l) ∧ optI (numD base most l) ≤ most := by
  cases h : numD base most l with
  | none => exact ⟨by decide, by simp only [optI]; omega⟩
  | some n =>
    have := numD_le h
    simp only [optI]
    omega
theorem c35 : GenCA K Tryd.prog 35 F35 := by
  refine contractA Tryd.mix K [(52, Fr52), (54, Fr54), (53, F53)] [] (by simp [cr52, cr54, c53]) (by simp) Tryd.func35 rfl (by decide) ?_
  rintro xs ⟨b, rfl, hb⟩
  have hres : F35.res [Sx b] = (I (rdNum (bL b)), []) := rfl
  rw [hres]
  refine ⟨by rw [Tryd.ntmps35]; simp, ?_⟩
  have pu : Fr52.pre [] := rfl
  have qu : Fr52.res [] = (.sl [[.v (.string ⟨#[109]⟩)], [.v (.string ⟨#[107]⟩)], [.v (.string ⟨#[]⟩)]], []) := rfl
  have ps0 : Fr54.pre [.v (.int .i64 0)] := Or.inl rfl
  have ps1 : Fr54.pre [.v (.int .i64 1)] := Or.inr rfl
  have qs0 : Fr54.res [.v (.int .i64 0)] = (.v (.int .i64 1000000), []) := rfl
  have qs1 : Fr54.res [.v (.int .i64 1)] = (.v (.int .i64 1000), []) := rfl
  have pd : F53.pre [.v (.string b), .v (.int .i64 10), .v (.int .i64 1000000000)] := ⟨b, 10, 1000000000, rfl, Or.inl rfl, Nat.le_refl _, hb⟩
  have qd : F53.res [.v (.string b), .v (.int .i64 10), .v (.int .i64 1000000000)] = (I (optI (numD 10 1000000000 (bL b))), []) := dg_res _ 10 1000000000
  simp -implicitDefEqProofs [Tryd.f35, List.lookup_cons, eS, Sx, pu, qu]
  refine loopP_inv (fun k : Nat => ⟨47, tl [(0, .v (.string b)), (6, .sl [[.v (.string ⟨#[109]⟩)], [.v (.string ⟨#[107]⟩)], [.v (.string ⟨#[]⟩)]]), (7, .v (.int .i64 3)), (8, I k)], []⟩) (fun k => k ≤ 3 ∧ (0 < k → 0 < b.size → byt b (b.size - 1) ≠ 109) ∧ (1 < k → 0 < b.size → byt b (b.size - 1) ≠ 107)) (fun k => 3 - k) 0 ⟨by omega, by omega, by omega⟩ (Wk.tl (by simp [hold, upd, tl_cons])) ?_
  rintro k ⟨hk, h1, h2⟩
  have hb1 : b.size - 1 ≤ b.size := Nat.sub_le _ _
  obtain rfl | rfl | rfl | rfl : k = 0 ∨ k = 1 ∨ k = 2 ∨ k = 3 := by omega
  · by_cases hp : 0 < b.size
    · have hpi : 0 < (b.size : Int) := by omega
      have hw : IntKind.i64.wrap ((b.size : Int) - 1) = ((b.size - 1 : Nat) : Int) := by rw [w64 (by omega) (by omega)]; omega
      have hl : b.size - 1 < b.size := by omega
      have he := last_ext hp 109
      by_cases hc : byt b (b.size - 1) = 109
      · have hU : unitN (bL b) = 1000000 := by rw [unit_k hp]; simp only [hc]; decide
        have hq := rdU hU (by decide)
        have hr := optI_rng (base := 10) (most := 1000000000 / 1000000) (bL (b.extract 0 (b.size - 1)))
        have pe : F53.pre [.v (.string (b.extract 0 (b.size - 1))), .v (.int .i64 10), .v (.int .i64 1000)] := ⟨b.extract 0 (b.size - 1), 10, 1000, rfl, Or.inl rfl, by decide, Nat.le_trans (by rw [ext_size _ _ _ (by omega)]; omega) hb⟩
        have qe : F53.res [.v (.string (b.extract 0 (b.size - 1))), .v (.int .i64 10), .v (.int .i64 1000)] = (I (optI (numD 10 (1000000000 / 1000000) (bL (b.extract 0 (b.size - 1))))), []) := dg_res _ 10 1000
        rw [hq]
        generalize optI (numD 10 (1000000000 / 1000000) (bL (b.extract 0 (b.size - 1)))) = v at qe hr ⊢
        have hr1 : -1 ≤ v := hr.1
        have hr2 : v ≤ 1000 := hr.2
        clear hr hq hU
        have hdv : IntKind.i64.wrap 1000 = 1000 := by decide
        simp -implicitDefEqProofs [List.lookup_cons, eS, hp, hpi, hw, hl, hb1, eSlice, bnd, he, hc]
        refine drawP_x _ [(5, 0), (6, 0), (0, 0), (1, 0), (2, 0), (3, 0), (4, 0), (7, 1), (8, 1), (9, 2)] [6, 8] (by decide) ?_
        simp -implicitDefEqProofs [List.lookup_cons, eS, hp, hpi, hw, hl, hb1, eSlice, bnd, ps0, qs0, hdv, pe, qe, OpOk]
        refine ⟨fun hv => ?_, fun hv => ?_⟩
        · rw [if_pos hv]
          refine fin_pure (by simp) ?_
          simp -implicitDefEqProofs [fS, rn0, pickObs, deI]
        · rw [if_neg (by omega)]
          have wm : IntKind.i64.wrap (v * 1000000) = v * 1000000 := w64m v (by omega) (by omega)
          rw [wm]
          refine fin_pure (by simp) ?_
          simp -implicitDefEqProofs [fS, rn0, pickObs, deI]
      · simp -implicitDefEqProofs [List.lookup_cons, eS, hp, hpi, hw, hl, hb1, eSlice, bnd, he, hc]
        exact ⟨1, by omega, by omega, by omega, Wk.tl (by simp [hold, upd, tl_cons, show IntKind.i64.wrap 1 = 1 by decide, show IntKind.i64.wrap 2 = 2 by decide, show IntKind.i64.wrap 3 = 3 by decide])⟩
    · have hpi : ¬ 0 < (b.size : Int) := by omega
      simp -implicitDefEqProofs [List.lookup_cons, eS, hp, hpi]
      exact ⟨1, by omega, by omega, Wk.tl (by simp [hold, upd, tl_cons, show IntKind.i64.wrap 1 = 1 by decide, show IntKind.i64.wrap 2 = 2 by decide, show IntKind.i64.wrap 3 = 3 by decide])⟩
  · by_cases hp : 0 < b.size
    · have hpi : 0 < (b.size : Int) := by omega
      have hw : IntKind.i64.wrap ((b.size : Int) - 1) = ((b.size - 1 : Nat) : Int) := by rw [w64 (by omega) (by omega)]; omega
      have hl : b.size - 1 < b.size := by omega
      have he := last_ext hp 107
      by_cases hc : byt b (b.size - 1) = 107
      · have hU : unitN (bL b) = 1000 := by rw [unit_k hp]; simp only [hc]; decide
        have hq := rdU hU (by decide)
        have hr := optI_rng (base := 10) (most := 1000000000 / 1000) (bL (b.extract 0 (b.size - 1)))
        have pe : F53.pre [.v (.string (b.extract 0 (b.size - 1))), .v (.int .i64 10), .v (.int .i64 1000000)] := ⟨b.extract 0 (b.size - 1), 10, 1000000, rfl, Or.inl rfl, by decide, Nat.le_trans (by rw [ext_size _ _ _ (by omega)]; omega) hb⟩
        have qe : F53.res [.v (.string (b.extract 0 (b.size - 1))), .v (.int .i64 10), .v (.int .i64 1000000)] = (I (optI (numD 10 (1000000000 / 1000) (bL (b.extract 0 (b.size - 1))))), []) := dg_res _ 10 1000000
        rw [hq]
        generalize optI (numD 10 (1000000000 / 1000) (bL (b.extract 0 (b.size - 1)))) = v at qe hr ⊢
        have hr1 : -1 ≤ v := hr.1
        have hr2 : v ≤ 1000000 := hr.2
        clear hr hq hU
        have hdv : IntKind.i64.wrap 1000000 = 1000000 := by decide
        simp -implicitDefEqProofs [List.lookup_cons, eS, hp, hpi, hw, hl, hb1, eSlice, bnd, he, hc]
        refine drawP_x _ [(5, 0), (6, 0), (0, 0), (1, 0), (2, 0), (3, 0), (4, 0), (7, 1), (8, 1), (9, 2)] [6, 8] (by decide) ?_
        simp -implicitDefEqProofs [List.lookup_cons, eS, hp, hpi, hw, hl, hb1, eSlice, bnd, ps1, qs1, hdv, pe, qe, OpOk]
        refine ⟨fun hv => ?_, fun hv => ?_⟩
        · rw [if_pos hv]
          refine fin_pure (by simp) ?_
          simp -implicitDefEqProofs [fS, rn0, pickObs, deI]
        · rw [if_neg (by omega)]
          have wm : IntKind.i64.wrap (v * 1000) = v * 1000 := w64 (by omega) (by omega)
          rw [wm]
          refine fin_pure (by simp) ?_
          simp -implicitDefEqProofs [fS, rn0, pickObs, deI]
      · simp -implicitDefEqProofs [List.lookup_cons, eS, hp, hpi, hw, hl, hb1, eSlice, bnd, he, hc]
        exact ⟨2, by omega, fun _ => h1 (by omega) hp, by omega, Wk.tl (by simp [hold, upd, tl_cons, show IntKind.i64.wrap 1 = 1 by decide, show IntKind.i64.wrap 2 = 2 by decide, show IntKind.i64.wrap 3 = 3 by decide])⟩
    · have hpi : ¬ 0 < (b.size : Int) := by omega
      simp -implicitDefEqProofs [List.lookup_cons, eS, hp, hpi]
      exact ⟨2, by omega, by omega, Wk.tl (by simp [hold, upd, tl_cons, show IntKind.i64.wrap 1 = 1 by decide, show IntKind.i64.wrap 2 = 2 by decide, show IntKind.i64.wrap 3 = 3 by decide])⟩
  · simp -implicitDefEqProofs [List.lookup_cons, eS]
    exact ⟨3, by omega, fun _ hp => h1 (by omega) hp, fun _ hp => h2 (by omega) hp, by omega, Wk.tl (by simp [hold, upd, tl_cons, show IntKind.i64.wrap 1 = 1 by decide, show IntKind.i64.wrap 2 = 2 by decide, show IntKind.i64.wrap 3 = 3 by decide])⟩
  · have hU : unitN (bL b) = 1 := by
      by_cases hp : 0 < b.size
      · rw [unit_k hp, if_neg (h1 (by omega) hp), if_neg (h2 (by omega) hp)]
      · rw [show bL b = [] by rw [← List.length_eq_zero_iff, bL_len]; omega]; rfl
    have e : rdNum (bL b) = optI (numD 10 1000000000 (bL b)) := by unfold rdNum; rw [if_pos hU]
    rw [e]
    simp -implicitDefEqProofs [List.lookup_cons, eS, pd, qd]
    refine fin_pure (by simp) ?_
    simp -implicitDefEqProofs [fS, rn0, pickObs, deI]
end Go.Proofs
