/-
  What is proved here: contracts of the library's swaps of ranges and turns at Fil. Condition: none.
  What is proved here: the contract of the library's turn of a range at Fil. Condition: none.
  What is proved here: the contract of the library's insertion sort at Fil. Condition: none.
  What is proved here: contracts of the library's stable sort at Fil. Condition: none.
-/
import Derived.Test.YteleljfnjdlnkaaGreatDoorSoA
namespace Go.Proofs
open Go.Abs Go.Srt
set_option linter.unusedSimpArgs false
set_option linter.unnecessarySimpa false
set_option linter.unusedVariables false
set_option maxHeartbeats 8000000
set_option maxRecDepth 20000

def lOFil (obs : List Ob) : List Fil := match obs with
  | ob :: _ => deT (.sl ob.rows)
  | [] => []
@[simp] theorem lOFil_ob (l : List Fil) : lOFil [obFil l] = l := by simp [lOFil, obFil]
def nAFil (xs : List X) (i : Nat) : Nat := (deI (xs.getD i .top)).toNat
def srFil (l l' : List Fil) : List Fil := l'
theorem geFil (l : List Fil) (i : Nat) (h : i < l.length) : l[i] = l.getD i Fil.z := getE Fil.z l i h
theorem gQFil (l : List Fil) (i : Nat) (h : i < l.length) : l[i]? = some (l.getD i Fil.z) := by simp [List.getD_eq_getElem?_getD, h]
theorem rFil (x : Fil) : (rX x).length = 5 := rfl
theorem sFil (x : Fil) (l : List Fil) (p : Nat) : (tR l).set p [I x.prio, I x.field, I x.mask, I x.value, I x.target] = tR (l.set p x) := tR_set l p x
theorem tFil (x : Fil) : (rX x).take 5 = rX x := rfl
theorem dFil (x : Fil) : (rX x).drop 5 = [] := rfl
theorem oneFil (l : List Fil) : ∀ (k : Nat) ob, [obFil l][k]? = some ob → k = 0 ∧ ob = obFil l := by
  rintro (_ | j) ob hob
  · simp at hob; exact ⟨rfl, hob.symm⟩
  · simp at hob
def M133 : MFun := ⟨[true], fun xs obs => ∃ (l : List Fil) (a b n : Nat), xs = [.osl 0 0, I a, I b, I n, .fn 107 []] ∧ obs = [obFil l] ∧ a + n ≤ b ∧ b + n ≤ l.length ∧ l.length ≤ 1000,
  fun xs obs => (.tup [], [obFil (swr Fil.z (lOFil obs) (nAFil xs 1) (nAFil xs 2) (nAFil xs 3))])⟩
theorem m133 : GenMA K Tryz.prog 133 M133 := by
  refine contractMA Tryz.mix K [] [] (by simp) (by simp) Tryz.func133 rfl (by decide) ?_
  rintro xs obs us ⟨l, a, b, n, rfl, rfl, h1, h2, h3⟩ hu
  obtain ⟨u, rfl⟩ : ∃ u, us = [u] := by simpa [List.length_eq_one_iff] using hu
  refine ⟨⟨by rw [Tryz.ntmps133]; simp, by simp, fun k ob hob => ?_⟩, ?_⟩
  · obtain ⟨rfl, rfl⟩ := oneFil l k ob hob
    exact ⟨_, rfl, rfl, rfl, rfl, rfl, rfl⟩
  simp -implicitDefEqProofs [Tryz.f133, List.lookup_cons, and_assoc, pick_and, pick_or, if_and, if_or]
  refine loopP_inv (fun i : Nat => ⟨38, tl [(0, .osl 0 0), (1, I a), (2, I b), (3, I n), (10, I i), (1000, .pin 0 0 u)], [obFil (swr Fil.z l a b i)]⟩) (fun i => i ≤ n) (fun i => n - i) 0 (Nat.zero_le _) (Wk.tl (by simp [hold, upd, tl_cons])) ?_
  intro i hi
  have hlen := swr_len Fil.z l a b i
  by_cases h : i < n
  · obtain ⟨p, hp⟩ : ∃ p, p = a + i := ⟨_, rfl⟩
    obtain ⟨q, hq⟩ : ∃ q, q = b + i := ⟨_, rfl⟩
    have g1 : p < l.length := by omega
    have g2 : q < l.length := by omega
    have w1 : IntKind.i64.wrap ((a : Int) + i) = (p : Int) := by rw [w64 (by omega) (by omega)]; omega
    have w2 : IntKind.i64.wrap ((b : Int) + i) = (q : Int) := by rw [w64 (by omega) (by omega)]; omega
    have w3 := w64n (show i < 4611686018427387904 by omega)
    have hs : swr Fil.z l a b (i + 1) = ((swr Fil.z l a b i).set p ((swr Fil.z l a b i).getD q Fil.z)).set q ((swr Fil.z l a b i).getD p Fil.z) := by rw [hp, hq]; rfl
    have hs2 : obFil (swr Fil.z l a b (i + 1)) = obFil (((swr Fil.z l a b i).set p ((swr Fil.z l a b i).getD q Fil.z)).set q ((swr Fil.z l a b i).getD p Fil.z)) := by rw [hs]
    have hg1 : (swr Fil.z l a b i)[p]? = some ((swr Fil.z l a b i).getD p Fil.z) := gQFil _ _ (by omega)
    have hg2 : (swr Fil.z l a b i)[q]? = some ((swr Fil.z l a b i).getD q Fil.z) := gQFil _ _ (by omega)
    generalize swr Fil.z l a b i = L at *
    generalize L.getD p Fil.z = x at *
    generalize L.getD q Fil.z = y at *
    have hx : L[p]'(by omega) = x := by rw [List.getElem?_eq_getElem (by omega)] at hg1; exact Option.some.inj hg1
    have hy : L[q]'(by omega) = y := by rw [List.getElem?_eq_getElem (by omega)] at hg2; exact Option.some.inj hg2
    simp -implicitDefEqProofs [List.lookup_cons, and_assoc, pick_and, pick_or, if_and, if_or, h, obFil]
    refine drawP_x _ [(0, 0), (1, 0), (2, 0), (3, 0), (8, 0), (9, 0), (10, 0), (11, 0), (12, 0), (13, 0), (14, 0), (15, 0), (16, 0), (17, 0), (18, 0), (19, 0), (20, 0), (21, 0), (4, 0), (5, 0), (6, 0), (7, 0), (22, 1), (23, 1)] [21, 23] (by decide) ?_
    simp -implicitDefEqProofs [List.lookup_cons, and_assoc, pick_and, pick_or, if_and, if_or, w1, w2, w3, g1, g2, hlen, hx, hy, sFil, rFil, tFil, dFil, tR_set, getSet_ne, show q ≠ p by omega, show p ≠ q by omega]
    refine ⟨i + 1, by omega, by omega, ?_⟩
    have hs3 : tR (swr Fil.z l a b (i + 1)) = tR ((L.set p y).set q x) := by rw [hs]
    rw [hs3]
    exact Wk.tl (by simp [hold, upd, tl_cons])
  · have e : i = n := by omega
    subst e
    simp -implicitDefEqProofs [List.lookup_cons, and_assoc, pick_and, pick_or, if_and, if_or, obFil]
    refine finM1 0 [] (obFil (swr Fil.z l a b i)) (by simp [pickOk, -List.all_eq_true, tR_ok]) (by simp [obFil]) (by simp [obFil, upd, tl_cons]) ?_
    simp -implicitDefEqProofs [pur2_i, pur2_b, pur2_s, pur2_nil, pur2_sl, pur2_tup, rn2_tup, rn2_agg, rn2_osl, rn1_v, rn1_osl, rn1_agg, rn0_v, rn0_sl, rn0, pickObs, pur_v, pur_b, pur_s, pur_nil, pur_sl, deI, deIs_sl, M133, obFil, nAFil, lOFil, one, rn2]
end Go.Proofs

namespace Go.Proofs
open Go.Abs Go.Srt
set_option linter.unusedSimpArgs false
set_option linter.unnecessarySimpa false
set_option linter.unusedVariables false
set_option maxHeartbeats 8000000
set_option maxRecDepth 20000

theorem mu133 : M133.mu = [true] := rfl
theorem pre133 (l : List Fil) (a b n : Nat) (h1 : a + n ≤ b) (h2 : b + n ≤ l.length) (h3 : l.length ≤ 1000) : M133.pre [.osl 0 0, I a, I b, I n, .fn 107 []] [⟨59, 5, 0, tR l, false, true, none⟩] := ⟨l, a, b, n, rfl, rfl, h1, h2, h3⟩
theorem res133 (l : List Fil) (a b n : Nat) : M133.res [.osl 0 0, I a, I b, I n, .fn 107 []] [⟨59, 5, 0, tR l, false, true, none⟩] = (.tup [], [⟨59, 5, 0, tR (swr Fil.z l a b n), false, true, none⟩]) := by
  simp [M133, obFil, nAFil, lOFil]
def M131 : MFun := ⟨[true], fun xs obs => ∃ (l : List Fil) (a m b : Nat), xs = [.osl 0 0, I a, I m, I b, .fn 107 []] ∧ obs = [obFil l] ∧ a < m ∧ m < b ∧ b ≤ l.length ∧ l.length ≤ 1000,
  fun xs obs => (.tup [], [obFil (rot (lOFil obs) (nAFil xs 1) (nAFil xs 2) (nAFil xs 3))])⟩
theorem m131 : GenMA K Tryz.prog 131 M131 := by
  refine contractMA Tryz.mix K [] [(133, M133)] (by simp) (by simp [m133]) Tryz.func131 rfl (by decide) ?_
  rintro xs obs us ⟨l, a, m, b, rfl, rfl, h1, h2, h3, h4⟩ hu
  obtain ⟨u, rfl⟩ : ∃ u, us = [u] := by simpa [List.length_eq_one_iff] using hu
  refine ⟨⟨by rw [Tryz.ntmps131]; simp, by simp, fun k ob hob => ?_⟩, ?_⟩
  · obtain ⟨rfl, rfl⟩ := oneFil l k ob hob
    exact ⟨_, rfl, rfl, rfl, rfl, rfl, rfl⟩
  obtain ⟨i0, hi0⟩ : ∃ i, i = m - a := ⟨_, rfl⟩
  obtain ⟨j0, hj0⟩ : ∃ j, j = b - m := ⟨_, rfl⟩
  have w1 : IntKind.i64.wrap ((m : Int) - a) = (i0 : Int) := by rw [w64 (by omega) (by omega)]; omega
  have w2 : IntKind.i64.wrap ((b : Int) - m) = (j0 : Int) := by rw [w64 (by omega) (by omega)]; omega
  simp -implicitDefEqProofs [Tryz.f131, List.lookup_cons, and_assoc, pick_and, pick_or, if_and, if_or, w1, w2]
  refine loopP_inv (fun s : Nat × Nat × List Fil => ⟨58, tl [(0, .osl 0 0), (1, I a), (2, I m), (3, I b), (4, .fn 107 []), (10, I s.1), (11, I s.2.1), (1000, .pin 0 0 u)], [obFil s.2.2]⟩)
    (fun s => 0 < s.1 ∧ 0 < s.2.1 ∧ s.1 ≤ m ∧ m + s.2.1 ≤ l.length ∧ s.2.2.length = l.length ∧ rot s.2.2 (m - s.1) m (m + s.2.1) = rot l a m b) (fun s => s.1 + s.2.1) (i0, j0, l)
    ⟨by simp only; omega, by simp only; omega, by simp only; omega, by simp only; omega, rfl, by simp only; rw [show m - i0 = a by omega, show m + j0 = b by omega]⟩ (Wk.tl (by simp [hold, upd, tl_cons])) ?_
  rintro ⟨i, j, L⟩ ⟨c1, c2, c3, c4, c5, c6⟩
  simp only at c1 c2 c3 c4 c5 c6
  obtain ⟨p, hp⟩ : ∃ p, p = m - i := ⟨_, rfl⟩
  have v1 : IntKind.i64.wrap ((m : Int) - i) = (p : Int) := by rw [w64 (by omega) (by omega)]; omega
  by_cases h : i = j
  · subst h
    have q1 := pre133 L p m i (by omega) (by omega) (by omega)
    have q2 := res133 L p m i
    have e : swr Fil.z L p m i = rot l a m b := by rw [hp, rot_same Fil.z L m i c3 (by omega)]; exact c6
    simp -implicitDefEqProofs [List.lookup_cons, and_assoc, pick_and, pick_or, if_and, if_or, obFil, v1, mu133, q1, q2, pickOk, -List.all_eq_true, e]
    refine finM1 0 [] (obFil (rot l a m b)) (by simp [pickOk, -List.all_eq_true, tR_ok]) (by simp [obFil]) (by simp [obFil, upd, tl_cons]) ?_
    simp -implicitDefEqProofs [pur2_i, pur2_b, pur2_s, pur2_nil, pur2_sl, pur2_tup, rn2_tup, rn2_agg, rn2_osl, rn1_v, rn1_osl, rn1_agg, rn0_v, rn0_sl, rn0, pickObs, pur_v, pur_b, pur_s, pur_nil, pur_sl, deI, deIs_sl, M131, obFil, nAFil, lOFil, one, rn2]
  · have hne : ¬ (i : Int) = j := by omega
    by_cases h' : j < i
    · have q1 := pre133 L p m j (by omega) (by omega) (by omega)
      have q2 := res133 L p m j
      obtain ⟨i', hi'⟩ : ∃ i', i' = i - j := ⟨_, rfl⟩
      have v2 : IntKind.i64.wrap ((i : Int) - j) = (i' : Int) := by rw [w64 (by omega) (by omega)]; omega
      have e : rot (swr Fil.z L p m j) (m - i') m (m + j) = rot l a m b := by rw [hp, hi', rot_lo Fil.z L m i j c3 (by omega) h']; exact c6
      have e' := swr_len Fil.z L p m j
      simp -implicitDefEqProofs [List.lookup_cons, and_assoc, pick_and, pick_or, if_and, if_or, obFil, h, hne, h', v1, v2, mu133, q1, q2, pickOk, -List.all_eq_true]
      refine ⟨i', by omega, j, by omega, by omega, by omega, swr Fil.z L p m j, by omega, e, by omega, ?_⟩
      exact Wk.tl (by simp [hold, upd, tl_cons])
    · obtain ⟨j', hj'⟩ : ∃ j', j' = j - i := ⟨_, rfl⟩
      obtain ⟨q, hq⟩ : ∃ q, q = m + j - i := ⟨_, rfl⟩
      have q1 := pre133 L p q i (by omega) (by omega) (by omega)
      have q2 := res133 L p q i
      have v2 : IntKind.i64.wrap ((j : Int) - i) = (j' : Int) := by rw [w64 (by omega) (by omega)]; omega
      have v3 : IntKind.i64.wrap ((m : Int) + j) = (m : Int) + j := w64 (by omega) (by omega)
      have v4 : IntKind.i64.wrap ((m : Int) + j - i) = (q : Int) := by rw [w64 (by omega) (by omega)]; omega
      have e : rot (swr Fil.z L p q i) (m - i) m (m + j') = rot l a m b := by rw [hp, hq, hj', rot_hi Fil.z L m i j c3 (by omega) (by omega)]; exact c6
      have e' := swr_len Fil.z L p q i
      simp -implicitDefEqProofs [List.lookup_cons, and_assoc, pick_and, pick_or, if_and, if_or, obFil, h, hne, h', v1, v2, v3, v4, mu133, q1, q2, pickOk, -List.all_eq_true]
      refine ⟨i, by omega, j', by omega, by omega, by omega, swr Fil.z L p q i, by omega, e, by omega, ?_⟩
      exact Wk.tl (by simp [hold, upd, tl_cons])
end Go.Proofs

namespace Go.Proofs
open Go.Abs Go.Srt
set_option linter.unusedSimpArgs false
set_option linter.unnecessarySimpa false
set_option linter.unusedVariables false
set_option maxHeartbeats 8000000
set_option maxRecDepth 20000

def M127 : MFun := ⟨[true], fun xs obs => ∃ (l : List Fil) (a b : Nat), xs = [.osl 0 0, I a, I b, .fn 107 []] ∧ obs = [obFil l] ∧ a ≤ 1000 ∧ b ≤ l.length ∧ l.length ≤ 1000,
  fun xs obs => (.tup [], [obFil (insS Fil.z ltFil (nAFil xs 1) (nAFil xs 2) (lOFil obs))])⟩
theorem sink_stopFil (a j : Nat) (L : List Fil) (h : ¬ (a < j ∧ ltFil (L.getD j Fil.z) (L.getD (j - 1) Fil.z) = true)) : sink Fil.z ltFil a j L = L := by
  cases j with
  | zero => rfl
  | succ m => unfold sink; exact if_neg h
theorem sink_goFil (a j : Nat) (L : List Fil) (h1 : a < j) (h2 : ltFil (L.getD j Fil.z) (L.getD (j - 1) Fil.z) = true) : sink Fil.z ltFil a j L = sink Fil.z ltFil a (j - 1) ((L.set j (L.getD (j - 1) Fil.z)).set (j - 1) (L.getD j Fil.z)) := by
  cases j with
  | zero => omega
  | succ m =>
    conv => lhs; unfold sink
    exact if_pos ⟨h1, h2⟩
theorem m127 : GenMA K Tryz.prog 127 M127 := by
  refine contractMA Tryz.mix K [(107, F107)] [] (by simp [c107]) (by simp) Tryz.func127 rfl (by decide) ?_
  rintro xs obs us ⟨l, a, b, rfl, rfl, h0, h1, h2⟩ hu
  obtain ⟨u, rfl⟩ : ∃ u, us = [u] := by simpa [List.length_eq_one_iff] using hu
  refine ⟨⟨by rw [Tryz.ntmps127]; simp, by simp, fun k ob hob => ?_⟩, ?_⟩
  · obtain ⟨rfl, rfl⟩ := oneFil l k ob hob
    exact ⟨_, rfl, rfl, rfl, rfl, rfl, rfl⟩
  have w0 := w64n (show a < 4611686018427387904 by omega)
  simp -implicitDefEqProofs [Tryz.f127, List.lookup_cons, and_assoc, pick_and, pick_or, if_and, if_or, w0]
  refine loopP_inv (fun i : Nat => ⟨53, tl [(0, .osl 0 0), (1, I a), (2, I b), (3, .fn 107 []), (8, I i), (1000, .pin 0 0 u)], [obFil (insS Fil.z ltFil a i l)]⟩) (fun i => a + 1 ≤ i ∧ (i ≤ b ∨ i = a + 1)) (fun i => b - i) (a + 1) ⟨Nat.le_refl _, .inr rfl⟩ ?_ ?_
  · simp only [insS_triv Fil.z ltFil a (a + 1) l (Nat.le_refl _)]
    exact Wk.tl (by simp [hold, upd, tl_cons])
  rintro i ⟨hi1, hi2⟩
  by_cases h : i < b
  · have hw := w64n (show i < 4611686018427387904 by omega)
    have hst := insS_step Fil.z ltFil a i l (by omega)
    have hln := insS_len Fil.z ltFil a i l
    simp -implicitDefEqProofs [List.lookup_cons, and_assoc, pick_and, pick_or, if_and, if_or, h, obFil]
    refine loopP_inv (fun s : Nat × List Fil => ⟨53, tl [(0, .osl 0 0), (1, I a), (2, I b), (3, .fn 107 []), (8, I i), (9, I s.1), (1000, .pin 0 0 u)], [obFil s.2]⟩)
      (fun s => a ≤ s.1 ∧ s.1 ≤ i ∧ s.2.length = l.length ∧ sink Fil.z ltFil a s.1 s.2 = insS Fil.z ltFil a (i + 1) l) (fun s => s.1) (i, insS Fil.z ltFil a i l) ⟨by simp only; omega, Nat.le_refl _, hln, hst.symm⟩ (Wk.tl (by simp [hold, upd, tl_cons])) ?_
    rintro ⟨j, L⟩ ⟨c1, c2, c3, c4⟩
    simp only at c1 c2 c3 c4
    by_cases hj : a < j
    · obtain ⟨q, hq⟩ : ∃ q, q = j - 1 := ⟨_, rfl⟩
      have g1 : j < l.length := by omega
      have g2 : q < l.length := by omega
      have v1 : IntKind.i64.wrap ((j : Int) - 1) = (q : Int) := by rw [w64 (by omega) (by omega)]; omega
      have hg1 : L[j]? = some (L.getD j Fil.z) := gQFil _ _ (by omega)
      have hg2 : L[q]? = some (L.getD q Fil.z) := gQFil _ _ (by omega)
      have e1 := sink_goFil a j L hj
      have e2 := sink_stopFil a j L
      rw [← hq] at e1 e2
      generalize L.getD j Fil.z = x at *
      generalize L.getD q Fil.z = y at *
      have hx : L[j]'(by omega) = x := by rw [List.getElem?_eq_getElem (by omega)] at hg1; exact Option.some.inj hg1
      have hy : L[q]'(by omega) = y := by rw [List.getElem?_eq_getElem (by omega)] at hg2; exact Option.some.inj hg2
      by_cases hlt : x.prio < y.prio
      · have e3 := e1 (by simp [ltFil, hlt])
        rw [c4] at e3
        simp -implicitDefEqProofs [List.lookup_cons, and_assoc, pick_and, pick_or, if_and, if_or, obFil]
        refine drawP_all _ (by decide) ?_
        simp -implicitDefEqProofs [List.lookup_cons, and_assoc, pick_and, pick_or, if_and, if_or, hj, v1, g1, g2, c3, hx, hy, F107, sFil, rFil, tFil, dFil, hlt]
        refine drawP_x _ [(0, 0), (1, 0), (5, 0), (6, 0), (7, 0), (8, 0), (9, 0), (10, 0), (11, 0), (12, 0), (13, 0), (14, 0), (15, 0), (2, 0), (3, 0), (4, 0), (16, 1), (17, 1)] [15, 17] (by decide) ?_
        simp -implicitDefEqProofs [List.lookup_cons, and_assoc, pick_and, pick_or, if_and, if_or, v1, g1, g2, c3, hx, hy, sFil, rFil, tFil, dFil, tR_set, getSet_ne, show q ≠ j by omega, show j ≠ q by omega]
        refine ⟨q, by omega, by omega, (L.set j y).set q x, by simpa using c3, e3.symm, by omega, ?_⟩
        exact Wk.tl (by simp [hold, upd, tl_cons])
      · have e3 := e2 (by simp [ltFil, hlt])
        rw [c4] at e3
        simp -implicitDefEqProofs [List.lookup_cons, and_assoc, pick_and, pick_or, if_and, if_or, obFil]
        refine drawP_all _ (by decide) ?_
        simp -implicitDefEqProofs [List.lookup_cons, and_assoc, pick_and, pick_or, if_and, if_or, hj, v1, g1, g2, c3, hx, hy, F107, sFil, rFil, tFil, dFil, hlt, hw]
        refine ⟨i + 1, by omega, by omega, by omega, ?_⟩
        rw [e3]
        exact Wk.tl (by simp [hold, upd, tl_cons])
    · have e3 := sink_stopFil a j L (fun e => hj e.1)
      rw [c4] at e3
      simp -implicitDefEqProofs [List.lookup_cons, and_assoc, pick_and, pick_or, if_and, if_or, obFil]
      refine drawP_all _ (by decide) ?_
      simp -implicitDefEqProofs [List.lookup_cons, and_assoc, pick_and, pick_or, if_and, if_or, hj, hw]
      refine ⟨i + 1, by omega, by omega, by omega, ?_⟩
      rw [e3]
      exact Wk.tl (by simp [hold, upd, tl_cons])
  · have e : insS Fil.z ltFil a i l = insS Fil.z ltFil a b l := by
      rcases hi2 with h2 | h2
      · rw [show i = b by omega]
      · rw [insS_triv Fil.z ltFil a i l (by omega), insS_triv Fil.z ltFil a b l (by omega)]
    rw [e]
    simp -implicitDefEqProofs [List.lookup_cons, and_assoc, pick_and, pick_or, if_and, if_or, h, obFil]
    refine finM1 0 [] (obFil (insS Fil.z ltFil a b l)) (by simp [pickOk, -List.all_eq_true, tR_ok]) (by simp [obFil]) (by simp [obFil, upd, tl_cons]) ?_
    simp -implicitDefEqProofs [pur2_i, pur2_b, pur2_s, pur2_nil, pur2_sl, pur2_tup, rn2_tup, rn2_agg, rn2_osl, rn1_v, rn1_osl, rn1_agg, rn0_v, rn0_sl, rn0, pickObs, pur_v, pur_b, pur_s, pur_nil, pur_sl, deI, deIs_sl, M127, obFil, nAFil, lOFil, one, rn2]
end Go.Proofs

namespace Go.Proofs
open Go.Abs Go.Srt
set_option linter.unusedSimpArgs false
set_option linter.unnecessarySimpa false
set_option linter.unusedVariables false
set_option maxHeartbeats 8000000
set_option maxRecDepth 20000

theorem mu127 : M127.mu = [true] := rfl
theorem pre127 (l : List Fil) (a b : Nat) (h1 : a ≤ 1000) (h2 : b ≤ l.length) (h3 : l.length ≤ 1000) : M127.pre [.osl 0 0, I a, I b, .fn 107 []] [⟨59, 5, 0, tR l, false, true, none⟩] := ⟨l, a, b, rfl, rfl, h1, h2, h3⟩
theorem res127 (l : List Fil) (a b : Nat) : M127.res [.osl 0 0, I a, I b, .fn 107 []] [⟨59, 5, 0, tR l, false, true, none⟩] = (.tup [], [⟨59, 5, 0, tR (insS Fil.z ltFil a b l), false, true, none⟩]) := by
  simp [M127, obFil, nAFil, lOFil]
def M121 : MFun := ⟨[true], fun xs obs => ∃ (l : List Fil), xs = [.osl 0 0, I l.length, .fn 107 []] ∧ obs = [obFil l] ∧ l.length ≤ 19,
  fun xs obs => (.tup [], [obFil (stab Fil.z ltFil (lOFil obs))])⟩
theorem m121 : GenMA K Tryz.prog 121 M121 := by
  refine contractMA Tryz.mix K [] [(127, M127)] (by simp) (by simp [m127]) Tryz.func121 rfl (by decide) ?_
  rintro xs obs us ⟨l, rfl, rfl, h1⟩ hu
  obtain ⟨u, rfl⟩ : ∃ u, us = [u] := by simpa [List.length_eq_one_iff] using hu
  refine ⟨⟨by rw [Tryz.ntmps121]; simp, by simp, fun k ob hob => ?_⟩, ?_⟩
  · obtain ⟨rfl, rfl⟩ := oneFil l k ob hob
    exact ⟨_, rfl, rfl, rfl, rfl, rfl, rfl⟩
  by_cases hs : l.length < 20
  · have hst : stab Fil.z ltFil l = insS Fil.z ltFil 0 l.length l := by unfold stab; rw [if_pos hs]
    have i1 := pre127 l 0 l.length (by omega) (by omega) (by omega)
    have i2 := res127 l 0 l.length
    have n1 : ¬ (20 : Int) ≤ l.length := by omega
    have n2 : ¬ (20 : Int) < l.length := by omega
    rw [← hst] at i2
    simp at i1 i2
    simp -implicitDefEqProofs [Tryz.f121, List.lookup_cons, and_assoc, pick_and, pick_or, if_and, if_or]
    refine loopP_inv (fun i : Unit => ⟨63, tl [(0, .osl 0 0), (1, I l.length), (2, .fn 107 []), (6, I 20), (7, I 0), (8, I 20), (1000, .pin 0 0 u)], [obFil l]⟩) (fun _ => True) (fun _ => 0) () trivial (Wk.tl (by simp [hold, upd, tl_cons])) ?_
    rintro ⟨⟩ -
    simp -implicitDefEqProofs [List.lookup_cons, and_assoc, pick_and, pick_or, if_and, if_or, n1, obFil, mu127, i1, i2, pickOk, -List.all_eq_true]
    refine loopP_inv (fun i : Unit => ⟨63, tl [(0, .osl 0 0), (1, I l.length), (2, .fn 107 []), (6, I 20), (1000, .pin 0 0 u)], [obFil (stab Fil.z ltFil l)]⟩) (fun _ => True) (fun _ => 0) () trivial (Wk.tl (by simp [hold, upd, tl_cons])) ?_
    rintro ⟨⟩ -
    simp -implicitDefEqProofs [List.lookup_cons, and_assoc, pick_and, pick_or, if_and, if_or, n2, obFil]
    refine finM1 0 [] (obFil (stab Fil.z ltFil l)) (by simp [pickOk, -List.all_eq_true, tR_ok]) (by simp [obFil]) (by simp [obFil, upd, tl_cons]) ?_
    simp -implicitDefEqProofs [pur2_i, pur2_b, pur2_s, pur2_nil, pur2_sl, pur2_tup, rn2_tup, rn2_agg, rn2_osl, rn1_v, rn1_osl, rn1_agg, rn0_v, rn0_sl, rn0, pickObs, pur_v, pur_b, pur_s, pur_nil, pur_sl, deI, deIs_sl, M121, obFil, nAFil, lOFil, one, rn2]
  · omega

def M106 : MFun := ⟨[true], fun xs obs => ∃ (l : List Fil), xs = [.osl 0 0, .fn 107 []] ∧ obs = [obFil l] ∧ l.length ≤ 19, fun xs obs => (.tup [], [obFil (stab Fil.z ltFil (lOFil obs))])⟩
theorem m106 : GenMA K Tryz.prog 106 M106 := by
  refine contractMA Tryz.mix K [] [(121, M121)] (by simp) (by simp [m121]) Tryz.func106 rfl (by decide) ?_
  rintro xs obs us ⟨l, rfl, rfl, h1⟩ hu
  obtain ⟨u, rfl⟩ : ∃ u, us = [u] := by simpa [List.length_eq_one_iff] using hu
  refine ⟨⟨by rw [Tryz.ntmps106]; simp, by simp, fun k ob hob => ?_⟩, ?_⟩
  · obtain ⟨rfl, rfl⟩ := oneFil l k ob hob
    exact ⟨_, rfl, rfl, rfl, rfl, rfl, rfl⟩
  have i1 : M121.pre [.osl 0 0, I l.length, .fn 107 []] [⟨59, 5, 0, tR l, false, true, none⟩] := ⟨l, rfl, rfl, h1⟩
  have i2 : M121.res [.osl 0 0, I l.length, .fn 107 []] [⟨59, 5, 0, tR l, false, true, none⟩] = (.tup [], [⟨59, 5, 0, tR (stab Fil.z ltFil l), false, true, none⟩]) := by simp [M121, obFil, lOFil]
  have i3 : M121.mu = [true] := rfl
  simp -implicitDefEqProofs [Tryz.f106, List.lookup_cons, and_assoc, pick_and, pick_or, if_and, if_or, obFil, i1, i2, i3, pickOk, -List.all_eq_true]
  refine finM1 0 [] (obFil (stab Fil.z ltFil l)) (by simp [pickOk, -List.all_eq_true, tR_ok]) (by simp [obFil]) (by simp [obFil, upd, tl_cons]) ?_
  simp -implicitDefEqProofs [pur2_i, pur2_b, pur2_s, pur2_nil, pur2_sl, pur2_tup, rn2_tup, rn2_agg, rn2_osl, rn1_v, rn1_osl, rn1_agg, rn0_v, rn0_sl, rn0, pickObs, pur_v, pur_b, pur_s, pur_nil, pur_sl, deI, deIs_sl, M106, obFil, nAFil, lOFil, one, rn2]
end Go.Proofs
