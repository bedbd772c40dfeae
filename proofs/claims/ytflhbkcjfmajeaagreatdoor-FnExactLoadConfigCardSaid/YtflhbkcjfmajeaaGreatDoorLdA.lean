/-
  What is proved here: a piece of the program's loading. Condition: none.
  What is proved here: a piece of the program's loading. Condition: none.
  What is proved here: a piece of the program's loading. Condition: none.
  What is proved here: a piece of the program's loading. Condition: none.
  What is proved here: a piece of the program's loading. Condition: none.
-/
import Derived.Test.YtflhbkcjfmajeaaGreatDoorLdC
namespace Go.Proofs
open Go.Abs
set_option linter.unusedSimpArgs false
set_option linter.unnecessarySimpa false
set_option linter.unusedVariables false
set_option maxHeartbeats 16000000
set_option maxRecDepth 20000

theorem ld_3 (c : Cfg) (ho : okC c) (hg : isCfg c = true) {Q : Exit → St → Prop} : awp Tryz.prog (envN K [(53, F53), (54, F54), (55, F55)] [] []) (hdC (tlC (tlC (tlC (bodyOf Tryz.f25))))) (thenP (fun s => ∃ s', Wk s s' ∧ s' = ldS4 c) Q) (ldS3 c) := by
  simp only [ldS3, ldS4, Tryz.f25, bodyOf, Option.getD_some, tlC, hdC]
  have hlim := cfg_lim hg
  have H := topOf hg
  have hwl := wk_len H
  obtain ⟨f1, f2⟩ := cfg_fil hg
  have hfl : c.fil.length ≤ 1048576 := by omega
  have hL0 := cK_len c.cls c.cls.length (by omega)
  have hLe : cK c.cls c.cls.length = (wk c.cls).map (atC c.cls) := by
    have := cK_end c.cls
    rw [hwl] at this
    exact this
  have hn1 : (1 : Int) ≤ c.cls.length := by have := H.lt; omega
  have hn24 : (c.cls.length : Int) ≤ 24 := by omega
  have hm1 : (c.cls.length : Int) ≤ 9223372036854775807 := by omega
  have hm2 : c.cls.length * 8 ≤ 140737488355328 := by omega
  have hrep : List.replicate c.cls.length [X.v (Value.int .i64 0)] = iR (List.replicate c.cls.length 0) := by simp [iR]
  have hm1r : [[I (-1)]] = iR [-1] := rfl
  obtain ⟨W, hW⟩ : ∃ W, wk c.cls = W := ⟨_, rfl⟩
  have hord : (prn c).order = W := by rw [prn_order, ← hW]; rfl
  have hWl : W.length = c.cls.length := by rw [← hW]; exact hwl
  simp -implicitDefEqProofs [List.lookup_cons, and_assoc, pick_and, pick_or, if_and, if_or, F54, cBx, zBx, xBx, mOb, obFil, nilX, ho, hg, obF, boxP, nOb, sOb, hord, nI_len, hWl]
  refine loopP_inv (fun k : Nat => ⟨177, tl [(1, .optr 0 0 0 0), (2, .optr 1 0 0 0), (3, .optr 2 0 0 0), (4, .osl 4 0), (27, .osl 5 0), (28, I c.cls.length), (29, I k)], [cBx c, zBx, xBx (.v (.string c.name)) (.osl 6 0) nilX nilX nilX nilX (.osl 3 0) nilX (I (-1)), obFil c.fil, mOb (mOf c.cls k), iOb (nI W), obCls (cK c.cls k)]⟩) (fun k => k ≤ c.cls.length) (fun k => c.cls.length - k) 0 (Nat.zero_le _) ?_ ?_
  · refine Wk.trans (b := ⟨177, tl [(1, .optr 0 0 0 0), (2, .optr 1 0 0 0), (3, .optr 2 0 0 0), (4, .osl 4 0), (27, .osl 5 0), (28, I c.cls.length), (29, I 0)], [cBx c, zBx, xBx (.v (.string c.name)) nilX nilX nilX nilX nilX (.osl 3 0) nilX (I (-1)), obFil c.fil, mOb [], iOb (nI W)]⟩) (Wk.tlPN [0, 1, 2, 3, 4, 7] (by simp [pickOkN]) (by simp [iOb, cBx, zBx, xBx, mOb, obFil, nilX]) ?_) (Wk.nilF 63 8 2 0 1 (xBx (.v (.string c.name)) nilX nilX nilX nilX nilX (.osl 3 0) nilX (I (-1))) rfl (by simp [xBx, nilX, at2]) (by simp [xBx, mOf, obCls, cK, tR]))
    simp [hold, upd, tl_cons]
  intro k hk
  by_cases h : k < c.cls.length
  · have hkW : k < W.length := by omega
    have hc1 := cK_succ c.cls k (by rw [hwl]; exact h)
    have hm1 := mOf_succ c.cls k (by rw [hwl]; exact h)
    have hkl := cK_len c.cls k (by omega)
    obtain ⟨j, hj⟩ : ∃ j, W[k] = j := ⟨_, rfl⟩
    have hj' : (wk c.cls)[k]'(by rw [hwl]; exact h) = j := by rw [← hj]; congr 1
    have hjl : j < c.cls.length := by rw [← hj']; exact wk_lt H (List.getElem_mem _)
    rw [hj'] at hc1 hm1
    obtain ⟨M, hM⟩ : ∃ M, mOf c.cls k = M := ⟨_, rfl⟩
    obtain ⟨L, hL⟩ : ∃ L, cK c.cls k = L := ⟨_, rfl⟩
    rw [hM] at hm1
    rw [hL] at hc1 hkl
    have hw := w64n (show k < 4611686018427387904 by omega)
    rw [hM, hL]
    have hn1 : ∀ h', (nI W)[k]'(h') = (j : Int) := fun h' => by simp [nI, hj]
    simp -implicitDefEqProofs [List.lookup_cons, and_assoc, pick_and, pick_or, if_and, if_or, h, cBx, zBx, xBx, mOb, obFil, obCls, nilX, iOb, nI_len, hWl, hn1, hjl]
    refine drawP_x _ [(2, 0), (3, 0), (4, 0), (5, 0), (6, 0), (7, 0), (0, 0), (1, 0), (8, 1), (9, 2), (10, 2)] [7, 8, 10] (by decide) ?_
    simp -implicitDefEqProofs [List.lookup_cons, and_assoc, pick_and, pick_or, if_and, if_or, h, cBx, zBx, xBx, mOb, obFil, obCls, nilX, iOb, nI_len, hWl, hn1, hjl, eBuildSlice, eAppend, srcRows, srcOk, chunk, eMapSet, toV]
    refine ⟨by omega, by omega, k + 1, by omega, by omega, ?_⟩
    rw [hm1, hc1, atC_eq hjl]
    generalize c.cls[j] = x
    have hrow : tR L ++ [[I x.id, I x.par, I x.rate, I x.ceil, I x.burst, I x.cburst, I x.prio, I x.lim]] = tR (L ++ [x]) := by simp [tR]
    rw [hrow]
    refine Wk.tlPN [0, 1, 2, 3, 4, 5, 6] (by simp [pickOkN]) (by simp) ?_
    simp [hold, upd, tl_cons, hw]
  · have e : k = c.cls.length := by omega
    subst e
    simp -implicitDefEqProofs [List.lookup_cons, and_assoc, pick_and, pick_or, if_and, if_or, cBx, zBx, xBx, mOb, obFil, obCls, nilX, iOb, nI_len, hWl]
    refine Wk.tlPN [0, 1, 2, 3, 4, 6] (by simp [pickOkN]) (by simp) ?_
    simp [hold, upd, tl_cons]
end Go.Proofs

namespace Go.Proofs
open Go.Abs
set_option linter.unusedSimpArgs false
set_option linter.unnecessarySimpa false
set_option linter.unusedVariables false
set_option maxHeartbeats 16000000
set_option maxRecDepth 20000

theorem ld_10 (c : Cfg) (ho : okC c) (hg : isCfg c = true) {Q : Exit → St → Prop} : awp Tryz.prog (envN K [(53, F53), (54, F54), (55, F55)] [] []) (hdC (tlC (tlC (tlC (tlC (tlC (tlC (tlC (tlC (tlC (tlC (bodyOf Tryz.f25)))))))))))) (thenP (fun s => ∃ s', Wk s s' ∧ s' = ldS11 c) Q) (ldS10 c) := by
  simp only [ldS10, ldS11, Tryz.f25, bodyOf, Option.getD_some, tlC, hdC]
  have hlim := cfg_lim hg
  have H := topOf hg
  have hwl := wk_len H
  obtain ⟨f1, f2⟩ := cfg_fil hg
  have hfl : c.fil.length ≤ 1048576 := by omega
  have hL0 := cK_len c.cls c.cls.length (by omega)
  have hLe : cK c.cls c.cls.length = (wk c.cls).map (atC c.cls) := by
    have := cK_end c.cls
    rw [hwl] at this
    exact this
  have hn1 : (1 : Int) ≤ c.cls.length := by have := H.lt; omega
  have hn24 : (c.cls.length : Int) ≤ 24 := by omega
  have hm1 : (c.cls.length : Int) ≤ 9223372036854775807 := by omega
  have hm2 : c.cls.length * 8 ≤ 140737488355328 := by omega
  have hrep : List.replicate c.cls.length [X.v (Value.int .i64 0)] = iR (List.replicate c.cls.length 0) := by simp [iR]
  have hm1r : [[I (-1)]] = iR [-1] := rfl
  obtain ⟨M, hM⟩ : ∃ M, mOf c.cls c.cls.length = M := ⟨_, rfl⟩
  obtain ⟨L, hL⟩ : ∃ L, cK c.cls c.cls.length = L := ⟨_, rfl⟩
  rw [hL] at hL0 hLe
  rw [hM, hL]
  simp -implicitDefEqProofs [List.lookup_cons, and_assoc, pick_and, pick_or, if_and, if_or, cBx, zBx, xBx, mOb, obFil, obCls, nilX, iOb, hL0]
  refine loopP_inv (fun i : Nat => ⟨177, tl [(1, .optr 0 0 0 0), (2, .optr 1 0 0 0), (3, .optr 2 0 0 0), (4, .osl 4 0), (7, I c.cls.length), (8, .osl 10 0), (74, .osl 5 0), (75, I c.cls.length), (76, I i)], [cBx c, zBx, xBx (.v (.string c.name)) (.osl 5 0) (.osl 9 0) (.osl 6 0) (.osl 7 0) (.osl 8 0) (.osl 3 0) nilX (I (-1)), obFil c.fil, mOb M, obCls L, iOb (fK c.cls i), iOb (nK c.cls i), iOb (eK c.cls c.cls.length), iOb (pK c.cls i), iOb (lK c.cls i)]⟩) (fun i => i ≤ c.cls.length) (fun i => c.cls.length - i) 0 (Nat.zero_le _) ?_ ?_
  · simp only [cBx, zBx, xBx, mOb, obFil, obCls, nilX, iOb]
    exact Wk.tl (by simp [hold, upd, tl_cons])
  intro i hi
  obtain ⟨kl1, kl2, kl3, kl4, kl5⟩ := K_lens c.cls i
  obtain ⟨E, hE⟩ : ∃ E, eK c.cls c.cls.length = E := ⟨_, rfl⟩
  rw [hE]
  by_cases h : i < c.cls.length
  · have hiw : i < (wk c.cls).length := by omega
    have hiL : i < L.length := by omega
    have hw := w64n (show i < 4611686018427387904 by omega)
    obtain ⟨x, hx0⟩ : ∃ x, L[i] = x := ⟨_, rfl⟩
    have hx : ∀ h', L[i]'(h') = x := fun _ => hx0
    have hxe : x = atC c.cls (wk c.cls)[i] := by rw [← hx0]; simp only [hLe, List.getElem_map]
    have hlk0 := pw_look hg hiw
    rw [hM, ← hxe] at hlk0
    rcases pw_rng hg hiw with hp | ⟨p, hp, hpl⟩
    · have hlk : List.lookup x.par M = none := by rw [hlk0, if_pos (by omega)]
      have s1 := pK_neg h (by omega)
      obtain ⟨s2, s3, s4⟩ := K_neg (l := c.cls) (i := i) (by omega)
      obtain ⟨P, hP⟩ : ∃ P, pK c.cls i = P := ⟨_, rfl⟩
      rw [hP] at s1 kl1
      rw [hP, s2, s3, s4]
      simp -implicitDefEqProofs [List.lookup_cons, and_assoc, pick_and, pick_or, if_and, if_or, h, cBx, zBx, xBx, mOb, obFil, obCls, nilX, iOb, hL0, hx, hlk, eLookup, mres, kl1]
      refine ⟨i + 1, by omega, by omega, ?_⟩
      rw [s1]
      refine Wk.tlPN [0, 1, 2, 3, 4, 5, 6, 7, 8, 9, 10] (by simp [pickOkN]) (by simp) ?_
      simp [hold, upd, tl_cons, hw]
    · have hlk : List.lookup x.par M = some (.int .i64 p) := by rw [hlk0, if_neg (by omega), hp]
      have s1 := pK_pos (i := i) hp
      have s2 := lK_pos (i := i) hp
      have hv0 := lK_get (i := i) hpl
      obtain ⟨v, hv⟩ : ∃ v, lastI (gk c.cls i p) = v := ⟨_, rfl⟩
      rw [hv] at hv0
      obtain ⟨P, hP⟩ : ∃ P, pK c.cls i = P := ⟨_, rfl⟩
      obtain ⟨Q, hQ⟩ : ∃ Q, lK c.cls i = Q := ⟨_, rfl⟩
      rw [hP] at s1 kl1
      rw [hQ] at s2 kl4 hv0
      have hQp : ∀ h', Q[p]'(h') = v := fun h' => by rw [List.getElem?_eq_getElem h'] at hv0; exact Option.some.inj hv0
      by_cases hneg : v < 0
      · obtain ⟨s3, s4⟩ := FN_first h hp (by rw [hv]; exact hneg)
        obtain ⟨G, hG⟩ : ∃ G, fK c.cls i = G := ⟨_, rfl⟩
        rw [hG] at s3 kl2
        rw [hP, hQ, hG, s4]
        simp -implicitDefEqProofs [List.lookup_cons, and_assoc, pick_and, pick_or, if_and, if_or, h, cBx, zBx, xBx, mOb, obFil, obCls, nilX, iOb, hL0, hx, hlk, eLookup, mres, kl1, kl2, kl4, hQp, hneg, hpl]
        refine ⟨i + 1, by omega, by omega, ?_⟩
        rw [s1, s2, s3]
        refine Wk.tlPN [0, 1, 2, 3, 4, 5, 6, 7, 8, 9, 10] (by simp [pickOkN]) (by simp) ?_
        simp [hold, upd, tl_cons, hw]
      · obtain ⟨k, hk⟩ := Int.eq_ofNat_of_zero_le (show 0 ≤ v by omega)
        subst hk
        obtain ⟨s3, s4⟩ := FN_more h hp hv
        have hki := (gk_last hv).1
        obtain ⟨G, hG⟩ : ∃ G, nK c.cls i = G := ⟨_, rfl⟩
        rw [hG] at s4 kl3
        have hkl : k < c.cls.length := by omega
        rw [hP, hQ, hG, s3]
        simp -implicitDefEqProofs [List.lookup_cons, and_assoc, pick_and, pick_or, if_and, if_or, h, cBx, zBx, xBx, mOb, obFil, obCls, nilX, iOb, hL0, hx, hlk, eLookup, mres, kl1, kl3, kl4, hQp, hpl, hneg]
        refine drawP_x _ [(0, 0), (1, 0), (2, 0), (3, 0), (4, 0), (5, 0), (6, 0), (7, 0), (8, 0)] [8] (by decide) ?_
        simp -implicitDefEqProofs [List.lookup_cons, and_assoc, pick_and, pick_or, if_and, if_or, h, cBx, zBx, xBx, mOb, obFil, obCls, nilX, iOb, hL0, hx, hlk, eLookup, mres, kl1, kl3, kl4, hQp, hpl, hkl]
        refine ⟨i + 1, by omega, by omega, ?_⟩
        rw [s1, s2, s4]
        refine Wk.tlPN [0, 1, 2, 3, 4, 5, 6, 7, 8, 9, 10] (by simp [pickOkN]) (by simp) ?_
        simp [hold, upd, tl_cons, hw]
  · have e : i = c.cls.length := by omega
    subst e
    simp -implicitDefEqProofs [List.lookup_cons, and_assoc, pick_and, pick_or, if_and, if_or, cBx, zBx, xBx, mOb, obFil, obCls, nilX, iOb, hL0]
    exact Wk.tl (by simp [hold, upd, tl_cons])
end Go.Proofs

namespace Go.Proofs
open Go.Abs
set_option linter.unusedSimpArgs false
set_option linter.unnecessarySimpa false
set_option linter.unusedVariables false
set_option maxHeartbeats 16000000
set_option maxRecDepth 20000

theorem ld_11 (c : Cfg) (ho : okC c) (hg : isCfg c = true) {Q : Exit → St → Prop} : awp Tryz.prog (envN K [(53, F53), (54, F54), (55, F55)] [] []) (hdC (tlC (tlC (tlC (tlC (tlC (tlC (tlC (tlC (tlC (tlC (tlC (bodyOf Tryz.f25))))))))))))) (thenP (fun s => ∃ s', Wk s s' ∧ s' = ldS12 c) Q) (ldS11 c) := by
  simp only [ldS11, ldS12, Tryz.f25, bodyOf, Option.getD_some, tlC, hdC]
  have hlim := cfg_lim hg
  have H := topOf hg
  have hwl := wk_len H
  obtain ⟨f1, f2⟩ := cfg_fil hg
  have hfl : c.fil.length ≤ 1048576 := by omega
  have hL0 := cK_len c.cls c.cls.length (by omega)
  have hLe : cK c.cls c.cls.length = (wk c.cls).map (atC c.cls) := by
    have := cK_end c.cls
    rw [hwl] at this
    exact this
  have hn1 : (1 : Int) ≤ c.cls.length := by have := H.lt; omega
  have hn24 : (c.cls.length : Int) ≤ 24 := by omega
  have hm1 : (c.cls.length : Int) ≤ 9223372036854775807 := by omega
  have hm2 : c.cls.length * 8 ≤ 140737488355328 := by omega
  have hrep : List.replicate c.cls.length [X.v (Value.int .i64 0)] = iR (List.replicate c.cls.length 0) := by simp [iR]
  have hm1r : [[I (-1)]] = iR [-1] := rfl
  obtain ⟨M, hM⟩ : ∃ M, mOf c.cls c.cls.length = M := ⟨_, rfl⟩
  obtain ⟨L, hL⟩ : ∃ L, cK c.cls c.cls.length = L := ⟨_, rfl⟩
  rw [hL] at hL0 hLe
  rw [hM, hL]
  obtain ⟨kl1, kl2, kl3, kl4, kl5⟩ := K_lens c.cls c.cls.length
  have hv0 : ∀ i, i < c.cls.length → (lK c.cls c.cls.length)[i]? = some (lastI (gk c.cls c.cls.length i)) := fun i hi => lK_get hi
  have eF := fK_end H
  have eN := nK_end H
  have eP := pK_end H
  obtain ⟨F, hF⟩ : ∃ F, fK c.cls c.cls.length = F := ⟨_, rfl⟩
  obtain ⟨N, hN⟩ : ∃ N, nK c.cls c.cls.length = N := ⟨_, rfl⟩
  obtain ⟨P, hP⟩ : ∃ P, pK c.cls c.cls.length = P := ⟨_, rfl⟩
  obtain ⟨Q, hQ⟩ : ∃ Q, lK c.cls c.cls.length = Q := ⟨_, rfl⟩
  rw [hF] at kl2 eF
  rw [hN] at kl3 eN
  rw [hP] at kl1 eP
  rw [hQ] at kl4 hv0
  rw [hF, hN, hP, hQ]
  have hws0 : IntKind.i64.wrap ((c.cls.length : Int) - 1) = (c.cls.length : Int) - 1 := w64 (by omega) (by omega)
  simp -implicitDefEqProofs [List.lookup_cons, and_assoc, pick_and, pick_or, if_and, if_or, cBx, zBx, xBx, mOb, obFil, obCls, nilX, iOb, hL0, hws0]
  refine loopP_inv (fun j : Nat => ⟨177, tl [(1, .optr 0 0 0 0), (2, .optr 1 0 0 0), (3, .optr 2 0 0 0), (4, .osl 4 0), (8, .osl 10 0), (13, I ((j : Int) - 1))], [cBx c, zBx, xBx (.v (.string c.name)) (.osl 5 0) (.osl 9 0) (.osl 6 0) (.osl 7 0) (.osl 8 0) (.osl 3 0) nilX (I (-1)), obFil c.fil, mOb M, obCls L, iOb F, iOb N, iOb (eK c.cls j), iOb P, iOb Q]⟩) (fun j => j ≤ c.cls.length) (fun j => j) c.cls.length (Nat.le_refl _) ?_ ?_
  · simp only [cBx, zBx, xBx, mOb, obFil, obCls, nilX, iOb]
    exact Wk.tl (by simp [hold, upd, tl_cons])
  intro j hj
  rcases j with _ | i
  · simp -implicitDefEqProofs [List.lookup_cons, and_assoc, pick_and, pick_or, if_and, if_or, cBx, zBx, xBx, mOb, obFil, obCls, nilX, iOb]
    exact Wk.tl (by simp [hold, upd, tl_cons])
  · have h : i < c.cls.length := by omega
    have hji : ((i + 1 : Nat) : Int) - 1 = i := by omega
    obtain ⟨_, _, _, _, kl6⟩ := K_lens c.cls (i + 1)
    have hw := w64n (show i < 4611686018427387904 by omega)
    have hws : IntKind.i64.wrap ((i : Int) - 1) = (i : Int) - 1 := w64 (by omega) (by omega)
    have hv1 := hv0 i h
    obtain ⟨v, hv⟩ : ∃ v, lastI (gk c.cls c.cls.length i) = v := ⟨_, rfl⟩
    rw [hv] at hv1
    have hQp : ∀ h', Q[i]'(h') = v := fun h' => by rw [List.getElem?_eq_getElem h'] at hv1; exact Option.some.inj hv1
    by_cases hneg : v < 0
    · have hnn : ¬ 0 ≤ v := by omega
      have s1 := eK_leaf H h (by rw [hv]; exact hneg)
      obtain ⟨E, hE⟩ : ∃ E, eK c.cls (i + 1) = E := ⟨_, rfl⟩
      rw [hE] at s1 kl6
      rw [hji, hE]
      simp -implicitDefEqProofs [List.lookup_cons, and_assoc, pick_and, pick_or, if_and, if_or, h, cBx, zBx, xBx, mOb, obFil, obCls, nilX, iOb, kl4, kl6, hQp, hnn, hw, hws]
      refine ⟨i, by omega, by omega, ?_⟩
      rw [s1]
      exact Wk.tl (by simp [hold, upd, tl_cons])
    · obtain ⟨k, hk⟩ := Int.eq_ofNat_of_zero_le (show 0 ≤ v by omega)
      subst hk
      obtain ⟨s1, s2, s3, s4⟩ := eK_last H h hv
      obtain ⟨e, he⟩ : ∃ e, ((enN c.cls ((wk c.cls).getD k 0) : Nat) : Int) = e := ⟨_, rfl⟩
      obtain ⟨E, hE⟩ : ∃ E, eK c.cls (i + 1) = E := ⟨_, rfl⟩
      rw [he, hE] at s4 s3
      rw [hE] at kl6
      have hEk : ∀ h', (E.set i ((i : Int) + 1))[k]'(h') = e := fun h' => by
        rw [List.getElem_set_ne (by omega)]
        have hkE : k < E.length := by omega
        rw [List.getElem?_eq_getElem hkE] at s3
        exact Option.some.inj s3
      rw [hji, hE]
      simp -implicitDefEqProofs [List.lookup_cons, and_assoc, pick_and, pick_or, if_and, if_or, h, cBx, zBx, xBx, mOb, obFil, obCls, nilX, iOb, kl4, kl6, hQp, hw, hws]
      refine drawP_x _ [(0, 0), (1, 0), (2, 0), (3, 0), (4, 0), (5, 0), (6, 0), (7, 0), (8, 0), (9, 0), (10, 0), (11, 0), (12, 0)] [12] (by decide) ?_
      simp -implicitDefEqProofs [List.lookup_cons, and_assoc, pick_and, pick_or, if_and, if_or, h, cBx, zBx, xBx, mOb, obFil, obCls, nilX, iOb, kl4, kl6, hQp, hw, hws, s2, hEk]
      refine ⟨i, by omega, by omega, ?_⟩
      simp only [List.set_set] at s4
      rw [s4]
      exact Wk.tl (by simp [hold, upd, tl_cons])
end Go.Proofs

namespace Go.Proofs
open Go.Abs
set_option linter.unusedSimpArgs false
set_option linter.unnecessarySimpa false
set_option linter.unusedVariables false
set_option maxHeartbeats 16000000
set_option maxRecDepth 20000

theorem ld_12 (c : Cfg) (ho : okC c) (hg : isCfg c = true) {Q : Exit → St → Prop} : awp Tryz.prog (envN K [(53, F53), (54, F54), (55, F55)] [] []) (hdC (tlC (tlC (tlC (tlC (tlC (tlC (tlC (tlC (tlC (tlC (tlC (tlC (bodyOf Tryz.f25)))))))))))))) (thenP (fun s => ∃ s', Wk s s' ∧ s' = ldS13 c) Q) (ldS12 c) := by
  simp only [ldS12, ldS13, Tryz.f25, bodyOf, Option.getD_some, tlC, hdC]
  have hlim := cfg_lim hg
  have H := topOf hg
  have hwl := wk_len H
  obtain ⟨f1, f2⟩ := cfg_fil hg
  have hfl : c.fil.length ≤ 1048576 := by omega
  have hL0 := cK_len c.cls c.cls.length (by omega)
  have hLe : cK c.cls c.cls.length = (wk c.cls).map (atC c.cls) := by
    have := cK_end c.cls
    rw [hwl] at this
    exact this
  have hn1 : (1 : Int) ≤ c.cls.length := by have := H.lt; omega
  have hn24 : (c.cls.length : Int) ≤ 24 := by omega
  have hm1 : (c.cls.length : Int) ≤ 9223372036854775807 := by omega
  have hm2 : c.cls.length * 8 ≤ 140737488355328 := by omega
  have hrep : List.replicate c.cls.length [X.v (Value.int .i64 0)] = iR (List.replicate c.cls.length 0) := by simp [iR]
  have hm1r : [[I (-1)]] = iR [-1] := rfl
  obtain ⟨M, hM⟩ : ∃ M, mOf c.cls c.cls.length = M := ⟨_, rfl⟩
  obtain ⟨L, hL⟩ : ∃ L, cK c.cls c.cls.length = L := ⟨_, rfl⟩
  rw [hL] at hL0 hLe
  rw [hM, hL]
  obtain ⟨kl1, kl2, kl3, kl4, kl5⟩ := K_lens c.cls c.cls.length
  have hv0 : ∀ i, i < c.cls.length → (lK c.cls c.cls.length)[i]? = some (lastI (gk c.cls c.cls.length i)) := fun i hi => lK_get hi
  have eF := fK_end H
  have eN := nK_end H
  have eP := pK_end H
  obtain ⟨F, hF⟩ : ∃ F, fK c.cls c.cls.length = F := ⟨_, rfl⟩
  obtain ⟨N, hN⟩ : ∃ N, nK c.cls c.cls.length = N := ⟨_, rfl⟩
  obtain ⟨P, hP⟩ : ∃ P, pK c.cls c.cls.length = P := ⟨_, rfl⟩
  obtain ⟨Q, hQ⟩ : ∃ Q, lK c.cls c.cls.length = Q := ⟨_, rfl⟩
  rw [hF] at kl2 eF
  rw [hN] at kl3 eN
  rw [hP] at kl1 eP
  rw [hQ] at kl4 hv0
  rw [hF, hN, hP, hQ]
  obtain ⟨E, hE⟩ : ∃ E, eK c.cls 0 = E := ⟨_, rfl⟩
  rw [hE]
  simp -implicitDefEqProofs [List.lookup_cons, and_assoc, pick_and, pick_or, if_and, if_or, cBx, zBx, xBx, mOb, obFil, obCls, nilX, iOb]
  refine loopP_inv (fun k : Nat => ⟨177, tl [(1, .optr 0 0 0 0), (2, .optr 1 0 0 0), (3, .optr 2 0 0 0), (4, .osl 4 0), (152, .sl (tR c.fil)), (153, I c.fil.length), (154, I k)], [cBx c, zBx, xBx (.v (.string c.name)) (.osl 5 0) (.osl 9 0) (.osl 6 0) (.osl 7 0) (.osl 8 0) (.osl 3 0) (.osl 11 0) (I (-1)), obFil c.fil, mOb M, obCls L, iOb F, iOb N, iOb E, iOb P, iOb Q, iOb (tK c.cls c.fil k)]⟩) (fun k => k ≤ c.fil.length) (fun k => c.fil.length - k) 0 (Nat.zero_le _) ?_ ?_
  · refine Wk.trans (b := ⟨177, tl [(1, .optr 0 0 0 0), (2, .optr 1 0 0 0), (3, .optr 2 0 0 0), (4, .osl 4 0), (152, .sl (tR c.fil)), (153, I c.fil.length), (154, I 0)], [cBx c, zBx, xBx (.v (.string c.name)) (.osl 5 0) (.osl 9 0) (.osl 6 0) (.osl 7 0) (.osl 8 0) (.osl 3 0) nilX (I (-1)), obFil c.fil, mOb M, obCls L, iOb F, iOb N, iOb E, iOb P, iOb Q]⟩) ?_ (Wk.nilF 3 1 2 0 7 (xBx (.v (.string c.name)) (.osl 5 0) (.osl 9 0) (.osl 6 0) (.osl 7 0) (.osl 8 0) (.osl 3 0) nilX (I (-1))) rfl (by simp [xBx, nilX, at2]) (by simp [xBx, iOb, tK, iR]))
    simp only [cBx, zBx, xBx, mOb, obFil, obCls, nilX, iOb]
    exact Wk.tl (by simp [hold, upd, tl_cons])
  intro k hk
  by_cases h : k < c.fil.length
  · have ht1 := tK_succ c.cls c.fil k h
    have htl := tK_len c.cls c.fil k hk
    obtain ⟨T, hT⟩ : ∃ T, tK c.cls c.fil k = T := ⟨_, rfl⟩
    rw [hT] at ht1 htl
    have hlk := tg_look hg (fil_tgt hg h)
    rw [hM] at hlk
    have hw := w64n (show k < 4611686018427387904 by omega)
    rw [hT]
    simp -implicitDefEqProofs [List.lookup_cons, and_assoc, pick_and, pick_or, if_and, if_or, h, cBx, zBx, xBx, mOb, obFil, obCls, nilX, iOb, hlk, eLookup, mres, eBuildSlice, eAppend, srcRows, srcOk, chunk]
    refine ⟨by omega, by omega, k + 1, by omega, by omega, ?_⟩
    rw [ht1]
    have hrow : iR T ++ [[I (tgI c.cls c.fil[k].target)]] = iR (T ++ [tgI c.cls c.fil[k].target]) := by simp [iR]
    rw [hrow]
    refine Wk.tlPN [0, 1, 2, 3, 4, 5, 6, 7, 8, 9, 10, 11] (by simp [pickOkN]) (by simp) ?_
    simp [hold, upd, tl_cons, hw]
  · have e : k = c.fil.length := by omega
    subst e
    simp -implicitDefEqProofs [List.lookup_cons, and_assoc, pick_and, pick_or, if_and, if_or, cBx, zBx, xBx, mOb, obFil, obCls, nilX, iOb]
    exact Wk.tl (by simp [hold, upd, tl_cons])
end Go.Proofs

namespace Go.Proofs
open Go.Abs
set_option linter.unusedSimpArgs false
set_option linter.unnecessarySimpa false
set_option linter.unusedVariables false
set_option maxHeartbeats 16000000
set_option maxRecDepth 20000

theorem ld_end (c : Cfg) (ho : okC c) (hg : isCfg c = true) : awp Tryz.prog (envN K [(53, F53), (54, F54), (55, F55)] [] []) (tlC (tlC (tlC (tlC (tlC (tlC (tlC (tlC (tlC (tlC (tlC (tlC (tlC (bodyOf Tryz.f25)))))))))))))) (retP Tryz.prog (Tryz.f25).results.toList (lO (loadOf c), lOb (loadOf c))) (ldS13 c) := by
  simp only [ldS13, Tryz.f25, bodyOf, Option.getD_some, tlC, hdC]
  have hlim := cfg_lim hg
  have H := topOf hg
  have hwl := wk_len H
  obtain ⟨f1, f2⟩ := cfg_fil hg
  have hfl : c.fil.length ≤ 1048576 := by omega
  have hL0 := cK_len c.cls c.cls.length (by omega)
  have hLe : cK c.cls c.cls.length = (wk c.cls).map (atC c.cls) := by
    have := cK_end c.cls
    rw [hwl] at this
    exact this
  have hn1 : (1 : Int) ≤ c.cls.length := by have := H.lt; omega
  have hn24 : (c.cls.length : Int) ≤ 24 := by omega
  have hm1 : (c.cls.length : Int) ≤ 9223372036854775807 := by omega
  have hm2 : c.cls.length * 8 ≤ 140737488355328 := by omega
  have hrep : List.replicate c.cls.length [X.v (Value.int .i64 0)] = iR (List.replicate c.cls.length 0) := by simp [iR]
  have hm1r : [[I (-1)]] = iR [-1] := rfl
  obtain ⟨M, hM⟩ : ∃ M, mOf c.cls c.cls.length = M := ⟨_, rfl⟩
  obtain ⟨L, hL⟩ : ∃ L, cK c.cls c.cls.length = L := ⟨_, rfl⟩
  rw [hL] at hL0 hLe
  rw [hM, hL]
  obtain ⟨kl1, kl2, kl3, kl4, kl5⟩ := K_lens c.cls c.cls.length
  have hv0 : ∀ i, i < c.cls.length → (lK c.cls c.cls.length)[i]? = some (lastI (gk c.cls c.cls.length i)) := fun i hi => lK_get hi
  have eF := fK_end H
  have eN := nK_end H
  have eP := pK_end H
  obtain ⟨F, hF⟩ : ∃ F, fK c.cls c.cls.length = F := ⟨_, rfl⟩
  obtain ⟨N, hN⟩ : ∃ N, nK c.cls c.cls.length = N := ⟨_, rfl⟩
  obtain ⟨P, hP⟩ : ∃ P, pK c.cls c.cls.length = P := ⟨_, rfl⟩
  obtain ⟨Q, hQ⟩ : ∃ Q, lK c.cls c.cls.length = Q := ⟨_, rfl⟩
  rw [hF] at kl2 eF
  rw [hN] at kl3 eN
  rw [hP] at kl1 eP
  rw [hQ] at kl4 hv0
  rw [hF, hN, hP, hQ]
  have eE := eK_end H
  obtain ⟨E, hE⟩ : ∃ E, eK c.cls 0 = E := ⟨_, rfl⟩
  rw [hE] at eE
  rw [hE]
  have eT := tK_end c.cls c.fil
  obtain ⟨T, hT⟩ : ∃ T, tK c.cls c.fil c.fil.length = T := ⟨_, rfl⟩
  rw [hT] at eT
  rw [hT]
  have hlo : ∀ d, (if c.dflt = 0 then -1 else tgI c.cls c.dflt) = d → loadOf c = ⟨c.name, L, P, F, N, E, c.fil, T, d⟩ := fun d hd => by
    unfold loadOf
    rw [hLe, eP, eF, eN, eE, eT, hd]
  by_cases hd : c.dflt = 0
  · rw [hlo (-1) (by rw [if_pos hd])]
    simp -implicitDefEqProofs [List.lookup_cons, and_assoc, pick_and, pick_or, if_and, if_or, cBx, zBx, xBx, mOb, obFil, obCls, nilX, iOb, hd]
    refine fin_ownN [5, 9, 6, 7, 8, 3, 11] (by simp [pickOkN]) ?_
    simp [lO, lOb, obCls, obFil, iOb]
  · have hlk := tg_look hg (dflt_tgt hg hd)
    rw [hM] at hlk
    rw [hlo _ (by rw [if_neg hd])]
    simp -implicitDefEqProofs [List.lookup_cons, and_assoc, pick_and, pick_or, if_and, if_or, cBx, zBx, xBx, mOb, obFil, obCls, nilX, iOb, hd, hlk, eLookup, mres]
    refine fin_ownN [5, 9, 6, 7, 8, 3, 11] (by simp [pickOkN]) ?_
    simp [lO, lOb, obCls, obFil, iOb]
def F25 : Fun := ⟨fun xs => xs = [.agg (cX (deC (xs.getD 0 .top) : Cfg))] ∧ (fun (c : Cfg) => (okC c ∧ isCfg c = true)) (deC (xs.getD 0 .top) : Cfg), fun xs => (fun (c : Cfg) => ((lO (loadOf c), lOb (loadOf c)) : X × List Ob)) (deC (xs.getD 0 .top) : Cfg)⟩
theorem F25_in {xs : List X} (h : F25.pre xs) : ∃ (c : Cfg), xs = [.agg (cX c)] ∧ (okC c ∧ isCfg c = true) := ⟨_, h.1, h.2⟩
theorem F25_res (c : Cfg) : F25.res [.agg (cX c)] = (lO (loadOf c), lOb (loadOf c)) := by simp [F25]
theorem F25_mk (c : Cfg) (h : okC c ∧ isCfg c = true) : F25.pre [.agg (cX c)] := by simpa [F25] using h
theorem c25 : GenCA K Tryz.prog 25 F25 := by
  refine contractAS Tryz.mix K [(53, F53), (54, F54), (55, F55)] [] [] (by simp [c53, c54, c55]) (by simp) (by simp) Tryz.func25 rfl (by decide) ?_
  intro xs hxs
  obtain ⟨c, rfl, ho, hg⟩ := F25_in hxs
  rw [F25_res]
  refine ⟨by rw [Tryz.ntmps25]; simp, ?_⟩
  refine Snd.cutC rfl (ldS1 c) (ld_0 c ho hg) ?_
  refine Snd.cutC rfl (ldS2 c) (ld_1 c ho hg) ?_
  refine Snd.cutC rfl (ldS3 c) (ld_2 c ho hg) ?_
  refine Snd.cutC rfl (ldS4 c) (ld_3 c ho hg) ?_
  refine Snd.cutC rfl (ldS5 c) (ld_4 c ho hg) ?_
  refine Snd.cutC rfl (ldS6 c) (ld_5 c ho hg) ?_
  refine Snd.cutC rfl (ldS7 c) (ld_6 c ho hg) ?_
  refine Snd.cutC rfl (ldS8 c) (ld_7 c ho hg) ?_
  refine Snd.cutC rfl (ldS9 c) (ld_8 c ho hg) ?_
  refine Snd.cutC rfl (ldS10 c) (ld_9 c ho hg) ?_
  refine Snd.cutC rfl (ldS11 c) (ld_10 c ho hg) ?_
  refine Snd.cutC rfl (ldS12 c) (ld_11 c ho hg) ?_
  refine Snd.cutC rfl (ldS13 c) (ld_12 c ho hg) ?_
  exact Snd.of (ld_end c ho hg)
end Go.Proofs
