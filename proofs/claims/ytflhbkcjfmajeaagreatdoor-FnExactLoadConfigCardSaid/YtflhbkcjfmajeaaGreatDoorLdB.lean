/-
  What is proved here: a piece of the reference's loading. Condition: none.
  What is proved here: a piece of the reference's loading. Condition: none.
  What is proved here: a piece of the reference's loading. Condition: none.
  What is proved here: a piece of the reference's loading. Condition: none.
  What is proved here: the contract of the reference's loading. Condition: none.
-/
import Derived.Test.YtflhbkcjfmajeaaGreatDoorLdD
namespace Go.Proofs
open Go.Abs
set_option linter.unusedSimpArgs false
set_option linter.unnecessarySimpa false
set_option linter.unusedVariables false
set_option maxHeartbeats 16000000
set_option maxRecDepth 20000

def lwS0 (c : Cfg) (k j : Nat) : St := ⟨180, tl [(1, .optr 0 0 0 0), (2, .optr 1 0 0 0), (3, .osl 2 0), (4, .osl 3 0), (7, .optr 4 0 0 0), (46, .osl 2 0), (47, I c.cls.length), (48, I k)], [cBx c, zBx, iOb (nI (wk c.cls)), iOb (aK c.cls c.cls.length), xBx (.v (.string c.name)) (.osl 5 0) (.osl 6 0) (.osl 7 0) (.osl 8 0) (.osl 9 0) (.sl (tR c.fil)) nilX (I (-1)), obCls (cK c.cls k), iOb (tkI (ppI c.cls) c.cls k), iOb (tkI (fsI c.cls) c.cls k), iOb (tkI (nxI c.cls) c.cls k), iOb (tkI (eI c.cls) c.cls k)]⟩
def lwS1 (c : Cfg) (k j : Nat) : St := ⟨180, tl [(1, .optr 0 0 0 0), (2, .optr 1 0 0 0), (3, .osl 2 0), (4, .osl 3 0), (7, .optr 4 0 0 0), (46, .osl 2 0), (47, I c.cls.length), (48, I k), (8, I k), (9, I j)], [cBx c, zBx, iOb (nI (wk c.cls)), iOb (aK c.cls c.cls.length), xBx (.v (.string c.name)) (.osl 5 0) (.osl 6 0) (.osl 7 0) (.osl 8 0) (.osl 9 0) (.sl (tR c.fil)) nilX (I (-1)), obCls (cK c.cls k), iOb (tkI (ppI c.cls) c.cls k), iOb (tkI (fsI c.cls) c.cls k), iOb (tkI (nxI c.cls) c.cls k), iOb (tkI (eI c.cls) c.cls k)]⟩
def lwS2 (c : Cfg) (k j : Nat) : St := ⟨180, tl [(1, .optr 0 0 0 0), (2, .optr 1 0 0 0), (3, .osl 2 0), (4, .osl 3 0), (7, .optr 4 0 0 0), (46, .osl 2 0), (47, I c.cls.length), (48, I k), (8, I k), (9, I j)], [cBx c, zBx, iOb (nI (wk c.cls)), iOb (aK c.cls c.cls.length), xBx (.v (.string c.name)) (.osl 5 0) (.osl 6 0) (.osl 7 0) (.osl 8 0) (.osl 9 0) (.sl (tR c.fil)) nilX (I (-1)), obCls (cK c.cls (k + 1)), iOb (tkI (ppI c.cls) c.cls k), iOb (tkI (fsI c.cls) c.cls k), iOb (tkI (nxI c.cls) c.cls k), iOb (tkI (eI c.cls) c.cls k)]⟩
def lwS3 (c : Cfg) (k j : Nat) : St := ⟨180, tl [(1, .optr 0 0 0 0), (2, .optr 1 0 0 0), (3, .osl 2 0), (4, .osl 3 0), (7, .optr 4 0 0 0), (46, .osl 2 0), (47, I c.cls.length), (48, I k), (8, I k), (9, I j), (10, I (-1)), (11, I (-1)), (12, I (-1))], [cBx c, zBx, iOb (nI (wk c.cls)), iOb (aK c.cls c.cls.length), xBx (.v (.string c.name)) (.osl 5 0) (.osl 6 0) (.osl 7 0) (.osl 8 0) (.osl 9 0) (.sl (tR c.fil)) nilX (I (-1)), obCls (cK c.cls (k + 1)), iOb (tkI (ppI c.cls) c.cls k), iOb (tkI (fsI c.cls) c.cls k), iOb (tkI (nxI c.cls) c.cls k), iOb (tkI (eI c.cls) c.cls k)]⟩
def lwS4 (c : Cfg) (k j : Nat) : St := ⟨180, tl [(1, .optr 0 0 0 0), (2, .optr 1 0 0 0), (3, .osl 2 0), (4, .osl 3 0), (7, .optr 4 0 0 0), (46, .osl 2 0), (47, I c.cls.length), (48, I k), (8, I k), (9, I j), (10, I (ppI c.cls j)), (11, I (-1)), (12, I (nxI c.cls j))], [cBx c, zBx, iOb (nI (wk c.cls)), iOb (aK c.cls c.cls.length), xBx (.v (.string c.name)) (.osl 5 0) (.osl 6 0) (.osl 7 0) (.osl 8 0) (.osl 9 0) (.sl (tR c.fil)) nilX (I (-1)), obCls (cK c.cls (k + 1)), iOb (tkI (ppI c.cls) c.cls k), iOb (tkI (fsI c.cls) c.cls k), iOb (tkI (nxI c.cls) c.cls k), iOb (tkI (eI c.cls) c.cls k)]⟩
def lwS5 (c : Cfg) (k j : Nat) : St := ⟨180, tl [(1, .optr 0 0 0 0), (2, .optr 1 0 0 0), (3, .osl 2 0), (4, .osl 3 0), (7, .optr 4 0 0 0), (46, .osl 2 0), (47, I c.cls.length), (48, I k), (8, I k), (9, I j), (10, I (ppI c.cls j)), (11, I (fsI c.cls j)), (12, I (nxI c.cls j))], [cBx c, zBx, iOb (nI (wk c.cls)), iOb (aK c.cls c.cls.length), xBx (.v (.string c.name)) (.osl 5 0) (.osl 6 0) (.osl 7 0) (.osl 8 0) (.osl 9 0) (.sl (tR c.fil)) nilX (I (-1)), obCls (cK c.cls (k + 1)), iOb (tkI (ppI c.cls) c.cls k), iOb (tkI (fsI c.cls) c.cls k), iOb (tkI (nxI c.cls) c.cls k), iOb (tkI (eI c.cls) c.cls k)]⟩
def lwS6 (c : Cfg) (k j : Nat) : St := ⟨180, tl [(1, .optr 0 0 0 0), (2, .optr 1 0 0 0), (3, .osl 2 0), (4, .osl 3 0), (7, .optr 4 0 0 0), (46, .osl 2 0), (47, I c.cls.length), (48, I k), (8, I k), (9, I j), (10, I (ppI c.cls j)), (11, I (fsI c.cls j)), (12, I (nxI c.cls j))], [cBx c, zBx, iOb (nI (wk c.cls)), iOb (aK c.cls c.cls.length), xBx (.v (.string c.name)) (.osl 5 0) (.osl 6 0) (.osl 7 0) (.osl 8 0) (.osl 9 0) (.sl (tR c.fil)) nilX (I (-1)), obCls (cK c.cls (k + 1)), iOb (tkI (ppI c.cls) c.cls (k + 1)), iOb (tkI (fsI c.cls) c.cls k), iOb (tkI (nxI c.cls) c.cls k), iOb (tkI (eI c.cls) c.cls k)]⟩
def lwS7 (c : Cfg) (k j : Nat) : St := ⟨180, tl [(1, .optr 0 0 0 0), (2, .optr 1 0 0 0), (3, .osl 2 0), (4, .osl 3 0), (7, .optr 4 0 0 0), (46, .osl 2 0), (47, I c.cls.length), (48, I k), (8, I k), (9, I j), (10, I (ppI c.cls j)), (11, I (fsI c.cls j)), (12, I (nxI c.cls j))], [cBx c, zBx, iOb (nI (wk c.cls)), iOb (aK c.cls c.cls.length), xBx (.v (.string c.name)) (.osl 5 0) (.osl 6 0) (.osl 7 0) (.osl 8 0) (.osl 9 0) (.sl (tR c.fil)) nilX (I (-1)), obCls (cK c.cls (k + 1)), iOb (tkI (ppI c.cls) c.cls (k + 1)), iOb (tkI (fsI c.cls) c.cls (k + 1)), iOb (tkI (nxI c.cls) c.cls k), iOb (tkI (eI c.cls) c.cls k)]⟩
def lwS8 (c : Cfg) (k j : Nat) : St := ⟨180, tl [(1, .optr 0 0 0 0), (2, .optr 1 0 0 0), (3, .osl 2 0), (4, .osl 3 0), (7, .optr 4 0 0 0), (46, .osl 2 0), (47, I c.cls.length), (48, I k), (8, I k), (9, I j), (10, I (ppI c.cls j)), (11, I (fsI c.cls j)), (12, I (nxI c.cls j))], [cBx c, zBx, iOb (nI (wk c.cls)), iOb (aK c.cls c.cls.length), xBx (.v (.string c.name)) (.osl 5 0) (.osl 6 0) (.osl 7 0) (.osl 8 0) (.osl 9 0) (.sl (tR c.fil)) nilX (I (-1)), obCls (cK c.cls (k + 1)), iOb (tkI (ppI c.cls) c.cls (k + 1)), iOb (tkI (fsI c.cls) c.cls (k + 1)), iOb (tkI (nxI c.cls) c.cls (k + 1)), iOb (tkI (eI c.cls) c.cls k)]⟩
def lwS9 (c : Cfg) (k j : Nat) : St := ⟨180, tl [(1, .optr 0 0 0 0), (2, .optr 1 0 0 0), (3, .osl 2 0), (4, .osl 3 0), (7, .optr 4 0 0 0), (46, .osl 2 0), (47, I c.cls.length), (48, I k)], [cBx c, zBx, iOb (nI (wk c.cls)), iOb (aK c.cls c.cls.length), xBx (.v (.string c.name)) (.osl 5 0) (.osl 6 0) (.osl 7 0) (.osl 8 0) (.osl 9 0) (.sl (tR c.fil)) nilX (I (-1)), obCls (cK c.cls (k + 1)), iOb (tkI (ppI c.cls) c.cls (k + 1)), iOb (tkI (fsI c.cls) c.cls (k + 1)), iOb (tkI (nxI c.cls) c.cls (k + 1)), iOb (tkI (eI c.cls) c.cls (k + 1))]⟩
theorem lw_1 (c : Cfg) (ho : okC c) (hg : isCfg c = true) (k j : Nat) (h : k < c.cls.length) (hj : ∀ h', (wk c.cls)[k]'(h') = j) {Q : Exit → St → Prop} : awp Tryz.prog (envN K [(46, F46), (47, F87), (48, F105), (49, F110)] [] []) (hdC (lpC (hdC (tlC (tlC (lpC (lpC (tlC (hdC (tlC (tlC (tlC (tlC (tlC (bodyOf Tryz.f21))))))))))))))) (thenP (fun s => ∃ s', Wk s s' ∧ s' = lwS1 c k j) Q) (lwS0 c k j) := by
  simp only [lwS0, lwS1, Tryz.f21, bodyOf, Option.getD_some, tlC, hdC, lpC]
  have hlim := cfg_lim hg
  have H := topOf hg
  have hwl := wk_len H
  obtain ⟨f1, f2⟩ := cfg_fil hg
  have hfl : c.fil.length ≤ 1048576 := by omega
  have hI : okI c (topN c.cls : Int) := ⟨ho, by omega, by have := H.lt; omega⟩
  have hm1 : (c.cls.length : Int) ≤ 9223372036854775807 := by omega
  have hm2 : c.cls.length * 8 ≤ 140737488355328 := by omega
  have hrep : List.replicate c.cls.length [X.v (Value.int .i64 0)] = iR (List.replicate c.cls.length 0) := by simp [iR]
  have hkw : k < (wk c.cls).length := by omega
  have hjl : j < c.cls.length := by rw [← hj hkw]; exact wk_lt H (List.getElem_mem hkw)
  have hpk : pos c.cls j = k := by rw [← hj hkw]; exact pos_wk H hkw
  have hc1 : cK c.cls (k + 1) = cK c.cls k ++ [c.cls[j]] := by rw [cK_succ c.cls k hkw, hj hkw, atC_eq hjl]
  have hp1 : tkI (ppI c.cls) c.cls (k + 1) = tkI (ppI c.cls) c.cls k ++ [ppI c.cls j] := by rw [tkI_succ _ _ k hkw, hj hkw]
  have hf1 : tkI (fsI c.cls) c.cls (k + 1) = tkI (fsI c.cls) c.cls k ++ [fsI c.cls j] := by rw [tkI_succ _ _ k hkw, hj hkw]
  have hn1 : tkI (nxI c.cls) c.cls (k + 1) = tkI (nxI c.cls) c.cls k ++ [nxI c.cls j] := by rw [tkI_succ _ _ k hkw, hj hkw]
  have he1 : tkI (eI c.cls) c.cls (k + 1) = tkI (eI c.cls) c.cls k ++ [eI c.cls j] := by rw [tkI_succ _ _ k hkw, hj hkw]
  have hcl := cK_len c.cls k (by omega)
  have hpl := tkI_len (ppI c.cls) c.cls k (by omega)
  have hfl2 := tkI_len (fsI c.cls) c.cls k (by omega)
  have hnl := tkI_len (nxI c.cls) c.cls k (by omega)
  have hel := tkI_len (eI c.cls) c.cls k (by omega)
  have hat : ∀ i, i < c.cls.length → ∀ h', (aK c.cls c.cls.length)[i]'(h') = (pos c.cls i : Int) := fun i hi h' => by
    have := aK_get H hi
    rw [List.getElem?_eq_getElem h'] at this
    exact Option.some.inj this
  have hal := aK_len c.cls c.cls.length
  obtain ⟨A, hA⟩ : ∃ A, aK c.cls c.cls.length = A := ⟨_, rfl⟩
  obtain ⟨V, hV⟩ : ∃ V, wk c.cls = V := ⟨_, rfl⟩
  obtain ⟨L, hL⟩ : ∃ L, cK c.cls k = L := ⟨_, rfl⟩
  obtain ⟨T1, hT1⟩ : ∃ L, tkI (ppI c.cls) c.cls k = L := ⟨_, rfl⟩
  obtain ⟨T2, hT2⟩ : ∃ L, tkI (fsI c.cls) c.cls k = L := ⟨_, rfl⟩
  obtain ⟨T3, hT3⟩ : ∃ L, tkI (nxI c.cls) c.cls k = L := ⟨_, rfl⟩
  obtain ⟨T4, hT4⟩ : ∃ L, tkI (eI c.cls) c.cls k = L := ⟨_, rfl⟩
  simp only [hA] at hat hal
  simp only [hV] at hwl hkw hj
  rw [hL] at hc1 hcl
  rw [hT1] at hp1 hpl
  rw [hT2] at hf1 hfl2
  rw [hT3] at hn1 hnl
  rw [hT4] at he1 hel
  have hni : ∀ h', (nI V)[k]'(h') = (j : Int) := fun h' => by simp [nI, hj hkw]
  simp only [hA, hV, hL, hT1, hT2, hT3, hT4, hc1, hp1, hf1, hn1, he1]
  simp -implicitDefEqProofs [List.lookup_cons, and_assoc, pick_and, pick_or, if_and, if_or, h, cBx, zBx, xBx, obCls, nilX, iOb, nI_len, hwl, hni]
  exact Wk.tl (by simp [hold, upd, tl_cons])
theorem lw_2 (c : Cfg) (ho : okC c) (hg : isCfg c = true) (k j : Nat) (h : k < c.cls.length) (hj : ∀ h', (wk c.cls)[k]'(h') = j) {Q : Exit → St → Prop} : awp Tryz.prog (envN K [(46, F46), (47, F87), (48, F105), (49, F110)] [] []) (hdC (tlC (lpC (hdC (tlC (tlC (lpC (lpC (tlC (hdC (tlC (tlC (tlC (tlC (tlC (bodyOf Tryz.f21)))))))))))))))) (thenP (fun s => ∃ s', Wk s s' ∧ s' = lwS2 c k j) Q) (lwS1 c k j) := by
  simp only [lwS1, lwS2, Tryz.f21, bodyOf, Option.getD_some, tlC, hdC, lpC]
  have hlim := cfg_lim hg
  have H := topOf hg
  have hwl := wk_len H
  obtain ⟨f1, f2⟩ := cfg_fil hg
  have hfl : c.fil.length ≤ 1048576 := by omega
  have hI : okI c (topN c.cls : Int) := ⟨ho, by omega, by have := H.lt; omega⟩
  have hm1 : (c.cls.length : Int) ≤ 9223372036854775807 := by omega
  have hm2 : c.cls.length * 8 ≤ 140737488355328 := by omega
  have hrep : List.replicate c.cls.length [X.v (Value.int .i64 0)] = iR (List.replicate c.cls.length 0) := by simp [iR]
  have hkw : k < (wk c.cls).length := by omega
  have hjl : j < c.cls.length := by rw [← hj hkw]; exact wk_lt H (List.getElem_mem hkw)
  have hpk : pos c.cls j = k := by rw [← hj hkw]; exact pos_wk H hkw
  have hc1 : cK c.cls (k + 1) = cK c.cls k ++ [c.cls[j]] := by rw [cK_succ c.cls k hkw, hj hkw, atC_eq hjl]
  have hp1 : tkI (ppI c.cls) c.cls (k + 1) = tkI (ppI c.cls) c.cls k ++ [ppI c.cls j] := by rw [tkI_succ _ _ k hkw, hj hkw]
  have hf1 : tkI (fsI c.cls) c.cls (k + 1) = tkI (fsI c.cls) c.cls k ++ [fsI c.cls j] := by rw [tkI_succ _ _ k hkw, hj hkw]
  have hn1 : tkI (nxI c.cls) c.cls (k + 1) = tkI (nxI c.cls) c.cls k ++ [nxI c.cls j] := by rw [tkI_succ _ _ k hkw, hj hkw]
  have he1 : tkI (eI c.cls) c.cls (k + 1) = tkI (eI c.cls) c.cls k ++ [eI c.cls j] := by rw [tkI_succ _ _ k hkw, hj hkw]
  have hcl := cK_len c.cls k (by omega)
  have hpl := tkI_len (ppI c.cls) c.cls k (by omega)
  have hfl2 := tkI_len (fsI c.cls) c.cls k (by omega)
  have hnl := tkI_len (nxI c.cls) c.cls k (by omega)
  have hel := tkI_len (eI c.cls) c.cls k (by omega)
  have hat : ∀ i, i < c.cls.length → ∀ h', (aK c.cls c.cls.length)[i]'(h') = (pos c.cls i : Int) := fun i hi h' => by
    have := aK_get H hi
    rw [List.getElem?_eq_getElem h'] at this
    exact Option.some.inj this
  have hal := aK_len c.cls c.cls.length
  obtain ⟨A, hA⟩ : ∃ A, aK c.cls c.cls.length = A := ⟨_, rfl⟩
  obtain ⟨V, hV⟩ : ∃ V, wk c.cls = V := ⟨_, rfl⟩
  obtain ⟨L, hL⟩ : ∃ L, cK c.cls k = L := ⟨_, rfl⟩
  obtain ⟨T1, hT1⟩ : ∃ L, tkI (ppI c.cls) c.cls k = L := ⟨_, rfl⟩
  obtain ⟨T2, hT2⟩ : ∃ L, tkI (fsI c.cls) c.cls k = L := ⟨_, rfl⟩
  obtain ⟨T3, hT3⟩ : ∃ L, tkI (nxI c.cls) c.cls k = L := ⟨_, rfl⟩
  obtain ⟨T4, hT4⟩ : ∃ L, tkI (eI c.cls) c.cls k = L := ⟨_, rfl⟩
  simp only [hA] at hat hal
  simp only [hV] at hwl hkw hj
  rw [hL] at hc1 hcl
  rw [hT1] at hp1 hpl
  rw [hT2] at hf1 hfl2
  rw [hT3] at hn1 hnl
  rw [hT4] at he1 hel
  have hni : ∀ h', (nI V)[k]'(h') = (j : Int) := fun h' => by simp [nI, hj hkw]
  simp only [hA, hV, hL, hT1, hT2, hT3, hT4, hc1, hp1, hf1, hn1, he1]
  have hrow : ∀ x : Cls, tR L ++ [[I x.id, I x.par, I x.rate, I x.ceil, I x.burst, I x.cburst, I x.prio, I x.lim]] = tR (L ++ [x]) := fun x => by simp [tR]
  simp -implicitDefEqProofs [List.lookup_cons, and_assoc, pick_and, pick_or, if_and, if_or, h, cBx, zBx, xBx, obCls, nilX, iOb]
  refine drawP_x _ [(2, 0), (3, 0), (4, 0), (5, 0), (6, 0), (7, 0), (0, 0), (1, 0), (8, 1), (9, 2), (10, 2)] [7, 8, 10] (by decide) ?_
  simp -implicitDefEqProofs [List.lookup_cons, and_assoc, pick_and, pick_or, if_and, if_or, h, cBx, zBx, xBx, obCls, nilX, iOb, hjl, eBuildSlice, eAppend, srcRows, srcOk, chunk, OpOk, hrow]
  refine ⟨by omega, by omega, Wk.tlPN [0, 1, 2, 3, 4, 5, 6, 7, 8, 9] (by simp [pickOkN]) (by simp) ?_⟩
  simp [hold, upd, tl_cons]
theorem lw_3 (c : Cfg) (ho : okC c) (hg : isCfg c = true) (k j : Nat) (h : k < c.cls.length) (hj : ∀ h', (wk c.cls)[k]'(h') = j) {Q : Exit → St → Prop} : awp Tryz.prog (envN K [(46, F46), (47, F87), (48, F105), (49, F110)] [] []) (hdC (tlC (tlC (lpC (hdC (tlC (tlC (lpC (lpC (tlC (hdC (tlC (tlC (tlC (tlC (tlC (bodyOf Tryz.f21))))))))))))))))) (thenP (fun s => ∃ s', Wk s s' ∧ s' = lwS3 c k j) Q) (lwS2 c k j) := by
  simp only [lwS2, lwS3, Tryz.f21, bodyOf, Option.getD_some, tlC, hdC, lpC]
  have hlim := cfg_lim hg
  have H := topOf hg
  have hwl := wk_len H
  obtain ⟨f1, f2⟩ := cfg_fil hg
  have hfl : c.fil.length ≤ 1048576 := by omega
  have hI : okI c (topN c.cls : Int) := ⟨ho, by omega, by have := H.lt; omega⟩
  have hm1 : (c.cls.length : Int) ≤ 9223372036854775807 := by omega
  have hm2 : c.cls.length * 8 ≤ 140737488355328 := by omega
  have hrep : List.replicate c.cls.length [X.v (Value.int .i64 0)] = iR (List.replicate c.cls.length 0) := by simp [iR]
  have hkw : k < (wk c.cls).length := by omega
  have hjl : j < c.cls.length := by rw [← hj hkw]; exact wk_lt H (List.getElem_mem hkw)
  have hpk : pos c.cls j = k := by rw [← hj hkw]; exact pos_wk H hkw
  have hc1 : cK c.cls (k + 1) = cK c.cls k ++ [c.cls[j]] := by rw [cK_succ c.cls k hkw, hj hkw, atC_eq hjl]
  have hp1 : tkI (ppI c.cls) c.cls (k + 1) = tkI (ppI c.cls) c.cls k ++ [ppI c.cls j] := by rw [tkI_succ _ _ k hkw, hj hkw]
  have hf1 : tkI (fsI c.cls) c.cls (k + 1) = tkI (fsI c.cls) c.cls k ++ [fsI c.cls j] := by rw [tkI_succ _ _ k hkw, hj hkw]
  have hn1 : tkI (nxI c.cls) c.cls (k + 1) = tkI (nxI c.cls) c.cls k ++ [nxI c.cls j] := by rw [tkI_succ _ _ k hkw, hj hkw]
  have he1 : tkI (eI c.cls) c.cls (k + 1) = tkI (eI c.cls) c.cls k ++ [eI c.cls j] := by rw [tkI_succ _ _ k hkw, hj hkw]
  have hcl := cK_len c.cls k (by omega)
  have hpl := tkI_len (ppI c.cls) c.cls k (by omega)
  have hfl2 := tkI_len (fsI c.cls) c.cls k (by omega)
  have hnl := tkI_len (nxI c.cls) c.cls k (by omega)
  have hel := tkI_len (eI c.cls) c.cls k (by omega)
  have hat : ∀ i, i < c.cls.length → ∀ h', (aK c.cls c.cls.length)[i]'(h') = (pos c.cls i : Int) := fun i hi h' => by
    have := aK_get H hi
    rw [List.getElem?_eq_getElem h'] at this
    exact Option.some.inj this
  have hal := aK_len c.cls c.cls.length
  obtain ⟨A, hA⟩ : ∃ A, aK c.cls c.cls.length = A := ⟨_, rfl⟩
  obtain ⟨V, hV⟩ : ∃ V, wk c.cls = V := ⟨_, rfl⟩
  obtain ⟨L, hL⟩ : ∃ L, cK c.cls k = L := ⟨_, rfl⟩
  obtain ⟨T1, hT1⟩ : ∃ L, tkI (ppI c.cls) c.cls k = L := ⟨_, rfl⟩
  obtain ⟨T2, hT2⟩ : ∃ L, tkI (fsI c.cls) c.cls k = L := ⟨_, rfl⟩
  obtain ⟨T3, hT3⟩ : ∃ L, tkI (nxI c.cls) c.cls k = L := ⟨_, rfl⟩
  obtain ⟨T4, hT4⟩ : ∃ L, tkI (eI c.cls) c.cls k = L := ⟨_, rfl⟩
  simp only [hA] at hat hal
  simp only [hV] at hwl hkw hj
  rw [hL] at hc1 hcl
  rw [hT1] at hp1 hpl
  rw [hT2] at hf1 hfl2
  rw [hT3] at hn1 hnl
  rw [hT4] at he1 hel
  have hni : ∀ h', (nI V)[k]'(h') = (j : Int) := fun h' => by simp [nI, hj hkw]
  simp only [hA, hV, hL, hT1, hT2, hT3, hT4, hc1, hp1, hf1, hn1, he1]
  simp -implicitDefEqProofs [List.lookup_cons, and_assoc, pick_and, pick_or, if_and, if_or, h, cBx, zBx, xBx, obCls, nilX, iOb]
  exact Wk.tl (by simp [hold, upd, tl_cons])
theorem lw_6 (c : Cfg) (ho : okC c) (hg : isCfg c = true) (k j : Nat) (h : k < c.cls.length) (hj : ∀ h', (wk c.cls)[k]'(h') = j) {Q : Exit → St → Prop} : awp Tryz.prog (envN K [(46, F46), (47, F87), (48, F105), (49, F110)] [] []) (hdC (tlC (tlC (tlC (tlC (tlC (lpC (hdC (tlC (tlC (lpC (lpC (tlC (hdC (tlC (tlC (tlC (tlC (tlC (bodyOf Tryz.f21)))))))))))))))))))) (thenP (fun s => ∃ s', Wk s s' ∧ s' = lwS6 c k j) Q) (lwS5 c k j) := by
  simp only [lwS5, lwS6, Tryz.f21, bodyOf, Option.getD_some, tlC, hdC, lpC]
  have hlim := cfg_lim hg
  have H := topOf hg
  have hwl := wk_len H
  obtain ⟨f1, f2⟩ := cfg_fil hg
  have hfl : c.fil.length ≤ 1048576 := by omega
  have hI : okI c (topN c.cls : Int) := ⟨ho, by omega, by have := H.lt; omega⟩
  have hm1 : (c.cls.length : Int) ≤ 9223372036854775807 := by omega
  have hm2 : c.cls.length * 8 ≤ 140737488355328 := by omega
  have hrep : List.replicate c.cls.length [X.v (Value.int .i64 0)] = iR (List.replicate c.cls.length 0) := by simp [iR]
  have hkw : k < (wk c.cls).length := by omega
  have hjl : j < c.cls.length := by rw [← hj hkw]; exact wk_lt H (List.getElem_mem hkw)
  have hpk : pos c.cls j = k := by rw [← hj hkw]; exact pos_wk H hkw
  have hc1 : cK c.cls (k + 1) = cK c.cls k ++ [c.cls[j]] := by rw [cK_succ c.cls k hkw, hj hkw, atC_eq hjl]
  have hp1 : tkI (ppI c.cls) c.cls (k + 1) = tkI (ppI c.cls) c.cls k ++ [ppI c.cls j] := by rw [tkI_succ _ _ k hkw, hj hkw]
  have hf1 : tkI (fsI c.cls) c.cls (k + 1) = tkI (fsI c.cls) c.cls k ++ [fsI c.cls j] := by rw [tkI_succ _ _ k hkw, hj hkw]
  have hn1 : tkI (nxI c.cls) c.cls (k + 1) = tkI (nxI c.cls) c.cls k ++ [nxI c.cls j] := by rw [tkI_succ _ _ k hkw, hj hkw]
  have he1 : tkI (eI c.cls) c.cls (k + 1) = tkI (eI c.cls) c.cls k ++ [eI c.cls j] := by rw [tkI_succ _ _ k hkw, hj hkw]
  have hcl := cK_len c.cls k (by omega)
  have hpl := tkI_len (ppI c.cls) c.cls k (by omega)
  have hfl2 := tkI_len (fsI c.cls) c.cls k (by omega)
  have hnl := tkI_len (nxI c.cls) c.cls k (by omega)
  have hel := tkI_len (eI c.cls) c.cls k (by omega)
  have hat : ∀ i, i < c.cls.length → ∀ h', (aK c.cls c.cls.length)[i]'(h') = (pos c.cls i : Int) := fun i hi h' => by
    have := aK_get H hi
    rw [List.getElem?_eq_getElem h'] at this
    exact Option.some.inj this
  have hal := aK_len c.cls c.cls.length
  obtain ⟨A, hA⟩ : ∃ A, aK c.cls c.cls.length = A := ⟨_, rfl⟩
  obtain ⟨V, hV⟩ : ∃ V, wk c.cls = V := ⟨_, rfl⟩
  obtain ⟨L, hL⟩ : ∃ L, cK c.cls k = L := ⟨_, rfl⟩
  obtain ⟨T1, hT1⟩ : ∃ L, tkI (ppI c.cls) c.cls k = L := ⟨_, rfl⟩
  obtain ⟨T2, hT2⟩ : ∃ L, tkI (fsI c.cls) c.cls k = L := ⟨_, rfl⟩
  obtain ⟨T3, hT3⟩ : ∃ L, tkI (nxI c.cls) c.cls k = L := ⟨_, rfl⟩
  obtain ⟨T4, hT4⟩ : ∃ L, tkI (eI c.cls) c.cls k = L := ⟨_, rfl⟩
  simp only [hA] at hat hal
  simp only [hV] at hwl hkw hj
  rw [hL] at hc1 hcl
  rw [hT1] at hp1 hpl
  rw [hT2] at hf1 hfl2
  rw [hT3] at hn1 hnl
  rw [hT4] at he1 hel
  have hni : ∀ h', (nI V)[k]'(h') = (j : Int) := fun h' => by simp [nI, hj hkw]
  simp only [hA, hV, hL, hT1, hT2, hT3, hT4, hc1, hp1, hf1, hn1, he1]
  have hrow : ∀ x : Int, iR T1 ++ [[I x]] = iR (T1 ++ [x]) := fun x => by simp [iR]
  simp -implicitDefEqProofs [List.lookup_cons, and_assoc, pick_and, pick_or, if_and, if_or, h, cBx, zBx, xBx, obCls, nilX, iOb, eBuildSlice, eAppend, srcRows, srcOk, chunk, hrow]
  refine ⟨by omega, by omega, Wk.tlPN [0, 1, 2, 3, 4, 5, 6, 7, 8, 9] (by simp [pickOkN]) (by simp) ?_⟩
  simp [hold, upd, tl_cons]
theorem lw_7 (c : Cfg) (ho : okC c) (hg : isCfg c = true) (k j : Nat) (h : k < c.cls.length) (hj : ∀ h', (wk c.cls)[k]'(h') = j) {Q : Exit → St → Prop} : awp Tryz.prog (envN K [(46, F46), (47, F87), (48, F105), (49, F110)] [] []) (hdC (tlC (tlC (tlC (tlC (tlC (tlC (lpC (hdC (tlC (tlC (lpC (lpC (tlC (hdC (tlC (tlC (tlC (tlC (tlC (bodyOf Tryz.f21))))))))))))))))))))) (thenP (fun s => ∃ s', Wk s s' ∧ s' = lwS7 c k j) Q) (lwS6 c k j) := by
  simp only [lwS6, lwS7, Tryz.f21, bodyOf, Option.getD_some, tlC, hdC, lpC]
  have hlim := cfg_lim hg
  have H := topOf hg
  have hwl := wk_len H
  obtain ⟨f1, f2⟩ := cfg_fil hg
  have hfl : c.fil.length ≤ 1048576 := by omega
  have hI : okI c (topN c.cls : Int) := ⟨ho, by omega, by have := H.lt; omega⟩
  have hm1 : (c.cls.length : Int) ≤ 9223372036854775807 := by omega
  have hm2 : c.cls.length * 8 ≤ 140737488355328 := by omega
  have hrep : List.replicate c.cls.length [X.v (Value.int .i64 0)] = iR (List.replicate c.cls.length 0) := by simp [iR]
  have hkw : k < (wk c.cls).length := by omega
  have hjl : j < c.cls.length := by rw [← hj hkw]; exact wk_lt H (List.getElem_mem hkw)
  have hpk : pos c.cls j = k := by rw [← hj hkw]; exact pos_wk H hkw
  have hc1 : cK c.cls (k + 1) = cK c.cls k ++ [c.cls[j]] := by rw [cK_succ c.cls k hkw, hj hkw, atC_eq hjl]
  have hp1 : tkI (ppI c.cls) c.cls (k + 1) = tkI (ppI c.cls) c.cls k ++ [ppI c.cls j] := by rw [tkI_succ _ _ k hkw, hj hkw]
  have hf1 : tkI (fsI c.cls) c.cls (k + 1) = tkI (fsI c.cls) c.cls k ++ [fsI c.cls j] := by rw [tkI_succ _ _ k hkw, hj hkw]
  have hn1 : tkI (nxI c.cls) c.cls (k + 1) = tkI (nxI c.cls) c.cls k ++ [nxI c.cls j] := by rw [tkI_succ _ _ k hkw, hj hkw]
  have he1 : tkI (eI c.cls) c.cls (k + 1) = tkI (eI c.cls) c.cls k ++ [eI c.cls j] := by rw [tkI_succ _ _ k hkw, hj hkw]
  have hcl := cK_len c.cls k (by omega)
  have hpl := tkI_len (ppI c.cls) c.cls k (by omega)
  have hfl2 := tkI_len (fsI c.cls) c.cls k (by omega)
  have hnl := tkI_len (nxI c.cls) c.cls k (by omega)
  have hel := tkI_len (eI c.cls) c.cls k (by omega)
  have hat : ∀ i, i < c.cls.length → ∀ h', (aK c.cls c.cls.length)[i]'(h') = (pos c.cls i : Int) := fun i hi h' => by
    have := aK_get H hi
    rw [List.getElem?_eq_getElem h'] at this
    exact Option.some.inj this
  have hal := aK_len c.cls c.cls.length
  obtain ⟨A, hA⟩ : ∃ A, aK c.cls c.cls.length = A := ⟨_, rfl⟩
  obtain ⟨V, hV⟩ : ∃ V, wk c.cls = V := ⟨_, rfl⟩
  obtain ⟨L, hL⟩ : ∃ L, cK c.cls k = L := ⟨_, rfl⟩
  obtain ⟨T1, hT1⟩ : ∃ L, tkI (ppI c.cls) c.cls k = L := ⟨_, rfl⟩
  obtain ⟨T2, hT2⟩ : ∃ L, tkI (fsI c.cls) c.cls k = L := ⟨_, rfl⟩
  obtain ⟨T3, hT3⟩ : ∃ L, tkI (nxI c.cls) c.cls k = L := ⟨_, rfl⟩
  obtain ⟨T4, hT4⟩ : ∃ L, tkI (eI c.cls) c.cls k = L := ⟨_, rfl⟩
  simp only [hA] at hat hal
  simp only [hV] at hwl hkw hj
  rw [hL] at hc1 hcl
  rw [hT1] at hp1 hpl
  rw [hT2] at hf1 hfl2
  rw [hT3] at hn1 hnl
  rw [hT4] at he1 hel
  have hni : ∀ h', (nI V)[k]'(h') = (j : Int) := fun h' => by simp [nI, hj hkw]
  simp only [hA, hV, hL, hT1, hT2, hT3, hT4, hc1, hp1, hf1, hn1, he1]
  have hrow : ∀ x : Int, iR T2 ++ [[I x]] = iR (T2 ++ [x]) := fun x => by simp [iR]
  simp -implicitDefEqProofs [List.lookup_cons, and_assoc, pick_and, pick_or, if_and, if_or, h, cBx, zBx, xBx, obCls, nilX, iOb, eBuildSlice, eAppend, srcRows, srcOk, chunk, hrow]
  refine ⟨by omega, by omega, Wk.tlPN [0, 1, 2, 3, 4, 5, 6, 7, 8, 9] (by simp [pickOkN]) (by simp) ?_⟩
  simp [hold, upd, tl_cons]
theorem lw_8 (c : Cfg) (ho : okC c) (hg : isCfg c = true) (k j : Nat) (h : k < c.cls.length) (hj : ∀ h', (wk c.cls)[k]'(h') = j) {Q : Exit → St → Prop} : awp Tryz.prog (envN K [(46, F46), (47, F87), (48, F105), (49, F110)] [] []) (hdC (tlC (tlC (tlC (tlC (tlC (tlC (tlC (lpC (hdC (tlC (tlC (lpC (lpC (tlC (hdC (tlC (tlC (tlC (tlC (tlC (bodyOf Tryz.f21)))))))))))))))))))))) (thenP (fun s => ∃ s', Wk s s' ∧ s' = lwS8 c k j) Q) (lwS7 c k j) := by
  simp only [lwS7, lwS8, Tryz.f21, bodyOf, Option.getD_some, tlC, hdC, lpC]
  have hlim := cfg_lim hg
  have H := topOf hg
  have hwl := wk_len H
  obtain ⟨f1, f2⟩ := cfg_fil hg
  have hfl : c.fil.length ≤ 1048576 := by omega
  have hI : okI c (topN c.cls : Int) := ⟨ho, by omega, by have := H.lt; omega⟩
  have hm1 : (c.cls.length : Int) ≤ 9223372036854775807 := by omega
  have hm2 : c.cls.length * 8 ≤ 140737488355328 := by omega
  have hrep : List.replicate c.cls.length [X.v (Value.int .i64 0)] = iR (List.replicate c.cls.length 0) := by simp [iR]
  have hkw : k < (wk c.cls).length := by omega
  have hjl : j < c.cls.length := by rw [← hj hkw]; exact wk_lt H (List.getElem_mem hkw)
  have hpk : pos c.cls j = k := by rw [← hj hkw]; exact pos_wk H hkw
  have hc1 : cK c.cls (k + 1) = cK c.cls k ++ [c.cls[j]] := by rw [cK_succ c.cls k hkw, hj hkw, atC_eq hjl]
  have hp1 : tkI (ppI c.cls) c.cls (k + 1) = tkI (ppI c.cls) c.cls k ++ [ppI c.cls j] := by rw [tkI_succ _ _ k hkw, hj hkw]
  have hf1 : tkI (fsI c.cls) c.cls (k + 1) = tkI (fsI c.cls) c.cls k ++ [fsI c.cls j] := by rw [tkI_succ _ _ k hkw, hj hkw]
  have hn1 : tkI (nxI c.cls) c.cls (k + 1) = tkI (nxI c.cls) c.cls k ++ [nxI c.cls j] := by rw [tkI_succ _ _ k hkw, hj hkw]
  have he1 : tkI (eI c.cls) c.cls (k + 1) = tkI (eI c.cls) c.cls k ++ [eI c.cls j] := by rw [tkI_succ _ _ k hkw, hj hkw]
  have hcl := cK_len c.cls k (by omega)
  have hpl := tkI_len (ppI c.cls) c.cls k (by omega)
  have hfl2 := tkI_len (fsI c.cls) c.cls k (by omega)
  have hnl := tkI_len (nxI c.cls) c.cls k (by omega)
  have hel := tkI_len (eI c.cls) c.cls k (by omega)
  have hat : ∀ i, i < c.cls.length → ∀ h', (aK c.cls c.cls.length)[i]'(h') = (pos c.cls i : Int) := fun i hi h' => by
    have := aK_get H hi
    rw [List.getElem?_eq_getElem h'] at this
    exact Option.some.inj this
  have hal := aK_len c.cls c.cls.length
  obtain ⟨A, hA⟩ : ∃ A, aK c.cls c.cls.length = A := ⟨_, rfl⟩
  obtain ⟨V, hV⟩ : ∃ V, wk c.cls = V := ⟨_, rfl⟩
  obtain ⟨L, hL⟩ : ∃ L, cK c.cls k = L := ⟨_, rfl⟩
  obtain ⟨T1, hT1⟩ : ∃ L, tkI (ppI c.cls) c.cls k = L := ⟨_, rfl⟩
  obtain ⟨T2, hT2⟩ : ∃ L, tkI (fsI c.cls) c.cls k = L := ⟨_, rfl⟩
  obtain ⟨T3, hT3⟩ : ∃ L, tkI (nxI c.cls) c.cls k = L := ⟨_, rfl⟩
  obtain ⟨T4, hT4⟩ : ∃ L, tkI (eI c.cls) c.cls k = L := ⟨_, rfl⟩
  simp only [hA] at hat hal
  simp only [hV] at hwl hkw hj
  rw [hL] at hc1 hcl
  rw [hT1] at hp1 hpl
  rw [hT2] at hf1 hfl2
  rw [hT3] at hn1 hnl
  rw [hT4] at he1 hel
  have hni : ∀ h', (nI V)[k]'(h') = (j : Int) := fun h' => by simp [nI, hj hkw]
  simp only [hA, hV, hL, hT1, hT2, hT3, hT4, hc1, hp1, hf1, hn1, he1]
  have hrow : ∀ x : Int, iR T3 ++ [[I x]] = iR (T3 ++ [x]) := fun x => by simp [iR]
  simp -implicitDefEqProofs [List.lookup_cons, and_assoc, pick_and, pick_or, if_and, if_or, h, cBx, zBx, xBx, obCls, nilX, iOb, eBuildSlice, eAppend, srcRows, srcOk, chunk, hrow]
  refine ⟨by omega, by omega, Wk.tlPN [0, 1, 2, 3, 4, 5, 6, 7, 8, 9] (by simp [pickOkN]) (by simp) ?_⟩
  simp [hold, upd, tl_cons]
end Go.Proofs

namespace Go.Proofs
open Go.Abs
set_option linter.unusedSimpArgs false
set_option linter.unnecessarySimpa false
set_option linter.unusedVariables false
set_option maxHeartbeats 16000000
set_option maxRecDepth 20000

theorem lw_4 (c : Cfg) (ho : okC c) (hg : isCfg c = true) (k j : Nat) (h : k < c.cls.length) (hj : ∀ h', (wk c.cls)[k]'(h') = j) {Q : Exit → St → Prop} : awp Tryz.prog (envN K [(46, F46), (47, F87), (48, F105), (49, F110)] [] []) (hdC (tlC (tlC (tlC (lpC (hdC (tlC (tlC (lpC (lpC (tlC (hdC (tlC (tlC (tlC (tlC (tlC (bodyOf Tryz.f21)))))))))))))))))) (thenP (fun s => ∃ s', Wk s s' ∧ s' = lwS4 c k j) Q) (lwS3 c k j) := by
  simp only [lwS3, lwS4, Tryz.f21, bodyOf, Option.getD_some, tlC, hdC, lpC]
  have hlim := cfg_lim hg
  have H := topOf hg
  have hwl := wk_len H
  obtain ⟨f1, f2⟩ := cfg_fil hg
  have hfl : c.fil.length ≤ 1048576 := by omega
  have hI : okI c (topN c.cls : Int) := ⟨ho, by omega, by have := H.lt; omega⟩
  have hm1 : (c.cls.length : Int) ≤ 9223372036854775807 := by omega
  have hm2 : c.cls.length * 8 ≤ 140737488355328 := by omega
  have hrep : List.replicate c.cls.length [X.v (Value.int .i64 0)] = iR (List.replicate c.cls.length 0) := by simp [iR]
  have hkw : k < (wk c.cls).length := by omega
  have hjl : j < c.cls.length := by rw [← hj hkw]; exact wk_lt H (List.getElem_mem hkw)
  have hpk : pos c.cls j = k := by rw [← hj hkw]; exact pos_wk H hkw
  have hc1 : cK c.cls (k + 1) = cK c.cls k ++ [c.cls[j]] := by rw [cK_succ c.cls k hkw, hj hkw, atC_eq hjl]
  have hp1 : tkI (ppI c.cls) c.cls (k + 1) = tkI (ppI c.cls) c.cls k ++ [ppI c.cls j] := by rw [tkI_succ _ _ k hkw, hj hkw]
  have hf1 : tkI (fsI c.cls) c.cls (k + 1) = tkI (fsI c.cls) c.cls k ++ [fsI c.cls j] := by rw [tkI_succ _ _ k hkw, hj hkw]
  have hn1 : tkI (nxI c.cls) c.cls (k + 1) = tkI (nxI c.cls) c.cls k ++ [nxI c.cls j] := by rw [tkI_succ _ _ k hkw, hj hkw]
  have he1 : tkI (eI c.cls) c.cls (k + 1) = tkI (eI c.cls) c.cls k ++ [eI c.cls j] := by rw [tkI_succ _ _ k hkw, hj hkw]
  have hcl := cK_len c.cls k (by omega)
  have hpl := tkI_len (ppI c.cls) c.cls k (by omega)
  have hfl2 := tkI_len (fsI c.cls) c.cls k (by omega)
  have hnl := tkI_len (nxI c.cls) c.cls k (by omega)
  have hel := tkI_len (eI c.cls) c.cls k (by omega)
  have hat : ∀ i, i < c.cls.length → ∀ h', (aK c.cls c.cls.length)[i]'(h') = (pos c.cls i : Int) := fun i hi h' => by
    have := aK_get H hi
    rw [List.getElem?_eq_getElem h'] at this
    exact Option.some.inj this
  have hal := aK_len c.cls c.cls.length
  obtain ⟨A, hA⟩ : ∃ A, aK c.cls c.cls.length = A := ⟨_, rfl⟩
  obtain ⟨V, hV⟩ : ∃ V, wk c.cls = V := ⟨_, rfl⟩
  obtain ⟨L, hL⟩ : ∃ L, cK c.cls k = L := ⟨_, rfl⟩
  obtain ⟨T1, hT1⟩ : ∃ L, tkI (ppI c.cls) c.cls k = L := ⟨_, rfl⟩
  obtain ⟨T2, hT2⟩ : ∃ L, tkI (fsI c.cls) c.cls k = L := ⟨_, rfl⟩
  obtain ⟨T3, hT3⟩ : ∃ L, tkI (nxI c.cls) c.cls k = L := ⟨_, rfl⟩
  obtain ⟨T4, hT4⟩ : ∃ L, tkI (eI c.cls) c.cls k = L := ⟨_, rfl⟩
  simp only [hA] at hat hal
  simp only [hV] at hwl hkw hj
  rw [hL] at hc1 hcl
  rw [hT1] at hp1 hpl
  rw [hT2] at hf1 hfl2
  rw [hT3] at hn1 hnl
  rw [hT4] at he1 hel
  have hni : ∀ h', (nI V)[k]'(h') = (j : Int) := fun h' => by simp [nI, hj hkw]
  simp only [hA, hV, hL, hT1, hT2, hT3, hT4, hc1, hp1, hf1, hn1, he1]
  have hfx : fidx c.cls c.cls[j].par = nxt c.cls (j : Int) := by simp [nxt, atC_eq hjl]
  simp -implicitDefEqProofs [List.lookup_cons, and_assoc, pick_and, pick_or, if_and, if_or, h, cBx, zBx, xBx, obCls, nilX, iOb]
  refine drawP_all _ (by decide) ?_
  by_cases hn : nxt c.cls (j : Int) < 0
  · have hpp : ppI c.cls j = -1 := by unfold ppI; rw [if_pos hn]
    have hnx := nx_top hn
    have hnn : ¬ 0 ≤ nxt c.cls (j : Int) := by omega
    simp -implicitDefEqProofs [List.lookup_cons, and_assoc, pick_and, pick_or, if_and, if_or, h, cBx, zBx, xBx, obCls, nilX, iOb, F105, ho, hjl, hfx, hnn, hpp, hnx, OpOk]
    exact Wk.tl (by simp [hold, upd, tl_cons])
  · have hnp := nS_nx H hjl hn
    have hpl2 := nxt_lt hn
    obtain ⟨p, hp⟩ := Int.eq_ofNat_of_zero_le (show 0 ≤ nxt c.cls (j : Int) by omega)
    have hpp : ppI c.cls j = (pos c.cls p : Int) := by unfold ppI; rw [if_neg hn, hp, Int.toNat_natCast]
    rw [hp, Int.toNat_natCast] at hnp hpl2
    rw [hp] at hfx
    have hIp : okI c (p : Int) := ⟨ho, by omega, by omega⟩
    have hAp := hat p hpl2
    have hkl := kids_lt c.cls p c.cls.length
    have hkn := kids_len c.cls p c.cls.length
    rw [hpp, ← hnp]
    simp -implicitDefEqProofs [List.lookup_cons, and_assoc, pick_and, pick_or, if_and, if_or, h, cBx, zBx, xBx, obCls, nilX, iOb, F105, F110, hIp, ho, hjl, hfx, hal, hpl2, hAp, nI_len, OpOk]
    generalize kids c.cls p c.cls.length = ks at *
    refine loopP_inv (fun m : Nat => ⟨180, tl [(1, .optr 0 0 0 0), (2, .optr 1 0 0 0), (3, .osl 2 0), (4, .osl 3 0), (7, .optr 4 0 0 0), (46, .osl 2 0), (47, I c.cls.length), (48, I k), (8, I k), (9, I j), (10, I (pos c.cls p)), (11, I (-1)), (12, I (nS c.cls ks j m)), (14, .osl 10 0), (80, .osl 10 0), (81, I ks.length), (82, I m)], [cBx c, zBx, iOb (nI V), iOb A, xBx (.v (.string c.name)) (.osl 5 0) (.osl 6 0) (.osl 7 0) (.osl 8 0) (.osl 9 0) (.sl (tR c.fil)) nilX (I (-1)), obCls (L ++ [c.cls[j]]), iOb T1, iOb T2, iOb T3, iOb T4, iOb (nI ks)]⟩) (fun m => m ≤ ks.length) (fun m => ks.length - m) 0 (Nat.zero_le _) ?_ ?_
    · simp only [cBx, zBx, xBx, obCls, nilX, iOb]
      exact Wk.tl (by simp [hold, upd, tl_cons, nS])
    intro m hm
    by_cases hml : m < ks.length
    · have hw := w64n (show m < 4611686018427387904 by omega)
      have hkm : ∀ h', (nI ks)[m]'(h') = (ks[m] : Int) := fun h' => by simp [nI]
      have hkj : ((ks[m] : Int) = (j : Int)) ↔ ks[m] = j := by omega
      have hml1 : ((m : Int) + 1 < ks.length) ↔ m + 1 < ks.length := by omega
      by_cases he : ks[m] = j
      · by_cases hl : m + 1 < ks.length
        · have hS := nS_hit (l := c.cls) hl he
          have hb : ks[m + 1] < c.cls.length := hkl _ (List.getElem_mem hl)
          have hAb := hat _ hb
          have hkm1 : ∀ h', (nI ks)[m + 1]'(h') = (ks[m + 1] : Int) := fun h' => by simp [nI]
          have hmt : ((m : Int) + 1).toNat = m + 1 := by omega
          have hm0 : (0 : Int) ≤ (m : Int) + 1 := by omega
          simp -implicitDefEqProofs [List.lookup_cons, and_assoc, pick_and, pick_or, if_and, if_or, h, cBx, zBx, xBx, obCls, nilX, iOb, nI_len, hml, hkm, hkj, he, hw, hml1, hl, hkm1, hmt, hm0, hal, hb, hAb]
          refine ⟨m + 1, by omega, by omega, ?_⟩
          rw [hS]
          exact Wk.tl (by simp [hold, upd, tl_cons, hw])
        · have hS := nS_skip (l := c.cls) (i := j) hml (fun q => hl q.2)
          simp -implicitDefEqProofs [List.lookup_cons, and_assoc, pick_and, pick_or, if_and, if_or, h, cBx, zBx, xBx, obCls, nilX, iOb, nI_len, hml, hkm, hkj, he, hw, hml1, hl]
          refine ⟨m + 1, by omega, by omega, ?_⟩
          rw [hS]
          exact Wk.tl (by simp [hold, upd, tl_cons, hw])
      · have hS := nS_skip (l := c.cls) (i := j) hml (fun q => he q.1)
        simp -implicitDefEqProofs [List.lookup_cons, and_assoc, pick_and, pick_or, if_and, if_or, h, cBx, zBx, xBx, obCls, nilX, iOb, nI_len, hml, hkm, hkj, he, hw, hml1]
        refine ⟨m + 1, by omega, by omega, ?_⟩
        rw [hS]
        exact Wk.tl (by simp [hold, upd, tl_cons, hw])
    · have e : m = ks.length := by omega
      subst e
      simp -implicitDefEqProofs [List.lookup_cons, and_assoc, pick_and, pick_or, if_and, if_or, h, cBx, zBx, xBx, obCls, nilX, iOb, nI_len]
      refine Wk.tlPN [0, 1, 2, 3, 4, 5, 6, 7, 8, 9] (by simp [pickOkN]) (by simp) ?_
      simp [hold, upd, tl_cons]
end Go.Proofs

namespace Go.Proofs
open Go.Abs
set_option linter.unusedSimpArgs false
set_option linter.unnecessarySimpa false
set_option linter.unusedVariables false
set_option maxHeartbeats 16000000
set_option maxRecDepth 20000

theorem lw_5 (c : Cfg) (ho : okC c) (hg : isCfg c = true) (k j : Nat) (h : k < c.cls.length) (hj : ∀ h', (wk c.cls)[k]'(h') = j) {Q : Exit → St → Prop} : awp Tryz.prog (envN K [(46, F46), (47, F87), (48, F105), (49, F110)] [] []) (hdC (tlC (tlC (tlC (tlC (lpC (hdC (tlC (tlC (lpC (lpC (tlC (hdC (tlC (tlC (tlC (tlC (tlC (bodyOf Tryz.f21))))))))))))))))))) (thenP (fun s => ∃ s', Wk s s' ∧ s' = lwS5 c k j) Q) (lwS4 c k j) := by
  simp only [lwS4, lwS5, Tryz.f21, bodyOf, Option.getD_some, tlC, hdC, lpC]
  have hlim := cfg_lim hg
  have H := topOf hg
  have hwl := wk_len H
  obtain ⟨f1, f2⟩ := cfg_fil hg
  have hfl : c.fil.length ≤ 1048576 := by omega
  have hI : okI c (topN c.cls : Int) := ⟨ho, by omega, by have := H.lt; omega⟩
  have hm1 : (c.cls.length : Int) ≤ 9223372036854775807 := by omega
  have hm2 : c.cls.length * 8 ≤ 140737488355328 := by omega
  have hrep : List.replicate c.cls.length [X.v (Value.int .i64 0)] = iR (List.replicate c.cls.length 0) := by simp [iR]
  have hkw : k < (wk c.cls).length := by omega
  have hjl : j < c.cls.length := by rw [← hj hkw]; exact wk_lt H (List.getElem_mem hkw)
  have hpk : pos c.cls j = k := by rw [← hj hkw]; exact pos_wk H hkw
  have hc1 : cK c.cls (k + 1) = cK c.cls k ++ [c.cls[j]] := by rw [cK_succ c.cls k hkw, hj hkw, atC_eq hjl]
  have hp1 : tkI (ppI c.cls) c.cls (k + 1) = tkI (ppI c.cls) c.cls k ++ [ppI c.cls j] := by rw [tkI_succ _ _ k hkw, hj hkw]
  have hf1 : tkI (fsI c.cls) c.cls (k + 1) = tkI (fsI c.cls) c.cls k ++ [fsI c.cls j] := by rw [tkI_succ _ _ k hkw, hj hkw]
  have hn1 : tkI (nxI c.cls) c.cls (k + 1) = tkI (nxI c.cls) c.cls k ++ [nxI c.cls j] := by rw [tkI_succ _ _ k hkw, hj hkw]
  have he1 : tkI (eI c.cls) c.cls (k + 1) = tkI (eI c.cls) c.cls k ++ [eI c.cls j] := by rw [tkI_succ _ _ k hkw, hj hkw]
  have hcl := cK_len c.cls k (by omega)
  have hpl := tkI_len (ppI c.cls) c.cls k (by omega)
  have hfl2 := tkI_len (fsI c.cls) c.cls k (by omega)
  have hnl := tkI_len (nxI c.cls) c.cls k (by omega)
  have hel := tkI_len (eI c.cls) c.cls k (by omega)
  have hat : ∀ i, i < c.cls.length → ∀ h', (aK c.cls c.cls.length)[i]'(h') = (pos c.cls i : Int) := fun i hi h' => by
    have := aK_get H hi
    rw [List.getElem?_eq_getElem h'] at this
    exact Option.some.inj this
  have hal := aK_len c.cls c.cls.length
  obtain ⟨A, hA⟩ : ∃ A, aK c.cls c.cls.length = A := ⟨_, rfl⟩
  obtain ⟨V, hV⟩ : ∃ V, wk c.cls = V := ⟨_, rfl⟩
  obtain ⟨L, hL⟩ : ∃ L, cK c.cls k = L := ⟨_, rfl⟩
  obtain ⟨T1, hT1⟩ : ∃ L, tkI (ppI c.cls) c.cls k = L := ⟨_, rfl⟩
  obtain ⟨T2, hT2⟩ : ∃ L, tkI (fsI c.cls) c.cls k = L := ⟨_, rfl⟩
  obtain ⟨T3, hT3⟩ : ∃ L, tkI (nxI c.cls) c.cls k = L := ⟨_, rfl⟩
  obtain ⟨T4, hT4⟩ : ∃ L, tkI (eI c.cls) c.cls k = L := ⟨_, rfl⟩
  simp only [hA] at hat hal
  simp only [hV] at hwl hkw hj
  rw [hL] at hc1 hcl
  rw [hT1] at hp1 hpl
  rw [hT2] at hf1 hfl2
  rw [hT3] at hn1 hnl
  rw [hT4] at he1 hel
  have hni : ∀ h', (nI V)[k]'(h') = (j : Int) := fun h' => by simp [nI, hj hkw]
  simp only [hA, hV, hL, hT1, hT2, hT3, hT4, hc1, hp1, hf1, hn1, he1]
  have hIj : okI c (j : Int) := ⟨ho, by omega, by omega⟩
  have hfs : fsI c.cls j = headI ((kids c.cls j c.cls.length).map (pos c.cls)) := rfl
  have hkl := kids_lt c.cls j c.cls.length
  rw [hfs]
  simp -implicitDefEqProofs [List.lookup_cons, and_assoc, pick_and, pick_or, if_and, if_or, h, cBx, zBx, xBx, obCls, nilX, iOb, F110, hIj, nI_len]
  generalize kids c.cls j c.cls.length = ks at *
  rcases ks with _ | ⟨a, ks⟩
  · simp -implicitDefEqProofs [List.lookup_cons, and_assoc, pick_and, pick_or, if_and, if_or, h, cBx, zBx, xBx, obCls, nilX, iOb, nI, headI]
    refine Wk.tlPN [0, 1, 2, 3, 4, 5, 6, 7, 8, 9] (by simp [pickOkN]) (by simp) ?_
    simp [hold, upd, tl_cons]
  · have hal2 : a < c.cls.length := hkl a (by simp)
    have hAa := hat a hal2
    simp -implicitDefEqProofs [List.lookup_cons, and_assoc, pick_and, pick_or, if_and, if_or, h, cBx, zBx, xBx, obCls, nilX, iOb, nI, headI, hal, hal2, hAa]
    refine Wk.tlPN [0, 1, 2, 3, 4, 5, 6, 7, 8, 9] (by simp [pickOkN]) (by simp) ?_
    simp [hold, upd, tl_cons]
theorem lw_9 (c : Cfg) (ho : okC c) (hg : isCfg c = true) (k j : Nat) (h : k < c.cls.length) (hj : ∀ h', (wk c.cls)[k]'(h') = j) {Q : Exit → St → Prop} : awp Tryz.prog (envN K [(46, F46), (47, F87), (48, F105), (49, F110)] [] []) (tlC (tlC (tlC (tlC (tlC (tlC (tlC (tlC (lpC (hdC (tlC (tlC (lpC (lpC (tlC (hdC (tlC (tlC (tlC (tlC (tlC (bodyOf Tryz.f21)))))))))))))))))))))) (thenP (fun s => ∃ s', Wk s s' ∧ s' = lwS9 c k j) Q) (lwS8 c k j) := by
  simp only [lwS8, lwS9, Tryz.f21, bodyOf, Option.getD_some, tlC, hdC, lpC]
  have hlim := cfg_lim hg
  have H := topOf hg
  have hwl := wk_len H
  obtain ⟨f1, f2⟩ := cfg_fil hg
  have hfl : c.fil.length ≤ 1048576 := by omega
  have hI : okI c (topN c.cls : Int) := ⟨ho, by omega, by have := H.lt; omega⟩
  have hm1 : (c.cls.length : Int) ≤ 9223372036854775807 := by omega
  have hm2 : c.cls.length * 8 ≤ 140737488355328 := by omega
  have hrep : List.replicate c.cls.length [X.v (Value.int .i64 0)] = iR (List.replicate c.cls.length 0) := by simp [iR]
  have hkw : k < (wk c.cls).length := by omega
  have hjl : j < c.cls.length := by rw [← hj hkw]; exact wk_lt H (List.getElem_mem hkw)
  have hpk : pos c.cls j = k := by rw [← hj hkw]; exact pos_wk H hkw
  have hc1 : cK c.cls (k + 1) = cK c.cls k ++ [c.cls[j]] := by rw [cK_succ c.cls k hkw, hj hkw, atC_eq hjl]
  have hp1 : tkI (ppI c.cls) c.cls (k + 1) = tkI (ppI c.cls) c.cls k ++ [ppI c.cls j] := by rw [tkI_succ _ _ k hkw, hj hkw]
  have hf1 : tkI (fsI c.cls) c.cls (k + 1) = tkI (fsI c.cls) c.cls k ++ [fsI c.cls j] := by rw [tkI_succ _ _ k hkw, hj hkw]
  have hn1 : tkI (nxI c.cls) c.cls (k + 1) = tkI (nxI c.cls) c.cls k ++ [nxI c.cls j] := by rw [tkI_succ _ _ k hkw, hj hkw]
  have he1 : tkI (eI c.cls) c.cls (k + 1) = tkI (eI c.cls) c.cls k ++ [eI c.cls j] := by rw [tkI_succ _ _ k hkw, hj hkw]
  have hcl := cK_len c.cls k (by omega)
  have hpl := tkI_len (ppI c.cls) c.cls k (by omega)
  have hfl2 := tkI_len (fsI c.cls) c.cls k (by omega)
  have hnl := tkI_len (nxI c.cls) c.cls k (by omega)
  have hel := tkI_len (eI c.cls) c.cls k (by omega)
  have hat : ∀ i, i < c.cls.length → ∀ h', (aK c.cls c.cls.length)[i]'(h') = (pos c.cls i : Int) := fun i hi h' => by
    have := aK_get H hi
    rw [List.getElem?_eq_getElem h'] at this
    exact Option.some.inj this
  have hal := aK_len c.cls c.cls.length
  obtain ⟨A, hA⟩ : ∃ A, aK c.cls c.cls.length = A := ⟨_, rfl⟩
  obtain ⟨V, hV⟩ : ∃ V, wk c.cls = V := ⟨_, rfl⟩
  obtain ⟨L, hL⟩ : ∃ L, cK c.cls k = L := ⟨_, rfl⟩
  obtain ⟨T1, hT1⟩ : ∃ L, tkI (ppI c.cls) c.cls k = L := ⟨_, rfl⟩
  obtain ⟨T2, hT2⟩ : ∃ L, tkI (fsI c.cls) c.cls k = L := ⟨_, rfl⟩
  obtain ⟨T3, hT3⟩ : ∃ L, tkI (nxI c.cls) c.cls k = L := ⟨_, rfl⟩
  obtain ⟨T4, hT4⟩ : ∃ L, tkI (eI c.cls) c.cls k = L := ⟨_, rfl⟩
  simp only [hA] at hat hal
  simp only [hV] at hwl hkw hj
  rw [hL] at hc1 hcl
  rw [hT1] at hp1 hpl
  rw [hT2] at hf1 hfl2
  rw [hT3] at hn1 hnl
  rw [hT4] at he1 hel
  have hni : ∀ h', (nI V)[k]'(h') = (j : Int) := fun h' => by simp [nI, hj hkw]
  simp only [hA, hV, hL, hT1, hT2, hT3, hT4, hc1, hp1, hf1, hn1, he1]
  have hrow : ∀ x : Int, iR T4 ++ [[I x]] = iR (T4 ++ [x]) := fun x => by simp [iR]
  have hen : IntKind.i64.wrap ((k : Int) + (walk c.cls j).length) = eI c.cls j := by
    have := en_le H hjl
    unfold enN at this
    rw [w64 (by omega) (by omega)]
    unfold eI enN
    rw [hpk]
    omega
  have hIj : okI c (j : Int) := ⟨ho, by omega, by omega⟩
  simp -implicitDefEqProofs [List.lookup_cons, and_assoc, pick_and, pick_or, if_and, if_or, h, cBx, zBx, xBx, obCls, nilX, iOb]
  refine drawP_x _ [(3, 0), (4, 0), (5, 0), (2, 0), (6, 1), (7, 1), (8, 1), (0, 0), (1, 0), (9, 2), (10, 3), (11, 3)] [5, 8, 9, 11] (by decide) ?_
  simp -implicitDefEqProofs [List.lookup_cons, and_assoc, pick_and, pick_or, if_and, if_or, h, cBx, zBx, xBx, obCls, nilX, iOb, F46, hIj, hg, nI_len, hen, eBuildSlice, eAppend, srcRows, srcOk, chunk, OpOk, hrow]
  refine ⟨by omega, by omega, Wk.tlPN [0, 1, 2, 3, 4, 5, 6, 7, 8, 9] (by simp [pickOkN]) (by simp) ?_⟩
  simp [hold, upd, tl_cons]
end Go.Proofs

namespace Go.Proofs
open Go.Abs
set_option linter.unusedSimpArgs false
set_option linter.unnecessarySimpa false
set_option linter.unusedVariables false
set_option maxHeartbeats 16000000
set_option maxRecDepth 20000

theorem lo_6 (c : Cfg) (ho : okC c) (hg : isCfg c = true) {Q : Exit → St → Prop} : awp Tryz.prog (envN K [(46, F46), (47, F87), (48, F105), (49, F110)] [] []) (hdC (tlC (tlC (tlC (tlC (tlC (tlC (bodyOf Tryz.f21)))))))) (thenP (fun s => ∃ s', Wk s s' ∧ s' = loS7 c) Q) (loS6 c) := by
  simp only [loS6, loS7, Tryz.f21, bodyOf, Option.getD_some, tlC, hdC, lpC]
  have hlim := cfg_lim hg
  have H := topOf hg
  have hwl := wk_len H
  obtain ⟨f1, f2⟩ := cfg_fil hg
  have hfl : c.fil.length ≤ 1048576 := by omega
  have hI : okI c (topN c.cls : Int) := ⟨ho, by omega, by have := H.lt; omega⟩
  have hm1 : (c.cls.length : Int) ≤ 9223372036854775807 := by omega
  have hm2 : c.cls.length * 8 ≤ 140737488355328 := by omega
  have hrep : List.replicate c.cls.length [X.v (Value.int .i64 0)] = iR (List.replicate c.cls.length 0) := by simp [iR]
  have hat : ∀ i, i < c.cls.length → ∀ h', (aK c.cls c.cls.length)[i]'(h') = (pos c.cls i : Int) := fun i hi h' => by
    have := aK_get H hi
    rw [List.getElem?_eq_getElem h'] at this
    exact Option.some.inj this
  have hal := aK_len c.cls c.cls.length
  obtain ⟨A, hA⟩ : ∃ A, aK c.cls c.cls.length = A := ⟨_, rfl⟩
  obtain ⟨W, hW⟩ : ∃ W, wk c.cls = W := ⟨_, rfl⟩
  obtain ⟨L, hL⟩ : ∃ L, cK c.cls c.cls.length = L := ⟨_, rfl⟩
  obtain ⟨T1, hT1⟩ : ∃ L, tkI (ppI c.cls) c.cls c.cls.length = L := ⟨_, rfl⟩
  obtain ⟨T2, hT2⟩ : ∃ L, tkI (fsI c.cls) c.cls c.cls.length = L := ⟨_, rfl⟩
  obtain ⟨T3, hT3⟩ : ∃ L, tkI (nxI c.cls) c.cls c.cls.length = L := ⟨_, rfl⟩
  obtain ⟨T4, hT4⟩ : ∃ L, tkI (eI c.cls) c.cls c.cls.length = L := ⟨_, rfl⟩
  simp only [hA] at hat hal
  rw [hA, hW, hL, hT1, hT2, hT3, hT4]
  simp -implicitDefEqProofs [List.lookup_cons, and_assoc, pick_and, pick_or, if_and, if_or, cBx, zBx, xBx, obCls, nilX, iOb]
  refine loopP_inv (fun k : Nat => ⟨180, tl [(1, .optr 0 0 0 0), (2, .optr 1 0 0 0), (3, .osl 2 0), (4, .osl 3 0), (7, .optr 4 0 0 0), (149, .sl (tR c.fil)), (150, I c.fil.length), (151, I k)], [cBx c, zBx, iOb (nI W), iOb A, xBx (.v (.string c.name)) (.osl 5 0) (.osl 6 0) (.osl 7 0) (.osl 8 0) (.osl 9 0) (.sl (tR c.fil)) (.osl 10 0) (I (-1)), obCls L, iOb T1, iOb T2, iOb T3, iOb T4, iOb (tK c.cls c.fil k)]⟩) (fun k => k ≤ c.fil.length) (fun k => c.fil.length - k) 0 (Nat.zero_le _) ?_ ?_
  · refine Wk.trans (b := ⟨180, tl [(1, .optr 0 0 0 0), (2, .optr 1 0 0 0), (3, .osl 2 0), (4, .osl 3 0), (7, .optr 4 0 0 0), (149, .sl (tR c.fil)), (150, I c.fil.length), (151, I 0)], [cBx c, zBx, iOb (nI W), iOb A, xBx (.v (.string c.name)) (.osl 5 0) (.osl 6 0) (.osl 7 0) (.osl 8 0) (.osl 9 0) (.sl (tR c.fil)) nilX (I (-1)), obCls L, iOb T1, iOb T2, iOb T3, iOb T4]⟩) ?_ (Wk.nilF 3 1 4 0 7 (xBx (.v (.string c.name)) (.osl 5 0) (.osl 6 0) (.osl 7 0) (.osl 8 0) (.osl 9 0) (.sl (tR c.fil)) nilX (I (-1))) rfl (by simp [xBx, nilX, at2]) (by simp [xBx, iOb, tK, iR]))
    simp only [cBx, zBx, xBx, obCls, nilX, iOb]
    exact Wk.tl (by simp [hold, upd, tl_cons])
  intro k hk
  by_cases h : k < c.fil.length
  · have ht1 := tK_succ c.cls c.fil k h
    have htl := tK_len c.cls c.fil k hk
    have htg := fil_tgt hg h
    obtain ⟨x, hx0⟩ : ∃ x, c.fil[k] = x := ⟨_, rfl⟩
    have hx : ∀ h', c.fil[k]'(h') = x := fun _ => hx0
    rw [hx0] at ht1 htg
    simp only [targetOk, Bool.and_eq_true, decide_eq_true_eq] at htg
    have hfr := (fidx_rng c.cls x.target).2
    obtain ⟨i, hi⟩ := Int.eq_ofNat_of_zero_le htg.1
    have hil : i < c.cls.length := by omega
    have htv : tgI c.cls x.target = (pos c.cls i : Int) := by unfold tgI; rw [hi]; rfl
    rw [htv] at ht1
    obtain ⟨T, hT⟩ : ∃ T, tK c.cls c.fil k = T := ⟨_, rfl⟩
    rw [hT] at ht1 htl
    have hw := w64n (show k < 4611686018427387904 by omega)
    have hAi := hat i hil
    rw [hT]
    simp -implicitDefEqProofs [List.lookup_cons, and_assoc, pick_and, pick_or, if_and, if_or, h, hx, cBx, zBx, xBx, obCls, nilX, iOb]
    refine drawP_x _ [(3, 0), (4, 0), (5, 0), (6, 0), (2, 0), (7, 1), (8, 1), (9, 1), (0, 0), (1, 0), (10, 2), (11, 3), (12, 3)] [6, 9, 10, 12] (by decide) ?_
    simp -implicitDefEqProofs [List.lookup_cons, and_assoc, pick_and, pick_or, if_and, if_or, h, hx, cBx, zBx, xBx, obCls, nilX, iOb, OpOk, F105, ho, hi, hal, hil, hAi, eBuildSlice, eAppend, srcRows, srcOk, chunk]
    refine ⟨by omega, by omega, k + 1, by omega, by omega, ?_⟩
    rw [ht1]
    have hrow : iR T ++ [[I (pos c.cls i : Int)]] = iR (T ++ [(pos c.cls i : Int)]) := by simp [iR]
    rw [hrow]
    refine Wk.tlPN [0, 1, 2, 3, 4, 5, 6, 7, 8, 9, 10] (by simp [pickOkN]) (by simp) ?_
    simp [hold, upd, tl_cons, hw]
  · have e : k = c.fil.length := by omega
    subst e
    simp -implicitDefEqProofs [List.lookup_cons, and_assoc, pick_and, pick_or, if_and, if_or, cBx, zBx, xBx, obCls, nilX, iOb]
    exact Wk.tl (by simp [hold, upd, tl_cons])
theorem lo_7 (c : Cfg) (ho : okC c) (hg : isCfg c = true) {Q : Exit → St → Prop} : awp Tryz.prog (envN K [(46, F46), (47, F87), (48, F105), (49, F110)] [] []) (hdC (tlC (tlC (tlC (tlC (tlC (tlC (tlC (bodyOf Tryz.f21))))))))) (thenP (fun s => ∃ s', Wk s s' ∧ s' = loS8 c) Q) (loS7 c) := by
  simp only [loS7, loS8, Tryz.f21, bodyOf, Option.getD_some, tlC, hdC, lpC]
  have hlim := cfg_lim hg
  have H := topOf hg
  have hwl := wk_len H
  obtain ⟨f1, f2⟩ := cfg_fil hg
  have hfl : c.fil.length ≤ 1048576 := by omega
  have hI : okI c (topN c.cls : Int) := ⟨ho, by omega, by have := H.lt; omega⟩
  have hm1 : (c.cls.length : Int) ≤ 9223372036854775807 := by omega
  have hm2 : c.cls.length * 8 ≤ 140737488355328 := by omega
  have hrep : List.replicate c.cls.length [X.v (Value.int .i64 0)] = iR (List.replicate c.cls.length 0) := by simp [iR]
  have hat : ∀ i, i < c.cls.length → ∀ h', (aK c.cls c.cls.length)[i]'(h') = (pos c.cls i : Int) := fun i hi h' => by
    have := aK_get H hi
    rw [List.getElem?_eq_getElem h'] at this
    exact Option.some.inj this
  have hal := aK_len c.cls c.cls.length
  obtain ⟨A, hA⟩ : ∃ A, aK c.cls c.cls.length = A := ⟨_, rfl⟩
  simp only [hA] at hat hal
  rw [hA]
  have hdf : ∀ d, (if c.dflt = 0 then -1 else tgI c.cls c.dflt) = d → (loadOf c).dflt = d := fun d h => h
  by_cases hd : c.dflt = 0
  · rw [hdf (-1) (by rw [if_pos hd])]
    simp -implicitDefEqProofs [List.lookup_cons, and_assoc, pick_and, pick_or, if_and, if_or, cBx, zBx, xBx, obCls, nilX, iOb, hd]
    refine Wk.tl (by simp [hold, upd, tl_cons])
  · have htg := dflt_tgt hg hd
    simp only [targetOk, Bool.and_eq_true, decide_eq_true_eq] at htg
    have hfr := (fidx_rng c.cls c.dflt).2
    obtain ⟨i, hi⟩ := Int.eq_ofNat_of_zero_le htg.1
    have hil : i < c.cls.length := by omega
    have hAi := hat i hil
    rw [hdf (pos c.cls i : Int) (by rw [if_neg hd]; unfold tgI; rw [hi]; rfl)]
    simp -implicitDefEqProofs [List.lookup_cons, and_assoc, pick_and, pick_or, if_and, if_or, cBx, zBx, xBx, obCls, nilX, iOb, hd, F105, ho, hi, hal, hil, hAi]
    refine Wk.tl (by simp [hold, upd, tl_cons])
theorem lo_end (c : Cfg) (ho : okC c) (hg : isCfg c = true) : awp Tryz.prog (envN K [(46, F46), (47, F87), (48, F105), (49, F110)] [] []) (tlC (tlC (tlC (tlC (tlC (tlC (tlC (tlC (bodyOf Tryz.f21))))))))) (retP Tryz.prog (Tryz.f21).results.toList (rO (loadOf c), rOb (loadOf c))) (loS8 c) := by
  simp only [loS8, Tryz.f21, bodyOf, Option.getD_some, tlC, hdC, lpC]
  have hlim := cfg_lim hg
  have H := topOf hg
  have hwl := wk_len H
  obtain ⟨f1, f2⟩ := cfg_fil hg
  have hfl : c.fil.length ≤ 1048576 := by omega
  have hI : okI c (topN c.cls : Int) := ⟨ho, by omega, by have := H.lt; omega⟩
  have hm1 : (c.cls.length : Int) ≤ 9223372036854775807 := by omega
  have hm2 : c.cls.length * 8 ≤ 140737488355328 := by omega
  have hrep : List.replicate c.cls.length [X.v (Value.int .i64 0)] = iR (List.replicate c.cls.length 0) := by simp [iR]
  have e1 := cK_end c.cls
  have e2 := tkI_end (ppI c.cls) c.cls
  have e3 := tkI_end (fsI c.cls) c.cls
  have e4 := tkI_end (nxI c.cls) c.cls
  have e5 := tkI_end (eI c.cls) c.cls
  have e6 := tK_end c.cls c.fil
  rw [hwl] at e1 e2 e3 e4 e5
  rw [e1, e2, e3, e4, e5, e6]
  simp -implicitDefEqProofs [List.lookup_cons, and_assoc, pick_and, pick_or, if_and, if_or, cBx, zBx, xBx, obCls, nilX, iOb]
  refine fin_ownN [5, 6, 7, 8, 9, 10] (by simp [pickOkN]) ?_
  simp [rO, rOb, obCls, iOb, loadOf, eI]
end Go.Proofs

namespace Go.Proofs
open Go.Abs
set_option linter.unusedSimpArgs false
set_option linter.unnecessarySimpa false
set_option linter.unusedVariables false
set_option maxHeartbeats 16000000
set_option maxRecDepth 20000

def lwN (c : Cfg) : Nat → St
  | 0 => ⟨180, tl [(1, .optr 0 0 0 0), (2, .optr 1 0 0 0), (3, .osl 2 0), (4, .osl 3 0), (7, .optr 4 0 0 0), (46, .osl 2 0), (47, I c.cls.length), (48, I 0)], [cBx c, zBx, iOb (nI (wk c.cls)), iOb (aK c.cls c.cls.length), xBx (.v (.string c.name)) nilX nilX nilX nilX nilX (.sl (tR c.fil)) nilX (I (-1))]⟩
  | 1 => ⟨180, tl [(1, .optr 0 0 0 0), (2, .optr 1 0 0 0), (3, .osl 2 0), (4, .osl 3 0), (7, .optr 4 0 0 0), (46, .osl 2 0), (47, I c.cls.length), (48, I 0)], [cBx c, zBx, iOb (nI (wk c.cls)), iOb (aK c.cls c.cls.length), xBx (.v (.string c.name)) (.osl 5 0) nilX nilX nilX nilX (.sl (tR c.fil)) nilX (I (-1)), obCls (cK c.cls 0)]⟩
  | 2 => ⟨180, tl [(1, .optr 0 0 0 0), (2, .optr 1 0 0 0), (3, .osl 2 0), (4, .osl 3 0), (7, .optr 4 0 0 0), (46, .osl 2 0), (47, I c.cls.length), (48, I 0)], [cBx c, zBx, iOb (nI (wk c.cls)), iOb (aK c.cls c.cls.length), xBx (.v (.string c.name)) (.osl 5 0) (.osl 6 0) nilX nilX nilX (.sl (tR c.fil)) nilX (I (-1)), obCls (cK c.cls 0), iOb (tkI (ppI c.cls) c.cls 0)]⟩
  | 3 => ⟨180, tl [(1, .optr 0 0 0 0), (2, .optr 1 0 0 0), (3, .osl 2 0), (4, .osl 3 0), (7, .optr 4 0 0 0), (46, .osl 2 0), (47, I c.cls.length), (48, I 0)], [cBx c, zBx, iOb (nI (wk c.cls)), iOb (aK c.cls c.cls.length), xBx (.v (.string c.name)) (.osl 5 0) (.osl 6 0) (.osl 7 0) nilX nilX (.sl (tR c.fil)) nilX (I (-1)), obCls (cK c.cls 0), iOb (tkI (ppI c.cls) c.cls 0), iOb (tkI (fsI c.cls) c.cls 0)]⟩
  | 4 => ⟨180, tl [(1, .optr 0 0 0 0), (2, .optr 1 0 0 0), (3, .osl 2 0), (4, .osl 3 0), (7, .optr 4 0 0 0), (46, .osl 2 0), (47, I c.cls.length), (48, I 0)], [cBx c, zBx, iOb (nI (wk c.cls)), iOb (aK c.cls c.cls.length), xBx (.v (.string c.name)) (.osl 5 0) (.osl 6 0) (.osl 7 0) (.osl 8 0) nilX (.sl (tR c.fil)) nilX (I (-1)), obCls (cK c.cls 0), iOb (tkI (ppI c.cls) c.cls 0), iOb (tkI (fsI c.cls) c.cls 0), iOb (tkI (nxI c.cls) c.cls 0)]⟩
  | _ => ⟨180, tl [(1, .optr 0 0 0 0), (2, .optr 1 0 0 0), (3, .osl 2 0), (4, .osl 3 0), (7, .optr 4 0 0 0), (46, .osl 2 0), (47, I c.cls.length), (48, I 0)], [cBx c, zBx, iOb (nI (wk c.cls)), iOb (aK c.cls c.cls.length), xBx (.v (.string c.name)) (.osl 5 0) (.osl 6 0) (.osl 7 0) (.osl 8 0) (.osl 9 0) (.sl (tR c.fil)) nilX (I (-1)), obCls (cK c.cls 0), iOb (tkI (ppI c.cls) c.cls 0), iOb (tkI (fsI c.cls) c.cls 0), iOb (tkI (nxI c.cls) c.cls 0), iOb (tkI (eI c.cls) c.cls 0)]⟩
def lwC (c : Cfg) (k : Nat) : St := ⟨180, tl [(1, .optr 0 0 0 0), (2, .optr 1 0 0 0), (3, .osl 2 0), (4, .osl 3 0), (7, .optr 4 0 0 0), (46, .osl 2 0), (47, I c.cls.length), (48, I k), (49, .v (.bool true))], [cBx c, zBx, iOb (nI (wk c.cls)), iOb (aK c.cls c.cls.length), xBx (.v (.string c.name)) (.osl 5 0) (.osl 6 0) (.osl 7 0) (.osl 8 0) (.osl 9 0) (.sl (tR c.fil)) nilX (I (-1)), obCls (cK c.cls k), iOb (tkI (ppI c.cls) c.cls k), iOb (tkI (fsI c.cls) c.cls k), iOb (tkI (nxI c.cls) c.cls k), iOb (tkI (eI c.cls) c.cls k)]⟩
theorem lwN_0 (c : Cfg) : Wk (lwN c 0) (lwN c 1) := Wk.nilF 63 8 4 0 1 (xBx (.v (.string c.name)) nilX nilX nilX nilX nilX (.sl (tR c.fil)) nilX (I (-1))) rfl (by simp [xBx, nilX, at2]) (by simp [xBx, iOb, obCls, cK, tkI, iR, tR])
theorem lwN_1 (c : Cfg) : Wk (lwN c 1) (lwN c 2) := Wk.nilF 3 1 4 0 2 (xBx (.v (.string c.name)) (.osl 5 0) nilX nilX nilX nilX (.sl (tR c.fil)) nilX (I (-1))) rfl (by simp [xBx, nilX, at2]) (by simp [xBx, iOb, obCls, cK, tkI, iR, tR])
theorem lwN_2 (c : Cfg) : Wk (lwN c 2) (lwN c 3) := Wk.nilF 3 1 4 0 3 (xBx (.v (.string c.name)) (.osl 5 0) (.osl 6 0) nilX nilX nilX (.sl (tR c.fil)) nilX (I (-1))) rfl (by simp [xBx, nilX, at2]) (by simp [xBx, iOb, obCls, cK, tkI, iR, tR])
theorem lwN_3 (c : Cfg) : Wk (lwN c 3) (lwN c 4) := Wk.nilF 3 1 4 0 4 (xBx (.v (.string c.name)) (.osl 5 0) (.osl 6 0) (.osl 7 0) nilX nilX (.sl (tR c.fil)) nilX (I (-1))) rfl (by simp [xBx, nilX, at2]) (by simp [xBx, iOb, obCls, cK, tkI, iR, tR])
theorem lwN_4 (c : Cfg) : Wk (lwN c 4) (lwN c 5) := Wk.nilF 3 1 4 0 5 (xBx (.v (.string c.name)) (.osl 5 0) (.osl 6 0) (.osl 7 0) (.osl 8 0) nilX (.sl (tR c.fil)) nilX (I (-1))) rfl (by simp [xBx, nilX, at2]) (by simp [xBx, iOb, obCls, cK, tkI, iR, tR])
theorem lo_5 (c : Cfg) (ho : okC c) (hg : isCfg c = true) {Q : Exit → St → Prop} : Snd Tryz.prog (envN K [(46, F46), (47, F87), (48, F105), (49, F110)] [] []) (hdC (tlC (tlC (tlC (tlC (tlC (bodyOf Tryz.f21))))))) (thenP (fun s => Wk s (loS6 c)) Q) (loS5 c) := by
  have hlim := cfg_lim hg
  have H := topOf hg
  have hwl := wk_len H
  obtain ⟨f1, f2⟩ := cfg_fil hg
  have hfl : c.fil.length ≤ 1048576 := by omega
  have hI : okI c (topN c.cls : Int) := ⟨ho, by omega, by have := H.lt; omega⟩
  have hm1 : (c.cls.length : Int) ≤ 9223372036854775807 := by omega
  have hm2 : c.cls.length * 8 ≤ 140737488355328 := by omega
  have hrep : List.replicate c.cls.length [X.v (Value.int .i64 0)] = iR (List.replicate c.cls.length 0) := by simp [iR]
  refine Snd.cutC rfl (lwS0 c 0 0) ?_ ?_
  · have hw : Wk (lwN c 0) (lwS0 c 0 0) := ((((lwN_0 c).trans (lwN_1 c)).trans (lwN_2 c)).trans (lwN_3 c)).trans (lwN_4 c)
    generalize hE : lwS0 c 0 0 = e at *
    simp only [loS5, Tryz.f21, bodyOf, Option.getD_some, tlC, hdC, lpC]
    obtain ⟨V, hV⟩ : ∃ V, wk c.cls = V := ⟨_, rfl⟩
    obtain ⟨A, hA⟩ : ∃ A, aK c.cls c.cls.length = A := ⟨_, rfl⟩
    simp only [lwN, hV, hA] at hw
    simp only [hV] at hwl
    simp only [hV, hA]
    simp -implicitDefEqProofs [List.lookup_cons, and_assoc, pick_and, pick_or, if_and, if_or, cBx, zBx, xBx, obCls, nilX, iOb, nI_len, hwl]
    refine Wk.trans ?_ hw
    simp only [cBx, zBx, xBx, obCls, nilX, iOb]
    exact Wk.tl (by simp [hold, upd, tl_cons])
  refine Snd.block ?_
  refine Snd.loop (fun k => lwS0 c k 0) (fun k => k ≤ c.cls.length) (fun k => c.cls.length - k) 0 (Nat.zero_le _) (Wk.slots fun _ => .inr rfl) ?_
  intro k hk
  by_cases h : k < c.cls.length
  · have hkw : k < (wk c.cls).length := by omega
    obtain ⟨j, hj0⟩ : ∃ j, (wk c.cls)[k] = j := ⟨_, rfl⟩
    have hj : ∀ h', (wk c.cls)[k]'(h') = j := fun _ => hj0
    refine Snd.cutC rfl (lwC c k) ?_ ?_
    · simp only [lwS0, lwC, Tryz.f21, bodyOf, Option.getD_some, tlC, hdC, lpC]
      simp -implicitDefEqProofs [List.lookup_cons, and_assoc, pick_and, pick_or, if_and, if_or, h]
      exact Wk.tl (by simp [hold, upd, tl_cons])
    refine Snd.cutC rfl (lwS0 c k j) ?_ ?_
    · simp only [lwS0, lwC, Tryz.f21, bodyOf, Option.getD_some, tlC, hdC, lpC]
      simp -implicitDefEqProofs [List.lookup_cons, and_assoc, pick_and, pick_or, if_and, if_or, h]
      exact Wk.tl (by simp [hold, upd, tl_cons])
    refine Snd.cutS rfl (lwS9 c k j) ?_ ?_
    · refine Snd.block ?_
      refine Snd.cutC rfl (lwS1 c k j) (lw_1 c ho hg k j h hj) ?_
      refine Snd.cutC rfl (lwS2 c k j) (lw_2 c ho hg k j h hj) ?_
      refine Snd.cutC rfl (lwS3 c k j) (lw_3 c ho hg k j h hj) ?_
      refine Snd.cutC rfl (lwS4 c k j) (lw_4 c ho hg k j h hj) ?_
      refine Snd.cutC rfl (lwS5 c k j) (lw_5 c ho hg k j h hj) ?_
      refine Snd.cutC rfl (lwS6 c k j) (lw_6 c ho hg k j h hj) ?_
      refine Snd.cutC rfl (lwS7 c k j) (lw_7 c ho hg k j h hj) ?_
      refine Snd.cutC rfl (lwS8 c k j) (lw_8 c ho hg k j h hj) ?_
      refine (Snd.of (lw_9 c ho hg k j h hj (Q := fun _ _ => False))).mono fun e s hq => ?_
      cases e with
      | normal =>
        obtain ⟨s', hw, rfl⟩ := hq
        exact hw
      | _ => exact hq.elim
    · refine Snd.of ?_
      have hw := w64n (show k < 4611686018427387904 by omega)
      simp only [lwS0, lwS9, Tryz.f21, bodyOf, Option.getD_some, tlC, hdC, lpC]
      simp -implicitDefEqProofs [List.lookup_cons, and_assoc, pick_and, pick_or, if_and, if_or]
      refine ⟨k + 1, by omega, by omega, ?_⟩
      exact Wk.tl (by simp [hold, upd, tl_cons, hw])
  · have e : k = c.cls.length := by omega
    subst e
    refine Snd.of ?_
    simp only [lwS0, loS6, Tryz.f21, bodyOf, Option.getD_some, tlC, hdC, lpC]
    simp -implicitDefEqProofs [List.lookup_cons, and_assoc, pick_and, pick_or, if_and, if_or]
    exact Wk.tl (by simp [hold, upd, tl_cons])
def F21 : Fun := ⟨fun xs => xs = [.agg (cX (deC (xs.getD 0 .top) : Cfg))] ∧ (fun (c : Cfg) => (okC c ∧ isCfg c = true)) (deC (xs.getD 0 .top) : Cfg), fun xs => (fun (c : Cfg) => ((rO (loadOf c), rOb (loadOf c)) : X × List Ob)) (deC (xs.getD 0 .top) : Cfg)⟩
theorem F21_in {xs : List X} (h : F21.pre xs) : ∃ (c : Cfg), xs = [.agg (cX c)] ∧ (okC c ∧ isCfg c = true) := ⟨_, h.1, h.2⟩
theorem F21_res (c : Cfg) : F21.res [.agg (cX c)] = (rO (loadOf c), rOb (loadOf c)) := by simp [F21]
theorem F21_mk (c : Cfg) (h : okC c ∧ isCfg c = true) : F21.pre [.agg (cX c)] := by simpa [F21] using h
theorem c21 : GenCA K Tryz.prog 21 F21 := by
  refine contractAS Tryz.mix K [(46, F46), (47, F87), (48, F105), (49, F110)] [] [] (by simp [c46, c47, c48, c49]) (by simp) (by simp) Tryz.func21 rfl (by decide) ?_
  intro xs hxs
  obtain ⟨c, rfl, ho, hg⟩ := F21_in hxs
  rw [F21_res]
  refine ⟨by rw [Tryz.ntmps21]; simp, ?_⟩
  refine Snd.cutC rfl (loS1 c) (lo_0 c ho hg) ?_
  refine Snd.cutC rfl (loS2 c) (lo_1 c ho hg) ?_
  refine Snd.cutC rfl (loS3 c) (lo_2 c ho hg) ?_
  refine Snd.cutC rfl (loS4 c) (lo_3 c ho hg) ?_
  refine Snd.cutC rfl (loS5 c) (lo_4 c ho hg) ?_
  refine Snd.cutS rfl (loS6 c) (lo_5 c ho hg) ?_
  refine Snd.cutC rfl (loS7 c) (lo_6 c ho hg) ?_
  refine Snd.cutC rfl (loS8 c) (lo_7 c ho hg) ?_
  exact Snd.of (lo_end c ho hg)
end Go.Proofs
